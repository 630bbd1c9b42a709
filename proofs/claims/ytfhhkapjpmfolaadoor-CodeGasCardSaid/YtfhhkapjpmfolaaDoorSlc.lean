/- Slicing s[l:h] at numbers that are no literals. -/
import Derived.Test.YtfhhkapjpmfolaaDoorMem2
namespace Go.Proofs.YtfhhkapjpmfolaaDoor
open Go.RowKit
section
variable {P : Program}
theorem run_bound_ok {k : IntKind} {z : Int} {y : Nat} {code : BoundsCode} (l : Nat) (hz : z = l) (h : l ≤ y) (w : World) : (Instr.sliceBound (.int k z) y code).run P w = .ok l w := by
  subst hz
  have h1 : (l : Int) ≤ (y : Int) := by omega
  simp [Instr.sliceBound, asIntOf, go_sem, h]
theorem run_slice_lh {t e : TypeId} (ht : P.underlying t = some (.slice e)) (hs : ∀ w, (sizeOf e).run P w = .ok 1 w) {k1 k2 : IntKind} {z1 z2 : Int} {a : Option Addr} {n c : Nat} (l h : Nat) (h1 : z1 = l) (h2 : z2 = h) (hl : l ≤ h) (hc : h ≤ c) (w : World) :
    (Instr.sliceAt t (.slice a n c) (some (.int k1 z1)) (some (.int k2 z2)) none).run P w = .ok (.slice (if c = l then a else a.map (·.add l)) (h - l) (c - l)) w := by
  subst h1
  subst h2
  have i1 : (l : Int) ≤ h := by omega
  have i2 : (h : Int) ≤ c := by omega
  simp [Instr.sliceAt, Instr.slice, Instr.sliceBounds, run_underlying ht, run_bound_ok h rfl hc, hs, go_sem, hl]
theorem wpList_slice_lh {ops : Array Oper} {rest : List Oper} {dst : Option Nat} {ty0 : TypeId} {pos : String} {after : _} {a : Act} {w : World} {Q : Exit → Act → World → Prop} {x lo hi : Operand} {t : TypeId}
    (e : TypeId) (ht : P.underlying t = some (.slice e)) (hs : ∀ w, (sizeOf e).run P w = .ok 1 w) {k1 k2 : IntKind} {z1 z2 : Int} {ad : Option Addr} {n c : Nat} (l h : Nat)
    (hx : a.eval x = .slice ad n c) (e1 : a.eval lo = .int k1 z1) (e2 : a.eval hi = .int k2 z2) (h1 : z1 = l) (h2 : z2 = h) (hl : l ≤ h) (hc : h ≤ c) (L C : Nat) (hL : h - l = L) (hC : c - l = C)
    (H : ∀ a', (l < h → ∀ b o, ad = some ⟨b, o, none⟩ → a' = some ⟨b, o + l, none⟩) → wpList P ops Q rest (a.put dst (.slice a' L C)) w) :
    wpList P ops Q ((⟨dst, .slice t x (some lo) (some hi) none, ty0, pos, after, none⟩ : Oper) :: rest) a w := by
  subst hL; subst hC
  refine wpList_plain rfl fun K hK => ?_
  unfold Oper.wp execOp
  simp only [Sem.run_bind, Option.map_some, Option.map_none, hx, e1, e2, run_slice_lh ht hs l h h1 h2 hl hc, Result.andThen_ok, Sem.run_pure]
  refine hK _ _ (H _ fun hlt b o had => ?_)
  subst had
  rw [if_neg (by omega)]
  simp only [Option.map_some, Addr.add]
  split
  · rename_i h0; subst h0; rfl
  · rfl
theorem run_slice_l {t e : TypeId} (ht : P.underlying t = some (.slice e)) (hs : ∀ w, (sizeOf e).run P w = .ok 1 w) {k1 : IntKind} {z1 : Int} {a : Option Addr} {n c : Nat} (l : Nat) (h1 : z1 = l) (hl : l ≤ n) (_hc : n ≤ c) (w : World) :
    (Instr.sliceAt t (.slice a n c) (some (.int k1 z1)) none none).run P w = .ok (.slice (if c = l then a else a.map (·.add l)) (n - l) (c - l)) w := by
  subst h1
  have i1 : (l : Int) ≤ n := by omega
  simp [Instr.sliceAt, Instr.slice, Instr.sliceBounds, run_underlying ht, run_bound_ok l rfl hl, hs, go_sem]
/-- s[l:] -/
theorem wpList_slice_l {ops : Array Oper} {rest : List Oper} {dst : Option Nat} {ty0 : TypeId} {pos : String} {after : _} {a : Act} {w : World} {Q : Exit → Act → World → Prop} {x lo : Operand} {t : TypeId}
    (e : TypeId) (ht : P.underlying t = some (.slice e)) (hs : ∀ w, (sizeOf e).run P w = .ok 1 w) {k1 : IntKind} {z1 : Int} {ad : Option Addr} {n c : Nat} (l : Nat)
    (hx : a.eval x = .slice ad n c) (e1 : a.eval lo = .int k1 z1) (h1 : z1 = l) (hl : l ≤ n) (hc : n ≤ c) (L C : Nat) (hL : n - l = L) (hC : c - l = C)
    (H : ∀ a', (l < n → ∀ b o, ad = some ⟨b, o, none⟩ → a' = some ⟨b, o + l, none⟩) → wpList P ops Q rest (a.put dst (.slice a' L C)) w) :
    wpList P ops Q ((⟨dst, .slice t x (some lo) none none, ty0, pos, after, none⟩ : Oper) :: rest) a w := by
  subst hL; subst hC
  refine wpList_plain rfl fun K hK => ?_
  unfold Oper.wp execOp
  simp only [Sem.run_bind, Option.map_some, Option.map_none, hx, e1, run_slice_l ht hs l h1 hl hc, Result.andThen_ok, Sem.run_pure]
  refine hK _ _ (H _ fun hlt b o had => ?_)
  subst had
  rw [if_neg (by omega)]
  simp only [Option.map_some, Addr.add]
  split
  · rename_i h0; subst h0; rfl
  · rfl
/-- s[:m:m] -/
theorem run_slice_mm {t e : TypeId} (ht : P.underlying t = some (.slice e)) (hs : ∀ w, (sizeOf e).run P w = .ok 1 w) {k1 k2 : IntKind} {z1 z2 : Int} {a : Option Addr} {n c : Nat} (m : Nat) (h1 : z1 = m) (h2 : z2 = m) (hc : m ≤ c) (w : World) :
    (Instr.sliceAt t (.slice a n c) none (some (.int k1 z1)) (some (.int k2 z2))).run P w = .ok (.slice a m m) w := by
  subst h1
  subst h2
  have i2 : (m : Int) ≤ c := by omega
  have e0 : a.map (·.add 0) = a := by cases a <;> simp [Addr.add]
  have b1 : ∀ code, (Instr.sliceBound (.int k2 (m : Int)) c code).run P w = .ok m w := fun code => run_bound_ok m rfl hc w
  have b2 : ∀ code, (Instr.sliceBound (.int k1 (m : Int)) m code).run P w = .ok m w := fun code => run_bound_ok m rfl (Nat.le_refl _) w
  simp [Instr.sliceAt, Instr.slice, Instr.sliceBounds, run_underlying ht, b1, b2, hs, go_sem, e0]
theorem wpList_slice_mm {ops : Array Oper} {rest : List Oper} {dst : Option Nat} {ty0 : TypeId} {pos : String} {after : _} {a : Act} {w : World} {Q : Exit → Act → World → Prop} {x hi mx : Operand} {t : TypeId}
    (e : TypeId) (ht : P.underlying t = some (.slice e)) (hs : ∀ w, (sizeOf e).run P w = .ok 1 w) {k1 k2 : IntKind} {z1 z2 : Int} {ad : Option Addr} {n c : Nat} (m : Nat)
    (hx : a.eval x = .slice ad n c) (e1 : a.eval hi = .int k1 z1) (e2 : a.eval mx = .int k2 z2) (h1 : z1 = m) (h2 : z2 = m) (hc : m ≤ c)
    (H : wpList P ops Q rest (a.put dst (.slice ad m m)) w) :
    wpList P ops Q ((⟨dst, .slice t x none (some hi) (some mx), ty0, pos, after, none⟩ : Oper) :: rest) a w := by
  refine wpList_plain rfl fun K hK => ?_
  unfold Oper.wp execOp
  simp only [Sem.run_bind, Option.map_some, Option.map_none, hx, e1, e2, run_slice_mm ht hs m h1 h2 hc, Result.andThen_ok, Sem.run_pure]
  exact hK _ _ H
/-- An element of an array of structs, by value. -/
theorem run_index_struct {t e : TypeId} {n sz : Nat} {cs : Array Value} {k : IntKind} (w : World) (h : P.underlying t = some (.array n e)) (hz : (P.info? e).map (·.size) = some sz) {d : TypeDesc} (hd : P.underlying e = some d) (hd' : d.isRow = true)
    (i : Nat) (hi : i < n) : (Instr.index t (.agg cs) (.int k i)).run P w = .ok (.agg (cs.extract (i * sz) (i * sz + sz))) w := by
  have hag : (isAgg e).run P w = .ok true w := by
    unfold isAgg
    rw [Sem.run_bind, run_underlying hd w]
    cases d <;> simp_all [TypeDesc.isRow]
  cases hq : P.info? e with
  | none => simp [hq] at hz
  | some ie =>
    have hs : ie.size = sz := by simpa [hq] using hz
    simp [Instr.index, run_underlying h, asIntOf, go_sem, Go.part, hag, sizeOf, typeInfo, hq, hs]
    intro hge; omega
theorem wpList_index_struct {ops : Array Oper} {rest : List Oper} {dst : Option Nat} {ty0 : TypeId} {pos : String} {after : _} {a : Act} {w : World} {Q : Exit → Act → World → Prop} {x ix : Operand} {t : TypeId}
    (e : TypeId) {n sz : Nat} {cs : Array Value} {k : IntKind} (h : P.underlying t = some (.array n e)) (hz : (P.info? e).map (·.size) = some sz) {d : TypeDesc} (hd : P.underlying e = some d) (hd' : d.isRow = true)
    (i : Nat) (hi : i < n) (u : Array Value) (hu : cs.extract (i * sz) (i * sz + sz) = u) (hx : a.eval x = .agg cs) (hix : a.eval ix = .int k (i : Int))
    (H : wpList P ops Q rest (a.put dst (.agg u)) w) : wpList P ops Q ((⟨dst, .index t x ix, ty0, pos, after, none⟩ : Oper) :: rest) a w := by
  subst hu
  refine wpList_plain rfl fun K hK => ?_
  unfold Oper.wp execOp
  simp only [Sem.run_bind, hx, hix, run_index_struct w h hz hd hd' i hi, Result.andThen_ok, Sem.run_pure]
  exact hK _ _ H
end
end Go.Proofs.YtfhhkapjpmfolaaDoor
