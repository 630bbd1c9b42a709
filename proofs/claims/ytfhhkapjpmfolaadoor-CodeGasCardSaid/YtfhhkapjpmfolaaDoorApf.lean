/- append onto an empty slice of the call's own, at any length: a step of a region that draws its order. -/
import Derived.Test.YtfhhkapjpmfolaaDoorMem2
import Derived.Deep.AppendLies
namespace Go.Proofs.YtfhhkapjpmfolaaDoor
open Go.RowKit

theorem append_types {P : Program} {t t2 ty e e2 : TypeId} (ht : P.underlying t = some (.slice e)) (h2 : P.underlying t2 = some (.slice e2)) {i : TypeInfo} (hq : P.info? e = some i) (args : Array Value) (w : World) :
    (Builtin.append_ #[t, t2] ty args).run P w = (Builtin.append_ #[t, t] ty args).run P w := by
  unfold Builtin.append_
  cases h0 : args[0]? with
  | none => simp
  | some s =>
    cases h1 : args[1]? with
    | none => simp
    | some x => cases s <;> simp [run_underlying ht, run_underlying h2, Result.andThen, sizeOf, typeInfo, hq]
/-- append(s, x..), s a slice that the call owns, x of another slice's type. -/
theorem wpList_app2 {P : Program} {ops : Array Oper} {rest : List Oper} {dst : Option Nat} {ty0 : TypeId} {pos : String} {after : _} {a : Act} {w : World} {Q : Exit → Act → World → Prop} {s x : Operand} {t t2 e2 : TypeId}
    (base : Nat) (e : TypeId) (z : Value) (size bytes : Nat) (ht : P.underlying t = some (.slice e)) (ht2 : P.underlying t2 = some (.slice e2)) (hI : (P.info? e).map (fun i => (i.zero, i.size, i.bytes)) = some (some z, size, bytes)) (hzs : z.cells.size = size) (hsz : 0 < size)
    (v : Value) (n : Nat) (xs : List Value) (hs : a.eval s = v) (hown : w.ownsRow base e size v n xs)
    (ad : Addr) (m c : Nat) (news : List Value) (hx : a.eval x = .slice (some ad) m c) (hl : news.length = m * size) (hnews : ∀ j u, news[j]? = some u → w.cell? (ad.add j) = some u) (h1 : ∀ u ∈ news, u.oneCell' = true)
    (h63 : n + m ≤ maxLen) (hbytes : (n + m) * bytes ≤ 140737488355328) (hbase : base ≤ w.heap.size)
    (h : ∀ v' w', w'.ownsRow base e size v' (n + m) (xs ++ news) → w.grownBy w' v.ownBlock → (v' = .slice none 0 0 ↔ v = .slice none 0 0 ∧ m = 0) → (v'.ownBlock = v.ownBlock ∨ v'.ownBlock = some w.heap.size) → wpList P ops Q rest (a.put dst v') w') :
    wpList P ops Q ((⟨dst, .call { callee := .builtin .append, args := #[s, x], argTypes := #[t, t2] }, ty0, pos, after, none⟩ : Oper) :: rest) a w := by
  cases hq : P.info? e with
  | none => simp [hq] at hI
  | some i =>
    simp [hq] at hI
    refine wpList_plain rfl fun K hK => ?_
    obtain ⟨v', w', hr, h2, h3, h4, h5⟩ := run_append_own_at (P := P) w base t ty0 e i z size bytes ht hq hI.1 hI.2.1 hI.2.2 hzs hsz v n xs hown ad m c news hl hnews h1 h63 hbytes hbase
    rw [← append_types ht ht2 hq] at hr
    unfold Oper.wp execOp
    simp only [resolve, invoke, builtin, Sem.run_bind, Sem.run_pure, Result.andThen_ok, List.map_toArray, List.map_cons, List.map_nil, hs, hx, hr]
    exact hK _ _ (h v' w' h2 h3 h4 h5)
theorem kept_of {w w' : World} {row : Option Nat} {g : Nat} {o : Obj} (hg : w.grownBy w' row) (h : w.heap[g]? = some o) (hne : some g ≠ row) : w'.heap[g]? = some o := (hg.block g (lt_of_block h) hne).trans h
theorem kept_alloc {w : World} {g : Nat} {o : Obj} (o' : Obj) (h : w.heap[g]? = some o) : (w.alloc o').heap[g]? = some o := (Below.heap_alloc _ _ _ (lt_of_block h)).trans h
/-- What append onto nothing gives: a slice of so many cells in a block that is new. -/
def NewRow (B : Nat) (w' : World) (a : Option Addr) (m c : Nat) (news : List Value) : Prop :=
  m ≤ c ∧ c ≤ maxLen ∧ (m = 0 ∨ ∃ g, a = some ⟨g, 0, none⟩ ∧ B ≤ g ∧ g < w'.heap.size ∧ ∀ j u, news[j]? = some u → w'.cell? ⟨g, j, none⟩ = some u)

theorem NewRow.kept {B : Nat} {w w' : World} {a : Option Addr} {m c : Nat} {news : List Value} (h : NewRow B w a m c news) (hl : news.length = m) (hz : w.heap.size ≤ w'.heap.size)
    (hb : ∀ g, B ≤ g → g < w.heap.size → (∃ u, w.cell? ⟨g, 0, none⟩ = some u) → w'.heap[g]? = w.heap[g]?) : NewRow B w' a m c news := by
  refine ⟨h.1, h.2.1, h.2.2.imp id ?_⟩
  rintro ⟨g, ha, h1, h2, h3⟩
  cases news with
  | nil => exact ⟨g, ha, h1, by omega, fun j u hu => by simp at hu⟩
  | cons x l => exact ⟨g, ha, h1, by omega, fun j u hu => (World.cell?_of_block (w := w) (hb g h1 h2 ⟨x, h3 0 x rfl⟩)).trans (h3 j u hu)⟩
theorem NewRow.grown {B r : Nat} {w Y w' : World} {a : Option Addr} {m c : Nat} {news : List Value} (h : NewRow B w a m c news) (hl : news.length = m) (hz : w.heap.size ≤ Y.heap.size) (hY : ∀ g, g < w.heap.size → Y.heap[g]? = w.heap[g]?)
    (hg : Y.grownBy w' (some r)) (hr : w.heap.size ≤ r ∨ ∃ t, w.heap[r]? = some (.cells #[] t (0, 0))) : NewRow B w' a m c news :=
  h.kept hl (Nat.le_trans hz hg.size) fun g h1 h2 ⟨u, hu⟩ => (hg.block g (by omega) fun e => by
    cases e
    rcases hr with hr | ⟨t, hr⟩
    · omega
    · simp [World.cell?, hr] at hu).trans (hY g h2)

theorem step_append_fresh {P : Program} {ops : Array Oper} {o : Oper} {a : Act} {w : World} {K : Act → World → Prop} {Q : Exit → Act → World → Prop} {E : Prop} (hgd : o.guard = none) (s x : Operand) (t : TypeId)
    (ho : o.op = .call { callee := .builtin .append, args := #[s, x], argTypes := #[t, t] })
    (e : TypeId) (z : Value) (bytes : Nat) (ht : P.underlying t = some (.slice e)) (hI : (P.info? e).map (fun i => (i.zero, i.size, i.bytes)) = some (some z, 1, bytes)) (hzs : z.cells.size = 1)
    (B g0 : Nat) (hB0 : B ≤ g0) (hBw : B ≤ w.heap.size) (hs : a.eval s = .slice (some ⟨g0, 0, none⟩) 0 0) (h0 : w.heap[g0]? = some (.cells #[] e (0, 0)))
    (ad : Option Addr) (m c : Nat) (news : List Value) (hx : a.eval x = .slice ad m c) (hl : news.length = m) (hnews : m = 0 ∨ ∃ b, ad = some b ∧ ∀ j u, news[j]? = some u → w.cell? (b.add j) = some u) (h1 : ∀ u ∈ news, u.oneCell' = true)
    (h63 : m ≤ maxLen) (hbytes : m * bytes ≤ 140737488355328)
    (h : ∀ a' c' w', w.grownBy w' (some g0) → NewRow B w' a' m c' news → K (a.put o.dst (.slice a' m c')) w') :
    if Region.wanted o (yielded ops a.tmps) = true then Oper.wp P o a w K Q else E := by
  cases hq : P.info? e with
  | none => simp [hq] at hI
  | some i =>
    simp [hq] at hI
    have hown : w.ownsRow B e 1 (.slice (some ⟨g0, 0, none⟩) 0 0) 0 [] := ⟨rfl, Or.inr ⟨g0, 0, #[], rfl, hB0, h0, Nat.le_refl _, Nat.zero_le _, rfl, rfl⟩⟩
    have run : ∃ v' w', (Builtin.append_ #[t, t] o.type #[.slice (some ⟨g0, 0, none⟩) 0 0, .slice ad m c]).run P w = .ok v' w' ∧ w'.ownsRow B e 1 v' m news ∧ w.grownBy w' (some g0) := by
      cases ad with
      | none =>
        have hm : m = 0 := by
          rcases hnews with h | ⟨b, h, _⟩
          · exact h
          · cases h
        subst hm
        have hn : news = [] := List.length_eq_zero_iff.1 hl
        subst hn
        refine ⟨.slice (some ⟨g0, 0, none⟩) 0 0, w, ?_, hown, ⟨rfl, rfl, rfl, Nat.le_refl _, fun _ _ _ => rfl⟩⟩
        simp [Builtin.append_, run_underlying ht, sizeOf, typeInfo, hq, Builtin.lenOf, Builtin.firstCells, storeCells]
      | some b =>
        have hc : ∀ j u, news[j]? = some u → w.cell? (b.add j) = some u := by
          rcases hnews with h | ⟨b', h, h'⟩
          · subst h
            have hn : news = [] := List.length_eq_zero_iff.1 hl
            subst hn
            intro j u hu
            simp at hu
          · cases h; exact h'
        obtain ⟨v', w', hr, h2, h3, h4, h5⟩ := run_append_own_at (P := P) w B t o.type e i z 1 bytes ht hq hI.1 hI.2.1 hI.2.2 hzs (by omega) _ 0 [] hown b m c news (by rw [hl]; omega) hc h1 (by omega) (by rw [Nat.zero_add]; exact hbytes) hBw
        refine ⟨v', w', hr, by simpa using h2, h3⟩
    obtain ⟨v', w', hr, h2, h3⟩ := run
    have hw : Region.wanted o (yielded ops a.tmps) = true := by simp [Region.wanted, hgd]
    rw [if_pos hw]
    unfold Oper.wp execOp
    simp only [ho, resolve, invoke, builtin, Sem.run_bind, Sem.run_pure, Result.andThen_ok, List.map_toArray, List.map_cons, List.map_nil, hs, hx, hr]
    rcases h2.2 with ⟨hv, hn0⟩ | ⟨g, cap', cur, hv, hg, hh, hnc, hcm, hsz, htk⟩
    · subst hn0
      rw [hv]
      exact h none 0 _ h3 ⟨Nat.le_refl _, by omega, Or.inl rfl⟩
    · subst hv
      refine h _ _ _ h3 ⟨by omega, hcm, Or.inr ⟨g, rfl, hg, (Array.getElem?_eq_some_iff.1 hh).1, fun j u hu => ?_⟩⟩
      have hj : j < m := by have := (List.getElem?_eq_some_iff.1 hu).1; omega
      rw [h2.cellAt j (by omega)]; exact hu
end Go.Proofs.YtfhhkapjpmfolaaDoor
