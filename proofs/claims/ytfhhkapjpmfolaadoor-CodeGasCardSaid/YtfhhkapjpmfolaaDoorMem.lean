/- Small laws on memory, over any program: what a call may have turned ('Only'), blocks that are known whole, operations on whole rows. -/
import Derived.Test.YtfhhkapjpmfolaaDoorRows
import Derived.WalkKit
import Derived.WalkSpells
import Derived.WalkLawsBesides
import Derived.BigQuiet
import Derived.Deep.QuietTactic
import Derived.Deep.WholeRow
import Derived.Deep.MidRow
import Derived.Laws.CopyOwn
import Derived.OneCell
import Derived.Lib.Hide
namespace Go.Proofs.YtfhhkapjpmfolaaDoor
open Go.RowKit

/-- Of what was there when the call began only the blocks of S may have turned. -/
structure Only (S : List Nat) (w w' : World) : Prop where
  os : w'.os = w.os
  tape : w'.tape = w.tape
  output : w'.output = w.output
  size : w.heap.size ≤ w'.heap.size
  block : ∀ k, k < w.heap.size → k ∉ S → w'.heap[k]? = w.heap[k]?

theorem Only.refl (S : List Nat) (w : World) : Only S w w := ⟨rfl, rfl, rfl, Nat.le_refl _, fun _ _ _ => rfl⟩
theorem Only.trans {S T : List Nat} {a b c : World} (h : Only S a b) (k : Only T b c) (hT : ∀ x ∈ T, x < a.heap.size → x ∈ S) : Only S a c :=
  ⟨k.os.trans h.os, k.tape.trans h.tape, k.output.trans h.output, Nat.le_trans h.size k.size,
   fun i hi hs => (k.block i (Nat.lt_of_lt_of_le hi h.size) (fun m => hs (hT i m hi))).trans (h.block i hi hs)⟩
theorem Only.mono {S T : List Nat} {a b : World} (h : Only S a b) (hT : ∀ x ∈ S, x ∈ T) : Only T a b :=
  ⟨h.os, h.tape, h.output, h.size, fun k hk hs => h.block k hk (fun m => hs (hT k m))⟩
theorem Only.drew {S : List Nat} {a w : World} (h : Only S a w) : Only S a w.drew := ⟨h.os, h.tape, h.output, h.size, h.block⟩
theorem drewN_parts (n : Nat) (w : World) : (w.drewN n).heap = w.heap ∧ (w.drewN n).os = w.os ∧ (w.drewN n).tape = w.tape ∧ (w.drewN n).output = w.output := ⟨rfl, rfl, rfl, rfl⟩
theorem Only.drewN {S : List Nat} {a w : World} (h : Only S a w) (n : Nat) : Only S a (w.drewN n) := ⟨h.os, h.tape, h.output, h.size, h.block⟩
theorem Only.alloc {S : List Nat} {a w : World} (h : Only S a w) (o : Obj) : Only S a (w.alloc o) :=
  ⟨h.os, h.tape, h.output, by have := h.size; simp; omega, fun k hk hs => (Below.heap_alloc _ _ _ (by have := h.size; omega)).trans (h.block k hk hs)⟩
theorem Only.setCell {S : List Nat} {a w : World} (h : Only S a w) (p : Addr) (u : Value) (hp : a.heap.size ≤ p.block ∨ p.block ∈ S) : Only S a (w.setCell p u) :=
  ⟨h.os, h.tape, h.output, by have := h.size; simpa [World.setCell] using this,
   fun k hk hs => (Below.heap_setCell _ _ _ _ (fun e => by subst e; rcases hp with hp | hp; · omega
                                                           · exact hs hp)).trans (h.block k hk hs)⟩
theorem Only.setRow {S : List Nat} {a w : World} (h : Only S a w) (g : Nat) (cs : Array Value) (hp : a.heap.size ≤ g ∨ g ∈ S) : Only S a (w.setRow g cs) :=
  ⟨h.os, h.tape, h.output, by have := h.size; simpa using this,
   fun k hk hs => (setRow_other _ _ _ _ (fun e => by subst e; rcases hp with hp | hp; · omega
                                                     · exact hs hp)).trans (h.block k hk hs)⟩
theorem Only.below {S : List Nat} {a b : World} (h : Only S a b) (B : Nat) (hB : B ≤ a.heap.size) (hS : ∀ x ∈ S, B ≤ x) : Below B a b :=
  ⟨h.os, h.tape, h.output, h.size, fun k hk => h.block k (by omega) (fun m => by have := hS k m; omega)⟩
theorem Only.of_below {S : List Nat} {a b : World} (h : Below a.heap.size a b) : Only S a b :=
  ⟨h.os, h.tape, h.output, h.size, fun k hk _ => h.block k hk⟩
theorem Only.to_below {a b : World} (h : Only [] a b) : Below a.heap.size a b := h.below _ (Nat.le_refl _) (by simp)
/-- A block that no part of S is stands. -/
theorem Only.keeps {S : List Nat} {a b : World} (h : Only S a b) {k : Nat} {o : Obj} (hk : a.heap[k]? = some o) (hs : k ∉ S) : b.heap[k]? = some o :=
  (h.block k (lt_of_block hk) hs).trans hk
theorem Only.cell {S : List Nat} {a b : World} (h : Only S a b) {p : Addr} (hp : p.block < a.heap.size) (hs : p.block ∉ S) : b.cell? p = a.cell? p := World.cell?_of_block (w := a) (h.block p.block hp hs)
theorem Only.frozen {S : List Nat} {a b : World} (h : Only S a b) {p : Addr} (hp : p.block < a.heap.size) (hs : p.block ∉ S) : b.frozen? p = a.frozen? p := World.frozen?_of_block (w := a) (h.block p.block hp hs)

section
variable {P : Program}
theorem wp_build_to {o : Oper} {a : Act} {w : World} {K : Act → World → Prop} {Q : Exit → Act → World → Prop} (t : TypeId) (parts : Array (Nat × Operand)) (ho : o.op = .build t parts)
    (cells : Array Value) (hf : P.built t (parts.map fun (i, x) => (i, a.eval x)).toList = some cells)
    (h : K (a.put o.dst (.agg cells)) w) : o.wp P a w K Q := by
  unfold Oper.wp execOp
  simp only [ho, Sem.run_bind, run_build w t _ cells hf, Result.andThen_ok]
  exact h
theorem wpList_build_to {ops : Array Oper} {rest : List Oper} {dst : Option Nat} {ty : TypeId} {pos : String} {after : _} {a : Act} {w : World} {Q : Exit → Act → World → Prop} {t : TypeId} {parts : Array (Nat × Operand)}
    (cells : Array Value) (hf : P.built t (parts.map fun (i, x) => (i, a.eval x)).toList = some cells)
    (h : wpList P ops Q rest (a.put dst (.agg cells)) w) : wpList P ops Q ((⟨dst, .build t parts, ty, pos, after, none⟩ : Oper) :: rest) a w :=
  wpList_plain rfl fun _ hK => wp_build_to t parts rfl cells hf (hK _ _ h)
/-- A whole row into the block that was made last. -/
theorem wpList_store_new {ops : Array Oper} {rest : List Oper} {dst : Option Nat} {ty0 : TypeId} {pos : String} {after : _} {a : Act} {w : World} {Q : Exit → Act → World → Prop} {ty : TypeId} {x y : Operand}
    {t : TypeId} {old : Array Value} (cells : Array Value) (hx : a.eval x = .pointer (some ⟨w.heap.size, 0, none⟩)) (hy : a.eval y = .agg cells)
    (hi : (P.info? ty).map (·.size) = some cells.size) (hold : old.size = cells.size) (h1 : cells.all (·.oneCell') = true)
    (h : wpList P ops Q rest (a.put dst undef) (w.alloc (.cells cells t))) : wpList P ops Q ((⟨dst, .store ty x y, ty0, pos, after, none⟩ : Oper) :: rest) a (w.alloc (.cells old t)) := by
  refine wpList_store_row rfl ty x y rfl w.heap.size cells hx hy t old (heap_alloc_last w _) hi hold h1 ?_
  rw [World.setRow_alloc_new]; exact h
/-- A whole row into a block. -/
theorem wpList_store_at {ops : Array Oper} {rest : List Oper} {dst : Option Nat} {ty0 : TypeId} {pos : String} {after : _} {a : Act} {w : World} {Q : Exit → Act → World → Prop} {ty : TypeId} {x y : Operand}
    (g : Nat) (t : TypeId) (old cells : Array Value) (hg : w.heap[g]? = some (.cells old t (0, 0))) (hx : a.eval x = .pointer (some ⟨g, 0, none⟩)) (hy : a.eval y = .agg cells)
    (hi : (P.info? ty).map (·.size) = some cells.size) (hold : old.size = cells.size) (h1 : cells.all (·.oneCell') = true)
    (h : wpList P ops Q rest (a.put dst undef) (w.setRow g cells)) : wpList P ops Q ((⟨dst, .store ty x y, ty0, pos, after, none⟩ : Oper) :: rest) a w :=
  wpList_store_row rfl ty x y rfl g cells hx hy t old hg hi hold h1 h
/-- A part of a block, by value. -/
theorem wpList_load_part {ops : Array Oper} {rest : List Oper} {dst : Option Nat} {ty0 : TypeId} {pos : String} {after : _} {a : Act} {w : World} {Q : Exit → Act → World → Prop} {ty : TypeId} {x : Operand}
    (b o : Nat) (cells : Array Value) (d : TypeDesc) (hc : w.rangeAt b o cells.toList) (hx : a.eval x = .pointer (some ⟨b, o, none⟩))
    (hu : P.underlying ty = some d) (hd : d.isRow = true) (hi : (P.info? ty).map (·.size) = some cells.size)
    (h : wpList P ops Q rest (a.put dst (.agg cells)) w) : wpList P ops Q ((⟨dst, .load ty x, ty0, pos, after, none⟩ : Oper) :: rest) a w :=
  wpList_load_mid rfl ty x rfl b o hx cells.toList d hc hu hd (by simpa using hi) (by simpa using h)
end

section
variable {P : Program}
theorem splice_ext (cur new : Array Value) (off : Nat) (cs : List Value) (hfit : off + cs.length ≤ cur.size)
    (hnew : ∀ i, new[i]? = if off ≤ i ∧ i < off + cs.length then cs[i - off]? else cur[i]?) : (cur.toList.take off ++ (cs ++ cur.toList.drop (off + cs.length))).toArray = new := by
  apply Array.ext_getElem?
  intro i
  rw [hnew i, List.getElem?_toArray, List.getElem?_append]
  have hl : (cur.toList.take off).length = off := by simp; omega
  rw [hl]
  by_cases h1 : i < off
  · rw [if_pos h1, if_neg (by omega), List.getElem?_take, if_pos h1, Array.getElem?_toList]
  · rw [if_neg h1, List.getElem?_append]
    by_cases h2 : i < off + cs.length
    · rw [if_pos (by omega), if_pos (by omega)]
    · rw [if_neg (by omega), if_neg (by omega), List.getElem?_drop, Array.getElem?_toList]
      congr 1; omega
/-- The builtin copy into a block that is known whole. -/
theorem wpList_copy_at {ops : Array Oper} {rest : List Oper} {dst : Option Nat} {ty0 : TypeId} {pos : String} {after : _} {a : Act} {w : World} {Q : Exit → Act → World → Prop} {d s : Operand} {dT sT : TypeId}
    (elem : TypeId) (hu : P.underlying dT = some (.slice elem)) (hsz : (P.info? elem).map (·.size) = some 1)
    (g off dLen dCap : Nat) (ad : Addr) (sLen sCap : Nat) (hd : a.eval d = .slice (some ⟨g, off, none⟩) dLen dCap) (hs : a.eval s = .slice (some ad) sLen sCap)
    (cur new : Array Value) (t : TypeId) (hg : w.heap[g]? = some (.cells cur t (0, 0))) (cs : List Value) (hn : cs.length = Nat.min sLen dLen)
    (hsrc : ∀ j v, cs[j]? = some v → w.cell? (ad.add j) = some v) (hfit : off + cs.length ≤ cur.size) (h1 : ∀ v ∈ cs, v.oneCell' = true)
    (hnew : ∀ i, new[i]? = if off ≤ i ∧ i < off + cs.length then cs[i - off]? else cur[i]?)
    (h : wpList P ops Q rest (a.put dst (.int .i64 cs.length)) (w.setRow g new)) :
    wpList P ops Q ((⟨dst, .call { callee := .builtin .copy, args := #[d, s], argTypes := #[dT, sT] }, ty0, pos, after, none⟩ : Oper) :: rest) a w := by
  refine wpList_copy_own rfl d s dT sT rfl elem hu hsz g off dLen dCap ad sLen sCap hd hs cur t hg cs hn hsrc hfit h1 ?_
  rw [splice_ext _ _ _ _ hfit hnew]; exact h
/-- An element of an array by value. -/
theorem run_index_row {t e : TypeId} {n : Nat} {cs : Array Value} {v : Value} {k : IntKind} (w : World) (h : P.underlying t = some (.array n e)) (hz : (P.info? e).map (·.size) = some 1) {d : TypeDesc} (hd : P.underlying e = some d) (hd' : d.isRow = false)
    (i : Nat) (hi : i < n) (hv : cs[i]? = some v) : (Instr.index t (.agg cs) (.int k i)).run P w = .ok v w := by
  have hag : (isAgg e).run P w = .ok false w := by
    unfold isAgg
    rw [Sem.run_bind, run_underlying hd w]
    cases d <;> simp_all [TypeDesc.isRow]
  cases hq : P.info? e with
  | none => simp [hq] at hz
  | some ie =>
    have hs : ie.size = 1 := by simpa [hq] using hz
    simp [Instr.index, run_underlying h, asIntOf, go_sem, Go.part, hag, sizeOf, typeInfo, hq, hs, hv]
    intro hge; omega
end

/-! ### Rows of numbers, told by a function -/
def upd (f : Nat → Int) (i : Nat) (v : Int) : Nat → Int := fun j => if j = i then v else f j
/-- A row of n numbers of one kind. -/
def rowC (k : IntKind) (n : Nat) (f : Nat → Int) : Array Value := ((List.range n).map fun j => Value.int k (f j)).toArray
theorem rowC_size (k : IntKind) (n : Nat) (f : Nat → Int) : (rowC k n f).size = n := by simp [rowC]
theorem rowC_get (k : IntKind) (n : Nat) (f : Nat → Int) (j : Nat) (h : j < n) : (rowC k n f)[j]? = some (.int k (f j)) := by simp [rowC, h]
theorem rowC_set (k : IntKind) (n : Nat) (f : Nat → Int) (j : Nat) (v : Int) : (rowC k n f).setIfInBounds j (.int k v) = rowC k n (upd f j v) := by
  apply Array.ext_getElem?
  intro i
  rw [Array.getElem?_setIfInBounds]
  by_cases hi : i < n
  · rw [rowC_get k n (upd f j v) i hi, rowC_get k n f i hi]
    by_cases e : j = i
    · subst e; simp [upd, rowC_size, hi]
    · rw [if_neg e]; simp [upd, show ¬ i = j from fun h => e h.symm]
  · have e1 : (rowC k n (upd f j v))[i]? = none := Array.getElem?_eq_none (by rw [rowC_size]; omega)
    have e2 : (rowC k n f)[i]? = none := Array.getElem?_eq_none (by rw [rowC_size]; omega)
    rw [e1, e2]
    split
    · rw [rowC_size, if_neg (by omega)]
    · rfl
theorem rowC_congr (k : IntKind) (n : Nat) (f g : Nat → Int) (h : ∀ j, j < n → f j = g j) : rowC k n f = rowC k n g := by
  unfold rowC
  congr 1
  apply List.map_congr_left
  intro j hj
  rw [h j (by simpa using hj)]
theorem rowC_one (k : IntKind) (n : Nat) (f : Nat → Int) : (rowC k n f).all (·.oneCell') = true := by
  rw [Array.all_eq_true_iff_forall_mem]
  intro v hv
  simp [rowC] at hv
  obtain ⟨j, _, rfl⟩ := hv
  rfl
theorem row_cell {w : World} {b : Nat} {k : IntKind} {n : Nat} {f : Nat → Int} {t : TypeId} {fr : Nat × Nat} (h : w.heap[b]? = some (.cells (rowC k n f) t fr)) (j : Nat) (hj : j < n) : w.cell? ⟨b, j, none⟩ = some (.int k (f j)) := by
  rw [cell_of_row w b j _ t fr h, rowC_get k n f j hj]
theorem row_set {w : World} {b : Nat} {k : IntKind} {n : Nat} {f : Nat → Int} {t : TypeId} (h : w.heap[b]? = some (.cells (rowC k n f) t (0, 0))) (j : Nat) (v : Int) :
    (w.setCell ⟨b, j, none⟩ (.int k v)).heap[b]? = some (.cells (rowC k n (upd f j v)) t (0, 0)) := by
  rw [heap_setCell_same w b j _ t _ h, rowC_set]
end Go.Proofs.YtfhhkapjpmfolaaDoor
