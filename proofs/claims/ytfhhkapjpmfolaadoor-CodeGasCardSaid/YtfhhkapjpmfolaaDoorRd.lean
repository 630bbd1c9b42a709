/- What an argument's reading says of its memory: slices of rows, arrays of numbers. No function of the program. -/
import Derived.Test.YtfhhkapjpmfolaaDoorMem2
import Derived.ProofKit
import Derived.Deep.Slices
import Derived.OpenShut
namespace Go.Proofs.YtfhhkapjpmfolaaDoor
open Go.ChangeShapes Go.WideShapes Go.ChangeAt Go.RowKit Go.Deep

/-- A slice of n rows of so many cells. -/
def RowsAt (w : World) (v : Value) (n size : Nat) (R : Nat → List Value) : Prop :=
  ∃ (a : Option Addr) (cap : Nat), v = .slice a n cap ∧ n ≤ cap ∧ cap ≤ 9223372036854775807 ∧
    (n = 0 ∨ ∃ b o, a = some ⟨b, o, none⟩ ∧ b < w.heap.size ∧ ∀ j, j < n → w.rangeAt b (o + j * size) (R j))
theorem RowsAt.congr {w : World} {v : Value} {n size : Nat} {R R' : Nat → List Value} (h : RowsAt w v n size R) (hR : ∀ j, j < n → R j = R' j) : RowsAt w v n size R' := by
  obtain ⟨a, cap, h1, h2, h3, h4⟩ := h
  refine ⟨a, cap, h1, h2, h3, h4.imp id ?_⟩
  rintro ⟨b, o, h5, h6, h7⟩
  exact ⟨b, o, h5, h6, fun j hj => hR j hj ▸ h7 j hj⟩
theorem rangeAt_only {w w' : World} {S : List Nat} {b o : Nat} {cs : List Value} (h : w.rangeAt b o cs) (hO : Only S w w') (hb : b < w.heap.size) (hS : b ∉ S) : w'.rangeAt b o cs := fun j v hv =>
  (hO.cell (p := ⟨b, o + j, none⟩) hb hS).trans (h j v hv)

theorem Only.fresh {S : List Nat} {a b : World} (h : Only S a b) (hS : ∀ x ∈ S, a.heap.size ≤ x) : Only [] a b :=
  ⟨h.os, h.tape, h.output, h.size, fun k hk _ => h.block k hk (fun m => by have := hS k m; omega)⟩

section
variable {H : Type} {enc : TypeId × Value → H} {P : Program} {w : World}

/-- A slice of rows of so many cells: where they lie, and that each is read. -/
theorem rows_of_trod {size : Nat} {t e : TypeId} {v : Value} {d : DataW H} {ps : List MemPlace} (ht : P.underlying t = some (.slice e)) (hc : P.cellsOf e = size) (hs : 0 < size)
    (hv : ∃ a len cap, v = .slice a len cap) (h : DataW.Trod enc P w 0 (fun _ => true) true t v d ps) :
    ∃ n R, RowsAt w v n size R ∧ ∀ j, j < n → (R j).length = size ∧ ∃ fuel x, DataW.trod enc P w 0 (fun _ => true) true fuel e (R j) = some x := by
  obtain ⟨a0, len0, cap0, rfl⟩ := hv
  obtain ⟨fuel, hf⟩ := h
  rcases open_slice ht hf with ⟨hcs, _⟩ | ⟨a, len, cap, m, n, D, Pl, hcs, _, hl, hm, hmm, _, hx⟩
  · simp [Value.cells] at hcs
    obtain ⟨rfl, rfl, rfl⟩ := hcs
    exact ⟨0, fun _ => [], ⟨none, 0, rfl, by omega, by omega, Or.inl rfl⟩, fun j hj => by omega⟩
  · simp [Value.cells] at hcs
    obtain ⟨rfl, rfl, rfl⟩ := hcs
    rw [hc] at hx
    have hlm : len0 ≤ m := by rw [hmm]; split <;> omega
    obtain ⟨R, hR⟩ := choose_lt (n := len0) (α := List Value) (p := fun i cs' => w.cells? 0 (a.add (i * size)) size = some cs' ∧ DataW.trod enc P w 0 (fun _ => true) true n e cs' = some (D i, Pl i)) (fun i hi => hx i (by omega))
    have hmax : cap0 ≤ 9223372036854775807 := Nat.le_trans hm (by decide)
    refine ⟨len0, R, ⟨some a, cap0, rfl, hl, hmax, ?_⟩, fun j hj => ⟨(World.cells?_some (hR j hj).1).2.1, n, _, (hR j hj).2⟩⟩
    by_cases h0 : len0 = 0
    · exact Or.inl h0
    right
    have hcell : ∀ j i, j < len0 → i < size → w.cell? (a.add (j * size + i)) = (R j)[i]? := fun j i hj hi => by
      rw [← add_add]
      exact (World.cells?_some (hR j hj).1).2.2 i hi
    have hlen : ∀ j, j < len0 → (R j).length = size := fun j hj => (World.cells?_some (hR j hj).1).2.1
    obtain ⟨b, o, spot⟩ := a
    have hc0 := hcell 0 0 (by omega) hs
    rw [List.getElem?_eq_getElem (by rw [hlen 0 (by omega)]; exact hs)] at hc0
    simp only [Nat.zero_mul, Nat.add_zero] at hc0
    have hspot : spot = none := by simpa [Addr.add] using World.cell?_spot hc0
    subst hspot
    refine ⟨b, o, rfl, ?_, fun j hj i v hv => ?_⟩
    · rcases Nat.lt_or_ge b w.heap.size with hlt | hge
      · exact hlt
      · exfalso
        have e0 : w.heap[b]? = none := by simp [hge]
        simp [Addr.add, World.cell?, e0] at hc0
    · have hi : i < size := by
        have := (List.getElem?_eq_some_iff.1 hv).1
        rw [hlen j hj] at this
        exact this
      rw [← hv, ← hcell j i hj hi]
      show w.cell? ⟨b, o + j * size + i, none⟩ = w.cell? (Addr.add ⟨b, o, none⟩ (j * size + i))
      congr 1
      unfold Addr.add
      split
      · rename_i h0; have : j * size + i = 0 := h0; simp only [Addr.mk.injEq, and_true, true_and]; omega
      · simp only [Addr.mk.injEq, and_true, true_and]; omega

/-- An array of numbers of one cell each. -/
theorem nums_of_trod {n : Nat} {k : IntKind} {t e : TypeId} {fuel : Nat} {cs : List Value} {x : DataW H × List MemPlace} (ht : P.underlying t = some (.array n e)) (he : P.underlying e = some (.int k)) (hc : P.cellsOf e = 1) (hn : P.cellsOf t = n)
    (h : DataW.trod enc P w 0 (fun _ => true) true fuel t cs = some x) :
    ∃ f : Nat → Int, cs = (rowC k n f).toList ∧ ∀ j, j < n → (Lit.int k (f j)).wf = true := by
  obtain ⟨xs, m, _, _, hlen, hxl, hx⟩ := DataW.trod_array ht h
  rw [hn] at hlen
  rw [hc] at hx
  have h1 : ∀ i, i < n → ∃ z : Int, cs[i]? = some (.int k z) ∧ (Lit.int k z).wf = true := fun i hi => by
    have h2 := hx i hi
    rw [List.getElem?_eq_getElem (by omega)] at h2
    obtain ⟨z, hz, _, hw⟩ := DataW.trod_int he h2
    refine ⟨z, ?_, hw⟩
    rw [Nat.mul_one] at hz
    have := congrArg (fun l => l[0]?) hz
    simpa [List.getElem?_take, List.getElem?_drop] using this
  obtain ⟨f, hf⟩ := choose_lt (α := Int) h1
  refine ⟨f, ?_, fun j hj => (hf j hj).2⟩
  apply List.ext_getElem?
  intro i
  by_cases hi : i < n
  · rw [(hf i hi).1, Array.getElem?_toList, rowC_get _ _ _ _ hi]
  · rw [List.getElem?_eq_none (by omega), List.getElem?_eq_none (by rw [Array.length_toList, rowC_size]; omega)]

/-- .. as a whole argument or as a row. -/
theorem byte_rows {len : Nat} {R : Nat → List Value} {n : Nat} {k : IntKind} {t e : TypeId} (ht : P.underlying t = some (.array n e)) (he : P.underlying e = some (.int k)) (hc : P.cellsOf e = 1) (hn : P.cellsOf t = n)
    (h : ∀ j, j < len → ∃ fuel x, DataW.trod enc P w 0 (fun _ => true) true fuel t (R j) = some x) :
    ∃ F : Nat → Nat → Int, ∀ j, j < len → R j = (rowC k n (F j)).toList ∧ ∀ i, i < n → (Lit.int k (F j i)).wf = true :=
  choose_lt (α := Nat → Int) (p := fun j f => R j = (rowC k n f).toList ∧ ∀ i, i < n → (Lit.int k (f i)).wf = true) fun j hj => by
    obtain ⟨fuel, x, hx⟩ := h j hj
    exact nums_of_trod ht he hc hn hx
end
end Go.Proofs.YtfhhkapjpmfolaaDoor
