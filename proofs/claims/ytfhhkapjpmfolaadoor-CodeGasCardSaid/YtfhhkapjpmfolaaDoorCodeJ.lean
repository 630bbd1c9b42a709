/- law 11: to: a world copied. -/
import Derived.Test.YtfhhkapjpmfolaaDoorCodeI
import Derived.Test.YtfhhkapjpmfolaaDoorApf
import Derived.Deep.RegionHeld3
namespace Go.Proofs.YtfhhkapjpmfolaaDoor
open Go.RowKit

theorem src_news {w X : World} {b n : Nat} {a : Option Addr} {c : Nat} {V : Nat → Value} (h : SlAt w b (.slice a n c) n V) (_hb : b ≤ w.heap.size) (hB : Below b w X) :
    n = 0 ∨ ∃ b1, a = some b1 ∧ ∀ j u, ((List.range n).map V)[j]? = some u → X.cell? (b1.add j) = some u := by
  obtain ⟨a', c', h1, -, -, h4⟩ := h.below hB
  simp only [Value.slice.injEq] at h1
  obtain ⟨rfl, -, rfl⟩ := h1
  refine h4.imp id ?_
  rintro ⟨b1, o1, rfl, -, -, h8⟩
  refine ⟨_, rfl, fun j u hu => ?_⟩
  have hj : j < n := by have := (List.getElem?_eq_some_iff.1 hu).1; simpa using this
  have e : ((⟨b1, o1, none⟩ : Addr).add j) = ⟨b1, o1 + j, none⟩ := by
    unfold Addr.add
    split
    · rename_i h0; subst h0; rfl
    · rfl
  rw [e, h8 j hj]
  simpa [hj] using hu

abbrev ToS (w : World) (a1 a2 : Option Addr) (n1 k1 n2 k2 : Nat) (ht : Int) (X : World) : Prop :=
  X.cell? ⟨w.heap.size, 0, none⟩ = some (.slice a1 n1 k1) ∧ X.cell? ⟨w.heap.size, 1, none⟩ = some (.slice a2 n2 k2) ∧ X.cell? ⟨w.heap.size, 2, none⟩ = some (.int .u64 ht) ∧
    Below w.heap.size w X ∧ (∃ u0 u1 u2, X.heap[w.heap.size + 1]? = some (.cells #[u0, u1, u2] 33 (0, 0))) ∧ w.heap.size + 2 ≤ X.heap.size
section
variable {w X : World} {a1 a2 : Option Addr} {n1 k1 n2 k2 : Nat} {ht : Int}
theorem toS_grown {Y : World} {row : Option Nat} (h : ToS w a1 a2 n1 k1 n2 k2 ht X) (hg : X.grownBy Y row) (hr : ∀ g, row = some g → w.heap.size + 2 ≤ g) : ToS w a1 a2 n1 k1 n2 k2 ht Y := by
  obtain ⟨h0, h1, h2, h3, h4, h5⟩ := h
  obtain ⟨u0, u1, u2, h4⟩ := h4
  have hlt := lt_of_block h4
  have ne : ∀ g, g < w.heap.size + 2 → some g ≠ row := fun g hg' e => by have := hr g e.symm; omega
  have c : ∀ j, Y.cell? ⟨w.heap.size, j, none⟩ = X.cell? ⟨w.heap.size, j, none⟩ := fun j => hg.cell_far _ (by show w.heap.size < X.heap.size; omega) (ne w.heap.size (by omega))
  exact ⟨(c 0).trans h0, (c 1).trans h1, (c 2).trans h2, h3.grown hg (by omega) (fun g hg' => by have := hr g hg'; omega), ⟨u0, u1, u2, kept_of hg h4 (ne _ (by omega))⟩, Nat.le_trans h5 hg.size⟩
theorem toS_alloc (o : Obj) (h : ToS w a1 a2 n1 k1 n2 k2 ht X) : ToS w a1 a2 n1 k1 n2 k2 ht (X.alloc o) := toS_grown h (World.grownBy_alloc X o none) (by simp)
theorem toS_drew (h : ToS w a1 a2 n1 k1 n2 k2 ht X) : ToS w a1 a2 n1 k1 n2 k2 ht X.drew := ⟨h.1, h.2.1, h.2.2.1, h.2.2.2.1.drew, h.2.2.2.2.1, h.2.2.2.2.2⟩
theorem toS_alloc_drew (o : Obj) (h : ToS w a1 a2 n1 k1 n2 k2 ht X) : ToS w a1 a2 n1 k1 n2 k2 ht (X.alloc o).drew := toS_drew (toS_alloc o h)
theorem toS_alloc_drew2 (o : Obj) (h : ToS w a1 a2 n1 k1 n2 k2 ht X.drew) : ToS w a1 a2 n1 k1 n2 k2 ht (X.alloc o).drew.drew := toS_drew (toS_alloc o h)
theorem toS_set (j : Nat) (u : Value) (h : ToS w a1 a2 n1 k1 n2 k2 ht X) (hj : j < 3) : ToS w a1 a2 n1 k1 n2 k2 ht (X.setCell ⟨w.heap.size + 1, j, none⟩ u) := by
  obtain ⟨h0, h1, h2, h3, ⟨u0, u1, u2, h4⟩, h5⟩ := h
  have c : ∀ i, (X.setCell ⟨w.heap.size + 1, j, none⟩ u).cell? ⟨w.heap.size, i, none⟩ = X.cell? ⟨w.heap.size, i, none⟩ := fun i => World.cell?_setCell_other _ _ _ _ (by simp)
  refine ⟨(c 0).trans h0, (c 1).trans h1, (c 2).trans h2, h3.setCell (by simp) _, ?_, by simpa using h5⟩
  rw [setCell_this _ _ h4]
  match j, hj with
  | 0, _ => exact ⟨_, _, _, rfl⟩
  | 1, _ => exact ⟨_, _, _, rfl⟩
  | 2, _ => exact ⟨_, _, _, rfl⟩
theorem toS_set3 (x y z : Value) (h : ToS w a1 a2 n1 k1 n2 k2 ht X) : ToS w a1 a2 n1 k1 n2 k2 ht (((X.setCell ⟨w.heap.size + 1, 0, none⟩ x).setCell ⟨w.heap.size + 1, 1, none⟩ y).setCell ⟨w.heap.size + 1, 2, none⟩ z) :=
  toS_set 2 z (toS_set 1 y (toS_set 0 x h (by omega)) (by omega)) (by omega)
theorem toS_cells (h : ToS w a1 a2 n1 k1 n2 k2 ht X) : (∃ u, X.cell? ⟨w.heap.size + 1, 0, none⟩ = some u) ∧ (∃ u, X.cell? ⟨w.heap.size + 1, 1, none⟩ = some u) ∧ (∃ u, X.cell? ⟨w.heap.size + 1, 2, none⟩ = some u) ∧ ∀ j, X.frozen? ⟨w.heap.size + 1, j, none⟩ = false := by
  obtain ⟨_, _, _, _, ⟨u0, u1, u2, h4⟩, _⟩ := h
  exact ⟨⟨u0, by simp [World.cell?, h4]⟩, ⟨u1, by simp [World.cell?, h4]⟩, ⟨u2, by simp [World.cell?, h4]⟩, fun j => by simp [World.frozen?, h4]⟩
theorem toS_src {b n : Nat} {a : Option Addr} {c : Nat} {V : Nat → Value} (h : SlAt w b (.slice a n c) n V) (hb : b = w.heap.size) (hS : ToS w a1 a2 n1 k1 n2 k2 ht X) :
    n = 0 ∨ ∃ b1, a = some b1 ∧ ∀ j u, ((List.range n).map V)[j]? = some u → X.cell? (b1.add j) = some u := by
  subst hb
  exact src_news h (Nat.le_refl _) hS.2.2.2.1
end
theorem new2 (X : World) (o1 o2 : Obj) : ((X.alloc o1).alloc o2).heap[X.heap.size + 1]? = some o2 := by
  have := alloc_new (X.alloc o1) o2
  rwa [heap_alloc_size] at this

theorem newrow_sl {w wB : World} {x y z : Value} {a : Option Addr} {n c : Nat} {V : Nat → Value} (h : NewRow (w.heap.size + 2) wB a n c ((List.range n).map V)) :
    SlAt (((wB.setCell ⟨w.heap.size + 1, 0, none⟩ x).setCell ⟨w.heap.size + 1, 1, none⟩ y).setCell ⟨w.heap.size + 1, 2, none⟩ z) wB.heap.size (.slice a n c) n V := by
  refine ⟨a, c, rfl, h.1, by have := h.2.1; unfold maxLen at this; omega, h.2.2.imp id ?_⟩
  rintro ⟨g, ha, h1, h2, h3⟩
  refine ⟨g, 0, ha, h2, by simpa using h2, fun j hj => ?_⟩
  have hne : ∀ i, (⟨w.heap.size + 1, i, none⟩ : Addr) ≠ ⟨g, j, none⟩ := fun i e => by injection e with e1; omega
  rw [Nat.zero_add, World.cell?_setCell_other _ _ _ _ (hne 2), World.cell?_setCell_other _ _ _ _ (hne 1), World.cell?_setCell_other _ _ _ _ (hne 0)]
  exact h3 j _ (by simp [hj])

set_option maxRecDepth 20000 in
set_option maxHeartbeats 8000000 in
theorem to_any (W : CW) (v1 v2 : Value) (w : World) (hW : CWAt w w.heap.size W v1 v2) (h1 : W.n1 ≤ 300) (h2 : W.n2 ≤ 300) :
    Calls Tryd.prog 12 #[.agg #[v1, v2, .int .u64 W.ht]] w fun x w' => ∃ u1 u2, x = .returned (.agg #[u1, u2, .int .u64 W.ht]) ∧ CWAt w' w'.heap.size W u1 u2 ∧ Only [] w w' := by
  obtain ⟨a1, k1, rfl, -⟩ := hW.1
  obtain ⟨a2, k2, rfl, -⟩ := hW.2
  have HA := Lib.hid (And.intro hW (And.intro h1 h2))
  clear hW h1 h2
  go_enter Tryd.func12, Tryd.ntmps12
  go_wp2
  refine wp_name (fun X => X.heap[w.heap.size]? = some (.cells #[.slice a1 W.n1 k1, .slice a2 W.n2 k2, .int .u64 W.ht] 27 (0, 0)) ∧ X.heap[w.heap.size + 1]? = some (.cells #[.slice none 0 0, .slice none 0 0, .int .u64 0] 33 (0, 0)) ∧ Below w.heap.size w X ∧ X.heap.size = w.heap.size + 2) ?_ ?_
  · exact ⟨kept_alloc _ (alloc_new _ _), by rw [← heap_alloc_size w]; exact alloc_new _ _, Only.below (((Only.refl [] w).alloc _).alloc _) _ (Nat.le_refl _) (by simp), by simp⟩
  rintro X ⟨hx, hy, hB, hsz⟩
  have x0 : X.cell? ⟨w.heap.size, 0, none⟩ = some (.slice a1 W.n1 k1) := by simp [World.cell?, hx]
  have x1 : X.cell? ⟨w.heap.size, 1, none⟩ = some (.slice a2 W.n2 k2) := by simp [World.cell?, hx]
  have x2 : X.cell? ⟨w.heap.size, 2, none⟩ = some (.int .u64 W.ht) := by simp [World.cell?, hx]
  have hS : ToS w a1 a2 W.n1 k1 W.n2 k2 W.ht X := ⟨x0, x1, x2, hB, ⟨_, _, _, hy⟩, by omega⟩
  have hXs : w.heap.size + 2 ≤ X.heap.size := by omega
  have hn1 := HA.out.2.1
  have hn2 := HA.out.2.2
  have hs1 := HA.out.1.1
  have hs2 := HA.out.1.2
  have hm : (300 : Nat) ≤ maxLen := by unfold maxLen; omega
  clear x0 x1 x2 hx hsz hy
  have HX := Lib.hid (And.intro hn1 (And.intro hn2 (And.intro hs1 (And.intro hs2 (And.intro hm hB)))))
  clear hn1 hn2 hs1 hs2 hm hB
  go_region_held3 (fun X => X.cell? ⟨w.heap.size, 0, none⟩ = some (.slice a1 W.n1 k1) ∧ X.cell? ⟨w.heap.size, 1, none⟩ = some (.slice a2 W.n2 k2) ∧ X.cell? ⟨w.heap.size, 2, none⟩ = some (.int .u64 W.ht) ∧
      Below w.heap.size w X ∧ (∃ u0 u1 u2, X.heap[w.heap.size + 1]? = some (.cells #[u0, u1, u2] 33 (0, 0))) ∧ w.heap.size + 2 ≤ X.heap.size)
    (first | exact hS | exact hTB | exact toS_set3 _ _ _ hTB | exact toS_alloc_drew _ ‹_› | exact toS_alloc_drew2 _ ‹_› | exact toS_alloc _ ‹_› | exact toS_drew ‹_› | exact toS_grown ‹_› ‹World.grownBy _ _ _› (by intro g e; cases e; omega) | assumption)
    (first
      | ((refine step_append_fresh (by rfl) _ _ _ (by rfl) 25 (.int .u64 0) 8 Tryd.underlying23 (by kernel_rfl) rfl (w.heap.size + 2) _ ?_ ?_ (by rfl) ?_ _ W.n1 k1 ((List.range W.n1).map fun j => .int .u64 (W.FL j)) (by rfl) (by simp) ?_ (by simp [Value.oneCell']) (by have := HX.out; omega) (by have := HX.out; omega) ?_)
         (· omega)
         (· simp; omega)
         (· (try simp only [heap_drew]); first | with_reducible exact new2 _ _ _ | with_reducible exact alloc_new _ _ | with_reducible exact kept_alloc _ (alloc_new _ _))
         (· exact toS_src HX.out.2.2.1 rfl ‹_›)
         (intro aA cA wA hgA hnA)
         (have hzA : w.heap.size + 2 ≤ wA.heap.size := by have := hgA.size; simp at this; omega))
      | ((refine step_append_fresh (by rfl) _ _ _ (by rfl) 4 (.bool false) 1 Tryd.underlying24 (by kernel_rfl) rfl (w.heap.size + 2) _ ?_ ?_ (by rfl) ?_ _ W.n2 k2 ((List.range W.n2).map fun j => .bool (W.PD j)) (by rfl) (by simp) ?_ (by simp [Value.oneCell']) (by have := HX.out; omega) (by have := HX.out; omega) ?_)
         (· omega)
         (· first | omega | (simp; omega))
         (· (try simp only [heap_drew]); first | with_reducible exact alloc_new _ _ | (refine kept_of hgA ?_ (by simp); (try simp only [heap_drew]); first | with_reducible exact new2 _ _ _ | with_reducible exact kept_alloc _ (alloc_new _ _) | with_reducible exact alloc_new _ _))
         (· exact toS_src HX.out.2.2.2.1 rfl ‹_›)
         (intro aB cB wB hgB hnB)
         (have hTB : ToS w a1 a2 W.n1 k1 W.n2 k2 W.ht wB := toS_grown ‹_› hgB (by intro g e; cases e; omega))
         (obtain ⟨⟨q0, hq0⟩, ⟨q1, hq1⟩, ⟨q2, hq2⟩, hqf⟩ := toS_cells hTB)
         (have hqf0 := hqf 0)
         (have hqf1 := hqf 1)
         (have hqf2 := hqf 2)
         (clear hqf)))
  · have hA' := hnA.grown (by simp) (by simp) (fun g hg => Below.heap_alloc _ _ _ hg) hgB (Or.inl (Nat.le_refl _))
    have hHX := Lib.hid (And.intro hTB.2.2.2.1 (And.intro (newrow_sl (w := w) (x := .slice aA W.n1 cA) (y := .slice aB W.n2 cB) (z := .int .u64 W.ht) hA') (newrow_sl (w := w) (x := .slice aA W.n1 cA) (y := .slice aB W.n2 cB) (z := .int .u64 W.ht) hnB)))
    clear hA' hnA hnB hTB hgA hgB hS
    go_wp2
    refine bodyPost_ret (v := .agg #[.slice aA W.n1 cA, .slice aB W.n2 cB, .int .u64 W.ht]) (by simp [results, Tryd.results12, go_sem, hq0, hq1, hq2]) rfl ⟨_, _, rfl, ⟨?_, ?_⟩, ?_⟩
    · have := hHX.out.2.1; simpa using this
    · have := hHX.out.2.2; simpa using this
    · exact Only.of_below (((hHX.out.1.setCell (by simp) _).setCell (by simp) _).setCell (by simp) _)
  · have hr : ∃ t, wA.heap[X.heap.size + 1]? = some (.cells #[] t (0, 0)) := ⟨_, kept_of hgA (new2 _ _ _) (by simp)⟩
    have hA' := hnA.grown (by simp) (Nat.le_refl _) (fun g hg => rfl) hgB (Or.inr hr)
    have hHX := Lib.hid (And.intro hTB.2.2.2.1 (And.intro (newrow_sl (w := w) (x := .slice aA W.n1 cA) (y := .slice aB W.n2 cB) (z := .int .u64 W.ht) hA') (newrow_sl (w := w) (x := .slice aA W.n1 cA) (y := .slice aB W.n2 cB) (z := .int .u64 W.ht) hnB)))
    clear hA' hnA hnB hTB hgA hgB hS
    go_wp2
    refine bodyPost_ret (v := .agg #[.slice aA W.n1 cA, .slice aB W.n2 cB, .int .u64 W.ht]) (by simp [results, Tryd.results12, go_sem, hq0, hq1, hq2]) rfl ⟨_, _, rfl, ⟨?_, ?_⟩, ?_⟩
    · have := hHX.out.2.1; simpa using this
    · have := hHX.out.2.2; simpa using this
    · exact Only.of_below (((hHX.out.1.setCell (by simp) _).setCell (by simp) _).setCell (by simp) _)
  · have hr : ∃ t, wA.heap[X.heap.size]? = some (.cells #[] t (0, 0)) := ⟨_, kept_of hgA (kept_alloc _ (alloc_new _ _)) (by simp)⟩
    have hA' := hnA.grown (by simp) (Nat.le_refl _) (fun g hg => rfl) hgB (Or.inr hr)
    have hHX := Lib.hid (And.intro hTB.2.2.2.1 (And.intro (newrow_sl (w := w) (x := .slice aA W.n1 cA) (y := .slice aB W.n2 cB) (z := .int .u64 W.ht) hA') (newrow_sl (w := w) (x := .slice aA W.n1 cA) (y := .slice aB W.n2 cB) (z := .int .u64 W.ht) hnB)))
    clear hA' hnA hnB hTB hgA hgB hS
    go_wp2
    refine bodyPost_ret (v := .agg #[.slice aA W.n1 cA, .slice aB W.n2 cB, .int .u64 W.ht]) (by simp [results, Tryd.results12, go_sem, hq0, hq1, hq2]) rfl ⟨_, _, rfl, ⟨?_, ?_⟩, ?_⟩
    · have := hHX.out.2.1; simpa using this
    · have := hHX.out.2.2; simpa using this
    · exact Only.of_below (((hHX.out.1.setCell (by simp) _).setCell (by simp) _).setCell (by simp) _)
end Go.Proofs.YtfhhkapjpmfolaaDoor
