/- law 11: a world that came in as an argument, read. -/
import Derived.Test.YtfhhkapjpmfolaaDoorCodeT
import Derived.Test.YtfhhkapjpmfolaaDoorCodeR
import Derived.Lib.SmallJoins
import Derived.Deep.Slices
namespace Go.Proofs.YtfhhkapjpmfolaaDoor
open Go.ChangeShapes Go.WideShapes Go.ChangeAt Go.RowKit Go.Deep

theorem Tryd.laidOut : laidOutB Tryd.prog = true := by kernel_rfl
section
variable {H : Type} {enc : TypeId × Value → H} {P : Program} {w : World}
theorem slice_of_trod {t e : TypeId} {v : Value} {fuel : Nat} {x : DataW H × List MemPlace} (ht : P.underlying t = some (.slice e)) (h : DataW.trod enc P w 0 (fun _ => true) true fuel t [v] = some x) : ∃ a n c, v = .slice a n c := by
  rcases open_slice ht h with ⟨hcs, _⟩ | ⟨a, len, cap, m, n, D, Pl, hcs, _⟩
  · exact ⟨_, _, _, by simpa using hcs⟩
  · exact ⟨_, _, _, by simpa using hcs⟩
theorem sl_of_rows {v : Value} {n : Nat} {R : Nat → List Value} {V : Nat → Value} (h : RowsAt w v n 1 R) (hR : ∀ j, j < n → R j = [V j]) : SlAt w w.heap.size v n V := by
  obtain ⟨a, c, h1, h2, h3, h4⟩ := h
  refine ⟨a, c, h1, h2, h3, h4.imp id ?_⟩
  rintro ⟨b, o, h5, h6, h7⟩
  refine ⟨b, o, h5, h6, h6, fun j hj => ?_⟩
  have := h7 j hj 0 (V j) (by rw [hR j hj]; rfl)
  simpa using this
theorem nums_sl {t e : TypeId} {k : IntKind} {v : Value} {fuel : Nat} {x : DataW H × List MemPlace} (ht : P.underlying t = some (.slice e)) (he : P.underlying e = some (.int k)) (hc : P.cellsOf e = 1) (h : DataW.trod enc P w 0 (fun _ => true) true fuel t [v] = some x) :
    ∃ n, ∃ V : Nat → Int, SlAt w w.heap.size v n (fun j => .int k (V j)) ∧ ∀ j, j < n → (Lit.int k (V j)).wf = true := by
  obtain ⟨a, n0, c, rfl⟩ := slice_of_trod ht h
  obtain ⟨n, R, hR, hx⟩ := rows_of_trod ht hc (by omega) ⟨a, n0, c, rfl⟩ ⟨fuel, h⟩
  obtain ⟨V, hV⟩ := choose_lt (n := n) (α := Int) (p := fun j z => R j = [.int k z] ∧ (Lit.int k z).wf = true) fun j hj => by
    obtain ⟨fuel, y, hy⟩ := (hx j hj).2
    obtain ⟨z, hz, _, hw⟩ := DataW.trod_int he hy
    exact ⟨z, hz, hw⟩
  exact ⟨n, V, sl_of_rows hR fun j hj => (hV j hj).1, fun j hj => (hV j hj).2⟩
theorem bools_sl {t e : TypeId} {v : Value} {fuel : Nat} {x : DataW H × List MemPlace} (ht : P.underlying t = some (.slice e)) (he : P.underlying e = some .bool) (hc : P.cellsOf e = 1) (h : DataW.trod enc P w 0 (fun _ => true) true fuel t [v] = some x) :
    ∃ n, ∃ V : Nat → Bool, SlAt w w.heap.size v n (fun j => .bool (V j)) := by
  obtain ⟨a, n0, c, rfl⟩ := slice_of_trod ht h
  obtain ⟨n, R, hR, hx⟩ := rows_of_trod ht hc (by omega) ⟨a, n0, c, rfl⟩ ⟨fuel, h⟩
  obtain ⟨V, hV⟩ := choose_lt (n := n) (α := Bool) (p := fun j z => R j = [.bool z]) fun j hj => by
    obtain ⟨fuel, y, hy⟩ := (hx j hj).2
    obtain ⟨z, hz, _⟩ := DataW.trod_bool he hy
    exact ⟨z, hz⟩
  exact ⟨n, V, sl_of_rows hR hV⟩
end
theorem u64_of_wf {z : Int} (h : (Lit.int .u64 z).wf = true) : W64 z := by have := bounds_u64 h; exact ⟨this.1, by omega⟩
set_option maxRecDepth 100000 in
theorem cw_of_trod {H : Type} {enc : TypeId × Value → H} {w : World} {b : Nat} {v : Value} {d : DataW H} {p : List MemPlace} (hv : Value.okWide Tryd.prog w .any b 27 v)
    (h : DataW.Trod enc Tryd.prog w 0 (fun _ => true) true 27 v d p) : ∃ (W : CW) (v1 v2 : Value), v = .agg #[v1, v2, .int .u64 W.ht] ∧ CWAt w w.heap.size W v1 v2 ∧ W.wide := by
  obtain ⟨c0, c1, c2, y0, y1, y2, m, rfl, rfl, rfl, hy0, hy1, hy2⟩ := Joins.open_agg3 Tryd.underlying27 (by kernel_rfl) (show Tryd.prog.cellsOf 27 = 3 by kernel_rfl) hv h
  have hy0 : DataW.trod enc Tryd.prog w 0 (fun _ => true) true m 23 [c0] = some y0 := hy0
  have hy1 : DataW.trod enc Tryd.prog w 0 (fun _ => true) true m 24 [c1] = some y1 := hy1
  have hy2 : DataW.trod enc Tryd.prog w 0 (fun _ => true) true m 25 [c2] = some y2 := hy2
  obtain ⟨n1, F, hF, hFw⟩ := nums_sl Tryd.underlying23 Tryd.underlying25 (by kernel_rfl) hy0
  obtain ⟨n2, G, hG⟩ := bools_sl Tryd.underlying24 Tryd.underlying4 (by kernel_rfl) hy1
  obtain ⟨z, hz, _, hw⟩ := DataW.trod_int Tryd.underlying25 hy2
  obtain rfl : c2 = .int .u64 z := by simpa using hz
  exact ⟨⟨n1, F, n2, G, z⟩, c0, c1, rfl, ⟨hF, hG⟩, u64_of_wf hw, fun j hj => u64_of_wf (hFw j hj)⟩

theorem SlAt.congr {w : World} {b n : Nat} {v : Value} {V V' : Nat → Value} (h : SlAt w b v n V) (hV : ∀ j, j < n → V j = V' j) : SlAt w b v n V' := by
  obtain ⟨a, c, h1, h2, h3, h4⟩ := h
  refine ⟨a, c, h1, h2, h3, h4.imp id ?_⟩
  rintro ⟨b1, o1, h5, h6, h7, h8⟩
  exact ⟨b1, o1, h5, h6, h7, fun j hj => hV j hj ▸ h8 j hj⟩
set_option maxRecDepth 100000 in
/-- Bytes that came in. -/
theorem bytes_arg {H : Type} {enc : TypeId × Value → H} {w : World} {b : Nat} {v : Value} {d : DataW H} {ps : List MemPlace} (hv : Value.okWide Tryd.prog w .any b 22 v) (h : DataW.Trod enc Tryd.prog w 0 (fun _ => true) true 22 v d ps) :
    ∃ n, ∃ p : Nat → Nat, SlAt w w.heap.size v n (fun j => .int .u8 (p j : Int)) ∧ ∀ j, p j < 256 := by
  obtain ⟨a, n0, c, rfl⟩ := okWide_slice Tryd.underlying22 hv
  obtain ⟨fuel, hf⟩ := h
  obtain ⟨n, V, hV, hw⟩ := nums_sl Tryd.underlying22 Tryd.underlying5 (show Tryd.prog.cellsOf 5 = 1 by kernel_rfl) hf
  refine ⟨n, fun j => if j < n then (V j).toNat else 0, hV.congr fun j hj => ?_, fun j => ?_⟩
  · have := bounds_u8 (hw j hj)
    simp only [hj, if_true]
    congr 1
    omega
  · by_cases hj : j < n
    · have := bounds_u8 (hw j hj)
      simp only [hj, if_true]
      omega
    · simp [hj]
/-- The shape of a tied card's parameters: none of the types that want a stand-in. -/
theorem laidH {W : World} (h : laidMetH Tryd.prog laid8 W) : laidMet Tryd.prog laid8 W := h
end Go.Proofs.YtfhhkapjpmfolaaDoor
