/- notary: New, Many, Twin, Hashes of nil, Tell. -/
import Derived.Test.YthoiihpbgdjbfaaNotaryB
import Derived.Shelf.SlMaps.Clone
namespace Go.Proofs.Ythoiihpbgdjbfaa
open Go.RowKit
open Go.Maps (Keyed)

set_option maxHeartbeats 1000000 in
theorem nnew_any (w : World) :
    Calls Try.prog 6 #[] w fun e w' => ∃ N M, e = .returned (.pointer (some ⟨N, 0, none⟩)) ∧ IsNotary w' N M [] ∧ Only [] w w' ∧ w.heap.size ≤ N ∧ w.heap.size ≤ M := by
  have hmm := @run_makeMap Try.prog
  go_enter Try.func6, Try.ntmps6
  go_wp2
  go_ret
  refine ⟨w.heap.size + 1, w.heap.size, rfl, ⟨heap_alloc2_new _ _ _, ?_, ?_⟩, ((Only.refl _ _).alloc _).alloc _, by omega, Nat.le_refl _⟩
  · exact (mapIs_new 53 w).only ((Only.refl [] _).alloc _) (by simp)
  · exact ⟨List.Pairwise.nil, by simp⟩

theorem many_nil (w : World) : Calls Try.prog 10 #[.pointer none] w fun e w' => e = .returned (.int .i64 0) ∧ w = w' := by
  go_enter Try.func10, Try.ntmps10
  go_wp2
  go_ret
  exact ⟨rfl, rfl⟩
set_option maxHeartbeats 1000000 in
theorem many_any (N M : Nat) (B : Book) (w : World) (hN : IsNotary w N M B) : Calls Try.prog 10 #[.pointer (some ⟨N, 0, none⟩)] w fun e w' => e = .returned (.int .i64 B.length) ∧ w = w' := by
  have c0 : w.cell? ⟨N, 0, none⟩ = some (.map (some M)) := cell_of_one hN.1
  have hlen : ∀ ty, (Builtin.len_ #[72] ty #[.map (some M)]).run Try.prog w = .ok (.int .i64 B.length) w := fun ty => by
    have := run_len_map' (P := Try.prog) (ty := ty) Try.underlying72 hN.2.1 w rfl
    rwa [show (pairsOf B).length = B.length by simp [pairsOf]] at this
  clear hN
  go_enter Try.func10, Try.ntmps10
  go_wp2
  go_ret
  exact ⟨rfl, rfl⟩
theorem hashes_nil (w : World) : Calls Try.prog 13 #[.pointer none] w fun e w' => e = .returned (.slice none 0 0) ∧ w = w' := by
  go_enter Try.func13, Try.ntmps13
  go_wp2
  go_ret
  exact ⟨rfl, rfl⟩
theorem twin_nil (w : World) : Calls Try.prog 21 #[.pointer none] w fun e w' => e = .returned (.pointer none) ∧ w = w' := by
  go_enter Try.func21, Try.ntmps21
  go_wp2
  go_ret
  exact ⟨rfl, rfl⟩
set_option maxRecDepth 100000 in
theorem clone_any (b : Nat) (es : Array MapEntry) (clock : Nat) (w : World) (hb : w.heap[b]? = some (.map es clock)) :
    Calls Try.prog 29 #[.map (some b)] w fun e w' => e = .returned (.map (some w.heap.size)) ∧ w' = w.alloc (.map es clock) := by
  have hq := fun w => run_eql_map_nil_sl (P := Try.prog) w 72 _ _ (some b) Try.underlying72
  go_enter Try.func29, Try.ntmps29
  go_wp2
  rw [run_callFunc_extern Try.func36 (by kernel_rfl) (by kernel_rfl) (by kernel_rfl) (e := Extern.MapsClone.clone) (by kernel_rfl), run_maps_clone_sl w 72 hb]
  simp only [Result.andThen]
  rw [Oper.upon_value]
  go_wp2
  rw [run_typeAssert_map_sl _ 72 20 _ _ _ Try.underlying72]
  simp only [Result.andThen]
  rw [Oper.upon_value]
  go_wp2
  go_ret
  exact ⟨rfl, rfl⟩
set_option maxHeartbeats 1000000 in
theorem twin_any (N M : Nat) (B : Book) (w : World) (hN : IsNotary w N M B) :
    Calls Try.prog 21 #[.pointer (some ⟨N, 0, none⟩)] w fun e w' => ∃ N' M', e = .returned (.pointer (some ⟨N', 0, none⟩)) ∧ IsNotary w' N' M' B ∧ Only [] w w' ∧ w.heap.size ≤ N' ∧ w.heap.size ≤ M' := by
  have c0 : w.cell? ⟨N, 0, none⟩ = some (.map (some M)) := cell_of_one hN.1
  obtain ⟨es, clock, h1, h2⟩ := hN.2.1
  have H := Lib.hid (And.intro hN.2.2 h2)
  have HC := Lib.hid (clone_any M es clock w h1)
  clear hN h2 h1
  go_enter Try.func21, Try.ntmps21
  go_wp2_with (go_at_call 29; refine HC.out.mono ?_; rintro e w' ⟨rfl, rfl⟩)
  go_ret
  refine ⟨w.heap.size + 1, w.heap.size, rfl, ⟨heap_alloc2_new _ _ _, ⟨es, clock, heap_alloc2_old _ _ _, H.out.2⟩, H.out.1⟩, ((Only.refl _ _).alloc _).alloc _, by omega, Nat.le_refl _⟩
end Go.Proofs.Ythoiihpbgdjbfaa
