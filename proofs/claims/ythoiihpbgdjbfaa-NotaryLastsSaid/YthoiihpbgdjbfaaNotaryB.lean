/- notary: In, Of, Many; a notary or nil. -/
import Derived.Test.YthoiihpbgdjbfaaNotaryA
namespace Go.Proofs.Ythoiihpbgdjbfaa
open Go.RowKit
open Go.Maps (Keyed)

/-- A notary with this book, or nil, to which nothing was told. -/
def IsNP (w : World) (p : Value) (B : Book) : Prop := (p = .pointer none ∧ B = []) ∨ ∃ N M, p = .pointer (some ⟨N, 0, none⟩) ∧ IsNotary w N M B
theorem IsNP.keep {w w' : World} {p : Value} {B : Book} (h : IsNP w p B) (hO : Only [] w w') : IsNP w' p B := by
  rcases h with h | ⟨N, M, h1, h2⟩
  · exact Or.inl h
  · exact Or.inr ⟨N, M, h1, h2.only hO (by simp) (by simp)⟩
theorem IsNP.form {w : World} {p : Value} {B : Book} (h : IsNP w p B) : ∃ a, p = .pointer a := by
  rcases h with ⟨rfl, _⟩ | ⟨N, M, rfl, _⟩
  · exact ⟨_, rfl⟩
  · exact ⟨_, rfl⟩

set_option maxRecDepth 100000 in
set_option maxHeartbeats 1000000 in
theorem when_nil (h : Nat → Int) (w : World) :
    Calls Try.prog 11 #[.pointer none, .agg (rowC .u8 32 h)] w fun e w' => e = .returned (.tuple #[.int .u64 0, .bool false]) ∧ Only [] w w' := by
  go_enter Try.func11, Try.ntmps11
  go_wp2_with fail
  go_ret2
  exact ⟨rfl, (Only.refl _ _).alloc _⟩
theorem when_np (p : Value) (B : Book) (h : Nat → Int) (hh : ∀ j, j < 32 → U8 (h j)) (w : World) (hp : IsNP w p B) :
    Calls Try.prog 11 #[p, .agg (rowC .u8 32 h)] w fun e w' =>
      e = .returned (.tuple #[.int .u64 (bgetD B (hashV h)).2, .bool (bget B (hashV h)).isSome]) ∧ Only [] w w' := by
  rcases hp with ⟨rfl, rfl⟩ | ⟨N, M, rfl, hN⟩
  · exact when_nil h w
  · exact when_any N M B h hh w hN

/-- Was a secret told in time? -/
noncomputable def inB (B : Book) (h : Nat → Int) (expiry : Int) : Bool := (bget B (hashV h)).isSome && decide ((bgetD B (hashV h)).2 ≤ expiry)

set_option maxRecDepth 100000 in
set_option maxHeartbeats 1000000 in
theorem in_np (p : Value) (B : Book) (h : Nat → Int) (hh : ∀ j, j < 32 → U8 (h j)) (expiry : Int) (w : World) (hp : IsNP w p B) :
    Calls Try.prog 17 #[p, .agg (rowC .u8 32 h), .int .u64 expiry] w fun e w' => e = .returned (.bool (inB B h expiry)) ∧ Only [] w w' := by
  obtain ⟨a, rfl⟩ := hp.form
  have HP := Lib.hid (And.intro hp hh)
  clear hp hh
  go_enter Try.func17, Try.ntmps17
  go_upto_region 1 with (fail)
  refine wp_name (fun W => W.heap[w.heap.size]? = some (.cells (rowC .u8 32 h) 53 (0, 0)) ∧ Only [] w W) ⟨heap_alloc_last _ _, (Only.refl _ _).alloc _⟩ ?_
  intro w1 ⟨hB, hO⟩
  have HR := Lib.hid (row_range hB)
  have HC := Lib.hid (when_np (.pointer a) B h HP.out.2 w1 (HP.out.1.keep hO))
  have HO := Lib.hid hO
  clear hB hO
  have hin : inB B h expiry = ((bget B (hashV h)).isSome && decide ((bgetD B (hashV h)).2 ≤ expiry)) := rfl
  have HI := Lib.hid hin
  clear hin
  cases hs : (bget B (hashV h)).isSome
  all_goals
    have HSS := Lib.hid hs
    clear hs
    go_upto_region 2 with (first
      | ((with_reducible refine wpList_load_part w.heap.size 0 (rowC .u8 32 h) _ HR.out ?_ Try.underlying53 ?_ ?_ ?_); (· rfl); (· rfl); (· rw [rowC_size]; kernel_rfl))
      | (go_at_call 11; refine HC.out.mono ?_; rintro e w' ⟨rfl, hO2⟩; (have HO2 := Lib.hid hO2); clear hO2; rw [HSS.out]))
    go_wp2_with fail
    go_ret
    refine ⟨?_, HO.out.trans HO2.out (by simp)⟩
    rw [HI.out, HSS.out]
    try rfl
    try simp

/-- A payment's cells. -/
def condC (id by_ amount : Int) (h : Nat → Int) (expiry : Int) : Array Value := #[.int .u64 id, .int .i64 by_, .int .u64 amount] ++ rowC .u8 32 h ++ #[.int .u64 expiry]
theorem condC_size (id by_ amount : Int) (h : Nat → Int) (expiry : Int) : (condC id by_ amount h expiry).size = 36 := by simp [condC, rowC_size]
theorem condC_hash (id by_ amount : Int) (h : Nat → Int) (expiry : Int) (j : Nat) (hj : j < 32) : (condC id by_ amount h expiry)[3 + j]? = some (.int .u8 (h j)) := by
  unfold condC
  rw [Array.getElem?_append_left (by simp [rowC_size]; omega), Array.getElem?_append_right (by simp)]
  simp only [List.size_toArray, List.length_cons, List.length_nil]
  rw [show 3 + j - (0 + 1 + 1 + 1) = j by omega, rowC_get _ _ _ _ hj]
theorem condC_expiry (id by_ amount : Int) (h : Nat → Int) (expiry : Int) : (condC id by_ amount h expiry)[35]? = some (.int .u64 expiry) := by
  unfold condC
  rw [Array.getElem?_append_right (by simp [rowC_size])]
  simp [rowC_size]
theorem condC_range {w : World} {b : Nat} {id by_ amount : Int} {h : Nat → Int} {expiry : Int} {t : TypeId} {fr : Nat × Nat} (hb : w.heap[b]? = some (.cells (condC id by_ amount h expiry) t fr)) : w.rangeAt b 3 (rowC .u8 32 h).toList := fun j v hv => by
  obtain ⟨hj, rfl⟩ := u8s_get 32 h j v (by simpa [rowC] using hv)
  rw [cell_of_row w b _ _ _ _ hb, condC_hash _ _ _ _ _ _ hj]

/-- The verdict. -/
noncomputable def ofB (B : Book) (h : Nat → Int) (expiry height : Int) : Int := if inB B h expiry then 1 else if expiry < height then 2 else 0

set_option maxRecDepth 100000 in
set_option maxHeartbeats 1000000 in
theorem of_np (p : Value) (B : Book) (id by_ amount : Int) (h : Nat → Int) (hh : ∀ j, j < 32 → U8 (h j)) (expiry height : Int) (w : World) (hp : IsNP w p B) :
    Calls Try.prog 20 #[p, .agg (condC id by_ amount h expiry), .int .u64 height] w fun e w' => e = .returned (.int .i64 (ofB B h expiry height)) ∧ Only [] w w' := by
  obtain ⟨a, rfl⟩ := hp.form
  have HP := Lib.hid (And.intro hp hh)
  clear hp hh
  go_enter Try.func20, Try.ntmps20
  go_upto_region 1 with (fail)
  refine wp_name (fun W => W.heap[w.heap.size]? = some (.cells (condC id by_ amount h expiry) 59 (0, 0)) ∧ Only [] w W) ⟨heap_alloc_last _ _, (Only.refl _ _).alloc _⟩ ?_
  intro w1 ⟨hB, hO⟩
  have HR := Lib.hid (condC_range hB)
  have c35 : w1.cell? ⟨w.heap.size, 35, none⟩ = some (.int .u64 expiry) := by rw [cell_of_row w1 _ 35 _ _ _ hB, condC_expiry]
  have HC := Lib.hid (in_np (.pointer a) B h HP.out.2 expiry w1 (HP.out.1.keep hO))
  have HO := Lib.hid (And.intro hO hB)
  clear hB hO
  have HI : Hid (ofB B h expiry height = if inB B h expiry then 1 else if expiry < height then 2 else 0) := rfl
  cases hs : inB B h expiry
  · have HSS := Lib.hid hs
    clear hs
    go_upto_region 3 with (first
      | ((with_reducible refine wpList_load_part w.heap.size 3 (rowC .u8 32 h) _ HR.out ?_ Try.underlying53 ?_ ?_ ?_); (· rfl); (· rfl); (· rw [rowC_size]; kernel_rfl))
      | (go_at_call 17; refine HC.out.mono ?_; rintro e w' ⟨rfl, hO2⟩; (have HO2 := Lib.hid hO2); (have d35 := (hO2.cell (p := ⟨w.heap.size, 35, none⟩) (lt_of_block HO.out.2) (by simp)).trans c35); clear hO2; rw [HSS.out]))
    by_cases hlt : expiry < height
    all_goals
      go_wp2_with fail
      go_ret
      refine ⟨?_, HO.out.1.trans HO2.out (by simp)⟩
      rw [HI.out, HSS.out]
      simp [hlt]
  · have HSS := Lib.hid hs
    clear hs
    go_wp2_with (first
      | ((with_reducible refine wpList_load_part w.heap.size 3 (rowC .u8 32 h) _ HR.out ?_ Try.underlying53 ?_ ?_ ?_); (· rfl); (· rfl); (· rw [rowC_size]; kernel_rfl))
      | (go_at_call 17; refine HC.out.mono ?_; rintro e w' ⟨rfl, hO2⟩; (have HO2 := Lib.hid hO2); clear hO2; rw [HSS.out]))
    go_ret
    refine ⟨?_, HO.out.1.trans HO2.out (by simp)⟩
    rw [HI.out, HSS.out]
    rfl
end Go.Proofs.Ythoiihpbgdjbfaa
