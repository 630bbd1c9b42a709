/- mill: the table of the rounds, and a block that is ground. -/
import Derived.Test.YthoiihpbgdjbfaaMillA
import Derived.StillTailTactics
import Derived.IntWalk
import Derived.Deep.CutRange
namespace Go.Proofs.Ythoiihpbgdjbfaa
open Go.RowKit

/-- What the rounds add. -/
def stirL : List Int := [
  1116352408, 1899447441, 3049323471, 3921009573, 961987163, 1508970993, 2453635748, 2870763221,
  3624381080, 310598401, 607225278, 1426881987, 1925078388, 2162078206, 2614888103, 3248222580,
  3835390401, 4022224774, 264347078, 604807628, 770255983, 1249150122, 1555081692, 1996064986,
  2554220882, 2821834349, 2952996808, 3210313671, 3336571891, 3584528711, 113926993, 338241895,
  666307205, 773529912, 1294757372, 1396182291, 1695183700, 1986661051, 2177026350, 2456956037,
  2730485921, 2820302411, 3259730800, 3345764771, 3516065817, 3600352804, 4094571909, 275423344,
  430227734, 506948616, 659060556, 883997877, 958139571, 1322822218, 1537002063, 1747873779,
  1955562222, 2024104815, 2227730452, 2361852424, 2428436474, 2756734187, 3204031479, 3329325298]
def stirA : Array Value := (stirL.map (Value.int .u32)).toArray

theorem stirs_built : Try.prog.built 134 ((List.range 64).map fun i => (i, stirA.getD i default)) = some stirA := by kernel_rfl

set_option maxRecDepth 100000 in
set_option maxHeartbeats 400000 in
theorem stirs_any (w : World) :
    Calls Try.prog 67 #[] w fun e w' => e = .returned (.agg stirA) ∧ w' = w.alloc (.cells stirA 134) := by
  go_enter Try.func67, Try.ntmps67
  go_wp2_with (first
    | (refine wpList_build_to stirA (by kernel_rfl) ?_)
    | (refine wpList_store_new stirA (by rfl) (by rfl) (by kernel_rfl) (by kernel_rfl) (by kernel_rfl) ?_))
  exact bodyPost_ret (v := .agg stirA) (results_cell_row rfl _ _ w.heap.size 134 stirA (0, 0) _ rfl (heap_alloc_last w _) Try.underlying134 rfl (by kernel_rfl)) rfl ⟨rfl, rfl⟩

/-! ### grind -/
/-- A mill's cells. -/
def millC (st wt : Nat → Int) (long : Int) : Array Value := rowC .u32 8 st ++ rowC .u8 64 wt ++ #[.int .u64 long]
theorem millC_size (st wt : Nat → Int) (long : Int) : (millC st wt long).size = 73 := by simp [millC, rowC_size]
theorem millC_st (st wt : Nat → Int) (long : Int) (j : Nat) (h : j < 8) : (millC st wt long)[j]? = some (.int .u32 (st j)) := by
  unfold millC
  rw [Array.getElem?_append_left (by simp [rowC_size]; omega), Array.getElem?_append_left (by simp [rowC_size]; omega), rowC_get _ _ _ _ h]
theorem millC_wt (st wt : Nat → Int) (long : Int) (j : Nat) (h : j < 64) : (millC st wt long)[8 + j]? = some (.int .u8 (wt j)) := by
  unfold millC
  rw [Array.getElem?_append_left (by simp [rowC_size]; omega), Array.getElem?_append_right (by simp [rowC_size])]
  simp only [rowC_size, Nat.add_sub_cancel_left]
  exact rowC_get _ _ _ _ h
theorem millC_long (st wt : Nat → Int) (long : Int) : (millC st wt long)[72]? = some (.int .u64 long) := by
  unfold millC
  rw [Array.getElem?_append_right (by simp [rowC_size])]
  simp [rowC_size]
theorem millC_set_st (st wt : Nat → Int) (long : Int) (j : Nat) (v : Int) (h : j < 8) : (millC st wt long).setIfInBounds j (.int .u32 v) = millC (upd st j v) wt long := by
  unfold millC
  rw [Array.setIfInBounds_append_left (by simp [rowC_size]; omega), Array.setIfInBounds_append_left (by simp [rowC_size]; omega), rowC_set]
theorem millC_set_long (st wt : Nat → Int) (long v : Int) : (millC st wt long).setIfInBounds 72 (.int .u64 v) = millC st wt v := by
  unfold millC
  rw [Array.setIfInBounds_append_right (by simp [rowC_size])]
  simp [rowC_size]

theorem millC_range {w : World} {P : Nat} {st wt : Nat → Int} {long : Int} {t : TypeId} {fr : Nat × Nat} (h : w.heap[P]? = some (.cells (millC st wt long) t fr)) : w.rangeAt P 0 (rowC .u32 8 st).toList := fun j v hv => by
  have hj : j < 8 := by
    rcases Nat.lt_or_ge j 8 with h' | h'
    · exact h'
    · rw [Array.getElem?_toList, Array.getElem?_eq_none (by rw [rowC_size]; exact h')] at hv; cases hv
  rw [Nat.zero_add, cell_of_row w P _ _ _ _ h, millC_st _ _ _ _ hj, ← hv, Array.getElem?_toList, rowC_get _ _ _ _ hj]

theorem millC_congr (f g wt : Nat → Int) (long : Int) (h : ∀ j, j < 8 → f j = g j) : millC f wt long = millC g wt long := by
  unfold millC; rw [rowC_congr _ 8 f g h]

def wordAt (wt : Nat → Int) (j : Nat) : Int := ((wt (4 * j) * 256 + wt (4 * j + 1)) * 256 + wt (4 * j + 2)) * 256 + wt (4 * j + 3)
/-- The sixteen words that are near, behind i rounds. -/
def nearF (wt : Nat → Int) : Nat → Nat → Int
  | 0 => wordAt wt
  | i + 1 => if i < 16 then nearF wt i else
      let n := nearF wt i
      upd n (i % 16) ((n (i % 16) + ((threeF (n ((i + 1) % 16)) 7 18 3 true + n ((i + 9) % 16)) % 4294967296 + threeF (n ((i + 14) % 16)) 17 19 10 true) % 4294967296) % 4294967296)
def pickF (s : Nat → Int) : Int := bits .xor .u32 (s 6) (bits .and .u32 (s 4) (bits .xor .u32 (s 5) (s 6)))
def mostF (s : Nat → Int) : Int := bits .or .u32 (bits .and .u32 (s 0) (s 1)) (bits .and .u32 (s 2) (bits .or .u32 (s 0) (s 1)))
def addF (s : Nat → Int) (k n : Int) : Int := (s 7 + threeF (s 4) 6 11 25 false + pickF s + k + n) % 4294967296
def roundF (s : Nat → Int) (k n : Int) : Nat → Int
  | 0 => ((addF s k n + threeF (s 0) 2 13 22 false) % 4294967296 + mostF s) % 4294967296
  | 4 => (s 3 + addF s k n) % 4294967296
  | j => s (j - 1)
def stirF (i : Nat) : Int := stirL.getD i 0
/-- The eight words behind i rounds. -/
def sF (st wt : Nat → Int) : Nat → Nat → Int
  | 0 => st
  | i + 1 => roundF (sF st wt i) (stirF i) (nearF wt (i + 1) (i % 16))
def grindF (st wt : Nat → Int) (j : Nat) : Int := (st j + sF st wt 64 j) % 4294967296

theorem stir_index (k : Nat) (hk : k < 64) (W : World) : (Instr.index 134 (.agg stirA) (.int .i64 k)).run Try.prog W = .ok (.int .u32 (stirF k)) W := by
  refine run_index_row W Try.underlying134 (by kernel_rfl) Try.underlying99 rfl k hk ?_
  have hl : stirL.length = 64 := rfl
  simp [stirA, stirF, List.getD, List.getElem?_eq_getElem (show k < stirL.length by omega)]

def U32 (x : Int) : Prop := 0 ≤ x ∧ x < 4294967296
def U8 (x : Int) : Prop := 0 ≤ x ∧ x < 256
theorem u32_mod (x : Int) : U32 (x % 4294967296) := ⟨by omega, by omega⟩
theorem nearF_bd (wt : Nat → Int) (h : ∀ j, j < 64 → U8 (wt j)) : ∀ i j, j < 16 → U32 (nearF wt i j) := by
  intro i
  induction i with
  | zero =>
    intro j hj
    have h0 := h (4 * j) (by omega); have h1 := h (4 * j + 1) (by omega); have h2 := h (4 * j + 2) (by omega); have h3 := h (4 * j + 3) (by omega)
    unfold U8 at h0 h1 h2 h3
    simp only [nearF, wordAt]
    exact ⟨by omega, by omega⟩
  | succ i ih =>
    intro j hj
    rw [nearF]
    split
    · exact ih j hj
    · simp only [upd]
      split
      · exact u32_mod _
      · exact ih j hj
theorem roundF_bd (s : Nat → Int) (k n : Int) (h : ∀ j, j < 8 → U32 (s j)) : ∀ j, j < 8 → U32 (roundF s k n j) := by
  intro j hj
  have : j = 0 ∨ j = 1 ∨ j = 2 ∨ j = 3 ∨ j = 4 ∨ j = 5 ∨ j = 6 ∨ j = 7 := by omega
  rcases this with rfl | rfl | rfl | rfl | rfl | rfl | rfl | rfl
  · exact u32_mod _
  · exact h 0 (by omega)
  · exact h 1 (by omega)
  · exact h 2 (by omega)
  · exact u32_mod _
  · exact h 4 (by omega)
  · exact h 5 (by omega)
  · exact h 6 (by omega)
theorem sF_bd (st wt : Nat → Int) (h : ∀ j, j < 8 → U32 (st j)) : ∀ i j, j < 8 → U32 (sF st wt i j) := by
  intro i
  induction i with
  | zero => exact h
  | succ i ih => exact roundF_bd _ _ _ ih
theorem grindF_bd (st wt : Nat → Int) (j : Nat) : U32 (grindF st wt j) := u32_mod _

set_option maxRecDepth 100000 in
set_option maxHeartbeats 8000000 in
theorem grind_any (P : Nat) (st wt : Nat → Int) (long : Int) (w : World) (hst : ∀ j, j < 8 → U32 (st j)) (hwt : ∀ j, j < 64 → U8 (wt j))
    (hP : w.heap[P]? = some (.cells (millC st wt long) 110 (0, 0))) :
    Calls Try.prog 59 #[.pointer (some ⟨P, 0, none⟩)] w fun e w' => e = .returned (.tuple #[]) ∧ Only [P] w w' ∧ w'.heap[P]? = some (.cells (millC (grindF st wt) wt long) 110 (0, 0)) := by
  have hPlt := lt_of_block hP
  have HP := Lib.hid hP
  have Hst := Lib.hid hst
  have Hwt := Lib.hid hwt
  clear hP hst hwt
  go_enter Try.func59, Try.ntmps59
  go_wp2_with fail
  go_loopw [12] (fun i wr => ∃ k : Nat, k ≤ 16 ∧ i = .int .i64 k ∧ wr.heap[w.heap.size]? = some (.cells (rowC .u32 16 fun j => if j < k then wordAt wt j else 0) 132 (0, 0)) ∧ Only [] w wr) (fun i _ => (16 - intOf i).toNat)
  case atStart =>
    refine ⟨0, by omega, rfl, ?_, (Only.refl _ _).alloc _⟩
    rw [heap_alloc_last]
    rfl
  case round =>
    obtain ⟨k, hk, rfl, hB, hO⟩ := hrel
    by_cases hlt : k < 16
    · --{skip
      have h1 := row_cell hB k hlt
      have h2 := frozen_of_row wr w.heap.size k _ _ hB
      rw [if_neg (by omega)] at h1
      have e1 : (0 : Int) ≤ 4 * (k : Int) := by omega
      have e2 : 4 * (k : Int) ≤ 64 := by omega
      have hPr : wr.heap[P]? = some (.cells (millC st wt long) 110 (0, 0)) := hO.keeps HP.out (by simp)
      have hw : ∀ j, j < 4 → wr.cell? ⟨P, 8 + 4 * k + j, none⟩ = some (.int .u8 (wt (4 * k + j))) := fun j hj => by
        rw [cell_of_row wr P _ _ _ _ hPr, Nat.add_assoc, millC_wt _ _ _ _ (by omega)]
      have HC := Lib.hid (word_any P (8 + 4 * k) (64 - 4 * k) (64 - 4 * k) (fun j => wt (4 * k + j)) wr (by omega) (by omega) (by omega) (fun j hj => Hwt.out _ (by omega)) hw)
      have HB := Lib.hid hB
      have HO := Lib.hid hO
      clear hB hO hPr hw
      go_wp2_with (go_at_call 66; refine HC.out.mono ?_; rintro e w' ⟨rfl, rfl⟩)
      go_roundw
      case rel =>
        refine ⟨k + 1, by omega, by go_num, ?_, HO.out.setCell _ _ (Or.inl (Nat.le_refl _))⟩
        have h3 := row_set HB.out k (wordAt wt k)
        rw [rowC_congr _ 16 (upd _ k (wordAt wt k)) (fun j => if j < k + 1 then wordAt wt j else 0) (fun j _ => by
          simp only [upd]; by_cases e : j = k
          · subst e; simp
          · rw [if_neg e]; by_cases e' : j < k
            · rw [if_pos e', if_pos (by omega)]
            · rw [if_neg e', if_neg (by omega)])] at h3
        exact h3
      case measure => simp [intOf]; omega
      --}skip
    · obtain rfl : k = 16 := by omega
      rw [rowC_congr _ 16 _ (nearF wt 0) (fun j hj => by simp [hj, nearF])] at hB
      have hPr : wr.heap[P]? = some (.cells (millC st wt long) 110 (0, 0)) := hO.keeps HP.out (by simp)
      have hr := Lib.hid (millC_range hPr)
      have hBlt := lt_of_block hB
      have HB := Lib.hid hB
      have HO := Lib.hid hO
      clear hB hO hPr
      go_wp2_with (first
        | (refine wpList_load_part P 0 (rowC .u32 8 st) _ hr.out (by rfl) Try.underlying107 (by rfl) (by rw [rowC_size]; kernel_rfl) ?_)
        | (refine wpList_store_new (rowC .u32 8 st) (by rfl) (by rfl) (by rw [rowC_size]; kernel_rfl) (by rw [rowC_size]; kernel_rfl) (rowC_one _ _ _) ?_)
        | (go_at_call 67; refine (stirs_any _).mono ?_; rintro e w' ⟨rfl, rfl⟩))
      obtain ⟨w1, hw1⟩ : ∃ w1 : World, w1 = wr := ⟨_, rfl⟩
      subst hw1
      have HS := Lib.hid (sF_bd st wt Hst.out)
      have HN := Lib.hid (nearF_bd wt Hwt.out)
      go_loopw [30] (fun i wr => ∃ k : Nat, k ≤ 64 ∧ i = .int .i64 k ∧ wr.heap[w.heap.size]? = some (.cells (rowC .u32 16 (nearF wt k)) 132 (0, 0)) ∧
        wr.heap[w1.heap.size]? = some (.cells (rowC .u32 8 (sF st wt k)) 107 (0, 0)) ∧ Only [] w wr) (fun i _ => (64 - intOf i).toNat)
      case atStart =>
        refine ⟨0, by omega, rfl, ?_, ?_, (HO.out.alloc _).alloc _⟩
        · rw [Below.heap_alloc _ _ _ (by simp; omega), Below.heap_alloc _ _ _ hBlt]; exact HB.out
        · rw [Below.heap_alloc _ _ _ (by simp), heap_alloc_last]; rfl
      case round =>
        obtain ⟨k, hk, rfl, hB, hS, hO⟩ := hrel
        by_cases hlt : k < 64
        · have hix : ∀ W, (Instr.index 134 (.agg stirA) (.int .i64 k)).run Try.prog W = .ok (.int .u32 (stirF k)) W := stir_index k hlt
          have m0 : k % 16 < 16 := by omega
          have m1 : (k + 1) % 16 < 16 := by omega
          have m9 : (k + 9) % 16 < 16 := by omega
          have m14 : (k + 14) % 16 < 16 := by omega
          have p0 : (0 : Int) ≤ (k : Int) % 16 ∧ (k : Int) % 16 < 16 := by omega
          have p1 : (0 : Int) ≤ ((k : Int) + 1) % 16 ∧ ((k : Int) + 1) % 16 < 16 := by omega
          have p9 : (0 : Int) ≤ ((k : Int) + 9) % 16 ∧ ((k : Int) + 9) % 16 < 16 := by omega
          have p14 : (0 : Int) ≤ ((k : Int) + 14) % 16 ∧ ((k : Int) + 14) % 16 < 16 := by omega
          obtain ⟨p0, q0⟩ := p0
          obtain ⟨p1, q1⟩ := p1
          obtain ⟨p9, q9⟩ := p9
          obtain ⟨p14, q14⟩ := p14
          have t0 : ∀ [Inhabited Nat], ((k : Int) % 16).toNat = k % 16 := by intro _; omega
          have t1 : ∀ [Inhabited Nat], (((k : Int) + 1) % 16).toNat = (k + 1) % 16 := by intro _; omega
          have t9 : ∀ [Inhabited Nat], (((k : Int) + 9) % 16).toNat = (k + 9) % 16 := by intro _; omega
          have t14 : ∀ [Inhabited Nat], (((k : Int) + 14) % 16).toNat = (k + 14) % 16 := by intro _; omega
          have a0 := row_cell hB _ m0
          have a1 := row_cell hB _ m1
          have a9 := row_cell hB _ m9
          have a14 := row_cell hB _ m14
          have s0 := row_cell hS 0 (by omega)
          have s1 := row_cell hS 1 (by omega)
          have s2 := row_cell hS 2 (by omega)
          have s3 := row_cell hS 3 (by omega)
          have s4 := row_cell hS 4 (by omega)
          have s5 := row_cell hS 5 (by omega)
          have s6 := row_cell hS 6 (by omega)
          have s7 := row_cell hS 7 (by omega)
          have f0 := frozen_of_row wr w.heap.size (k % 16) _ _ hB
          have HB2 := Lib.hid hB
          have HS2 := Lib.hid hS
          have HO2 := Lib.hid hO
          clear hB hS hO
          have h4 := HN.out k ((k + 1) % 16) m1
          have h5 := HN.out k ((k + 14) % 16) m14
          have hs0 := HS.out k 0 (by omega)
          have hs4 := HS.out k 4 (by omega)
          go_upto_if 37 with (fail)
          go_cut [] from 31 to 125 (fun wx => wx.heap[w.heap.size]? = some (.cells (rowC .u32 16 (nearF wt (k + 1))) 132 (0, 0)) ∧
            wx.heap[w1.heap.size]? = some (.cells (rowC .u32 8 (sF st wt k)) 107 (0, 0)) ∧ Only [] w wx)
          case first =>
            --{skip
            by_cases h16 : 16 ≤ k
            · have y1 : ∀ [Inhabited Nat], IntKind.i64.wrap ((k : Int) + 1) = k + 1 := IntWalk.i64_in ((k : Int) + 1) (by omega)
              have y9 : ∀ [Inhabited Nat], IntKind.i64.wrap ((k : Int) + 9) = k + 9 := IntWalk.i64_in ((k : Int) + 9) (by omega)
              have y14 : ∀ [Inhabited Nat], IntKind.i64.wrap ((k : Int) + 14) = k + 14 := IntWalk.i64_in ((k : Int) + 14) (by omega)
              have v1 : ∀ [Inhabited Nat], ((k : Int) + 1).tmod 16 = (k + 1) % 16 := Int.tmod_eq_emod_of_nonneg (by omega)
              have v9 : ∀ [Inhabited Nat], ((k : Int) + 9).tmod 16 = (k + 9) % 16 := Int.tmod_eq_emod_of_nonneg (by omega)
              have v14 : ∀ [Inhabited Nat], ((k : Int) + 14).tmod 16 = (k + 14) % 16 := Int.tmod_eq_emod_of_nonneg (by omega)
              go_wp2_with fail
              go_still_tail 24, (by kernel_rfl)
              still_call ((three_any (nearF wt k ((k + 1) % 16)) 7 18 3 true _ h4.1 h4.2 (by decide) (by decide) (by decide) (by decide) (by decide) (by decide)).mono fun _ _ h => ⟨h.1, h.2.symm⟩)
              repeat still_step
              still_call ((three_any (nearF wt k ((k + 14) % 16)) 17 19 10 true _ h5.1 h5.2 (by decide) (by decide) (by decide) (by decide) (by decide) (by decide)).mono fun _ _ h => ⟨h.1, h.2.symm⟩)
              repeat still_step
              refine wpStill_nil ?_
              go_wp2_with fail
              go_meet
              case rel =>
                refine ⟨?_, ?_, (HO2.out.setCell _ _ (Or.inl (Nat.le_refl _))).drew⟩
                · have e : nearF wt (k + 1) = upd (nearF wt k) (k % 16) ((nearF wt k (k % 16) + ((threeF (nearF wt k ((k + 1) % 16)) 7 18 3 true + nearF wt k ((k + 9) % 16)) % 4294967296 + threeF (nearF wt k ((k + 14) % 16)) 17 19 10 true) % 4294967296) % 4294967296) := by
                    rw [nearF, if_neg (by omega)]
                  rw [e]; exact row_set HB2.out _ _
                · exact (heap_setCell_other _ _ _ _ (by show w1.heap.size ≠ w.heap.size; omega)).trans HS2.out
            · go_wp2_with fail
              go_meet
              case rel =>
                refine ⟨?_, HS2.out, HO2.out⟩
                rw [nearF, if_pos (by omega)]
                exact HB2.out
            --}skip
          case rest =>
            obtain ⟨hB, hS, hO⟩ := hcut
            have HB3 := Lib.hid hB
            have HS3 := Lib.hid hS
            have HO3 := Lib.hid hO
            have b0 := row_cell hB _ m0
            have r0 := row_cell hS 0 (by omega)
            have r1 := row_cell hS 1 (by omega)
            have r2 := row_cell hS 2 (by omega)
            have r3 := row_cell hS 3 (by omega)
            have r4 := row_cell hS 4 (by omega)
            have r5 := row_cell hS 5 (by omega)
            have r6 := row_cell hS 6 (by omega)
            have r7 := row_cell hS 7 (by omega)
            clear hB hS hO a0 a1 a9 a14 s0 s1 s2 s3 s4 s5 s6 s7 f0 m1 m9 m14 p1 p9 p14 q1 q9 q14 t1 t9 t14 h4 h5
            go_wp2_with fail
            go_quiet ((go_at_call 68; exact Calls.quiet_of_same ((three_any _ 6 11 25 false _ hs4.1 hs4.2 (by decide) (by decide) (by decide) (by decide) (by decide) (by decide)).mono fun _ _ h => ⟨h.1, h.2.symm⟩)))
            obtain ⟨w2, hw2⟩ : ∃ w2 : World, w2 = wc.drewN nq := ⟨_, rfl⟩
            have g0 : w2.cell? ⟨w1.heap.size, 0, none⟩ = some (.int .u32 (sF st wt k 0)) := by rw [hw2]; exact r0
            have g1 : w2.cell? ⟨w1.heap.size, 1, none⟩ = some (.int .u32 (sF st wt k 1)) := by rw [hw2]; exact r1
            have g2 : w2.cell? ⟨w1.heap.size, 2, none⟩ = some (.int .u32 (sF st wt k 2)) := by rw [hw2]; exact r2
            have g3 : w2.cell? ⟨w1.heap.size, 3, none⟩ = some (.int .u32 (sF st wt k 3)) := by rw [hw2]; exact r3
            have g4 : w2.cell? ⟨w1.heap.size, 4, none⟩ = some (.int .u32 (sF st wt k 4)) := by rw [hw2]; exact r4
            have g5 : w2.cell? ⟨w1.heap.size, 5, none⟩ = some (.int .u32 (sF st wt k 5)) := by rw [hw2]; exact r5
            have g6 : w2.cell? ⟨w1.heap.size, 6, none⟩ = some (.int .u32 (sF st wt k 6)) := by rw [hw2]; exact r6
            have g7 : w2.heap[w.heap.size]? = some (.cells (rowC .u32 16 (nearF wt (k + 1))) 132 (0, 0)) ∧ w2.heap[w1.heap.size]? = some (.cells (rowC .u32 8 (sF st wt k)) 107 (0, 0)) ∧ Only [] w w2 := by
              rw [hw2]; exact ⟨HB3.out, HS3.out, HO3.out.drewN _⟩
            rw [← hw2]
            have HG := Lib.hid g7
            clear g7 hw2 r0 r1 r2 r3 r4 r5 r6 r7 b0
            go_wp2_with fail
            go_still_tail 24, (by kernel_rfl)
            still_call ((three_any _ 2 13 22 false _ hs0.1 hs0.2 (by decide) (by decide) (by decide) (by decide) (by decide) (by decide)).mono fun _ _ h => ⟨h.1, h.2.symm⟩)
            repeat still_step
            refine wpStill_nil ?_
            change wpList _ _ _ _ _ w2.drew
            obtain ⟨w3, hw3⟩ : ∃ w3 : World, w3 = w2.drew := ⟨_, rfl⟩
            have g8 : w3.heap[w.heap.size]? = some (.cells (rowC .u32 16 (nearF wt (k + 1))) 132 (0, 0)) ∧ w3.heap[w1.heap.size]? = some (.cells (rowC .u32 8 (sF st wt k)) 107 (0, 0)) ∧ Only [] w w3 := by
              rw [hw3]; exact ⟨HG.out.1, HG.out.2.1, HG.out.2.2.drew⟩
            rw [← hw3]
            have HG2 := Lib.hid g8
            clear g8 hw3 g0 g1 g2 g3 g4 g5 g6 HG
            go_wp2_with (refine wpList_store_at w1.heap.size 107 (rowC .u32 8 (sF st wt k)) (rowC .u32 8 (sF st wt (k + 1))) HG2.out.2.1 (by rfl) (by rfl) (by rw [rowC_size]; kernel_rfl) (by rw [rowC_size, rowC_size]) (rowC_one _ _ _) ?_)
            go_roundw
            case rel =>
              obtain ⟨G1, G2, G3⟩ := HG2.out
              refine ⟨k + 1, by omega, by go_num, ?_, setRow_heap _ _ _ _ _ _ G2, G3.setRow _ _ (Or.inl (by omega))⟩
              rw [setRow_other _ _ _ _ (by omega)]
              exact G1
            case measure => simp [intOf]; omega
        · obtain rfl : k = 64 := by omega
          have HB2 := Lib.hid hB
          have HS2 := Lib.hid hS
          have HO2 := Lib.hid hO
          clear hB hS hO
          go_wp2_with fail
          go_loopw [126] (fun i wx => ∃ k : Nat, k ≤ 8 ∧ i = .int .i64 k ∧ wx.heap[P]? = some (.cells (millC (fun j => if j < k then grindF st wt j else st j) wt long) 110 (0, 0)) ∧
            wx.heap[w1.heap.size]? = some (.cells (rowC .u32 8 (sF st wt 64)) 107 (0, 0)) ∧ Only [P] w wx) (fun i _ => (8 - intOf i).toNat)
          case atStart =>
            refine ⟨0, by omega, rfl, ?_, HS2.out, HO2.out.mono (by simp)⟩
            have := HO2.out.keeps HP.out (by simp)
            simpa using this
          case round =>
            obtain ⟨k, hk, rfl, hP, hS, hO⟩ := hrel
            by_cases hlt : k < 8
            · have a0 : wr.cell? ⟨P, k, none⟩ = some (.int .u32 (st k)) := by
                rw [cell_of_row wr P k _ _ _ hP, millC_st _ _ _ _ hlt, if_neg (by omega)]
              have a1 := row_cell hS k hlt
              have f0 := frozen_of_row wr P k _ _ hP
              have i0 : (k : Int) < 8 := by omega
              have HP3 := Lib.hid hP
              have HS3 := Lib.hid hS
              have HO3 := Lib.hid hO
              clear hP hS hO
              go_wp2_with fail
              go_still_tail 13, (by kernel_rfl)
              change wpList _ _ _ _ _ wr.drew
              go_wp2_with fail
              go_roundw
              case rel =>
                (repeat apply Exists.intro)
                refine ⟨⟨k + 1, by omega, by go_num, ?_, ?_, (HO3.out.setCell _ _ (Or.inr (by simp))).drew⟩, rfl⟩
                · have h1 := heap_setCell_same wr P k _ _ (.int .u32 (grindF st wt k)) HP3.out
                  rw [millC_set_st _ _ _ _ _ hlt, millC_congr _ (fun j => if j < k + 1 then grindF st wt j else st j) _ _ (fun j _ => by
                    simp only [upd]; by_cases e : j = k
                    · subst e; simp
                    · rw [if_neg e]; by_cases e' : j < k
                      · rw [if_pos e', if_pos (by omega)]
                      · rw [if_neg e', if_neg (by omega)])] at h1
                  exact h1
                · exact (heap_setCell_other _ _ _ _ (by show w1.heap.size ≠ P; have := HO.out.size; omega)).trans HS3.out
              case measure => simp [intOf]; omega
            · obtain rfl : k = 8 := by omega
              rw [millC_congr _ (grindF st wt) _ _ (fun j hj => by rw [if_pos hj])] at hP
              have HF := Lib.hid (And.intro hO hP)
              clear hP hS hO
              go_wp2_with fail
              go_end0
              exact ⟨rfl, HF.out⟩
end Go.Proofs.Ythoiihpbgdjbfaa
