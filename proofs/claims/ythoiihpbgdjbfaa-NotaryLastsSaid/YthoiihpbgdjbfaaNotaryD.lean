/- notary: Tell. -/
import Derived.Test.YthoiihpbgdjbfaaNotaryC
import Derived.Test.YthoiihpbgdjbfaaStill
namespace Go.Proofs.Ythoiihpbgdjbfaa
open Go.RowKit
open Go.Maps (Keyed)

theorem sum_bd (m : MS) (h : m.ok) (hl : m.long ≤ 140737488355328) (j : Nat) (hj : j < 32) : U8 (m.sum j) := fourF_bd _ ((done_ok m h hl).1 _ (by omega)) _
theorem lockF_bd (s : Nat → Int) (hs : ∀ j, j < 32 → U8 (s j)) (j : Nat) (hj : j < 32) : U8 (lockF s j) :=
  sum_bd _ (forM_ok 6 1 _ _ ⟨by decide, by decide⟩ (by omega) 1 fun _ _ => ⟨by omega, hs⟩) (by rw [forM_long]; show 2 + 4 * 1 + (0 + 32) ≤ _; omega) j hj

theorem mput_fresh (l : List (Value × Value)) (k v : Value) (h : mget l k = none) : mput l k v = l ++ [(k, v)] := by
  induction l with
  | nil => rfl
  | cons p r ih =>
    rw [mget] at h
    split at h
    · cases h
    · rename_i hne
      rw [mput, if_neg hne, ih h]; rfl
theorem IsNotary.ne {w : World} {N M : Nat} {B : Book} (h : IsNotary w N M B) : N ≠ M := by
  intro e
  obtain ⟨es, clock, h1, _⟩ := h.2.1
  rw [← e, h.1] at h1
  cases h1
theorem tell_nil (s : Nat → Int) (height : Int) (w : World) :
    Calls Try.prog 8 #[.pointer none, .agg (rowC .u8 32 s), .int .u64 height] w fun e w' => e = .returned (.int .i64 2) ∧ Only [] w w' := by
  go_enter Try.func8, Try.ntmps8
  go_wp2_with fail
  go_ret
  exact ⟨rfl, (Only.refl _ _).alloc _⟩

set_option maxRecDepth 100000 in
set_option maxHeartbeats 2000000 in
theorem tell_any (N M : Nat) (B : Book) (s : Nat → Int) (hs : ∀ j, j < 32 → U8 (s j)) (height : Int) (h0 : 0 ≤ height) (h1 : height < 18446744073709551616) (w : World) (hN : IsNotary w N M B) :
    Calls Try.prog 8 #[.pointer (some ⟨N, 0, none⟩), .agg (rowC .u8 32 s), .int .u64 height] w fun e w' =>
      (((bget B (hashV (lockF s))).isSome = true ∧ e = .returned (.int .i64 7) ∧ IsNotary w' N M B) ∨
       ((bget B (hashV (lockF s))).isSome = false ∧ e = .returned (.int .i64 0) ∧ IsNotary w' N M (B ++ [(lockF s, s, height)]))) ∧ Only [M] w w' := by
  have HN := Lib.hid hN
  have Hh := Lib.hid (And.intro h0 h1)
  have Hs := Lib.hid hs
  have hHu := lockF_bd s hs
  have HHu := Lib.hid hHu
  clear hN h0 h1 hs hHu
  obtain ⟨h, hh⟩ : ∃ h, h = lockF s := ⟨_, rfl⟩
  have Hh2 := Lib.hid hh
  rw [← hh]
  clear hh
  go_enter Try.func8, Try.ntmps8
  go_upto_region 3 with (fail)
  refine wp_name (fun W => W.heap[w.heap.size]? = some (.cells (rowC .u8 32 s) 46 (0, 0)) ∧ Only [] w W) ⟨heap_alloc_last _ _, (Only.refl _ _).alloc _⟩ ?_
  intro w1 ⟨hS, hO⟩
  have HR := Lib.hid (row_range hS)
  have hSlt := lt_of_block hS
  have H1 := Lib.hid (And.intro hS hO)
  clear hS hO
  go_upto_region 4 with (first
    | ((with_reducible refine wpList_load_part w.heap.size 0 (rowC .u8 32 s) _ HR.out ?_ Try.underlying46 ?_ ?_ ?_); (· rfl); (· rfl); (· rw [rowC_size]; kernel_rfl))
    | (go_at_call 22; refine (lock_any s Hs.out _).mono ?_; rintro e w2 ⟨rfl, hO2⟩; (have HO2 := Lib.hid hO2); clear hO2)
    | ((with_reducible refine wpList_store_new (rowC .u8 32 (lockF s)) ?_ ?_ ?_ ?_ (rowC_one _ _ _) ?_); (· rfl); (· rfl); (· rw [rowC_size]; kernel_rfl); (· rw [rowC_size]; kernel_rfl)))
  rw [← Hh2.out]
  refine wp_name (fun W => W.heap[w2.heap.size]? = some (.cells (rowC .u8 32 h) 53 (0, 0)) ∧ Only [] w2 W) ⟨heap_alloc_last _ _, (Only.refl _ _).alloc _⟩ ?_
  intro w3 ⟨hH3, hO23⟩
  have hO13 := HO2.out.trans hO23 (by simp)
  have hS3 := hO13.keeps H1.out.1 (by simp)
  have hO03 := H1.out.2.trans hO13 (by simp)
  have hN3 := HN.out.only hO03 (by simp) (by simp)
  obtain ⟨el, hel⟩ : ∃ l : List Value, l = (entryC (bgetD B (hashV h)).1 (bgetD B (hashV h)).2).toList := ⟨_, rfl⟩
  have hS : ∀ W : World, Only [] w3 W → W.cell? ⟨N, 0, none⟩ = some (.map (some M)) ∧ W.rangeAt w2.heap.size 0 (rowC .u8 32 h).toList ∧
      (Instr.lookup 72 (.map (some M)) (.agg (rowC .u8 32 h)) true).run Try.prog W = .ok (.tuple #[.agg el.toArray, .bool (bget B (hashV h)).isSome]) W :=
    fun W hW => ⟨(cell_of_one (hN3.only hW (by simp) (by simp)).1), row_range (hW.keeps hH3 (by simp)), by
      have := (run_lookup_ok hash_law Try.underlying72 (hN3.only hW (by simp) (by simp)).2.1 hN3.2.2.1 (hash_key h (by rw [Hh2.out]; exact HHu.out)) entry_zero W rfl).1
      rw [mget_pairsD, mget_pairs_some] at this
      rw [hel]
      simpa [hashV, entryV] using this⟩
  have hu := Try.underlying53
  have hi : (Try.prog.info? 53).map (·.size) = some (rowC .u8 32 h).toList.length := by rw [show (rowC .u8 32 h).toList.length = 32 by simp [rowC]]; kernel_rfl
  have hi2 : (Try.prog.info? 76).map (·.size) = some el.length := by rw [hel, show (entryC (bgetD B (hashV h)).1 (bgetD B (hashV h)).2).toList.length = 33 by simp [entryC_size]]; kernel_rfl
  have hll : el.length = 33 := by rw [hel]; simp [entryC_size]
  have hst : ∀ old : Array Value, old.size = 33 → (storeCells ⟨w3.heap.size, 0, none⟩ el 0).run Try.prog ((w3.alloc (.cells old 76)).drew) = .ok () ((w3.alloc (.cells el.toArray 76)).drew) := fun old ho => by
    have := run_storeCells_new (P := Try.prog) w3.drew 76 old el.toArray (by simpa using hi2) (by simp [ho, hll]) (by rw [hel, Array.toArray_toList]; exact entryC_one _ _)
    rw [List.toList_toArray] at this
    exact this
  have H3 := Lib.hid (And.intro hH3 (And.intro hS3 (And.intro hO03 (And.intro hN3 hel))))
  have HS := Lib.hid hS
  clear hH3 hO23 hO13 hS3 hO03 hN3 hel hS hi2
  go_region_held3 (fun w' => w'.cell? ⟨N, 0, none⟩ = some (.map (some M)) ∧ w'.rangeAt w2.heap.size 0 (rowC .u8 32 h).toList ∧
      (Instr.lookup 72 (.map (some M)) (.agg (rowC .u8 32 h)) true).run Try.prog w' = .ok (.tuple #[.agg el.toArray, .bool (bget B (hashV h)).isSome]) w')
    (first | exact HS.out _ (Only.refl _ _).drew | exact HS.out _ ((Only.refl _ _).alloc _).drew | exact HS.out _ ((Only.refl _ _).drew.alloc _))
    (first | fail)
  all_goals
    clear hst hll hi
    cases hb : (bget B (hashV h)).isSome
    · have HB := Lib.hid hb
      clear hb
      go_upto_region 7 with (fail)
      refine wp_name (fun W => Only [] w3 W) ((Only.refl _ _).alloc _).drew ?_
      intro w4 hO4
      have hH4 := hO4.keeps H3.out.1 (by simp)
      have hS4 := hO4.keeps H3.out.2.1 (by simp)
      have hN4 := H3.out.2.2.2.1.only hO4 (by simp) (by simp)
      have hO04 := H3.out.2.2.1.trans hO4 (by simp)
      have c4 : w4.drew.cell? ⟨N, 0, none⟩ = some (.map (some M)) := cell_of_one hN4.1
      have R4 := Lib.hid (And.intro (show w4.drew.rangeAt w2.heap.size 0 (rowC .u8 32 h).toList from row_range hH4) (show w4.drew.rangeAt w.heap.size 0 (rowC .u8 32 s).toList from row_range hS4))
      have H4 := Lib.hid (And.intro hN4 hO04)
      clear hO4 hH4 hS4 hN4 hO04
      refine wp_region_still_tail 8 (by kernel_rfl) (by kernel_rfl) ?_
      simp only [List.take_succ_cons, List.take_zero, List.drop_succ_cons, List.drop_zero]
      still_step
      still_step
      still_step
      still_step
      change wpStill _ _ w4.drew _ _ _
      (with_reducible refine wpStill_load_part w2.heap.size 0 (rowC .u8 32 h) _ R4.out.1 ?_ Try.underlying53 ?_ ?_ ?_)
      · rfl
      · rfl
      · rw [rowC_size]; kernel_rfl
      (with_reducible refine wpStill_load_part w.heap.size 0 (rowC .u8 32 s) _ R4.out.2 ?_ Try.underlying46 ?_ ?_ ?_)
      · rfl
      · rfl
      · rw [rowC_size]; kernel_rfl
      still_step
      (with_reducible refine wpStill_build (entryC s height) ?_ ?_)
      · kernel_rfl
      (with_reducible refine wpStill_nil ?_)
      change wpList _ _ _ _ _ w4.drew
      have hM4 := (H4.out.1.only (Only.refl [] _).drew (by simp) (by simp)).2.1
      have hAp := H4.out.1.2.2.1
      (with_reducible refine wpList_mapUpdate_is 53 76 hash_law Try.underlying72 M (pairsOf B) hM4 hAp (hashV h) (entryV s height) ?_ ?_ ?_ ?_ ?_)
      · exact hash_key h (by rw [Hh2.out]; exact HHu.out)
      · rfl
      · rfl
      · rfl
      intro w5 hM5 ⟨ob, hw5⟩
      have hput : mput (pairsOf B) (hashV h) (entryV s height) = pairsOf (B ++ [(h, s, height)]) := by
        rw [mput_fresh _ _ _ (by rw [mget_pairs]; have := HB.out; cases hg : bget B (hashV h) with
          | none => rfl
          | some x => rw [hg] at this; cases this)]
        simp [pairsOf]
      have hO5 : Only [M] w4 w5 := by rw [hw5]; exact setObj_only ob (Only.refl _ _).drew (Or.inr (by simp))
      have H5 : Hid (IsNotary w5 N M (B ++ [(h, s, height)]) ∧ Only [M] w w5) := by
        refine ⟨⟨hO5.keeps H4.out.1.1 ?_, ?_, ?_, ?_⟩, (H4.out.2.mono (by simp)).trans hO5 (by simp)⟩
        · have := H4.out.1.ne; simpa using this
        · rw [← hput]; exact hM5
        · rw [← hput]; exact mput_apart _ _ _ H4.out.1.2.2.1
        · intro e he
          rcases List.mem_append.1 he with h' | h'
          · exact H4.out.1.2.2.2 e h'
          · simp at h'; subst h'
            exact ⟨by rw [Hh2.out]; exact HHu.out, Hs.out, Hh.out⟩
      clear hM4 hM5 hw5 hput hO5
      go_wp2_with fail
      go_ret
      exact ⟨Or.inr ⟨HB.out, rfl, H5.out.1⟩, H5.out.2⟩
    · have HB := Lib.hid hb
      clear hb
      go_wp2_with fail
      go_ret
      exact ⟨Or.inl ⟨HB.out, rfl, H3.out.2.2.2.1.only ((Only.refl [] _).alloc _).drew (by simp) (by simp)⟩, (H3.out.2.2.1.trans ((Only.refl [] _).alloc _).drew (by simp)).mono (by simp)⟩
end Go.Proofs.Ythoiihpbgdjbfaa
