/- mill: Sum. -/
import Derived.Test.YthoiihpbgdjbfaaMillD
import Derived.Test.YthoiihpbgdjbfaaMem2
import Derived.Deep.RegionLaw
namespace Go.Proofs.Ythoiihpbgdjbfaa
open Go.RowKit

def fillF (j : Nat) : Int := if j = 0 then 128 else 0
/-- The four bytes of a number. -/
def fourF (x : Int) : Nat → Int
  | 0 => x / 16777216
  | 1 => x / 65536 % 256
  | 2 => x / 256 % 256
  | _ => x % 256
def lenF (L : Nat) (j : Nat) : Int := if j < 4 then fourF ((L : Int) * 8 / 4294967296) j else fourF ((L : Int) * 8 % 4294967296) (j - 4)
def MS.done (m : MS) : MS := (m.feeds fillF (64 - (m.long + 8) % 64)).feeds (lenF m.long) 8
def MS.sum (m : MS) (j : Nat) : Int := fourF (m.done.st (j / 4)) (j % 4)

theorem bytes_of_row {w : World} {base e : Nat} {v : Value} {n P : Nat} {f : Nat → Int} (h : w.ownsRow base e 1 v n (rowC .u8 n f).toList) (hf : ∀ j, j < n → U8 (f j)) (hP : v.ownBlock ≠ some P) : BytesAt w v n f P := by
  obtain ⟨_, h⟩ := h
  rcases h with ⟨rfl, rfl⟩ | ⟨g, cap, cur, rfl, hg, hh, hle, hcap, hsz, htake⟩
  · exact ⟨none, 0, rfl, Nat.le_refl _, by omega, hf, Or.inl rfl⟩
  · refine ⟨some ⟨g, 0, none⟩, cap, rfl, hle, hcap, hf, Or.inr ⟨g, 0, rfl, fun e => hP (by rw [e]; rfl), lt_of_block hh, fun j hj => ?_⟩⟩
    rw [Nat.zero_add, cell_of_row w g j _ _ _ hh, ← Array.getElem?_toList]
    have : (cur.toList.take (n * 1))[j]? = some (.int .u8 (f j)) := by rw [htake, Array.getElem?_toList, rowC_get _ _ _ _ hj]
    rwa [List.getElem?_take, if_pos (by omega)] at this
theorem fourF_bd (x : Int) (h : U32 x) (j : Nat) : U8 (fourF x j) := by
  obtain ⟨h0, h1⟩ := h
  unfold fourF
  split <;> exact ⟨by omega, by omega⟩
theorem lenF_bd (L : Nat) (h : L ≤ 140737488355328) (j : Nat) : U8 (lenF L j) := by
  unfold lenF
  split
  · exact fourF_bd _ ⟨by omega, by omega⟩ _
  · exact fourF_bd _ ⟨by omega, by omega⟩ _
theorem lenF_rows (L : Nat) : (rowC .u8 4 (fourF ((L : Int) * 8 / 4294967296))).toList ++ (rowC .u8 4 (fourF ((L : Int) * 8 % 4294967296))).toList = (rowC .u8 8 (lenF L)).toList := rfl
theorem four_row (n : Int) (w : World) (h0 : 0 ≤ n) (h1 : n < 4294967296) :
    Calls Try.prog 39 #[.int .u32 n] w fun e w' => e = .returned (.slice (some ⟨w.heap.size, 0, none⟩) 4 4) ∧ w' = w.alloc (.cells (rowC .u8 4 (fourF n)) 5) := four_any n w h0 h1
theorem row_news {w : World} {b e n : Nat} {k : IntKind} {f : Nat → Int} (h : w.heap[b]? = some (.cells (rowC k n f) e (0, 0))) (j : Nat) (u : Value) (hu : (rowC k n f).toList[j]? = some u) : w.cell? ((⟨b, 0, none⟩ : Addr).add j) = some u := by
  rw [Addr.add_mid, Nat.zero_add, cell_of_row w b j _ _ _ h, ← Array.getElem?_toList]; exact hu
theorem row_ones (k : IntKind) (n : Nat) (f : Nat → Int) : ∀ u ∈ (rowC k n f).toList, u.oneCell' = true := by
  have := rowC_one k n f
  rw [Array.all_eq_true_iff_forall_mem] at this
  intro u hu
  exact this u (by simpa using hu)

theorem step_copy_q {P : Program} {ops : Array Oper} {dst : Option Nat} {ty0 : TypeId} {pos : String} {after : _} {a : Act} {w : World} {K : Act → World → Prop} {Q : Exit → Act → World → Prop} {E : Prop} {d s : Operand} {dT sT : TypeId}
    (elem : TypeId) (hu : P.underlying dT = some (.slice elem)) (hsz : (P.info? elem).map (·.size) = some 1)
    (g off dLen dCap : Nat) (ad : Addr) (sLen sCap : Nat) (hd : a.eval d = .slice (some ⟨g, off, none⟩) dLen dCap) (hs : a.eval s = .slice (some ad) sLen sCap)
    (cur new : Array Value) (t : TypeId) (hg : w.heap[g]? = some (.cells cur t (0, 0))) (cs : List Value) (q : Nat) (hq : cs.length = q) (hn : q = Nat.min sLen dLen)
    (hsrc : ∀ j v, cs[j]? = some v → w.cell? (ad.add j) = some v) (hfit : off + q ≤ cur.size) (h1 : ∀ v ∈ cs, v.oneCell' = true)
    (hnew : ∀ i, new[i]? = if off ≤ i ∧ i < off + cs.length then cs[i - off]? else cur[i]?)
    (h : K (a.put dst (.int .i64 q)) (w.setRow g new)) :
    if Region.wanted (⟨dst, .call { callee := .builtin .copy, args := #[d, s], argTypes := #[dT, sT] }, ty0, pos, after, none⟩ : Oper) (yielded ops a.tmps) = true then
      Oper.wp P ⟨dst, .call { callee := .builtin .copy, args := #[d, s], argTypes := #[dT, sT] }, ty0, pos, after, none⟩ a w K Q else E := by
  subst hq
  rw [if_pos (by simp [Region.wanted])]
  have hrun := run_copy_row (P := P) w dT sT ty0 elem g off dLen dCap ad sLen sCap cur t cs hu hsz hg hn hsrc hfit h1
  rw [List.append_assoc, splice_ext _ _ _ _ hfit hnew] at hrun
  unfold Oper.wp
  simp [execOp, resolve, invoke, builtin, hd, hs, hrun, Result.andThen]
  exact h

theorem row_range {w : World} {b n e : Nat} {k : IntKind} {f : Nat → Int} {fr : Nat × Nat} (h : w.heap[b]? = some (.cells (rowC k n f) e fr)) : w.rangeAt b 0 (rowC k n f).toList := fun j v hv => by
  rw [Nat.zero_add, cell_of_row w b j _ _ _ h, ← Array.getElem?_toList]; exact hv
theorem sum_copied (m : MS) (k : Nat) (hk : k < 8) (i : Nat) : (rowC .u8 32 fun j => if j < 4 * (k + 1) then m.sum j else 0)[i]? =
    if 4 * k ≤ i ∧ i < 4 * k + (rowC .u8 4 (fourF (m.done.st k))).toList.length then (rowC .u8 4 (fourF (m.done.st k))).toList[i - 4 * k]? else (rowC .u8 32 fun j => if j < 4 * k then m.sum j else 0)[i]? := by
  have hl : (rowC .u8 4 (fourF (m.done.st k))).toList.length = 4 := by simp [rowC]
  rw [hl]
  by_cases h : 4 * k ≤ i ∧ i < 4 * k + 4
  · rw [if_pos h, rowC_get _ _ _ _ (by omega), Array.getElem?_toList, rowC_get _ _ _ _ (by omega)]
    rw [if_pos (by omega)]
    unfold MS.sum
    rw [show i / 4 = k by omega, show i % 4 = i - 4 * k by omega]
  · rw [if_neg h]
    by_cases h' : i < 32
    · rw [rowC_get _ _ _ _ h', rowC_get _ _ _ _ h']
      by_cases h2 : i < 4 * k
      · rw [if_pos h2, if_pos (by omega)]
      · rw [if_neg h2, if_neg (by omega)]
    · rw [Array.getElem?_eq_none (by rw [rowC_size]; omega), Array.getElem?_eq_none (by rw [rowC_size]; omega)]

theorem cells_one (m : MS) : m.cells.all (·.oneCell') = true := by
  rw [Array.all_eq_true_iff_forall_mem]
  intro v hv
  obtain ⟨i, hi⟩ := Array.mem_iff_getElem?.1 hv
  rw [cells_split] at hi
  split at hi
  · cases hi; rfl
  · split at hi
    · cases hi; rfl
    · split at hi
      · cases hi; rfl
      · cases hi

theorem fillF_bd (j : Nat) : U8 (fillF j) := by
  unfold fillF; split
  · exact ⟨by decide, by decide⟩
  · exact ⟨by decide, by decide⟩
theorem done_ok (m : MS) (h : m.ok) (hl : m.long ≤ 140737488355328) : m.done.ok := feeds_ok _ _ (feeds_ok m fillF h _ fun j _ => fillF_bd j) _ fun j _ => lenF_bd _ hl j

set_option maxRecDepth 100000 in
set_option maxHeartbeats 400000 in
theorem sum_any (P : Nat) (m : MS) (w : World) (hm : m.ok) (hP : w.heap[P]? = some (.cells m.cells 110 (0, 0))) (hl : m.long ≤ 140737488355328) :
    Calls Try.prog 40 #[.pointer (some ⟨P, 0, none⟩)] w fun e w' => e = .returned (.agg (rowC .u8 32 m.sum)) ∧ Only [] w w' := by
  have hPlt := lt_of_block hP
  have HP := Lib.hid hP
  have Hm := Lib.hid hm
  have hr : w.rangeAt P 0 m.cells.toList := fun j v hv => by
    rw [Nat.zero_add, cell_of_row w P j _ _ _ hP, ← Array.getElem?_toList]; exact hv
  have HR := Lib.hid hr
  clear hP hm hr
  have hz : ∀ [Inhabited Nat], ∀ W, (zeroValue 110).run Try.prog W = .ok (.agg (millC (fun _ => 0) (fun _ => 0) 0)) W :=
    (zero_of_info (P := Try.prog) (t := 110) (v := .agg (millC (fun _ => 0) (fun _ => 0) 0)) (n := 73) (by kernel_rfl)).1
  go_enter Try.func40, Try.ntmps40
  go_upto_region 3 with (fail)
  refine wp_name (fun W => W.heap[w.heap.size]? = some (.cells (rowC .u8 32 fun _ => 0) 87 (0, 0)) ∧ Only [] w W) ⟨heap_alloc_last _ _, (Only.refl _ _).alloc _⟩ ?_
  intro w1 ⟨hD, hO⟩
  have hr1 : w1.rangeAt P 0 m.cells.toList := fun j v hv => (hO.cell (p := ⟨P, 0 + j, none⟩) hPlt (by simp)).trans (HR.out j v hv)
  have HR1 := Lib.hid hr1
  have hDlt := lt_of_block hD
  have HO := Lib.hid (And.intro hD hO)
  clear hr1 hD hO
  go_upto_region 4 with (first
    | ((with_reducible refine wpList_load_part P 0 m.cells _ HR1.out ?_ Try.underlying110 ?_ ?_ ?_); (· rfl); (· rfl); (· rw [MS.cells, millC_size]; kernel_rfl))
    | ((with_reducible refine wpList_store_new m.cells ?_ ?_ ?_ ?_ (cells_one m) ?_); (· rfl); (· rfl); (· rw [MS.cells, millC_size]; kernel_rfl); (· rw [MS.cells, millC_size, millC_size])))
  refine wp_name (fun W => W.heap[w1.heap.size]? = some (.cells m.cells 110 (0, 0)) ∧ Only [] w1 W) ⟨heap_alloc_last _ _, (Only.refl _ _).alloc _⟩ ?_
  intro w2 ⟨hQ, hO2⟩
  have hQlt := lt_of_block hQ
  have c72 : w2.cell? ⟨w1.heap.size, 72, none⟩ = some (.int .u64 (m.long : Int)) := by
    rw [cell_of_row w2 _ 72 _ _ _ hQ, cells_split]; rfl
  obtain ⟨n, hn⟩ : ∃ n, n = 64 - (m.long + 8) % 64 := ⟨_, rfl⟩
  have n0 : 0 < n := by omega
  have n1 : n ≤ 64 := by omega
  have e1 : ∀ [Inhabited Nat], (64 : Int) - ((m.long : Int) + 8) % 64 = n := by intro _; omega
  have e2 : ∀ [Inhabited Nat], ∀ W, (Instr.makeSlice 69 (.int .u64 n) (.int .u64 n)).run Try.prog W = .ok (.slice (some ⟨W.heap.size, 0, none⟩) n n) (W.alloc (.cells (rowC .u8 n fun _ => 0) 5)) :=
    fun {_} W => run_make_row 69 5 .u8 1 Try.underlying69 (by kernel_rfl) .u64 .u64 n (by omega) (by omega) W
  have HN := Lib.hid hn
  clear hn
  go_upto_region 5 with (fail)
  refine wp_name (fun W => W.heap[w2.heap.size]? = some (.cells (rowC .u8 n fun _ => 0) 5 (0, 0)) ∧ Only [] w2 W) ⟨heap_alloc_last _ _, (Only.refl _ _).alloc _⟩ ?_
  intro w3 ⟨hF, hO3⟩
  have c0 := row_cell hF 0 n0
  have f0 := frozen_of_row w3 _ 0 _ _ hF
  have i0 : (0 : Int) < (n : Int) := by omega
  go_upto_region 6 with (fail)
  have hF4 := row_set hF 0 128
  refine wp_name (fun W => W.heap[w2.heap.size]? = some (.cells (rowC .u8 n (upd (fun _ => 0) 0 128)) 5 (0, 0)) ∧ W.heap[w1.heap.size]? = some (.cells m.cells 110 (0, 0)) ∧ Only [] w W ∧ Only [] w1 W)
    ⟨hF4, ((hO3.setCell _ _ (Or.inl (Nat.le_refl _))).keeps hQ (by simp)), (HO.out.2.trans (hO2.trans (hO3.setCell _ _ (Or.inl (Nat.le_refl _))) (by simp)) (by simp)), hO2.trans (hO3.setCell _ _ (Or.inl (Nat.le_refl _))) (by simp)⟩ ?_
  intro w4 ⟨hF5, hQ4, hO4, hO14⟩
  have hD4 := hO14.keeps HO.out.1 (by simp)
  have HD4 := Lib.hid hD4
  clear hD4 hO14
  have d72 : w4.cell? ⟨w1.heap.size, 72, none⟩ = some (.int .u64 (m.long : Int)) := by
    rw [cell_of_row w4 _ 72 _ _ _ hQ4, cells_split]; rfl
  have hb4 : BytesAt w4 (.slice (some ⟨w2.heap.size, 0, none⟩) n n) n fillF w1.heap.size := by
    refine ⟨_, _, rfl, Nat.le_refl _, by omega, fun j _ => ?_, Or.inr ⟨w2.heap.size, 0, rfl, by omega, lt_of_block hF5, fun j hj => ?_⟩⟩
    · unfold fillF; split
      · exact ⟨by decide, by decide⟩
      · exact ⟨by decide, by decide⟩
    · rw [Nat.zero_add, row_cell hF5 j hj]; simp only [upd, fillF]
  have HP4 := Lib.hid (put_bytes w1.heap.size _ n m fillF w4 Hm.out hQ4 hb4 (by omega))
  have i1 : (m.long : Int) * 8 ≤ 1125899906842624 := by omega
  have i2 : (0 : Int) ≤ (m.long : Int) * 8 := by omega
  have HK := Lib.hid (And.intro hQ (And.intro hO2 (And.intro hF (And.intro hO3 (And.intro hF4 (And.intro hF5 (And.intro hQ4 (And.intro hO4 hb4))))))))
  clear hQ hO2 hF hO3 hF4 hF5 hQ4 hO4 hb4 e1 e2 c0 f0 c72
  go_wp2_with fail
  refine HP4.out.mono ?_
  rintro e w5 ⟨rfl, hO5, hQ5⟩
  have HK5 := Lib.hid (And.intro hO5 hQ5)
  clear hO5 hQ5
  go_upto_region 8 with (fail)
  have i3 : (0 : Int) ≤ (m.long : Int) * 8 / 4294967296 := by omega
  have i4 : (m.long : Int) * 8 / 4294967296 < 4294967296 := by omega
  have i5 : (0 : Int) ≤ (m.long : Int) * 8 % 4294967296 := by omega
  have i6 : (m.long : Int) * 8 % 4294967296 < 4294967296 := by omega
  go_wp2_with (first
    | (go_at_call 39; refine (four_row _ _ (by omega) (by omega)).mono ?_; rintro e w' ⟨rfl, rfl⟩)
    | ((with_reducible refine wpList_app w5.heap.size 5 (.int .u8 0) 1 1 Try.underlying69 ?_ ?_ ?_ (.slice (some ⟨w5.heap.size, 0, none⟩) 4 4) 4 (rowC .u8 4 (fourF ((m.long : Int) * 8 / 4294967296))).toList ?_ ?_ ⟨w5.heap.size + 1, 0, none⟩ 4 4 (rowC .u8 4 (fourF ((m.long : Int) * 8 % 4294967296))).toList ?_ ?_ ?_ ?_ ?_ ?_ ?_ ?_)
       (· kernel_rfl); (· rfl); (· decide); (· rfl); (· exact owns_row (heap_alloc2_old _ _ _) (Nat.le_refl _) (by unfold maxLen; omega)); (· rfl); (· rfl); (· exact row_news (heap_alloc2_new _ _ _)); (· exact row_ones _ _ _); (· unfold maxLen; omega); (· omega); (· simp; omega)
       (intro v6 w6 hown hgr hnil hblk)
       (rw [lenF_rows] at hown)
       (have HA := Lib.hid (And.intro hown (And.intro hgr hblk)))
       (clear hown hgr hnil hblk)))
  obtain ⟨hO5, hQ5⟩ := HK5.out
  obtain ⟨hown, hgr, hblk⟩ := HA.out
  have hO6 : Only [] w5 w6 := (((Only.refl [] w5).alloc _).alloc _).grown hgr (fun k hk => Or.inl (by cases hk; exact Nat.le_refl _))
  have hs5 := hO5.size
  have hs4 := HK.out.2.2.2.2.2.2.2.1.size
  have hQ45 := lt_of_block HK.out.2.2.2.2.2.2.1
  have hQ6 := hO6.keeps hQ5 (by simp)
  have hb6 : BytesAt w6 v6 8 (lenF m.long) w1.heap.size := bytes_of_row hown (fun j _ => lenF_bd _ hl j) (by
    intro e
    rcases hblk with h | h
    · rw [h] at e; simp only [Value.ownBlock, Option.some.injEq] at e; omega
    · rw [h] at e; simp at e; omega)
  have hok5 := feeds_ok m fillF Hm.out n (fun j _ => HK.out.2.2.2.2.2.2.2.2.u8 j (by omega))
  have hlong := feeds_long m fillF n
  have HP6 := Lib.hid (put_bytes w1.heap.size v6 8 _ (lenF m.long) w6 hok5 hQ6 hb6 (by omega))
  have HK6 := Lib.hid hO6
  clear hO5 hQ5 hown hgr hblk hO6 hs5 hs4 hQ6 hb6 hok5 hlong
  refine HP6.out.mono ?_
  rintro e w7 ⟨rfl, hO7, hQ7⟩
  have hdone : (m.feeds fillF n).feeds (lenF m.long) 8 = m.done := by rw [MS.done, ← HN.out]
  rw [hdone] at hQ7
  have hO47 : Only [w1.heap.size] w4 w7 := (HK5.out.1.trans HK6.out (by simp)).trans hO7 (by simp)
  have hO07 : Only [] w w7 := HK.out.2.2.2.2.2.2.2.1.trans hO47 (by intro x hx hlt; simp at hx; have := HO.out.2.size; omega)
  have HK7 := Lib.hid (And.intro hQ7 (And.intro hO47 hO07))
  clear hQ7 hO7 hO47 hO07
  go_upto_region 10 with (fail)
  refine wp_name (fun W => W.heap[w7.heap.size]? = some (.cells (rowC .u8 32 fun _ => 0) 87 (0, 0)) ∧ Only [] w7 W) ⟨heap_alloc_last _ _, (Only.refl _ _).alloc _⟩ ?_
  intro w8 ⟨hE, hO8⟩
  have hElt := lt_of_block hE
  have hr8 := Lib.hid (millC_range (show w8.heap[w1.heap.size]? = some (.cells (millC m.done.st m.done.wt m.done.long) 110 (0, 0)) from hO8.keeps HK7.out.1 (by simp)))
  have HK8 := Lib.hid (And.intro hE hO8)
  clear hE hO8
  go_wp2_with (first
    | ((with_reducible refine wpList_load_part w1.heap.size 0 (rowC .u32 8 m.done.st) _ hr8.out ?_ Try.underlying107 ?_ ?_ ?_); (· rfl); (· rfl); (· rw [rowC_size]; kernel_rfl)))
  have hst : ∀ j, j < 8 → U32 (m.done.st j) := (done_ok m Hm.out hl).1
  have HST := Lib.hid hst
  clear hst
  go_loopw [39] (fun i wr => ∃ k : Nat, k ≤ 8 ∧ i = .int .i64 k ∧ wr.heap[w7.heap.size]? = some (.cells (rowC .u8 32 fun j => if j < 4 * k then m.sum j else 0) 87 (0, 0)) ∧ Only [] w7 wr) (fun i _ => (8 - intOf i).toNat)
  case atStart => exact ⟨0, by omega, rfl, HK8.out.1, HK8.out.2⟩
  case round =>
    obtain ⟨k, hk, rfl, hE, hO⟩ := hrel
    by_cases hlt : k < 8
    · have hix : ∀ W, (Instr.index 107 (.agg (rowC .u32 8 m.done.st)) (.int .i64 k)).run Try.prog W = .ok (.int .u32 (m.done.st k)) W :=
        fun W => run_index_row W Try.underlying107 (by kernel_rfl) Try.underlying99 rfl k hlt (rowC_get _ _ _ _ hlt)
      have i7 : (0 : Int) ≤ 4 * (k : Int) := by omega
      have i8 : 4 * (k : Int) ≤ 32 := by omega
      have i9 : ¬ 32 = 4 * k := by omega
      have y4 : ∀ [Inhabited Nat], IntKind.i64.wrap (4 * (k : Int)) = 4 * k := IntWalk.i64_in _ (by omega)
      have z4 : ∀ [Inhabited Nat], (4 * (k : Int)).toNat = 4 * k := by intro _; omega
      have HE := Lib.hid (And.intro hE hO)
      clear hE hO i1 i2 i3 i4 i5 i6 n0 n1 hl
      go_upto_region 13 with (fail)
      have hs := HST.out k hlt
      go_region_law (first
        | ((with_reducible refine step_copy_q 5 Try.underlying69 ?_ w7.heap.size (4 * k) (32 - 4 * k) (32 - 4 * k) ⟨wr.heap.size, 0, none⟩ 4 4 ?_ ?_ (rowC .u8 32 fun j => if j < 4 * k then m.sum j else 0) (rowC .u8 32 fun j => if j < 4 * (k + 1) then m.sum j else 0) 87 ?_ (rowC .u8 4 (fourF (m.done.st k))).toList 4 ?_ ?_ ?_ ?_ (row_ones _ _ _) ?_ ?_)
           (· kernel_rfl); (· rfl); (· rfl); (· exact (Below.heap_alloc _ _ _ (lt_of_block HE.out.1)).trans HE.out.1); (· rfl); (· show 4 = min 4 (32 - 4 * k); omega); (· exact row_news (heap_alloc_last _ _)); (· rw [rowC_size]; omega); (· exact sum_copied m k hlt))
        | (go_simp; go_at_call 39; refine (four_row _ _ hs.1 hs.2).mono ?_; rintro e w' ⟨rfl, rfl⟩))
      go_wp2_with fail
      go_roundw
      case rel =>
        exact ⟨k + 1, by omega, by go_num, setRow_heap _ _ _ _ _ _ ((Below.heap_alloc _ _ _ (lt_of_block HE.out.1)).trans HE.out.1), (HE.out.2.drew.alloc _).setRow _ _ (Or.inl (Nat.le_refl _))⟩
      case measure => simp [intOf]; omega
    · obtain rfl : k = 8 := by omega
      rw [rowC_congr _ 32 _ m.sum (fun j hj => by rw [if_pos (by omega)])] at hE
      have hD8 : wr.heap[w.heap.size]? = some (.cells (rowC .u8 32 fun _ => 0) 87 (0, 0)) :=
        hO.keeps (HK7.out.2.1.keeps HD4.out (by simp; omega)) (by simp)
      have hO9 := (HK7.out.2.2.trans hO (by simp)).setRow w.heap.size (rowC .u8 32 m.sum) (Or.inl (Nat.le_refl _))
      have hr9 := Lib.hid (row_range hE)
      have HF := Lib.hid (And.intro hD8 hO9)
      clear hE hO hD8 hO9 i1 i2 i3 i4 i5 i6 n0 n1 hl
      go_wp2_with (first
        | ((with_reducible refine wpList_load_part w7.heap.size 0 (rowC .u8 32 m.sum) _ hr9.out ?_ Try.underlying87 ?_ ?_ ?_); (· rfl); (· rfl); (· rw [rowC_size]; kernel_rfl))
        | ((with_reducible refine wpList_store_at w.heap.size 87 (rowC .u8 32 fun _ => 0) (rowC .u8 32 m.sum) HF.out.1 ?_ ?_ ?_ ?_ (rowC_one _ _ _) ?_); (· rfl); (· rfl); (· rw [rowC_size]; kernel_rfl); (· rw [rowC_size, rowC_size])))
      exact bodyPost_ret (v := .agg (rowC .u8 32 m.sum)) (results_cell_row rfl _ _ w.heap.size 87 (rowC .u8 32 m.sum) (0, 0) _ rfl (setRow_heap _ _ _ _ _ _ HF.out.1) Try.underlying87 rfl (by rw [rowC_size]; kernel_rfl)) rfl ⟨rfl, HF.out.2⟩
end Go.Proofs.Ythoiihpbgdjbfaa
