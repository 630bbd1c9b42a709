/- law 10: NotaryLasts, the walk. -/
import Derived.Test.YthoiihpbgdjbfaaNotaryE
import Derived.Test.YthoiihpbgdjbfaaRd
import Derived.Deep.CutBlock
import Derived.Deep.DeepCutAuto
import Derived.Deep.LoopGhost
namespace Go.Proofs.Ythoiihpbgdjbfaa
open Go.RowKit
open Go.Maps (Keyed)

/-- A payment. -/
structure CD where
  id : Int
  by_ : Int
  am : Int
  h : Nat → Int
  ex : Int
def CD.cells (c : CD) : Array Value := condC c.id c.by_ c.am c.h c.ex
def CD.ok (c : CD) : Prop := (∀ j, j < 32 → U8 (c.h j)) ∧ 0 ≤ c.ex ∧ c.ex < 18446744073709551616

section
open Classical
theorem bget_append (B : Book) (e : (Nat → Int) × (Nat → Int) × Int) (k : Value) : bget (B ++ [e]) k = (bget B k).orElse fun _ => if hashV e.1 = k then some e.2 else none := by
  induction B with
  | nil => simp [bget]
  | cons x r ih =>
    rw [List.cons_append, bget, bget]
    split
    · rfl
    · exact ih
/-- A verdict that isn't open doesn't turn. -/
def Lasts (B : Book) (Ht : Int) (B' : Book) (Ht' : Int) : Prop := ∀ h ex, ofB B h ex Ht ≠ 0 → ofB B' h ex Ht' = ofB B h ex Ht
theorem lasts_same (B : Book) (Ht Ht' : Int) (h : Ht ≤ Ht') : Lasts B Ht B Ht' := by
  intro hh ex hne
  unfold ofB at hne ⊢
  by_cases h1 : inB B hh ex = true
  · simp [h1]
  · simp [h1] at hne ⊢
    rw [if_pos hne, if_pos (by omega)]
theorem lasts_tell (B : Book) (Ht Ht' : Int) (hk s : Nat → Int) (h : Ht ≤ Ht') (hf : (bget B (hashV hk)).isSome = false) : Lasts B Ht (B ++ [(hk, s, Ht')]) Ht' := by
  intro hh ex hne
  by_cases h1 : inB B hh ex = true
  · have h2 : inB (B ++ [(hk, s, Ht')]) hh ex = true := by
      unfold inB bgetD at h1 ⊢
      rw [bget_append]
      cases hb : bget B (hashV hh) with
      | none => rw [hb] at h1; simp at h1
      | some x => rw [hb] at h1; simpa using h1
    unfold ofB
    simp [h1, h2]
  · have hlt : ex < Ht := by
      unfold ofB at hne
      simp [h1] at hne
      exact hne
    have h2 : inB (B ++ [(hk, s, Ht')]) hh ex = false := by
      unfold inB bgetD at h1 ⊢
      rw [bget_append]
      cases hb : bget B (hashV hh) with
      | none =>
        by_cases e : hashV hk = hashV hh
        · simp [e]; omega
        · simp [e]
      | some x => rw [hb] at h1; simpa using h1
    unfold ofB
    simp [h1, h2]
    rw [if_pos (by omega), if_pos hlt]
end
theorem ofB_nil (h : Nat → Int) (ex : Int) (h0 : 0 ≤ ex) : ofB [] h ex 0 = 0 := by
  unfold ofB inB; simp [bget]; omega

section
variable {P : Program}
theorem wpList_build_g {ops : Array Oper} {rest : List Oper} {dst : Option Nat} {ty0 : TypeId} {pos : String} {after : _} {g : _} {a : Act} {w : World} {Q : Exit → Act → World → Prop} {t : TypeId} {parts : Array (Nat × Operand)}
    (cells : Array Value) (hw : Region.wanted (⟨dst, .build t parts, ty0, pos, after, g⟩ : Oper) (yielded ops a.tmps) = true) (hf : P.built t (parts.map fun (i, x) => (i, a.eval x)).toList = some cells)
    (h : wpList P ops Q rest (a.put dst (.agg cells)) w) : wpList P ops Q ((⟨dst, .build t parts, ty0, pos, after, g⟩ : Oper) :: rest) a w :=
  wpList_step fun K hK => by
    rw [if_pos hw]
    exact wp_build_to t parts rfl cells hf (hK _ _ h)
end

set_option maxRecDepth 100000 in
set_option maxHeartbeats 1000000 in
theorem secret_nil (h : Nat → Int) (w : World) :
    Calls Try.prog 12 #[.pointer none, .agg (rowC .u8 32 h)] w fun e w' => e = .returned (.tuple #[.agg (rowC .u8 32 fun _ => 0), .bool false]) ∧ Only [] w w' := by
  go_enter Try.func12, Try.ntmps12
  go_upto_region 2 with (fail)
  refine wp_name (fun W => W.heap[w.heap.size + 1]? = some (.cells (rowC .u8 32 fun _ => 0) 46 (0, 0)) ∧ Only [] w W)
    ⟨heap_alloc2_new _ _ _, ((Only.refl _ _).alloc _).alloc _⟩ ?_
  intro w1 ⟨hR, hO⟩
  have H := Lib.hid (And.intro hR hO)
  clear hR hO
  go_wp2_with (first
    | ((with_reducible refine wpList_build_to (t := 46) (rowC .u8 32 fun _ => 0) ?_ ?_); (· kernel_rfl))
    | ((with_reducible refine wpList_store_at (w.heap.size + 1) 46 (rowC .u8 32 fun _ => 0) (rowC .u8 32 fun _ => 0) H.out.1 ?_ ?_ ?_ ?_ (rowC_one _ _ _) ?_); (· rfl); (· rfl); (· rw [rowC_size]; kernel_rfl); (· rfl)))
  have hl := run_loadVar_row (P := Try.prog) (w1.setRow (w.heap.size + 1) (rowC .u8 32 fun _ => 0)) (w.heap.size + 1) 46 46 (rowC .u8 32 fun _ => 0) (0, 0) _ (setRow_heap _ _ _ _ _ _ H.out.1) Try.underlying46 rfl (by rw [rowC_size]; kernel_rfl)
  refine bodyPost_ret (v := .tuple #[.agg (rowC .u8 32 fun _ => 0), .bool false]) ?_ rfl ⟨rfl, H.out.2.setRow _ _ (Or.inl (by omega))⟩
  simp [results, Try.results12, asAddr, hl]

set_option maxRecDepth 100000 in
set_option maxHeartbeats 4000000 in
theorem lasts_any (v0 v1 v2 : Value) (n0 n1 n2 : Nat) (SEC : Nat → Nat → Int) (ST : Nat → Int) (C : Nat → CD) (w : World)
    (h0 : RowsAt w v0 n0 32 fun j => (rowC .u8 32 (SEC j)).toList) (hs : ∀ j, j < n0 → ∀ i, i < 32 → U8 (SEC j i))
    (h1 : RowsAt w v1 n1 1 fun j => [.int .u8 (ST j)]) (ht : ∀ j, j < n1 → U8 (ST j))
    (h2 : RowsAt w v2 n2 36 fun j => (C j).cells.toList) (hc : ∀ j, j < n2 → (C j).ok) :
    Calls Try.prog 4 #[v0, v1, v2] w fun e w' => e = .returned (.bool true) ∧ Only [] w w' := by
  obtain ⟨a0, c0, rfl, hn0, hc0, h0⟩ := h0
  obtain ⟨a1, c1, rfl, hn1, hc1, h1⟩ := h1
  obtain ⟨a2, c2, rfl, hn2, hc2, h2⟩ := h2
  have H0 := Lib.hid (And.intro h0 (And.intro hs (And.intro h1 (And.intro ht (And.intro h2 hc)))))
  clear h0 hs h1 ht h2 hc
  by_cases hbig : 20 < n2
  · go_enter Try.func4, Try.ntmps4
    go_wp2_with (go_at_call 5; refine (l10awake_any _).mono ?_; rintro e w' ⟨rfl, hO⟩; (have HO := Lib.hid hO); clear hO)
    go_ret
    exact ⟨rfl, HO.out⟩
  · have hmk : ∀ W, (Instr.makeSlice 63 (.int .i64 n2) (.int .i64 n2)).run Try.prog W = .ok (.slice (some ⟨W.heap.size, 0, none⟩) n2 n2) (W.alloc (.cells (rowC .i64 n2 fun _ => 0) 65)) :=
      fun W => run_make_row 63 65 .i64 8 Try.underlying63 (by kernel_rfl) .i64 .i64 n2 (by omega) (by omega) W
    go_enter Try.func4, Try.ntmps4
    go_upto_region 6 with (go_at_call 6; refine (nnew_any _).mono ?_; rintro e w1 ⟨N, M, rfl, hN, hO, hNn, hMn⟩; (have H1 := Lib.hid (And.intro hN (And.intro hO (And.intro hNn hMn)))); clear hN hO hNn hMn)
    refine wp_name (fun W => W.heap[w1.heap.size]? = some (.cells (rowC .i64 n2 fun _ => 0) 65 (0, 0)) ∧ Only [] w1 W) ⟨heap_alloc_last _ _, (Only.refl _ _).alloc _⟩ ?_
    intro w2 ⟨hL, hO2⟩
    have hLlt := lt_of_block hL
    have hN2 := H1.out.1.only hO2 (by simp) (by simp)
    have H2 := Lib.hid (And.intro hL (And.intro (H1.out.2.1.trans hO2 (by simp)) hN2))
    clear hL hO2 hN2
    go_upto_block 0 with (go_at_call 21; refine (twin_any N M [] w2 H2.out.2.2).mono ?_; rintro e w3 ⟨N', M', rfl, hN', hO, hNn, hMn⟩; (have H3 := Lib.hid (And.intro hN' (And.intro hO (And.intro hNn hMn)))); clear hN' hO hNn hMn)
    go_cut [] (fun wx => IsNotary wx N' M' [] ∧ Only [] w wx)
    case first =>
      go_wp2_with fail
      go_loopg [8, 33] n1 (fun g s8 s33 wr => ∃ (k : Nat) (Ht : Int) (B : Book), k + g = n1 ∧ s33 = .int .i64 k ∧ s8 = .int .u64 Ht ∧ 0 ≤ Ht ∧ Ht ≤ 2 * k ∧ k ≤ 40 ∧ IsNotary wr N M B ∧
        wr.heap[w1.heap.size]? = some (.cells (rowC .i64 n2 fun j => ofB B (C j).h (C j).ex Ht) 65 (0, 0)) ∧ IsNotary wr N' M' [] ∧ Only [] w wr)
      case atStart =>
        refine ⟨0, 0, [], by omega, rfl, rfl, by omega, by omega, by omega, H2.out.2.2.only H3.out.2.1 (by simp) (by simp), ?_, H3.out.1, H2.out.2.1.trans H3.out.2.1 (by simp)⟩
        have := H3.out.2.1.keeps H2.out.1 (by simp)
        rw [rowC_congr _ n2 (fun _ => 0) (fun j => ofB [] (C j).h (C j).ex 0) (fun j hj => by rw [ofB_nil _ _ (H0.out.2.2.2.2.2 j hj).2.1])] at this
        exact this
      case round =>
        obtain ⟨k, Ht, B, hkg, rfl, rfl, hHt0, hHt, hk40, hN, hL, hN', hO⟩ := hrel
        have HI := Lib.hid (And.intro hN (And.intro hL (And.intro hN' hO)))
        clear hN hL hN' hO
        by_cases hlt : k < n1
        · have hst := H0.out.2.2.2.1 k hlt
          obtain ⟨st, hste⟩ : ∃ st : Nat, ST k = st := ⟨(ST k).toNat, by have := hst.1; omega⟩
          have hst1 : (st : Int) < 256 := by rw [← hste]; exact hst.2
          obtain ⟨b1, o1, ha1, hb1, hcell⟩ : ∃ b o, a1 = some ⟨b, o, none⟩ ∧ b < w.heap.size ∧ w.cell? ⟨b, o + k, none⟩ = some (.int .u8 st) := by
            rcases H0.out.2.2.1 with h | ⟨b, o, h, hb, hr⟩
            · omega
            · exact ⟨b, o, h, hb, by have := hr k hlt 0 _ rfl; rw [hste] at this; simpa using this⟩
          subst ha1
          have cst : wr.cell? ⟨b1, o1 + k, none⟩ = some (.int .u8 st) := (HI.out.2.2.2.cell (p := ⟨b1, o1 + k, none⟩) hb1 (by simp)).trans hcell
          have hlti : (k : Int) < (n1 : Int) := by omega
          have HST := Lib.hid (And.intro hste (And.intro hb1 hcell))
          clear hst hste hcell
          by_cases h40 : 40 ≤ k
          · have h40i : (40 : Int) ≤ (k : Int) := by omega
            go_wp2_with fail
            go_meet
            case rel => exact ⟨HI.out.2.2.1, HI.out.2.2.2⟩
          · go_upto_region 12 with (fail)
            go_cut [51] (fun s51 wx => wx = wr ∧ ∃ b : Bool, s51 = .bool b ∧ (b = true → 0 < n0))
            case first =>
              by_cases h128 : 128 ≤ st
              · have e128 : (128 : Int) ≤ (st : Int) := by omega
                by_cases hp0 : 0 < n0
                · go_wp2_with fail
                  go_meet
                  case rel => exact ⟨rfl, true, by simp [hp0], fun _ => hp0⟩
                · go_wp2_with fail
                  go_meet
                  case rel => exact ⟨rfl, false, by simp [hp0], by simp⟩
              · have e128 : ¬ (128 : Int) ≤ (st : Int) := by omega
                go_wp2_with fail
                go_meet
                case rel => exact ⟨rfl, false, by simp, by simp⟩
            case rest =>
              obtain ⟨rfl, b, rfl, hb0⟩ := hcut
              have HB0 := Lib.hid hb0
              clear hb0
              go_upto_if 51 with (fail)
              go_cut [] (fun wx => ∃ B', IsNotary wx N M B' ∧ Lasts B Ht B' (Ht + st % 3) ∧ wx.heap[w1.heap.size]? = some (.cells (rowC .i64 n2 fun j => ofB B (C j).h (C j).ex Ht) 65 (0, 0)) ∧ IsNotary wx N' M' [] ∧ Only [] w wx)
              case first =>
                cases b
                · go_wp2_with fail
                  go_meet
                  case rel => exact ⟨B, HI.out.1, lasts_same _ _ _ (by omega), HI.out.2⟩
                · have hp0 : 0 < n0 := HB0.out rfl
                  obtain ⟨ix, hix⟩ : ∃ ix, ix = st % n0 := ⟨_, rfl⟩
                  have hixl : ix < n0 := by rw [hix]; exact Nat.mod_lt _ hp0
                  have hixi : (ix : Int) < (n0 : Int) := by omega
                  have hn00 : ¬ (n0 : Int) = 0 := by omega
                  have e1 : ∀ [Inhabited Nat], (st : Int) % (n0 : Int) = (ix : Int) := by intro _; rw [hix]; exact (Int.natCast_emod st n0).symm
                  have e2 : ∀ [Inhabited Nat], (st : Int).tmod (n0 : Int) = (ix : Int) := by intro _; rw [Int.tmod_eq_emod_of_nonneg (by omega), hix]; exact (Int.natCast_emod st n0).symm
                  obtain ⟨b0, o0, ha0, hb0, hsec⟩ : ∃ b o, a0 = some ⟨b, o, none⟩ ∧ b < w.heap.size ∧ w.rangeAt b (o + ix * 32) (rowC .u8 32 (SEC ix)).toList := by
                    rcases H0.out.1 with h | ⟨b, o, h, hb, hr⟩
                    · omega
                    · exact ⟨b, o, h, hb, hr ix hixl⟩
                  subst ha0
                  have HR := Lib.hid (rangeAt_only hsec HI.out.2.2.2 hb0 (by simp))
                  have HIX := Lib.hid hix
                  clear hix hsec
                  go_wp2_with (first
                    | ((with_reducible refine wpList_load_part b0 (o0 + ix * 32) (rowC .u8 32 (SEC ix)) _ HR.out ?_ Try.underlying35 ?_ ?_ ?_); (· rfl); (· rfl); (· rw [rowC_size]; kernel_rfl)))
                  refine (tell_any N M B (SEC ix) (H0.out.2.1 ix hixl) (Ht + st % 3) (by omega) (by omega) _ HI.out.1).mono ?_
                  rintro e w4 ⟨hd, hO4⟩
                  have hd2 : ∃ (r : Int) (B' : Book), e = .returned (.int .i64 r) ∧ IsNotary w4 N M B' ∧ Lasts B Ht B' (Ht + st % 3) := by
                    rcases hd with ⟨_, h2, h3⟩ | ⟨h1, h2, h3⟩
                    · exact ⟨7, B, h2, h3, lasts_same _ _ _ (by omega)⟩
                    · exact ⟨0, _, h2, h3, lasts_tell _ _ _ _ _ (by omega) h1⟩
                  obtain ⟨r, B', rfl, hN4, hla⟩ := hd2
                  have hM1 := H1.out.1.2.1.lt
                  have hL4 := hO4.keeps HI.out.2.1 (by simp; omega)
                  have hN4' := HI.out.2.2.1.only hO4 (by simp; have := H3.out.2.2.1; omega) (by simp; have := H3.out.2.2.2; omega)
                  have H4 := Lib.hid (And.intro hN4 (And.intro hla (And.intro hL4 (And.intro hN4' ((HI.out.2.2.2.mono (T := [M]) (by simp)).trans hO4 (by intro x hx _; exact hx) |>.fresh (by simp; exact H1.out.2.2.2))))))
                  clear hd hO4 hN4 hla hL4 hN4'
                  go_wp2_with fail
                  go_meet
                  case rel => exact ⟨B', H4.out⟩
              case rest =>
                obtain ⟨B', hcut⟩ := hcut
                have HC := Lib.hid hcut
                clear hcut
                obtain ⟨gko, hgko⟩ : ∃ g : Nat, g = gk := ⟨_, rfl⟩
                subst hgko
                go_wp2_with fail
                go_loopg [65] n2 (fun g2 s65 wy => ∃ q : Nat, q + g2 = n2 ∧ s65 = .int .i64 q ∧ IsNotary wy N M B' ∧
                  wy.heap[w1.heap.size]? = some (.cells (rowC .i64 n2 fun j => if j < q then ofB B' (C j).h (C j).ex (Ht + st % 3) else ofB B (C j).h (C j).ex Ht) 65 (0, 0)) ∧ IsNotary wy N' M' [] ∧ Only [] w wy)
                case atStart => exact ⟨0, by omega, rfl, HC.out.1, by simpa using HC.out.2.2.1, HC.out.2.2.2⟩
                case round =>
                  obtain ⟨wo, hwo⟩ : ∃ wo : World, wo = wr := ⟨_, rfl⟩
                  subst hwo
                  obtain ⟨q, hqg, rfl, hN, hL, hN', hO⟩ := hrel
                  by_cases hq : q < n2
                  · have hqi : (q : Int) < (n2 : Int) := by omega
                    obtain ⟨b2, o2, ha2, hb2, hcell⟩ : ∃ b o, a2 = some ⟨b, o, none⟩ ∧ b < w.heap.size ∧ w.rangeAt b (o + q * 36) (C q).cells.toList := by
                      rcases H0.out.2.2.2.2.1 with h | ⟨b, o, h, hb, hr⟩
                      · omega
                      · exact ⟨b, o, h, hb, hr q hq⟩
                    subst ha2
                    have HR := Lib.hid (rangeAt_only hcell hO hb2 (by simp))
                    have hcok := H0.out.2.2.2.2.2 q hq
                    obtain ⟨cq, hcq⟩ : ∃ cq, cq = C q := ⟨_, rfl⟩
                    rw [← hcq] at HR hcok
                    have cl := row_cell hL q hq
                    rw [if_neg (by omega), ← hcq] at cl
                    have fl := frozen_of_row _ w1.heap.size q _ _ hL
                    have HJ := Lib.hid (And.intro hN (And.intro hL (And.intro hN' (And.intro hO (And.intro hcok hcq)))))
                    clear hN hL hN' hO hcell hcok hcq
                    go_upto_region 17 with (first
                      | ((with_reducible refine wpList_load_part b2 (o2 + q * 36) cq.cells _ HR.out ?_ Try.underlying56 ?_ ?_ ?_); (· rfl); (· rfl); (· rw [CD.cells, condC_size]; kernel_rfl))
                      | ((with_reducible refine wpList_store_new cq.cells ?_ ?_ ?_ ?_ ?_ ?_); (· rfl); (· rfl); (· rw [CD.cells, condC_size]; kernel_rfl); (· rw [CD.cells, condC_size]; kernel_rfl); (· exact condC_one _ _ _ _ _)))
                    refine wp_name (fun W => W.heap[wo.heap.size]? = some (.cells cq.cells 56 (0, 0)) ∧ Only [] wo W) ⟨heap_alloc_last _ _, (Only.refl _ _).alloc _⟩ ?_
                    intro w5 ⟨hC5, hO5⟩
                    have HR5 : Hid (w5.rangeAt wo.heap.size 0 cq.cells.toList) := condC_all hC5
                    have H5 := Lib.hid hO5
                    clear hC5 hO5
                    go_wp2_with (first
                      | ((with_reducible refine wpList_load_part wo.heap.size 0 cq.cells _ HR5.out ?_ Try.underlying56 ?_ ?_ ?_); (· rfl); (· rfl); (· rw [CD.cells, condC_size]; kernel_rfl)))
                    refine (l10to_any cq.id cq.by_ cq.am cq.h cq.ex w5).mono ?_
                    rintro e w6 ⟨rfl, hO6⟩
                    have hO06 := H5.out.trans hO6 (by simp)
                    have H6 := Lib.hid hO06
                    clear hO6 hO06
                    go_wp2_with fail
                    refine (of_np (.pointer (some ⟨N, 0, none⟩)) B' cq.id cq.by_ cq.am cq.h HJ.out.2.2.2.2.1.1 cq.ex (Ht + st % 3) w6 (Or.inr ⟨N, M, rfl, HJ.out.1.only H6.out (by simp) (by simp)⟩)).mono ?_
                    rintro e w7 ⟨rfl, hO7⟩
                    have hO07 := H6.out.trans hO7 (by simp)
                    obtain ⟨lv, hlv⟩ : ∃ lv, lv = ofB B cq.h cq.ex Ht := ⟨_, rfl⟩
                    obtain ⟨v, hv⟩ : ∃ v, v = ofB B' cq.h cq.ex (Ht + st % 3) := ⟨_, rfl⟩
                    have hlast : lv ≠ 0 → v = lv := by
                      intro h
                      rw [hlv, hv]
                      exact HC.out.2.1 _ _ (by rw [← hlv]; exact h)
                    rw [← hlv] at cl
                    rw [← hv]
                    have hL7 := hO07.keeps HJ.out.2.1 (by simp)
                    have cl7 : w7.cell? ⟨w1.heap.size, q, none⟩ = some (.int .i64 lv) := (hO07.cell (p := ⟨w1.heap.size, q, none⟩) (lt_of_block HJ.out.2.1) (by simp)).trans cl
                    have fl7 := frozen_of_row w7 w1.heap.size q _ _ hL7
                    have H7 := Lib.hid (And.intro hO07 (And.intro hL7 (And.intro hlv hv)))
                    clear hO7 hO07 hL7 hlv hv cl fl
                    have HREL : Hid (∃ q' : Nat, q' + (gk - 1) = n2 ∧ Value.int .i64 ((q : Int) + 1) = .int .i64 q' ∧ IsNotary (w7.setCell ⟨w1.heap.size, q, none⟩ (.int .i64 v)) N M B' ∧
                        (w7.setCell ⟨w1.heap.size, q, none⟩ (.int .i64 v)).heap[w1.heap.size]? = some (.cells (rowC .i64 n2 fun j => if j < q' then ofB B' (C j).h (C j).ex (Ht + st % 3) else ofB B (C j).h (C j).ex Ht) 65 (0, 0)) ∧
                        IsNotary (w7.setCell ⟨w1.heap.size, q, none⟩ (.int .i64 v)) N' M' [] ∧ Only [] w (w7.setCell ⟨w1.heap.size, q, none⟩ (.int .i64 v))) := by
                      have hO8 : Only [w1.heap.size] wo (w7.setCell ⟨w1.heap.size, q, none⟩ (.int .i64 v)) := (H7.out.1.mono (by simp)).setCell _ _ (Or.inr (by simp))
                      have hNlt := lt_of_block H1.out.1.1
                      have hMlt := H1.out.1.2.1.lt
                      have hN'g := H3.out.2.2.1
                      have hM'g := H3.out.2.2.2
                      have hs1 := H1.out.2.1.size
                      refine ⟨q + 1, by omega, by go_num, HJ.out.1.only hO8 (by simp; omega) (by simp; omega), ?_, HJ.out.2.2.1.only hO8 (by simp; omega) (by simp; omega), HJ.out.2.2.2.1.trans hO8 (by intro x hx hlt; simp at hx; omega)⟩
                      rw [row_set H7.out.2.1 q v]
                      rw [rowC_congr _ n2 (upd _ q v) (fun j => if j < q + 1 then ofB B' (C j).h (C j).ex (Ht + st % 3) else ofB B (C j).h (C j).ex Ht) (fun j _ => by
                        simp only [upd]
                        by_cases e : j = q
                        · subst e; rw [if_pos rfl, if_pos (by omega), H7.out.2.2.2, HJ.out.2.2.2.2.2]
                        · rw [if_neg e]
                          by_cases e' : j < q
                          · rw [if_pos e', if_pos (by omega)]
                          · rw [if_neg e', if_neg (by omega)])]
                    by_cases hz : lv = 0
                    · have e1 : (lv != 0) = false := by simp [hz]
                      clear hz hlast
                      go_wp2_with fail
                      go_roundg (gk - 1)
                      case measure => omega
                      case rel => exact HREL.out
                    · have e1 : (lv != 0) = true := by simp [hz]
                      have e2 : (v != lv) = false := by simp [hlast hz]
                      clear hz hlast
                      go_wp2_with fail
                      go_roundg (gk - 1)
                      case measure => omega
                      case rel => exact HREL.out
                  · obtain rfl : q = n2 := by omega
                    rw [rowC_congr _ q _ (fun j => ofB B' (C j).h (C j).ex (Ht + st % 3)) (fun j hj => by rw [if_pos hj])] at hL
                    have HF := Lib.hid (And.intro hN (And.intro hL (And.intro hN' hO)))
                    clear hN hL hN' hO
                    have hqi : ¬ (q : Int) < (q : Int) := by omega
                    go_wp2_with fail
                    go_roundg (gko - 1)
                    case measure => omega
                    case rel => exact ⟨k + 1, Ht + st % 3, B', by omega, by go_num, rfl, by omega, by omega, by omega, HF.out⟩
        · go_wp2_with fail
          go_meet
          case rel => exact ⟨HI.out.2.2.1, HI.out.2.2.2⟩
    case rest =>
      obtain ⟨hNt, hO⟩ := hcut
      have HC := Lib.hid (And.intro hNt hO)
      clear hNt hO
      go_wp2_with ((with_reducible refine wpList_build_to (t := 53) (rowC .u8 32 fun _ => 0) ?_ ?_); (· kernel_rfl))
      refine (when_nil _ wc).mono ?_
      rintro e x1 ⟨rfl, hO1⟩
      go_wp2_with ((with_reducible refine wpList_build_to (t := 53) (rowC .u8 32 fun _ => 0) ?_ ?_); (· kernel_rfl))
      refine (secret_nil _ x1).mono ?_
      rintro e x2 ⟨rfl, hO2⟩
      have hO02 := hO1.trans hO2 (by simp)
      clear hO1 hO2
      go_upto_region 26 with ((with_reducible refine wpList_store_new (rowC .u8 32 fun _ => 0) ?_ ?_ ?_ ?_ (rowC_one _ _ _) ?_); (· rfl); (· rfl); (· rw [rowC_size]; kernel_rfl); (· rw [rowC_size]; kernel_rfl))
      refine wp_name (fun W => Only [] x2 W) ((Only.refl _ _).alloc _) ?_
      intro x3 hO3
      have hO03 := hO02.trans hO3 (by simp)
      have H3' := Lib.hid (And.intro (HC.out.1.only hO03 (by simp) (by simp)) (HC.out.2.trans hO03 (by simp)))
      clear hO02 hO3 hO03
      go_wp2_with fail
      refine (l10awake_any x3).mono ?_
      rintro e x4 ⟨rfl, hO4⟩
      have H4' := Lib.hid (And.intro (H3'.out.1.only hO4 (by simp) (by simp)) (H3'.out.2.trans hO4 (by simp)))
      clear hO4
      go_wp2_with fail
      refine (many_any N' M' [] x4 H4'.out.1).mono ?_
      rintro e x5 ⟨rfl, rfl⟩
      go_wp2_with ((with_reducible refine wpList_build_g (t := 46) (rowC .u8 32 fun _ => 0) ?_ ?_ ?_); (· rfl); (· kernel_rfl))
      refine (tell_nil _ _ x4).mono ?_
      rintro e x6 ⟨rfl, hO6⟩
      have H6' := Lib.hid (H4'.out.2.trans hO6 (by simp))
      clear hO6
      go_wp2_with fail
      refine (many_nil x6).mono ?_
      rintro e x7 ⟨rfl, rfl⟩
      go_wp2_with fail
      refine (twin_nil x6).mono ?_
      rintro e x8 ⟨rfl, rfl⟩
      go_wp2_with ((with_reducible refine wpList_build_g (t := 59) (condC 0 0 0 (fun _ => 0) 3) ?_ ?_ ?_); (· rfl); (· kernel_rfl))
      refine (of_np (.pointer none) [] 0 0 0 (fun _ => 0) (fun _ _ => ⟨by decide, by decide⟩) 3 4 x6 (Or.inl ⟨rfl, rfl⟩)).mono ?_
      have e34 : ofB [] (fun _ => 0) 3 4 = 2 := by simp [ofB, inB, bget]
      rw [e34]
      rintro e x9 ⟨rfl, hO9⟩
      have H9 := Lib.hid (H6'.out.trans hO9 (by simp))
      clear hO9
      go_wp2_with fail
      refine (hashes_nil x9).mono ?_
      rintro e x10 ⟨rfl, rfl⟩
      go_wp2_with fail
      go_ret
      exact ⟨rfl, H9.out⟩
end Go.Proofs.Ythoiihpbgdjbfaa
