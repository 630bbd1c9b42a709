/- law 11: CodeStacks, walked. -/
import Derived.Test.YtfhhkapjpmfolaaDoorCodeR
import Derived.ArgAppend
namespace Go.Proofs.YtfhhkapjpmfolaaDoor
open Go.RowKit Go.Lib

theorem wpList_appG {P : Program} {ops : Array Oper} {rest : List Oper} {dst : Option Nat} {ty0 : TypeId} {pos : String} {after : _} {a : Act} {w : World} {Q : Exit → Act → World → Prop} {s x : Operand} {t : TypeId}
    (e : TypeId) (z : Value) (bytes : Nat) (ht : P.underlying t = some (.slice e)) (hI : (P.info? e).map (fun i => (i.zero, i.size, i.bytes)) = some (some z, 1, bytes)) (hzs : z.cells.size = 1)
    (ao : Option Addr) (n : Nat) (olds : List Value) (hs : a.eval s = .slice ao n n) (hnone : ao = none → n = 0) (hlo : olds.length = n) (holds : ∀ b, ao = some b → ∀ j u, olds[j]? = some u → w.cell? (b.add j) = some u)
    (ad : Addr) (news : List Value) (m c : Nat) (hx : a.eval x = .slice (some ad) m c) (hm : 0 < m) (hn : news.length = m) (hc : ∀ j u, news[j]? = some u → w.cell? (ad.add j) = some u) (h1c : ∀ u ∈ news, u.oneCell' = true)
    (b1 : n + m ≤ maxLen) (b2 : (n + m) * bytes ≤ 140737488355328)
    (hK : ∀ v' w', w'.ownsRow w.heap.size e 1 v' (n + m) (olds ++ news) → w.grownBy w' none → wpList P ops Q rest (a.put dst v') w') :
    wpList P ops Q ((⟨dst, .call { callee := .builtin .append, args := #[s, x], argTypes := #[t, t] }, ty0, pos, after, none⟩ : Oper) :: rest) a w := by
  cases hq : P.info? e with
  | none => simp [hq] at hI
  | some i =>
    simp [hq] at hI
    exact wpList_append_grows w rfl s x t rfl e i z 1 bytes ht hq hI.1 hI.2.1 hI.2.2 hzs (by omega) ao n n olds hs (fun h => ⟨hnone h, hnone h⟩) (by omega) holds ad m c news hx (by omega) hc h1c (by omega) b1 b2 hK

def stW : CW := ⟨0, fun _ => 0, 0, fun _ => false, 6⟩
def stP (K : Nat) : List Nat := List.replicate K 17 ++ [0]
def stQ (K : Nat) : List Nat := List.replicate K 17 ++ List.replicate K 15 ++ [15]
theorem st_1 : ∀ K, K < 40 → (K = 0 → (runG stW (K + 1) (fun j => (stP K).getD j 0) 500).1 = 0 ∧ (runG stW (K + 1) (fun j => (stP K).getD j 0) 500).2.2 = 12) ∧
    (32 < K → (runG stW (K + 1) (fun j => (stP K).getD j 0) 500).1 = 0 ∧ (runG stW (K + 1) (fun j => (stP K).getD j 0) 500).2.2 = 4) ∧
    (0 < K → K ≤ 32 → (runG stW (K + 1) (fun j => (stP K).getD j 0) 500).1 = 6 ∧ (runG stW (K + 1) (fun j => (stP K).getD j 0) 500).2.2 = 0) := by decide +kernel
theorem st_2 : ∀ K, K < 40 → 0 < K → K ≤ 32 → (runG awW (2 * K + 1) (fun j => (stQ K).getD j 0) 500).2.2 = 12 := by decide +kernel
theorem stW_at (w : World) : CWAt w w.heap.size stW (.slice none 0 0) (.slice none 0 0) := awW_at w
theorem stW_wide : stW.wide := ⟨⟨by decide, by decide⟩, fun j hj => by cases hj⟩
theorem rep_map (K c : Nat) : ((List.replicate K c).map fun (b : Nat) => Value.int .u8 (b : Int)) = List.replicate K (.int .u8 (c : Int)) := by simp
theorem own_full {w : World} {B K : Nat} {v : Value} {e : TypeId} {xs : List Value} (h : w.ownsRow B e 1 v K xs) : ∃ ao c, v = .slice ao K c ∧ K ≤ c ∧ (ao = none → K = 0) ∧ ∀ b, ao = some b → ∀ j u, xs[j]? = some u → w.cell? (b.add j) = some u := by
  rcases h.2 with ⟨rfl, h0⟩ | ⟨g, cap', cur, rfl, hg, hh, h1, h2, _⟩
  · subst h0; exact ⟨none, 0, rfl, Nat.le_refl _, fun _ => rfl, fun b hb => by cases hb⟩
  · refine ⟨_, _, rfl, h1, (fun h => by cases h), fun b hb j u hu => ?_⟩
    cases hb
    have hj : j < K := by have := (List.getElem?_eq_some_iff.1 hu).1; have := h.1; omega
    rw [Lib.add_plain, Nat.zero_add, h.cellAt j (by omega)]; exact hu
theorem rep_snoc (K : Nat) (v : Value) : List.replicate K v ++ [v] = List.replicate (K + 1) v := by rw [List.replicate_succ']
theorem ownsRow_base {w : World} {B B' : Nat} {e : TypeId} {size n : Nat} {v : Value} {xs : List Value} (h : w.ownsRow B e size v n xs) (hB : B' ≤ B) : w.ownsRow B' e size v n xs := by
  obtain ⟨hl, h⟩ := h
  refine ⟨hl, h.imp id ?_⟩
  rintro ⟨g, cap', cur, hv, hg, hr⟩
  exact ⟨g, cap', cur, hv, Nat.le_trans hB hg, hr⟩
theorem only_none {S : List Nat} {a w w' : World} (h : Only S a w) (hg : w.grownBy w' none) : Only S a w' := h.grown hg fun k hk => by cases hk

set_option maxRecDepth 20000 in
set_option maxHeartbeats 40000000 in
theorem stacks_any (n : Nat) (w : World) (hn : n < 256) (hL : LaidAt w) :
    Calls Tryd.prog 6 #[.int .u8 (n : Int)] w fun x w' => x = .returned (.bool true) ∧ Only [] w w' := by
  have HA := Lib.hid hL
  obtain ⟨K, hK⟩ : ∃ K, n % 40 = K := ⟨_, rfl⟩
  have hK40 : K < 40 := by omega
  have n0 : (n : Int) < 256 := by omega
  have e1 : (n : Int) % 40 = (K : Int) := by omega
  have HE := Lib.hid (And.intro e1 n0)
  clear hL hK hn
  go_enter Tryd.func6, Tryd.ntmps6
  go_wp2_with fail
  rw [e1]
  clear e1 n0
  -- the first loop: so many 'now'
  go_loopg [3, 16] (K + 1) (fun g s3 s16 wr => ∃ k : Nat, k + g = K + 1 ∧ g ≠ 0 ∧ s16 = .int .i64 (k : Int) ∧ wr.ownsRow w.heap.size 5 1 s3 k (List.replicate k (.int .u8 17)) ∧ Only [] w wr)
  case atStart => exact ⟨0, by omega, by omega, rfl, ⟨rfl, Or.inr ⟨w.heap.size, 0, #[], rfl, Nat.le_refl _, alloc_new _ _, Nat.le_refl _, Nat.zero_le _, rfl, rfl⟩⟩, (Only.refl _ _).alloc _⟩
  case round =>
    obtain ⟨k, hkg, hg0, rfl, hown, hO⟩ := hrel
    obtain ⟨a3, c3, rfl⟩ := ownsRow_form hown
    have hzr := hO.size
    by_cases hk : k < K
    · have hki : (k : Int) < K := by omega
      have HR := Lib.hid (And.intro hown hO)
      clear hown hO
      go_wp2_with (first
        | ((with_reducible refine wpList_app w.heap.size 5 (.int .u8 0) 1 1 Tryd.underlying22 ?_ ?_ ?_ (.slice a3 k c3) k (List.replicate k (.int .u8 17)) ?_ ?_ ⟨wr.heap.size, 0, none⟩ 1 1 [.int .u8 17] ?_ ?_ ?_ ?_ ?_ ?_ ?_ ?_)
           (· kernel_rfl); (· rfl); (· decide); (· rfl); (· exact ownsRow_kept HR.out.1 fun k _ hk => Below.heap_alloc _ _ _ hk); (· rfl); (· rfl); (· exact one_new _ _ _)
           (· simp [Value.oneCell']); (· unfold maxLen; omega); (· omega); (· simp; omega)
           (intro v6 w6 hown6 hgr6 hnil6 hblk6)
           (have H6 := Lib.hid (And.intro hown6 hgr6))
           (clear hown6 hgr6 hnil6 hblk6)))
      go_roundg (gk - 1)
      case measure => omega
      case rel =>
        refine ⟨k + 1, by omega, by omega, by go_num, ?_, (HR.out.2.alloc _).grown H6.out.2 fun g hg => Or.inl (own_lt HR.out.1 hg).1⟩
        rw [← rep_snoc]; exact H6.out.1
    · obtain rfl : k = K := by omega
      have hki : ¬ (k : Int) < k := by omega
      obtain ⟨ao, c, hs, hkc, hao, hcells⟩ := own_full hown
      simp only [Value.slice.injEq, true_and] at hs
      obtain ⟨rfl, rfl⟩ := hs
      have HR := Lib.hid (And.intro hown (And.intro hO (And.intro hao hcells)))
      clear hown hO hao hcells hkg hk
      obtain ⟨e1, n0⟩ := HE.out
      go_wp2_with (first
        | ((with_reducible refine wpList_slice_mm 5 Tryd.underlying22 Tryd.sizeOf5 (k1 := .i64) (k2 := .i64) (z1 := (k : Int)) (z2 := (k : Int)) (ad := a3) (n := k) (c := c3) k ?_ ?_ ?_ ?_ ?_ ?_ ?_); (· rfl); (· rfl); (· rfl); (· rfl); (· rfl); (· omega))
        | ((with_reducible refine wpList_appG 5 (.int .u8 0) 1 Tryd.underlying22 ?_ ?_ a3 k (List.replicate k (.int .u8 17)) ?_ ?_ ?_ ?_ ⟨wr.heap.size, 0, none⟩ [.int .u8 0] 1 1 ?_ ?_ ?_ ?_ ?_ ?_ ?_ ?_)
           (· kernel_rfl); (· rfl); (· rfl); (· exact HR.out.2.2.1); (· simp)
           (· intro b hb j u hu; exact (World.cell?_of_block (w := wr) (Below.heap_alloc _ _ _ (World.block_lt_of_cell? _ _ (HR.out.2.2.2 b hb j u hu)))).trans (HR.out.2.2.2 b hb j u hu))
           (· rfl); (· omega); (· rfl); (· exact one_new _ _ _); (· simp [Value.oneCell']); (· unfold maxLen; omega); (· omega)
           (intro v7 w7 hown7 hgr7)
           (obtain ⟨a7, c7, rfl⟩ := ownsRow_form hown7)
           (have H7 := Lib.hid (And.intro hown7 hgr7))
           (clear hown7 hgr7)))
      clear e1 n0
      have hO7 := only_none (HR.out.2.1.alloc (.cells #[.int .u8 0] 5)) H7.out.2
      have hl1 : ((stP k).map fun (b : Nat) => Value.int .u8 (b : Int)) = List.replicate k (.int .u8 17) ++ [.int .u8 0] := by simp [stP]
      have hr := run_G (k + 1) (.slice a7 (k + 1) c7) _ _ (fun j => (stP k).getD j 0) stW 500 w7 (sl_own (by rw [hl1]; exact H7.out.1)) (getD_lt _ (by intro b hb; simp [stP] at hb; omega)) (HA.out.only hO7 (by simp)).forms (by omega) (stW_at w7) stW_wide
      obtain ⟨s1, s2, s3⟩ := st_1 k hK40
      obtain ⟨⟨r1, r2, r3⟩, hrr⟩ : ∃ r, runG stW (k + 1) (fun j => (stP k).getD j 0) 500 = r := ⟨_, rfl⟩
      rw [hrr] at hr s1 s2 s3
      have hr : Calls Tryd.prog 11 #[.slice a7 (k + 1) c7, .agg #[.slice none 0 0, .slice none 0 0, .int .u64 6], .int .i64 500] w7 fun x w' => x = .returned (.tuple #[.int .u64 r1, .int .i64 (r2 : Int), .int .i64 r3]) ∧ Only [] w7 w' := hr
      refine hr.mono ?_
      rintro e w8 ⟨rfl, hO8⟩
      have h08 := (only_none ((Only.refl [] wr).alloc (.cells #[.int .u8 0] 5)) H7.out.2).trans hO8 (by simp)
      have hcell8 : ∀ b, a3 = some b → ∀ i u, (List.replicate k (Value.int .u8 17))[i]? = some u → w8.cell? (b.add i) = some u := fun b hb i u hu => (h08.cell (World.block_lt_of_cell? _ _ (HR.out.2.2.2 b hb i u hu)) (by simp)).trans (HR.out.2.2.2 b hb i u hu)
      have HC8 := Lib.hid hcell8
      have HN3 := Lib.hid HR.out.2.2.1
      clear h08 hcell8
      have HO8 := Lib.hid (hO7.trans hO8 (by simp))
      clear hr hrr hO7 hO8 hl1
      have hz8 := HO8.out.size
      by_cases k0 : k = 0
      · subst k0
        obtain ⟨rfl, rfl⟩ := s1 rfl
        clear s2 s3
        go_wp2_with fail
        refine (awake_any _ (HA.out.only HO8.out (by simp))).mono ?_
        rintro e w9 ⟨rfl, hO9⟩
        have H9 := Lib.hid ((HO8.out).trans hO9 (by simp))
        clear hO9
        go_wp2_with fail
        go_ret
        exact ⟨rfl, H9.out⟩
      · have hk0 : ((k : Int) == 0) = false := by simpa using k0
        by_cases k32 : 32 < k
        · obtain ⟨rfl, rfl⟩ := s2 k32
          have hk1 : (k : Int) > 32 := by omega
          clear s1 s3 k0 k32
          go_wp2_with fail
          refine (awake_any _ (HA.out.only HO8.out (by simp))).mono ?_
          rintro e w9 ⟨rfl, hO9⟩
          have H9 := Lib.hid ((HO8.out).trans hO9 (by simp))
          clear hO9
          go_wp2_with fail
          go_ret
          exact ⟨rfl, H9.out⟩
        · obtain ⟨rfl, rfl⟩ := s3 (by omega) (by omega)
          have hk1 : ¬ (k : Int) > 32 := by omega
          have st2 := st_2 k hK40 (by omega) (by omega)
          have HK := Lib.hid (And.intro k0 (And.intro k32 st2))
          clear s1 s2 k0 k32 st2
          go_wp2_with (first
            | ((with_reducible refine wpList_slice_mm 5 Tryd.underlying22 Tryd.sizeOf5 (k1 := .i64) (k2 := .i64) (z1 := (k : Int)) (z2 := (k : Int)) (ad := a3) (n := k) (c := c3) k ?_ ?_ ?_ ?_ ?_ ?_ ?_); (· rfl); (· rfl); (· rfl); (· rfl); (· rfl); (· omega)))
          go_loopg [8, 66] (k + 1) (fun g s8 s66 wr => ∃ j : Nat, j + g = k + 1 ∧ g ≠ 0 ∧ s66 = .int .i64 (j : Int) ∧ Only [] w wr ∧ ((j = 0 ∧ s8 = .slice a3 k k ∧ ∀ b, a3 = some b → ∀ i u, (List.replicate k (Value.int .u8 17))[i]? = some u → wr.cell? (b.add i) = some u) ∨
            (0 < j ∧ wr.ownsRow w.heap.size 5 1 s8 (k + j) (List.replicate k (.int .u8 17) ++ List.replicate j (.int .u8 15)))))
          case atStart => exact ⟨0, by omega, by omega, rfl, HO8.out, Or.inl ⟨rfl, rfl, HC8.out⟩⟩
          case round =>
            obtain ⟨j, hjg, hg0, rfl, hO, hcase⟩ := hrel
            have hzr := hO.size
            by_cases hjk : j < k
            · have hji : (j : Int) < k := by omega
              rcases hcase with ⟨rfl, rfl, hc⟩ | ⟨hj0, hown⟩
              · have HX := Lib.hid (And.intro hO hc)
                clear hO hc
                go_wp2_with (first
                  | ((with_reducible refine wpList_appG 5 (.int .u8 0) 1 Tryd.underlying22 ?_ ?_ a3 k (List.replicate k (.int .u8 17)) ?_ ?_ ?_ ?_ ⟨wr.heap.size, 0, none⟩ [.int .u8 15] 1 1 ?_ ?_ ?_ ?_ ?_ ?_ ?_ ?_)
                     (· kernel_rfl); (· rfl); (· rfl); (· exact HN3.out); (· simp)
                     (· intro b hb i u hu; exact (World.cell?_of_block (w := wr) (Below.heap_alloc _ _ _ (World.block_lt_of_cell? _ _ (HX.out.2 b hb i u hu)))).trans (HX.out.2 b hb i u hu))
                     (· rfl); (· omega); (· rfl); (· exact one_new _ _ _); (· simp [Value.oneCell']); (· unfold maxLen; omega); (· omega)
                     (intro v6 w6 hown6 hgr6)
                     (have H6 := Lib.hid (And.intro hown6 hgr6))
                     (clear hown6 hgr6)))
                go_roundg (gk - 1)
                case measure => omega
                case rel => exact ⟨1, by omega, by omega, by go_num, only_none (HX.out.1.alloc _) H6.out.2, Or.inr ⟨by omega, ownsRow_base H6.out.1 (by simp; omega)⟩⟩
              · obtain ⟨a8, c8, rfl⟩ := ownsRow_form hown
                have HX := Lib.hid (And.intro hO hown)
                clear hO hown
                go_wp2_with (first
                  | ((with_reducible refine wpList_app w.heap.size 5 (.int .u8 0) 1 1 Tryd.underlying22 ?_ ?_ ?_ (.slice a8 (k + j) c8) (k + j) (List.replicate k (.int .u8 17) ++ List.replicate j (.int .u8 15)) ?_ ?_ ⟨wr.heap.size, 0, none⟩ 1 1 [.int .u8 15] ?_ ?_ ?_ ?_ ?_ ?_ ?_ ?_)
                     (· kernel_rfl); (· rfl); (· decide); (· rfl); (· exact ownsRow_kept HX.out.2 fun k _ hk => Below.heap_alloc _ _ _ hk); (· rfl); (· rfl); (· exact one_new _ _ _)
                     (· simp [Value.oneCell']); (· unfold maxLen; omega); (· omega); (· simp; omega)
                     (intro v6 w6 hown6 hgr6 hnil6 hblk6)
                     (have H6 := Lib.hid (And.intro hown6 hgr6))
                     (clear hown6 hgr6 hnil6 hblk6)))
                go_roundg (gk - 1)
                case measure => omega
                case rel =>
                  refine ⟨j + 1, by omega, by omega, by go_num, (HX.out.1.alloc _).grown H6.out.2 fun g hg => Or.inl (own_lt HX.out.2 hg).1, Or.inr ⟨by omega, ?_⟩⟩
                  have := H6.out.1
                  rw [List.append_assoc, rep_snoc] at this
                  exact this
            · obtain rfl : j = k := by omega
              have hji : ¬ (j : Int) < j := by omega
              rcases hcase with ⟨hj0, _⟩ | ⟨hj0, hown⟩
              · exact absurd hj0 HK.out.1
              · obtain ⟨a8, c8, rfl⟩ := ownsRow_form hown
                have HX := Lib.hid (And.intro hO hown)
                clear hO hown
                go_wp2_with (first
                  | ((with_reducible refine wpList_app w.heap.size 5 (.int .u8 0) 1 1 Tryd.underlying22 ?_ ?_ ?_ (.slice a8 (j + j) c8) (j + j) (List.replicate j (.int .u8 17) ++ List.replicate j (.int .u8 15)) ?_ ?_ ⟨wr.heap.size, 0, none⟩ 1 1 [.int .u8 15] ?_ ?_ ?_ ?_ ?_ ?_ ?_ ?_)
                     (· kernel_rfl); (· rfl); (· decide); (· rfl); (· exact ownsRow_kept HX.out.2 fun k _ hk => Below.heap_alloc _ _ _ hk); (· rfl); (· rfl); (· exact one_new _ _ _)
                     (· simp [Value.oneCell']); (· unfold maxLen; omega); (· omega); (· simp; omega)
                     (intro v6 w6 hown6 hgr6 hnil6 hblk6)
                     (obtain ⟨a6, c6, rfl⟩ := ownsRow_form hown6)
                     (have H6 := Lib.hid (And.intro hown6 hgr6))
                     (clear hown6 hgr6 hnil6 hblk6)))
                have hO6 := (HX.out.1.alloc (.cells #[.int .u8 15] 5)).grown H6.out.2 fun g hg => Or.inl (own_lt HX.out.2 hg).1
                have hl2 : ((stQ j).map fun (b : Nat) => Value.int .u8 (b : Int)) = List.replicate j (.int .u8 17) ++ List.replicate j (.int .u8 15) ++ [.int .u8 15] := by simp [stQ]
                have hr := run_G (j + j + 1) (.slice a6 (j + j + 1) c6) _ _ (fun i => (stQ j).getD i 0) awW 500 w6 (sl_own (by rw [hl2]; exact H6.out.1)) (getD_lt _ (by intro b hb; simp [stQ] at hb; omega)) (HA.out.only hO6 (by simp)).forms (by omega) (awW_at w6) awW_wide
                have h12 := HK.out.2.2
                rw [show 2 * j = j + j by omega] at h12
                obtain ⟨⟨r4, r5, r6⟩, hrr⟩ : ∃ r, runG awW (j + j + 1) (fun i => (stQ j).getD i 0) 500 = r := ⟨_, rfl⟩
                rw [hrr] at hr h12
                simp only at h12
                subst h12
                have hr : Calls Tryd.prog 11 #[.slice a6 (j + j + 1) c6, .agg #[.slice none 0 0, .slice none 0 0, .int .u64 0], .int .i64 500] w6 fun x w' => x = .returned (.tuple #[.int .u64 r4, .int .i64 (r5 : Int), .int .i64 12]) ∧ Only [] w6 w' := hr
                refine hr.mono ?_
                rintro e w10 ⟨rfl, hO10⟩
                have HO10 := Lib.hid (hO6.trans hO10 (by simp))
                clear hr hrr hO6 hO10 hl2
                go_wp2_with fail
                refine (awake_any _ (HA.out.only HO10.out (by simp))).mono ?_
                rintro e w9 ⟨rfl, hO9⟩
                have H9 := Lib.hid (HO10.out.trans hO9 (by simp))
                clear hO9
                go_wp2_with fail
                go_ret
                exact ⟨rfl, H9.out⟩
end Go.Proofs.YtfhhkapjpmfolaaDoor
