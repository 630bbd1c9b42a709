/- law 11: CodeGas, walked. -/
import Derived.Test.YtfhhkapjpmfolaaDoorCodeR
namespace Go.Proofs.YtfhhkapjpmfolaaDoor
open Go.RowKit Go.Lib

theorem eq_or (x y : Int) : (x == y) = true ∨ (x == y) = false := by cases (x == y) <;> simp
set_option maxRecDepth 20000 in
set_option maxHeartbeats 40000000 in
theorem gas_any (n : Nat) (v : Value) (p : Nat → Nat) (W : CW) (v1 v2 : Value) (g m : Nat) (w : World) (hv : SlAt w w.heap.size v n (fun j => .int .u8 (p j : Int))) (hp : ∀ j, p j < 256) (hg : g < 65536) (hm : m < 65536)
    (hW : CWAt w w.heap.size W v1 v2) (hWw : W.wide) (hL : LaidAt w) :
    Calls Tryd.prog 4 #[v, .agg #[v1, v2, .int .u64 W.ht], .int .u16 (g : Int), .int .u16 (m : Int)] w fun x w' => x = .returned (.bool true) ∧ Only [] w w' := by
  obtain ⟨a0, k0, rfl, -⟩ := id hv
  obtain ⟨a1, k1, rfl, hk1, hk1m, -⟩ := id hW.1
  obtain ⟨a2, k2, rfl, hk2, hk2m, -⟩ := id hW.2
  have HA := Lib.hid (And.intro hW (And.intro hWw (And.intro hL (And.intro hv hp))))
  clear hW hWw hL hv hp hk1 hk1m hk2 hk2m
  obtain ⟨ga, hga⟩ : ∃ ga, g % 4097 = ga := ⟨_, rfl⟩
  obtain ⟨gb, hgb⟩ : ∃ gb, min (ga + m) 4096 = gb := ⟨_, rfl⟩
  have l1 : ga ≤ 4096 := by omega
  have l2 : gb ≤ 4096 := by omega
  have l3 : ga ≤ gb := by omega
  have g0 : (g : Int) < 65536 := by omega
  have m0 : (m : Int) < 65536 := by omega
  have e1 : (g : Int) % 4097 = (ga : Int) := by omega
  have e2 : min ((ga : Int) + m) 4096 = (gb : Int) := by omega
  have HG := Lib.hid (And.intro l1 (And.intro l2 l3))
  clear l2 l3 hga hgb hg hm
  go_enter Tryd.func4, Tryd.ntmps4
  go_wp2_with fail
  refine (light_any a1 a2 W.n1 W.n2 k1 k2 W.ht _).mono ?_
  rintro e w1 ⟨rfl, hO1⟩
  have hQ1 := (LW.new w (.slice a1 W.n1 k1) (.slice a2 W.n2 k2) W.ht).next hO1
  obtain ⟨c10, c11, c12⟩ := hQ1.cells
  have l1' := hQ1.lt
  have HQ1 := Lib.hid hQ1
  clear hQ1 hO1
  by_cases hl : W.n1 ≤ 300 ∧ W.n2 ≤ 300
  · rw [decide_eq_true hl.1, decide_eq_true hl.2]
    have HL := Lib.hid hl
    clear hl
    obtain ⟨⟨x1, y1, z1⟩, hA⟩ : ∃ r, runG W n p ga = r := ⟨_, rfl⟩
    obtain ⟨⟨x2, y2, z2⟩, hB⟩ : ∃ r, runG W n p gb = r := ⟨_, rfl⟩
    have hlaw := gas_law W n p ga gb HG.out.2.2
    rw [hA, hB] at hlaw
    obtain ⟨q1, q2, q3, q4⟩ := hlaw
    simp only at q1 q2 q3 q4
    have n1' : ¬ (y1 : Int) > (ga : Int) := by omega
    have n2' : ¬ (y2 : Int) > (gb : Int) := by omega
    have n3' : ¬ (y1 : Int) > (y2 : Int) := by omega
    have HR := Lib.hid (And.intro hA (And.intro hB q4))
    clear hA hB q1 q2 q3 q4
    go_wp2_with fail
    rw [e1]
    clear e1 e2 g0 m0 l1
    refine (to_any W _ _ _ (HA.out.1.later HQ1.out.2) HL.out.1 HL.out.2).mono ?_
    rintro e wa1 ⟨u1, u2, rfl, hu, hO2⟩
    obtain ⟨b1, m1, rfl, -⟩ := id hu.1
    obtain ⟨b2, m2, rfl, -⟩ := id hu.2
    have hQ2 := HQ1.out.next hO2
    have hr0 := run_G n _ _ _ p W ga wa1 (HA.out.2.2.2.1.later hQ2.2) HA.out.2.2.2.2 (HA.out.2.2.1.only hQ2.2 (by simp)).forms (by have := HG.out; omega) hu HA.out.2.1
    rw [show runG W n p ga = (x1, y1, z1) from HR.out.1] at hr0
    have hr : Calls Tryd.prog 11 #[.slice a0 n k0, .agg #[.slice b1 W.n1 m1, .slice b2 W.n2 m2, .int .u64 W.ht], .int .i64 (ga : Int)] wa1 fun x w' => x = .returned (.tuple #[.int .u64 x1, .int .i64 (y1 : Int), .int .i64 z1]) ∧ Only [] wa1 w' := by exact hr0
    have HQa1 := Lib.hid (And.intro hQ2 hr)
    clear hQ2 hr hr0 hu hO2
    go_wp2_with fail
    refine HQa1.out.2.mono ?_
    rintro e wb1 ⟨rfl, hO3⟩
    have hQ3 := HQa1.out.1.next hO3
    obtain ⟨c0, c1, c2⟩ := hQ3.cells
    have l3 := hQ3.lt
    have HQ2 := Lib.hid hQ3
    clear hQ3 hO3
    go_wp2_with fail
    refine (to_any W _ _ _ (HA.out.1.later HQ2.out.2) HL.out.1 HL.out.2).mono ?_
    rintro e wa2 ⟨u1, u2, rfl, hu, hO2⟩
    obtain ⟨b1, m1, rfl, -⟩ := id hu.1
    obtain ⟨b2, m2, rfl, -⟩ := id hu.2
    have hQ2 := HQ2.out.next hO2
    have hr0 := run_G n _ _ _ p W gb wa2 (HA.out.2.2.2.1.later hQ2.2) HA.out.2.2.2.2 (HA.out.2.2.1.only hQ2.2 (by simp)).forms (by have := HG.out; omega) hu HA.out.2.1
    rw [show runG W n p gb = (x2, y2, z2) from HR.out.2.1] at hr0
    have hr : Calls Tryd.prog 11 #[.slice a0 n k0, .agg #[.slice b1 W.n1 m1, .slice b2 W.n2 m2, .int .u64 W.ht], .int .i64 (gb : Int)] wa2 fun x w' => x = .returned (.tuple #[.int .u64 x2, .int .i64 (y2 : Int), .int .i64 z2]) ∧ Only [] wa2 w' := by exact hr0
    have HQa2 := Lib.hid (And.intro hQ2 hr)
    clear hQ2 hr hr0 hu hO2
    go_wp2_with fail
    refine HQa2.out.2.mono ?_
    rintro e wb2 ⟨rfl, hO3⟩
    have hQ3 := HQa2.out.1.next hO3
    obtain ⟨c0, c1, c2⟩ := hQ3.cells
    have l3 := hQ3.lt
    have HQ3 := Lib.hid hQ3
    clear hQ3 hO3
    go_wp2_with fail
    refine (awake_any _ (HA.out.2.2.1.only HQ3.out.2 (by simp))).mono ?_
    rintro e w9 ⟨rfl, hO9⟩
    have hQ9 := HQ3.out.next hO9
    obtain ⟨c90, c91, c92⟩ := hQ9.cells
    have HQ9 := Lib.hid hQ9
    clear hQ9 hO9
    by_cases hz : z1 = 24
    · have hzb : ((z1 : Int) == 24) = true := by rw [hz]; rfl
      clear hz
      go_wp2_with fail
      go_ret
      exact ⟨rfl, HQ9.out.2⟩
    · have hzb : ((z1 : Int) == 24) = false := by simpa using hz
      have heq := HR.out.2.2
      rcases heq with h | h
      · exact absurd h hz
      · simp only [Prod.mk.injEq] at h
        obtain ⟨rfl, rfl, rfl⟩ := h
        clear hz
        go_wp2_with fail
        go_ret
        exact ⟨rfl, HQ9.out.2⟩
  · have hb : (decide (W.n1 ≤ 300) && decide (W.n2 ≤ 300)) = false := by simp; omega
    rw [hb]
    clear hl hb
    go_wp2_with (go_at_call 10; refine (awake_any _ (HA.out.2.2.1.only HQ1.out.2 (by simp))).mono ?_; rintro e w2 ⟨rfl, hO2⟩; (have H2 := Lib.hid hO2); clear hO2)
    go_ret
    exact ⟨rfl, HQ1.out.2.trans H2.out (by simp)⟩
end Go.Proofs.YtfhhkapjpmfolaaDoor
