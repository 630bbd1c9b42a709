/- law 11: runs of programs of any length; worlds of a law. -/
import Derived.Test.YtfhhkapjpmfolaaDoorCodeP
import Derived.Test.YtfhhkapjpmfolaaDoorCodeQ
import Derived.Test.YtfhhkapjpmfolaaDoorCodeJ
import Derived.WalkMore
namespace Go.Proofs.YtfhhkapjpmfolaaDoor
open Go.RowKit Go.Lib

set_option maxRecDepth 20000 in
theorem run_long (n : Nat) (a : Option Addr) (c : Nat) (a1 a2 : Option Addr) (n1 k1 n2 k2 : Nat) (ht : Int) (gas : Nat) (w : World) (h : 256 < n) :
    Calls Tryd.prog 11 #[.slice a n c, .agg #[.slice a1 n1 k1, .slice a2 n2 k2, .int .u64 ht], .int .i64 gas] w fun x w' => x = .returned (.tuple #[.int .u64 0, .int .i64 0, .int .i64 1]) ∧ Only [] w w' := by
  have hni : (n : Int) > 256 := by omega
  clear h
  go_enter Tryd.func11, Tryd.ntmps11
  go_wp2
  go_step3
  go_wp2
  rw [Exit.noGoto_ret]
  refine bodyPost_ret (results_tmp3 rfl _ _ _) rfl ?_
  exact ⟨rfl, (Only.refl _ _).alloc _⟩
theorem run_G (n : Nat) (v v1 v2 : Value) (p : Nat → Nat) (W : CW) (gas : Nat) (w : World) (hv : SlAt w w.heap.size v n (fun j => .int .u8 (p j : Int))) (hp : ∀ j, p j < 256) (hF : FormsAt w) (hg : gas ≤ 4096)
    (hW : CWAt w w.heap.size W v1 v2) (hWw : W.wide) :
    Calls Tryd.prog 11 #[v, .agg #[v1, v2, .int .u64 W.ht], .int .i64 gas] w fun x w' => x = .returned (.tuple #[.int .u64 (runG W n p gas).1, .int .i64 ((runG W n p gas).2.1 : Int), .int .i64 (runG W n p gas).2.2]) ∧ Only [] w w' := by
  by_cases h : 256 < n
  · obtain ⟨a, c, rfl, -⟩ := hv
    obtain ⟨a1, k1, rfl, -⟩ := hW.1
    obtain ⟨a2, k2, rfl, -⟩ := hW.2
    have e : runG W n p gas = (0, 0, 1) := by rw [runG, if_pos h]
    rw [e]
    exact run_long n a c a1 a2 W.n1 k1 W.n2 k2 W.ht gas w h
  · refine (run_any n v v1 v2 p W gas w hv (by omega) hp hF hg hW hWw).mono fun x w' ⟨⟨R, h1, h2⟩, h3⟩ => ?_
    have e : runG W n p gas = R := by rw [runG, if_neg h, h1]
    rw [e]
    exact ⟨h2, h3⟩

/-! A law that has boxed its world: block w.heap.size. -/
def LW (w : World) (v1 v2 : Value) (ht : Int) (wr : World) : Prop := wr.heap[w.heap.size]? = some (.cells #[v1, v2, .int .u64 ht] 27 (0, 0)) ∧ Only [] w wr
section
variable {w wr wq : World} {v1 v2 : Value} {ht : Int}
theorem LW.new (w : World) (v1 v2 : Value) (ht : Int) : LW w v1 v2 ht (w.alloc (.cells #[v1, v2, .int .u64 ht] 27)) := ⟨alloc_new _ _, (Only.refl _ _).alloc _⟩
theorem LW.next (h : LW w v1 v2 ht wr) (hO : Only [] wr wq) : LW w v1 v2 ht wq := ⟨hO.keeps h.1 (by simp), h.2.trans hO (by simp)⟩
theorem LW.cells (h : LW w v1 v2 ht wr) : wr.cell? ⟨w.heap.size, 0, none⟩ = some v1 ∧ wr.cell? ⟨w.heap.size, 1, none⟩ = some v2 ∧ wr.cell? ⟨w.heap.size, 2, none⟩ = some (.int .u64 ht) := by
  refine ⟨?_, ?_, ?_⟩ <;> simp [World.cell?, h.1]
theorem LW.lt (h : LW w v1 v2 ht wr) : w.heap.size < wr.heap.size := lt_of_block h.1
end
theorem CWAt.later {w wr : World} {W : CW} {v1 v2 : Value} (h : CWAt w w.heap.size W v1 v2) (hO : Only [] w wr) : CWAt wr wr.heap.size W v1 v2 := by
  have h' := h.below hO.to_below
  exact ⟨h'.1.mono hO.size, h'.2.mono hO.size⟩
theorem SlAt.later {w wr : World} {v : Value} {n : Nat} {V : Nat → Value} (h : SlAt w w.heap.size v n V) (hO : Only [] w wr) : SlAt wr wr.heap.size v n V := (h.below hO.to_below).mono hO.size
theorem sl_row {w : World} {g n : Nat} {l : List Nat} {k : IntKind} {t : TypeId} {f : Nat × Nat} (h : w.heap[g]? = some (.cells (l.map fun (b : Nat) => .int k (b : Int)).toArray t f)) (hn : l.length = n) (hm : n ≤ 1000) :
    SlAt w w.heap.size (.slice (some ⟨g, 0, none⟩) n n) n (fun j => .int k ((l.getD j 0 : Nat) : Int)) := by
  refine ⟨_, _, rfl, Nat.le_refl _, by omega, Or.inr ⟨g, 0, rfl, lt_of_block h, lt_of_block h, fun j hj => ?_⟩⟩
  have hj' : j < l.length := by omega
  rw [Nat.zero_add]
  simp [World.cell?, h, List.getElem?_eq_getElem hj', List.getD]

theorem sl_at {w : World} {a : Option Addr} {n c i : Nat} {V : Nat → Value} (h : SlAt w w.heap.size (.slice a n c) n V) (hi : i < n) : ∃ b o, a = some ⟨b, o, none⟩ ∧ ∀ wq, Only [] w wq → wq.cell? ⟨b, o + i, none⟩ = some (V i) := by
  obtain ⟨a', c', h1, -, -, h4⟩ := h
  simp only [Value.slice.injEq] at h1
  obtain ⟨rfl, -, rfl⟩ := h1
  rcases h4 with h4 | ⟨b, o, rfl, hb, hb', hc⟩
  · omega
  · exact ⟨b, o, rfl, fun wq hO => (hO.cell (p := ⟨b, o + i, none⟩) hb' (by simp)).trans (hc i hi)⟩
set_option maxRecDepth 20000 in
set_option maxHeartbeats 40000000 in
theorem asks_any (W : CW) (v1 v2 : Value) (i : Nat) (w : World) (hi : i < 256) (hW : CWAt w w.heap.size W v1 v2) (hWw : W.wide) (hL : LaidAt w) :
    Calls Tryd.prog 5 #[.agg #[v1, v2, .int .u64 W.ht], .int .u8 (i : Int)] w fun x w' => x = .returned (.bool true) ∧ Only [] w w' := by
  obtain ⟨a1, k1, rfl, hk1, hk1m, -⟩ := id hW.1
  obtain ⟨a2, k2, rfl, hk2, hk2m, -⟩ := id hW.2
  have hn1 : (W.n1 : Int) ≤ 9223372036854775807 := by omega
  have hn2 : (W.n2 : Int) ≤ 9223372036854775807 := by omega
  have HA := Lib.hid (And.intro hW (And.intro hWw (And.intro hL hi)))
  have hi' : (i : Int) < 256 := by omega
  clear hW hWw hL hi
  go_enter Tryd.func5, Tryd.ntmps5
  go_wp2_with fail
  refine (light_any a1 a2 W.n1 W.n2 k1 k2 W.ht _).mono ?_
  rintro e w1 ⟨rfl, hO1⟩
  have hQ1 := (LW.new w (.slice a1 W.n1 k1) (.slice a2 W.n2 k2) W.ht).next hO1
  obtain ⟨c10, c11, c12⟩ := hQ1.cells
  have l1 := hQ1.lt
  have HQ1 := Lib.hid hQ1
  clear hQ1 hO1
  by_cases hl : W.n1 ≤ 300 ∧ W.n2 ≤ 300
  · rw [decide_eq_true hl.1, decide_eq_true hl.2]
    have HL := Lib.hid hl
    clear hl
    by_cases h1 : i < W.n1 <;> by_cases h2 : i < W.n2
    · cases hpd : W.PD i
      · obtain ⟨bb, oo, rfl, hf1⟩ := sl_at HA.out.1.1 h1
        have hi1 : (i : Int) < W.n1 := by omega
        have H1 := Lib.hid h1
        clear h1
        obtain ⟨bc, oc, rfl, hf2⟩ := sl_at HA.out.1.2 h2
        have hi2 : (i : Int) < W.n2 := by omega
        have H2 := Lib.hid h2
        clear h2
        have HF1 := Lib.hid hf1
        clear hf1
        rw [hpd] at hf2
        have HF2 := Lib.hid (And.intro hf2 hpd)
        clear hf2 hpd
        go_wp2_with fail
        refine (to_any W _ _ _ (HA.out.1.later (HQ1.out.2.alloc _)) HL.out.1 HL.out.2).mono ?_
        rintro e wa1 ⟨u1, u2, rfl, hu, hO2⟩
        obtain ⟨b1, m1, rfl, -⟩ := id hu.1
        obtain ⟨b2, m2, rfl, -⟩ := id hu.2
        have hQ2 := (HQ1.out.next ((Only.refl [] _).alloc _)).next hO2
        have hp2 := sl_row (l := askP 2 i) (n := 3) (hO2.keeps (alloc_new _ (.cells #[.int .u8 2, .int .u8 (i : Int), .int .u8 0] 5)) (by simp)) rfl (by omega)
        have hr := run_G 3 _ _ _ (fun j => (askP 2 i).getD j 0) W 100 wa1 hp2 (getD_lt _ (by simp [askP, HA.out.2.2.2])) (HA.out.2.2.1.only hQ2.2 (by simp)).forms (by omega) hu HA.out.2.1
        rw [show runG W 3 (fun j => (askP 2 i).getD j 0) 100 = _ from (ask_load W i).trans (if_pos H1.out)] at hr
        have hr : Calls Tryd.prog 11 #[_, .agg #[.slice b1 W.n1 m1, .slice b2 W.n2 m2, .int .u64 W.ht], .int .i64 100] wa1 fun x w' => x = .returned (.tuple #[.int .u64 (W.FL i), .int .i64 2, .int .i64 0]) ∧ Only [] wa1 w' := hr
        have HQa1 := Lib.hid (And.intro hQ2 hr)
        clear hQ2 hp2 hr hu hO2
        go_wp2_with fail
        refine HQa1.out.2.mono ?_
        rintro e wb1 ⟨rfl, hO3⟩
        have hQ3 := HQa1.out.1.next hO3
        obtain ⟨c0, c1, c2⟩ := hQ3.cells
        have l3 := hQ3.lt
        have cF1 : wb1.cell? ⟨bb, oo + i, none⟩ = some (.int .u64 (W.FL i)) := HF1.out _ hQ3.2
        have HQ2 := Lib.hid hQ3
        clear hQ3 hO3
        go_wp2_with fail
        refine (to_any W _ _ _ (HA.out.1.later (HQ2.out.2.alloc _)) HL.out.1 HL.out.2).mono ?_
        rintro e wa2 ⟨u1, u2, rfl, hu, hO2⟩
        obtain ⟨b1, m1, rfl, -⟩ := id hu.1
        obtain ⟨b2, m2, rfl, -⟩ := id hu.2
        have hQ2 := (HQ2.out.next ((Only.refl [] _).alloc _)).next hO2
        have hp2 := sl_row (l := askP 16 i) (n := 3) (hO2.keeps (alloc_new _ (.cells #[.int .u8 16, .int .u8 (i : Int), .int .u8 0] 5)) (by simp)) rfl (by omega)
        have hr := run_G 3 _ _ _ (fun j => (askP 16 i).getD j 0) W 100 wa2 hp2 (getD_lt _ (by simp [askP, HA.out.2.2.2])) (HA.out.2.2.1.only hQ2.2 (by simp)).forms (by omega) hu HA.out.2.1
        rw [show runG W 3 (fun j => (askP 16 i).getD j 0) 100 = _ from (ask_paid W i).trans (if_pos H2.out), HF2.out.2, show oneF false = 0 from rfl] at hr
        have hr : Calls Tryd.prog 11 #[_, .agg #[.slice b1 W.n1 m1, .slice b2 W.n2 m2, .int .u64 W.ht], .int .i64 100] wa2 fun x w' => x = .returned (.tuple #[.int .u64 (0), .int .i64 11, .int .i64 0]) ∧ Only [] wa2 w' := hr
        have HQa2 := Lib.hid (And.intro hQ2 hr)
        clear hQ2 hp2 hr hu hO2
        go_wp2_with fail
        refine HQa2.out.2.mono ?_
        rintro e wb2 ⟨rfl, hO3⟩
        have hQ3 := HQa2.out.1.next hO3
        obtain ⟨c0, c1, c2⟩ := hQ3.cells
        have l3 := hQ3.lt
        have cF2 : wb2.cell? ⟨bc, oc + i, none⟩ = some (.bool false) := HF2.out.1 _ hQ3.2
        have HQ3 := Lib.hid hQ3
        clear hQ3 hO3
        go_wp2_with fail
        refine (to_any W _ _ _ (HA.out.1.later (HQ3.out.2.alloc _)) HL.out.1 HL.out.2).mono ?_
        rintro e wa3 ⟨u1, u2, rfl, hu, hO2⟩
        obtain ⟨b1, m1, rfl, -⟩ := id hu.1
        obtain ⟨b2, m2, rfl, -⟩ := id hu.2
        have hQ2 := (HQ3.out.next ((Only.refl [] _).alloc _)).next hO2
        have hp2 := sl_row (l := nowP) (n := 2) (hO2.keeps (alloc_new _ (.cells #[.int .u8 17, .int .u8 0] 5)) (by simp)) rfl (by omega)
        have hr := run_G 2 _ _ _ (fun j => (nowP).getD j 0) W 2 wa3 hp2 (getD_lt _ (by simp [nowP])) (HA.out.2.2.1.only hQ2.2 (by simp)).forms (by omega) hu HA.out.2.1
        rw [ask_now W] at hr
        have hr : Calls Tryd.prog 11 #[_, .agg #[.slice b1 W.n1 m1, .slice b2 W.n2 m2, .int .u64 W.ht], .int .i64 2] wa3 fun x w' => x = .returned (.tuple #[.int .u64 (W.ht), .int .i64 2, .int .i64 0]) ∧ Only [] wa3 w' := hr
        have HQa3 := Lib.hid (And.intro hQ2 hr)
        clear hQ2 hp2 hr hu hO2
        go_wp2_with fail
        refine HQa3.out.2.mono ?_
        rintro e wb3 ⟨rfl, hO3⟩
        have hQ3 := HQa3.out.1.next hO3
        obtain ⟨c0, c1, c2⟩ := hQ3.cells
        have l3 := hQ3.lt
        have HQ4 := Lib.hid hQ3
        clear hQ3 hO3
        go_wp2_with fail
        refine (awake_any _ (HA.out.2.2.1.only HQ4.out.2 (by simp))).mono ?_
        rintro e w9 ⟨rfl, hO9⟩
        have hQ9 := HQ4.out.next hO9
        obtain ⟨c90, c91, c92⟩ := hQ9.cells
        have HQ9 := Lib.hid hQ9
        clear hQ9 hO9
        go_wp2_with fail
        go_ret
        exact ⟨rfl, HQ9.out.2⟩
      · obtain ⟨bb, oo, rfl, hf1⟩ := sl_at HA.out.1.1 h1
        have hi1 : (i : Int) < W.n1 := by omega
        have H1 := Lib.hid h1
        clear h1
        obtain ⟨bc, oc, rfl, hf2⟩ := sl_at HA.out.1.2 h2
        have hi2 : (i : Int) < W.n2 := by omega
        have H2 := Lib.hid h2
        clear h2
        have HF1 := Lib.hid hf1
        clear hf1
        rw [hpd] at hf2
        have HF2 := Lib.hid (And.intro hf2 hpd)
        clear hf2 hpd
        go_wp2_with fail
        refine (to_any W _ _ _ (HA.out.1.later (HQ1.out.2.alloc _)) HL.out.1 HL.out.2).mono ?_
        rintro e wa1 ⟨u1, u2, rfl, hu, hO2⟩
        obtain ⟨b1, m1, rfl, -⟩ := id hu.1
        obtain ⟨b2, m2, rfl, -⟩ := id hu.2
        have hQ2 := (HQ1.out.next ((Only.refl [] _).alloc _)).next hO2
        have hp2 := sl_row (l := askP 2 i) (n := 3) (hO2.keeps (alloc_new _ (.cells #[.int .u8 2, .int .u8 (i : Int), .int .u8 0] 5)) (by simp)) rfl (by omega)
        have hr := run_G 3 _ _ _ (fun j => (askP 2 i).getD j 0) W 100 wa1 hp2 (getD_lt _ (by simp [askP, HA.out.2.2.2])) (HA.out.2.2.1.only hQ2.2 (by simp)).forms (by omega) hu HA.out.2.1
        rw [show runG W 3 (fun j => (askP 2 i).getD j 0) 100 = _ from (ask_load W i).trans (if_pos H1.out)] at hr
        have hr : Calls Tryd.prog 11 #[_, .agg #[.slice b1 W.n1 m1, .slice b2 W.n2 m2, .int .u64 W.ht], .int .i64 100] wa1 fun x w' => x = .returned (.tuple #[.int .u64 (W.FL i), .int .i64 2, .int .i64 0]) ∧ Only [] wa1 w' := hr
        have HQa1 := Lib.hid (And.intro hQ2 hr)
        clear hQ2 hp2 hr hu hO2
        go_wp2_with fail
        refine HQa1.out.2.mono ?_
        rintro e wb1 ⟨rfl, hO3⟩
        have hQ3 := HQa1.out.1.next hO3
        obtain ⟨c0, c1, c2⟩ := hQ3.cells
        have l3 := hQ3.lt
        have cF1 : wb1.cell? ⟨bb, oo + i, none⟩ = some (.int .u64 (W.FL i)) := HF1.out _ hQ3.2
        have HQ2 := Lib.hid hQ3
        clear hQ3 hO3
        go_wp2_with fail
        refine (to_any W _ _ _ (HA.out.1.later (HQ2.out.2.alloc _)) HL.out.1 HL.out.2).mono ?_
        rintro e wa2 ⟨u1, u2, rfl, hu, hO2⟩
        obtain ⟨b1, m1, rfl, -⟩ := id hu.1
        obtain ⟨b2, m2, rfl, -⟩ := id hu.2
        have hQ2 := (HQ2.out.next ((Only.refl [] _).alloc _)).next hO2
        have hp2 := sl_row (l := askP 16 i) (n := 3) (hO2.keeps (alloc_new _ (.cells #[.int .u8 16, .int .u8 (i : Int), .int .u8 0] 5)) (by simp)) rfl (by omega)
        have hr := run_G 3 _ _ _ (fun j => (askP 16 i).getD j 0) W 100 wa2 hp2 (getD_lt _ (by simp [askP, HA.out.2.2.2])) (HA.out.2.2.1.only hQ2.2 (by simp)).forms (by omega) hu HA.out.2.1
        rw [show runG W 3 (fun j => (askP 16 i).getD j 0) 100 = _ from (ask_paid W i).trans (if_pos H2.out), HF2.out.2, show oneF true = 1 from rfl] at hr
        have hr : Calls Tryd.prog 11 #[_, .agg #[.slice b1 W.n1 m1, .slice b2 W.n2 m2, .int .u64 W.ht], .int .i64 100] wa2 fun x w' => x = .returned (.tuple #[.int .u64 (1), .int .i64 11, .int .i64 0]) ∧ Only [] wa2 w' := hr
        have HQa2 := Lib.hid (And.intro hQ2 hr)
        clear hQ2 hp2 hr hu hO2
        go_wp2_with fail
        refine HQa2.out.2.mono ?_
        rintro e wb2 ⟨rfl, hO3⟩
        have hQ3 := HQa2.out.1.next hO3
        obtain ⟨c0, c1, c2⟩ := hQ3.cells
        have l3 := hQ3.lt
        have cF2 : wb2.cell? ⟨bc, oc + i, none⟩ = some (.bool true) := HF2.out.1 _ hQ3.2
        have HQ3 := Lib.hid hQ3
        clear hQ3 hO3
        go_wp2_with fail
        refine (to_any W _ _ _ (HA.out.1.later (HQ3.out.2.alloc _)) HL.out.1 HL.out.2).mono ?_
        rintro e wa3 ⟨u1, u2, rfl, hu, hO2⟩
        obtain ⟨b1, m1, rfl, -⟩ := id hu.1
        obtain ⟨b2, m2, rfl, -⟩ := id hu.2
        have hQ2 := (HQ3.out.next ((Only.refl [] _).alloc _)).next hO2
        have hp2 := sl_row (l := nowP) (n := 2) (hO2.keeps (alloc_new _ (.cells #[.int .u8 17, .int .u8 0] 5)) (by simp)) rfl (by omega)
        have hr := run_G 2 _ _ _ (fun j => (nowP).getD j 0) W 2 wa3 hp2 (getD_lt _ (by simp [nowP])) (HA.out.2.2.1.only hQ2.2 (by simp)).forms (by omega) hu HA.out.2.1
        rw [ask_now W] at hr
        have hr : Calls Tryd.prog 11 #[_, .agg #[.slice b1 W.n1 m1, .slice b2 W.n2 m2, .int .u64 W.ht], .int .i64 2] wa3 fun x w' => x = .returned (.tuple #[.int .u64 (W.ht), .int .i64 2, .int .i64 0]) ∧ Only [] wa3 w' := hr
        have HQa3 := Lib.hid (And.intro hQ2 hr)
        clear hQ2 hp2 hr hu hO2
        go_wp2_with fail
        refine HQa3.out.2.mono ?_
        rintro e wb3 ⟨rfl, hO3⟩
        have hQ3 := HQa3.out.1.next hO3
        obtain ⟨c0, c1, c2⟩ := hQ3.cells
        have l3 := hQ3.lt
        have HQ4 := Lib.hid hQ3
        clear hQ3 hO3
        go_wp2_with fail
        refine (awake_any _ (HA.out.2.2.1.only HQ4.out.2 (by simp))).mono ?_
        rintro e w9 ⟨rfl, hO9⟩
        have hQ9 := HQ4.out.next hO9
        obtain ⟨c90, c91, c92⟩ := hQ9.cells
        have HQ9 := Lib.hid hQ9
        clear hQ9 hO9
        go_wp2_with fail
        go_ret
        exact ⟨rfl, HQ9.out.2⟩
    · obtain ⟨bb, oo, rfl, hf1⟩ := sl_at HA.out.1.1 h1
      have hi1 : (i : Int) < W.n1 := by omega
      have H1 := Lib.hid h1
      clear h1
      have hi2 : ¬ (i : Int) < W.n2 := by omega
      have H2 := Lib.hid h2
      clear h2
      have HF1 := Lib.hid hf1
      clear hf1
      go_wp2_with fail
      refine (to_any W _ _ _ (HA.out.1.later (HQ1.out.2.alloc _)) HL.out.1 HL.out.2).mono ?_
      rintro e wa1 ⟨u1, u2, rfl, hu, hO2⟩
      obtain ⟨b1, m1, rfl, -⟩ := id hu.1
      obtain ⟨b2, m2, rfl, -⟩ := id hu.2
      have hQ2 := (HQ1.out.next ((Only.refl [] _).alloc _)).next hO2
      have hp2 := sl_row (l := askP 2 i) (n := 3) (hO2.keeps (alloc_new _ (.cells #[.int .u8 2, .int .u8 (i : Int), .int .u8 0] 5)) (by simp)) rfl (by omega)
      have hr := run_G 3 _ _ _ (fun j => (askP 2 i).getD j 0) W 100 wa1 hp2 (getD_lt _ (by simp [askP, HA.out.2.2.2])) (HA.out.2.2.1.only hQ2.2 (by simp)).forms (by omega) hu HA.out.2.1
      rw [show runG W 3 (fun j => (askP 2 i).getD j 0) 100 = _ from (ask_load W i).trans (if_pos H1.out)] at hr
      have hr : Calls Tryd.prog 11 #[_, .agg #[.slice b1 W.n1 m1, .slice b2 W.n2 m2, .int .u64 W.ht], .int .i64 100] wa1 fun x w' => x = .returned (.tuple #[.int .u64 (W.FL i), .int .i64 2, .int .i64 0]) ∧ Only [] wa1 w' := hr
      have HQa1 := Lib.hid (And.intro hQ2 hr)
      clear hQ2 hp2 hr hu hO2
      go_wp2_with fail
      refine HQa1.out.2.mono ?_
      rintro e wb1 ⟨rfl, hO3⟩
      have hQ3 := HQa1.out.1.next hO3
      obtain ⟨c0, c1, c2⟩ := hQ3.cells
      have l3 := hQ3.lt
      have cF1 : wb1.cell? ⟨bb, oo + i, none⟩ = some (.int .u64 (W.FL i)) := HF1.out _ hQ3.2
      have HQ2 := Lib.hid hQ3
      clear hQ3 hO3
      go_wp2_with fail
      refine (to_any W _ _ _ (HA.out.1.later (HQ2.out.2.alloc _)) HL.out.1 HL.out.2).mono ?_
      rintro e wa2 ⟨u1, u2, rfl, hu, hO2⟩
      obtain ⟨b1, m1, rfl, -⟩ := id hu.1
      obtain ⟨b2, m2, rfl, -⟩ := id hu.2
      have hQ2 := (HQ2.out.next ((Only.refl [] _).alloc _)).next hO2
      have hp2 := sl_row (l := askP 16 i) (n := 3) (hO2.keeps (alloc_new _ (.cells #[.int .u8 16, .int .u8 (i : Int), .int .u8 0] 5)) (by simp)) rfl (by omega)
      have hr := run_G 3 _ _ _ (fun j => (askP 16 i).getD j 0) W 100 wa2 hp2 (getD_lt _ (by simp [askP, HA.out.2.2.2])) (HA.out.2.2.1.only hQ2.2 (by simp)).forms (by omega) hu HA.out.2.1
      rw [show runG W 3 (fun j => (askP 16 i).getD j 0) 100 = _ from (ask_paid W i).trans (if_neg H2.out)] at hr
      have hr : Calls Tryd.prog 11 #[_, .agg #[.slice b1 W.n1 m1, .slice b2 W.n2 m2, .int .u64 W.ht], .int .i64 100] wa2 fun x w' => x = .returned (.tuple #[.int .u64 (0), .int .i64 10, .int .i64 1]) ∧ Only [] wa2 w' := hr
      have HQa2 := Lib.hid (And.intro hQ2 hr)
      clear hQ2 hp2 hr hu hO2
      go_wp2_with fail
      refine HQa2.out.2.mono ?_
      rintro e wb2 ⟨rfl, hO3⟩
      have hQ3 := HQa2.out.1.next hO3
      obtain ⟨c0, c1, c2⟩ := hQ3.cells
      have l3 := hQ3.lt
      have HQ3 := Lib.hid hQ3
      clear hQ3 hO3
      go_wp2_with fail
      refine (to_any W _ _ _ (HA.out.1.later (HQ3.out.2.alloc _)) HL.out.1 HL.out.2).mono ?_
      rintro e wa3 ⟨u1, u2, rfl, hu, hO2⟩
      obtain ⟨b1, m1, rfl, -⟩ := id hu.1
      obtain ⟨b2, m2, rfl, -⟩ := id hu.2
      have hQ2 := (HQ3.out.next ((Only.refl [] _).alloc _)).next hO2
      have hp2 := sl_row (l := nowP) (n := 2) (hO2.keeps (alloc_new _ (.cells #[.int .u8 17, .int .u8 0] 5)) (by simp)) rfl (by omega)
      have hr := run_G 2 _ _ _ (fun j => (nowP).getD j 0) W 2 wa3 hp2 (getD_lt _ (by simp [nowP])) (HA.out.2.2.1.only hQ2.2 (by simp)).forms (by omega) hu HA.out.2.1
      rw [ask_now W] at hr
      have hr : Calls Tryd.prog 11 #[_, .agg #[.slice b1 W.n1 m1, .slice b2 W.n2 m2, .int .u64 W.ht], .int .i64 2] wa3 fun x w' => x = .returned (.tuple #[.int .u64 (W.ht), .int .i64 2, .int .i64 0]) ∧ Only [] wa3 w' := hr
      have HQa3 := Lib.hid (And.intro hQ2 hr)
      clear hQ2 hp2 hr hu hO2
      go_wp2_with fail
      refine HQa3.out.2.mono ?_
      rintro e wb3 ⟨rfl, hO3⟩
      have hQ3 := HQa3.out.1.next hO3
      obtain ⟨c0, c1, c2⟩ := hQ3.cells
      have l3 := hQ3.lt
      have HQ4 := Lib.hid hQ3
      clear hQ3 hO3
      go_wp2_with fail
      refine (awake_any _ (HA.out.2.2.1.only HQ4.out.2 (by simp))).mono ?_
      rintro e w9 ⟨rfl, hO9⟩
      have hQ9 := HQ4.out.next hO9
      obtain ⟨c90, c91, c92⟩ := hQ9.cells
      have HQ9 := Lib.hid hQ9
      clear hQ9 hO9
      go_wp2_with fail
      go_ret
      exact ⟨rfl, HQ9.out.2⟩
    · cases hpd : W.PD i
      · have hi1 : ¬ (i : Int) < W.n1 := by omega
        have H1 := Lib.hid h1
        clear h1
        obtain ⟨bc, oc, rfl, hf2⟩ := sl_at HA.out.1.2 h2
        have hi2 : (i : Int) < W.n2 := by omega
        have H2 := Lib.hid h2
        clear h2
        rw [hpd] at hf2
        have HF2 := Lib.hid (And.intro hf2 hpd)
        clear hf2 hpd
        go_wp2_with fail
        refine (to_any W _ _ _ (HA.out.1.later (HQ1.out.2.alloc _)) HL.out.1 HL.out.2).mono ?_
        rintro e wa1 ⟨u1, u2, rfl, hu, hO2⟩
        obtain ⟨b1, m1, rfl, -⟩ := id hu.1
        obtain ⟨b2, m2, rfl, -⟩ := id hu.2
        have hQ2 := (HQ1.out.next ((Only.refl [] _).alloc _)).next hO2
        have hp2 := sl_row (l := askP 2 i) (n := 3) (hO2.keeps (alloc_new _ (.cells #[.int .u8 2, .int .u8 (i : Int), .int .u8 0] 5)) (by simp)) rfl (by omega)
        have hr := run_G 3 _ _ _ (fun j => (askP 2 i).getD j 0) W 100 wa1 hp2 (getD_lt _ (by simp [askP, HA.out.2.2.2])) (HA.out.2.2.1.only hQ2.2 (by simp)).forms (by omega) hu HA.out.2.1
        rw [show runG W 3 (fun j => (askP 2 i).getD j 0) 100 = _ from (ask_load W i).trans (if_neg H1.out)] at hr
        have hr : Calls Tryd.prog 11 #[_, .agg #[.slice b1 W.n1 m1, .slice b2 W.n2 m2, .int .u64 W.ht], .int .i64 100] wa1 fun x w' => x = .returned (.tuple #[.int .u64 (0), .int .i64 1, .int .i64 1]) ∧ Only [] wa1 w' := hr
        have HQa1 := Lib.hid (And.intro hQ2 hr)
        clear hQ2 hp2 hr hu hO2
        go_wp2_with fail
        refine HQa1.out.2.mono ?_
        rintro e wb1 ⟨rfl, hO3⟩
        have hQ3 := HQa1.out.1.next hO3
        obtain ⟨c0, c1, c2⟩ := hQ3.cells
        have l3 := hQ3.lt
        have HQ2 := Lib.hid hQ3
        clear hQ3 hO3
        go_wp2_with fail
        refine (to_any W _ _ _ (HA.out.1.later (HQ2.out.2.alloc _)) HL.out.1 HL.out.2).mono ?_
        rintro e wa2 ⟨u1, u2, rfl, hu, hO2⟩
        obtain ⟨b1, m1, rfl, -⟩ := id hu.1
        obtain ⟨b2, m2, rfl, -⟩ := id hu.2
        have hQ2 := (HQ2.out.next ((Only.refl [] _).alloc _)).next hO2
        have hp2 := sl_row (l := askP 16 i) (n := 3) (hO2.keeps (alloc_new _ (.cells #[.int .u8 16, .int .u8 (i : Int), .int .u8 0] 5)) (by simp)) rfl (by omega)
        have hr := run_G 3 _ _ _ (fun j => (askP 16 i).getD j 0) W 100 wa2 hp2 (getD_lt _ (by simp [askP, HA.out.2.2.2])) (HA.out.2.2.1.only hQ2.2 (by simp)).forms (by omega) hu HA.out.2.1
        rw [show runG W 3 (fun j => (askP 16 i).getD j 0) 100 = _ from (ask_paid W i).trans (if_pos H2.out), HF2.out.2, show oneF false = 0 from rfl] at hr
        have hr : Calls Tryd.prog 11 #[_, .agg #[.slice b1 W.n1 m1, .slice b2 W.n2 m2, .int .u64 W.ht], .int .i64 100] wa2 fun x w' => x = .returned (.tuple #[.int .u64 (0), .int .i64 11, .int .i64 0]) ∧ Only [] wa2 w' := hr
        have HQa2 := Lib.hid (And.intro hQ2 hr)
        clear hQ2 hp2 hr hu hO2
        go_wp2_with fail
        refine HQa2.out.2.mono ?_
        rintro e wb2 ⟨rfl, hO3⟩
        have hQ3 := HQa2.out.1.next hO3
        obtain ⟨c0, c1, c2⟩ := hQ3.cells
        have l3 := hQ3.lt
        have cF2 : wb2.cell? ⟨bc, oc + i, none⟩ = some (.bool false) := HF2.out.1 _ hQ3.2
        have HQ3 := Lib.hid hQ3
        clear hQ3 hO3
        go_wp2_with fail
        refine (to_any W _ _ _ (HA.out.1.later (HQ3.out.2.alloc _)) HL.out.1 HL.out.2).mono ?_
        rintro e wa3 ⟨u1, u2, rfl, hu, hO2⟩
        obtain ⟨b1, m1, rfl, -⟩ := id hu.1
        obtain ⟨b2, m2, rfl, -⟩ := id hu.2
        have hQ2 := (HQ3.out.next ((Only.refl [] _).alloc _)).next hO2
        have hp2 := sl_row (l := nowP) (n := 2) (hO2.keeps (alloc_new _ (.cells #[.int .u8 17, .int .u8 0] 5)) (by simp)) rfl (by omega)
        have hr := run_G 2 _ _ _ (fun j => (nowP).getD j 0) W 2 wa3 hp2 (getD_lt _ (by simp [nowP])) (HA.out.2.2.1.only hQ2.2 (by simp)).forms (by omega) hu HA.out.2.1
        rw [ask_now W] at hr
        have hr : Calls Tryd.prog 11 #[_, .agg #[.slice b1 W.n1 m1, .slice b2 W.n2 m2, .int .u64 W.ht], .int .i64 2] wa3 fun x w' => x = .returned (.tuple #[.int .u64 (W.ht), .int .i64 2, .int .i64 0]) ∧ Only [] wa3 w' := hr
        have HQa3 := Lib.hid (And.intro hQ2 hr)
        clear hQ2 hp2 hr hu hO2
        go_wp2_with fail
        refine HQa3.out.2.mono ?_
        rintro e wb3 ⟨rfl, hO3⟩
        have hQ3 := HQa3.out.1.next hO3
        obtain ⟨c0, c1, c2⟩ := hQ3.cells
        have l3 := hQ3.lt
        have HQ4 := Lib.hid hQ3
        clear hQ3 hO3
        go_wp2_with fail
        refine (awake_any _ (HA.out.2.2.1.only HQ4.out.2 (by simp))).mono ?_
        rintro e w9 ⟨rfl, hO9⟩
        have hQ9 := HQ4.out.next hO9
        obtain ⟨c90, c91, c92⟩ := hQ9.cells
        have HQ9 := Lib.hid hQ9
        clear hQ9 hO9
        go_wp2_with fail
        go_ret
        exact ⟨rfl, HQ9.out.2⟩
      · have hi1 : ¬ (i : Int) < W.n1 := by omega
        have H1 := Lib.hid h1
        clear h1
        obtain ⟨bc, oc, rfl, hf2⟩ := sl_at HA.out.1.2 h2
        have hi2 : (i : Int) < W.n2 := by omega
        have H2 := Lib.hid h2
        clear h2
        rw [hpd] at hf2
        have HF2 := Lib.hid (And.intro hf2 hpd)
        clear hf2 hpd
        go_wp2_with fail
        refine (to_any W _ _ _ (HA.out.1.later (HQ1.out.2.alloc _)) HL.out.1 HL.out.2).mono ?_
        rintro e wa1 ⟨u1, u2, rfl, hu, hO2⟩
        obtain ⟨b1, m1, rfl, -⟩ := id hu.1
        obtain ⟨b2, m2, rfl, -⟩ := id hu.2
        have hQ2 := (HQ1.out.next ((Only.refl [] _).alloc _)).next hO2
        have hp2 := sl_row (l := askP 2 i) (n := 3) (hO2.keeps (alloc_new _ (.cells #[.int .u8 2, .int .u8 (i : Int), .int .u8 0] 5)) (by simp)) rfl (by omega)
        have hr := run_G 3 _ _ _ (fun j => (askP 2 i).getD j 0) W 100 wa1 hp2 (getD_lt _ (by simp [askP, HA.out.2.2.2])) (HA.out.2.2.1.only hQ2.2 (by simp)).forms (by omega) hu HA.out.2.1
        rw [show runG W 3 (fun j => (askP 2 i).getD j 0) 100 = _ from (ask_load W i).trans (if_neg H1.out)] at hr
        have hr : Calls Tryd.prog 11 #[_, .agg #[.slice b1 W.n1 m1, .slice b2 W.n2 m2, .int .u64 W.ht], .int .i64 100] wa1 fun x w' => x = .returned (.tuple #[.int .u64 (0), .int .i64 1, .int .i64 1]) ∧ Only [] wa1 w' := hr
        have HQa1 := Lib.hid (And.intro hQ2 hr)
        clear hQ2 hp2 hr hu hO2
        go_wp2_with fail
        refine HQa1.out.2.mono ?_
        rintro e wb1 ⟨rfl, hO3⟩
        have hQ3 := HQa1.out.1.next hO3
        obtain ⟨c0, c1, c2⟩ := hQ3.cells
        have l3 := hQ3.lt
        have HQ2 := Lib.hid hQ3
        clear hQ3 hO3
        go_wp2_with fail
        refine (to_any W _ _ _ (HA.out.1.later (HQ2.out.2.alloc _)) HL.out.1 HL.out.2).mono ?_
        rintro e wa2 ⟨u1, u2, rfl, hu, hO2⟩
        obtain ⟨b1, m1, rfl, -⟩ := id hu.1
        obtain ⟨b2, m2, rfl, -⟩ := id hu.2
        have hQ2 := (HQ2.out.next ((Only.refl [] _).alloc _)).next hO2
        have hp2 := sl_row (l := askP 16 i) (n := 3) (hO2.keeps (alloc_new _ (.cells #[.int .u8 16, .int .u8 (i : Int), .int .u8 0] 5)) (by simp)) rfl (by omega)
        have hr := run_G 3 _ _ _ (fun j => (askP 16 i).getD j 0) W 100 wa2 hp2 (getD_lt _ (by simp [askP, HA.out.2.2.2])) (HA.out.2.2.1.only hQ2.2 (by simp)).forms (by omega) hu HA.out.2.1
        rw [show runG W 3 (fun j => (askP 16 i).getD j 0) 100 = _ from (ask_paid W i).trans (if_pos H2.out), HF2.out.2, show oneF true = 1 from rfl] at hr
        have hr : Calls Tryd.prog 11 #[_, .agg #[.slice b1 W.n1 m1, .slice b2 W.n2 m2, .int .u64 W.ht], .int .i64 100] wa2 fun x w' => x = .returned (.tuple #[.int .u64 (1), .int .i64 11, .int .i64 0]) ∧ Only [] wa2 w' := hr
        have HQa2 := Lib.hid (And.intro hQ2 hr)
        clear hQ2 hp2 hr hu hO2
        go_wp2_with fail
        refine HQa2.out.2.mono ?_
        rintro e wb2 ⟨rfl, hO3⟩
        have hQ3 := HQa2.out.1.next hO3
        obtain ⟨c0, c1, c2⟩ := hQ3.cells
        have l3 := hQ3.lt
        have cF2 : wb2.cell? ⟨bc, oc + i, none⟩ = some (.bool true) := HF2.out.1 _ hQ3.2
        have HQ3 := Lib.hid hQ3
        clear hQ3 hO3
        go_wp2_with fail
        refine (to_any W _ _ _ (HA.out.1.later (HQ3.out.2.alloc _)) HL.out.1 HL.out.2).mono ?_
        rintro e wa3 ⟨u1, u2, rfl, hu, hO2⟩
        obtain ⟨b1, m1, rfl, -⟩ := id hu.1
        obtain ⟨b2, m2, rfl, -⟩ := id hu.2
        have hQ2 := (HQ3.out.next ((Only.refl [] _).alloc _)).next hO2
        have hp2 := sl_row (l := nowP) (n := 2) (hO2.keeps (alloc_new _ (.cells #[.int .u8 17, .int .u8 0] 5)) (by simp)) rfl (by omega)
        have hr := run_G 2 _ _ _ (fun j => (nowP).getD j 0) W 2 wa3 hp2 (getD_lt _ (by simp [nowP])) (HA.out.2.2.1.only hQ2.2 (by simp)).forms (by omega) hu HA.out.2.1
        rw [ask_now W] at hr
        have hr : Calls Tryd.prog 11 #[_, .agg #[.slice b1 W.n1 m1, .slice b2 W.n2 m2, .int .u64 W.ht], .int .i64 2] wa3 fun x w' => x = .returned (.tuple #[.int .u64 (W.ht), .int .i64 2, .int .i64 0]) ∧ Only [] wa3 w' := hr
        have HQa3 := Lib.hid (And.intro hQ2 hr)
        clear hQ2 hp2 hr hu hO2
        go_wp2_with fail
        refine HQa3.out.2.mono ?_
        rintro e wb3 ⟨rfl, hO3⟩
        have hQ3 := HQa3.out.1.next hO3
        obtain ⟨c0, c1, c2⟩ := hQ3.cells
        have l3 := hQ3.lt
        have HQ4 := Lib.hid hQ3
        clear hQ3 hO3
        go_wp2_with fail
        refine (awake_any _ (HA.out.2.2.1.only HQ4.out.2 (by simp))).mono ?_
        rintro e w9 ⟨rfl, hO9⟩
        have hQ9 := HQ4.out.next hO9
        obtain ⟨c90, c91, c92⟩ := hQ9.cells
        have HQ9 := Lib.hid hQ9
        clear hQ9 hO9
        go_wp2_with fail
        go_ret
        exact ⟨rfl, HQ9.out.2⟩
    · have hi1 : ¬ (i : Int) < W.n1 := by omega
      have H1 := Lib.hid h1
      clear h1
      have hi2 : ¬ (i : Int) < W.n2 := by omega
      have H2 := Lib.hid h2
      clear h2
      go_wp2_with fail
      refine (to_any W _ _ _ (HA.out.1.later (HQ1.out.2.alloc _)) HL.out.1 HL.out.2).mono ?_
      rintro e wa1 ⟨u1, u2, rfl, hu, hO2⟩
      obtain ⟨b1, m1, rfl, -⟩ := id hu.1
      obtain ⟨b2, m2, rfl, -⟩ := id hu.2
      have hQ2 := (HQ1.out.next ((Only.refl [] _).alloc _)).next hO2
      have hp2 := sl_row (l := askP 2 i) (n := 3) (hO2.keeps (alloc_new _ (.cells #[.int .u8 2, .int .u8 (i : Int), .int .u8 0] 5)) (by simp)) rfl (by omega)
      have hr := run_G 3 _ _ _ (fun j => (askP 2 i).getD j 0) W 100 wa1 hp2 (getD_lt _ (by simp [askP, HA.out.2.2.2])) (HA.out.2.2.1.only hQ2.2 (by simp)).forms (by omega) hu HA.out.2.1
      rw [show runG W 3 (fun j => (askP 2 i).getD j 0) 100 = _ from (ask_load W i).trans (if_neg H1.out)] at hr
      have hr : Calls Tryd.prog 11 #[_, .agg #[.slice b1 W.n1 m1, .slice b2 W.n2 m2, .int .u64 W.ht], .int .i64 100] wa1 fun x w' => x = .returned (.tuple #[.int .u64 (0), .int .i64 1, .int .i64 1]) ∧ Only [] wa1 w' := hr
      have HQa1 := Lib.hid (And.intro hQ2 hr)
      clear hQ2 hp2 hr hu hO2
      go_wp2_with fail
      refine HQa1.out.2.mono ?_
      rintro e wb1 ⟨rfl, hO3⟩
      have hQ3 := HQa1.out.1.next hO3
      obtain ⟨c0, c1, c2⟩ := hQ3.cells
      have l3 := hQ3.lt
      have HQ2 := Lib.hid hQ3
      clear hQ3 hO3
      go_wp2_with fail
      refine (to_any W _ _ _ (HA.out.1.later (HQ2.out.2.alloc _)) HL.out.1 HL.out.2).mono ?_
      rintro e wa2 ⟨u1, u2, rfl, hu, hO2⟩
      obtain ⟨b1, m1, rfl, -⟩ := id hu.1
      obtain ⟨b2, m2, rfl, -⟩ := id hu.2
      have hQ2 := (HQ2.out.next ((Only.refl [] _).alloc _)).next hO2
      have hp2 := sl_row (l := askP 16 i) (n := 3) (hO2.keeps (alloc_new _ (.cells #[.int .u8 16, .int .u8 (i : Int), .int .u8 0] 5)) (by simp)) rfl (by omega)
      have hr := run_G 3 _ _ _ (fun j => (askP 16 i).getD j 0) W 100 wa2 hp2 (getD_lt _ (by simp [askP, HA.out.2.2.2])) (HA.out.2.2.1.only hQ2.2 (by simp)).forms (by omega) hu HA.out.2.1
      rw [show runG W 3 (fun j => (askP 16 i).getD j 0) 100 = _ from (ask_paid W i).trans (if_neg H2.out)] at hr
      have hr : Calls Tryd.prog 11 #[_, .agg #[.slice b1 W.n1 m1, .slice b2 W.n2 m2, .int .u64 W.ht], .int .i64 100] wa2 fun x w' => x = .returned (.tuple #[.int .u64 (0), .int .i64 10, .int .i64 1]) ∧ Only [] wa2 w' := hr
      have HQa2 := Lib.hid (And.intro hQ2 hr)
      clear hQ2 hp2 hr hu hO2
      go_wp2_with fail
      refine HQa2.out.2.mono ?_
      rintro e wb2 ⟨rfl, hO3⟩
      have hQ3 := HQa2.out.1.next hO3
      obtain ⟨c0, c1, c2⟩ := hQ3.cells
      have l3 := hQ3.lt
      have HQ3 := Lib.hid hQ3
      clear hQ3 hO3
      go_wp2_with fail
      refine (to_any W _ _ _ (HA.out.1.later (HQ3.out.2.alloc _)) HL.out.1 HL.out.2).mono ?_
      rintro e wa3 ⟨u1, u2, rfl, hu, hO2⟩
      obtain ⟨b1, m1, rfl, -⟩ := id hu.1
      obtain ⟨b2, m2, rfl, -⟩ := id hu.2
      have hQ2 := (HQ3.out.next ((Only.refl [] _).alloc _)).next hO2
      have hp2 := sl_row (l := nowP) (n := 2) (hO2.keeps (alloc_new _ (.cells #[.int .u8 17, .int .u8 0] 5)) (by simp)) rfl (by omega)
      have hr := run_G 2 _ _ _ (fun j => (nowP).getD j 0) W 2 wa3 hp2 (getD_lt _ (by simp [nowP])) (HA.out.2.2.1.only hQ2.2 (by simp)).forms (by omega) hu HA.out.2.1
      rw [ask_now W] at hr
      have hr : Calls Tryd.prog 11 #[_, .agg #[.slice b1 W.n1 m1, .slice b2 W.n2 m2, .int .u64 W.ht], .int .i64 2] wa3 fun x w' => x = .returned (.tuple #[.int .u64 (W.ht), .int .i64 2, .int .i64 0]) ∧ Only [] wa3 w' := hr
      have HQa3 := Lib.hid (And.intro hQ2 hr)
      clear hQ2 hp2 hr hu hO2
      go_wp2_with fail
      refine HQa3.out.2.mono ?_
      rintro e wb3 ⟨rfl, hO3⟩
      have hQ3 := HQa3.out.1.next hO3
      obtain ⟨c0, c1, c2⟩ := hQ3.cells
      have l3 := hQ3.lt
      have HQ4 := Lib.hid hQ3
      clear hQ3 hO3
      go_wp2_with fail
      refine (awake_any _ (HA.out.2.2.1.only HQ4.out.2 (by simp))).mono ?_
      rintro e w9 ⟨rfl, hO9⟩
      have hQ9 := HQ4.out.next hO9
      obtain ⟨c90, c91, c92⟩ := hQ9.cells
      have HQ9 := Lib.hid hQ9
      clear hQ9 hO9
      go_wp2_with fail
      go_ret
      exact ⟨rfl, HQ9.out.2⟩
  · have hb : (decide (W.n1 ≤ 300) && decide (W.n2 ≤ 300)) = false := by simp; omega
    rw [hb]
    clear hl hb
    go_wp2_with (go_at_call 10; refine (awake_any _ (HA.out.2.2.1.only HQ1.out.2 (by simp))).mono ?_; rintro e w2 ⟨rfl, hO2⟩; (have H2 := Lib.hid hO2); clear hO2)
    go_ret
    exact ⟨rfl, HQ1.out.2.trans H2.out (by simp)⟩
end Go.Proofs.YtfhhkapjpmfolaaDoor
