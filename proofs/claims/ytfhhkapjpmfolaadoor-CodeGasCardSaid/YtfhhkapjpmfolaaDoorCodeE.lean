/- layer 11 (code): plain at 'both', 'any', 'load', 'paid'. -/
import Derived.Test.YtfhhkapjpmfolaaDoorCodeD
namespace Go.Proofs.YtfhhkapjpmfolaaDoor
open Go.RowKit
theorem ne_or (x : Int) : x = 0 ∨ (x != 0) = true := by
  by_cases h : x = 0
  · exact Or.inl h
  · exact Or.inr (bne_iff_ne.2 h)
section
variable (b : Nat) (W : CW) (v1 v2 : Value) (arg : Int) (s : St) (w : World)

set_option maxRecDepth 20000 in
set_option maxHeartbeats 1000000 in
theorem plain_9 (h : Stk w b s.1 s.2) (hW : CWAt w b W v1 v2) (hs : Wide s) (_ha : W64 arg) :
    Calls Tryd.prog 22 #[.agg #[v1, v2, .int .u64 W.ht], .pointer (some ⟨b, 0, none⟩), .int .i64 9, .int .u64 arg] w fun x w' =>
      x = .returned (.tuple #[]) ∧ Stk w' b (plainF W 9 arg s).1 (plainF W 9 arg s).2 ∧ Below b w w' := by
  obtain ⟨a1, k1, rfl, -⟩ := hW.1
  obtain ⟨a2, k2, rfl, -⟩ := hW.2
  have HA := Lib.hid (And.intro h (And.intro h.lt hs))
  clear h hW hs _ha
  obtain ⟨⟨y, s1⟩, e1⟩ : ∃ r, popF s = r := ⟨_, rfl⟩
  obtain ⟨⟨x, s2⟩, e2⟩ : ∃ r, popF s1 = r := ⟨_, rfl⟩
  have P1 := fun w => pop_fn b s w
  rw [e1] at P1
  have P2 := fun w => pop_fn b s1 w
  rw [e2] at P2
  rcases ne_or x with rfl | h1
  · have h1 : ((0 : Int) != 0) = false := rfl
    rcases ne_or y with rfl | h2
    · have h2 : ((0 : Int) != 0) = false := rfl
      have e0 : plainF W 9 arg s = pushF [oneF false] s2 := by simp only [plainF, e1, e2, h1]; rfl
      rw [e0]
      clear e0 e1 e2
      go_enter Tryd.func22, Tryd.ntmps22
      go_wp2_with (first
            | (go_at_call 21; refine (P1 _ (HA.out.1.alloc _)).mono ?_; rintro q w1 ⟨rfl, hS, hB⟩; (have H1 := Lib.hid (And.intro hS hB)); clear hS hB)
            | (go_at_call 21; refine (P2 _ H1.out.1).mono ?_; rintro q w2 ⟨rfl, hS, hB⟩; (have H2 := Lib.hid (And.intro hS (H1.out.2.trans hB))); clear hS hB)
            | (go_at_call 41; refine (bool_any b false s2.1 s2.2 _ H2.out.1).mono ?_; rintro y w' ⟨rfl, hS, hB⟩; (have HT := Lib.hid (And.intro hS hB)); clear hS hB))
      go_end0
      exact ⟨rfl, HT.out.1, (below_alloc HA.out.2.1 _).trans (H2.out.2.trans HT.out.2)⟩
    · skip
      have e0 : plainF W 9 arg s = pushF [oneF false] s2 := by simp only [plainF, e1, e2, h1, h2]; rfl
      rw [e0]
      clear e0 e1 e2
      go_enter Tryd.func22, Tryd.ntmps22
      go_wp2_with (first
            | (go_at_call 21; refine (P1 _ (HA.out.1.alloc _)).mono ?_; rintro q w1 ⟨rfl, hS, hB⟩; (have H1 := Lib.hid (And.intro hS hB)); clear hS hB)
            | (go_at_call 21; refine (P2 _ H1.out.1).mono ?_; rintro q w2 ⟨rfl, hS, hB⟩; (have H2 := Lib.hid (And.intro hS (H1.out.2.trans hB))); clear hS hB)
            | (go_at_call 41; refine (bool_any b false s2.1 s2.2 _ H2.out.1).mono ?_; rintro y w' ⟨rfl, hS, hB⟩; (have HT := Lib.hid (And.intro hS hB)); clear hS hB))
      go_end0
      exact ⟨rfl, HT.out.1, (below_alloc HA.out.2.1 _).trans (H2.out.2.trans HT.out.2)⟩
  · rcases ne_or y with rfl | h2
    · have h2 : ((0 : Int) != 0) = false := rfl
      have e0 : plainF W 9 arg s = pushF [oneF false] s2 := by simp only [plainF, e1, e2, h1, h2]; rfl
      rw [e0]
      clear e0 e1 e2
      go_enter Tryd.func22, Tryd.ntmps22
      go_wp2_with (first
            | (go_at_call 21; refine (P1 _ (HA.out.1.alloc _)).mono ?_; rintro q w1 ⟨rfl, hS, hB⟩; (have H1 := Lib.hid (And.intro hS hB)); clear hS hB)
            | (go_at_call 21; refine (P2 _ H1.out.1).mono ?_; rintro q w2 ⟨rfl, hS, hB⟩; (have H2 := Lib.hid (And.intro hS (H1.out.2.trans hB))); clear hS hB)
            | (go_at_call 41; refine (bool_any b false s2.1 s2.2 _ H2.out.1).mono ?_; rintro y w' ⟨rfl, hS, hB⟩; (have HT := Lib.hid (And.intro hS hB)); clear hS hB))
      go_end0
      exact ⟨rfl, HT.out.1, (below_alloc HA.out.2.1 _).trans (H2.out.2.trans HT.out.2)⟩
    · skip
      have e0 : plainF W 9 arg s = pushF [oneF true] s2 := by simp only [plainF, e1, e2, h1, h2]; rfl
      rw [e0]
      clear e0 e1 e2
      go_enter Tryd.func22, Tryd.ntmps22
      go_wp2_with (first
            | (go_at_call 21; refine (P1 _ (HA.out.1.alloc _)).mono ?_; rintro q w1 ⟨rfl, hS, hB⟩; (have H1 := Lib.hid (And.intro hS hB)); clear hS hB)
            | (go_at_call 21; refine (P2 _ H1.out.1).mono ?_; rintro q w2 ⟨rfl, hS, hB⟩; (have H2 := Lib.hid (And.intro hS (H1.out.2.trans hB))); clear hS hB)
            | (go_at_call 41; refine (bool_any b true s2.1 s2.2 _ H2.out.1).mono ?_; rintro y w' ⟨rfl, hS, hB⟩; (have HT := Lib.hid (And.intro hS hB)); clear hS hB))
      go_end0
      exact ⟨rfl, HT.out.1, (below_alloc HA.out.2.1 _).trans (H2.out.2.trans HT.out.2)⟩

set_option maxRecDepth 20000 in
set_option maxHeartbeats 1000000 in
theorem plain_10 (h : Stk w b s.1 s.2) (hW : CWAt w b W v1 v2) (hs : Wide s) (_ha : W64 arg) :
    Calls Tryd.prog 22 #[.agg #[v1, v2, .int .u64 W.ht], .pointer (some ⟨b, 0, none⟩), .int .i64 10, .int .u64 arg] w fun x w' =>
      x = .returned (.tuple #[]) ∧ Stk w' b (plainF W 10 arg s).1 (plainF W 10 arg s).2 ∧ Below b w w' := by
  obtain ⟨a1, k1, rfl, -⟩ := hW.1
  obtain ⟨a2, k2, rfl, -⟩ := hW.2
  have HA := Lib.hid (And.intro h (And.intro h.lt hs))
  clear h hW hs _ha
  obtain ⟨⟨y, s1⟩, e1⟩ : ∃ r, popF s = r := ⟨_, rfl⟩
  obtain ⟨⟨x, s2⟩, e2⟩ : ∃ r, popF s1 = r := ⟨_, rfl⟩
  have P1 := fun w => pop_fn b s w
  rw [e1] at P1
  have P2 := fun w => pop_fn b s1 w
  rw [e2] at P2
  rcases ne_or x with rfl | h1
  · have h1 : ((0 : Int) != 0) = false := rfl
    rcases ne_or y with rfl | h2
    · have h2 : ((0 : Int) != 0) = false := rfl
      have e0 : plainF W 10 arg s = pushF [oneF false] s2 := by simp only [plainF, e1, e2, h1]; rfl
      rw [e0]
      clear e0 e1 e2
      go_enter Tryd.func22, Tryd.ntmps22
      go_wp2_with (first
            | (go_at_call 21; refine (P1 _ (HA.out.1.alloc _)).mono ?_; rintro q w1 ⟨rfl, hS, hB⟩; (have H1 := Lib.hid (And.intro hS hB)); clear hS hB)
            | (go_at_call 21; refine (P2 _ H1.out.1).mono ?_; rintro q w2 ⟨rfl, hS, hB⟩; (have H2 := Lib.hid (And.intro hS (H1.out.2.trans hB))); clear hS hB)
            | (go_at_call 41; refine (bool_any b false s2.1 s2.2 _ H2.out.1).mono ?_; rintro y w' ⟨rfl, hS, hB⟩; (have HT := Lib.hid (And.intro hS hB)); clear hS hB))
      go_end0
      exact ⟨rfl, HT.out.1, (below_alloc HA.out.2.1 _).trans (H2.out.2.trans HT.out.2)⟩
    · skip
      have e0 : plainF W 10 arg s = pushF [oneF true] s2 := by simp only [plainF, e1, e2, h1, h2]; rfl
      rw [e0]
      clear e0 e1 e2
      go_enter Tryd.func22, Tryd.ntmps22
      go_wp2_with (first
            | (go_at_call 21; refine (P1 _ (HA.out.1.alloc _)).mono ?_; rintro q w1 ⟨rfl, hS, hB⟩; (have H1 := Lib.hid (And.intro hS hB)); clear hS hB)
            | (go_at_call 21; refine (P2 _ H1.out.1).mono ?_; rintro q w2 ⟨rfl, hS, hB⟩; (have H2 := Lib.hid (And.intro hS (H1.out.2.trans hB))); clear hS hB)
            | (go_at_call 41; refine (bool_any b true s2.1 s2.2 _ H2.out.1).mono ?_; rintro y w' ⟨rfl, hS, hB⟩; (have HT := Lib.hid (And.intro hS hB)); clear hS hB))
      go_end0
      exact ⟨rfl, HT.out.1, (below_alloc HA.out.2.1 _).trans (H2.out.2.trans HT.out.2)⟩
  · rcases ne_or y with rfl | h2
    · have h2 : ((0 : Int) != 0) = false := rfl
      have e0 : plainF W 10 arg s = pushF [oneF true] s2 := by simp only [plainF, e1, e2, h1, h2]; rfl
      rw [e0]
      clear e0 e1 e2
      go_enter Tryd.func22, Tryd.ntmps22
      go_wp2_with (first
            | (go_at_call 21; refine (P1 _ (HA.out.1.alloc _)).mono ?_; rintro q w1 ⟨rfl, hS, hB⟩; (have H1 := Lib.hid (And.intro hS hB)); clear hS hB)
            | (go_at_call 21; refine (P2 _ H1.out.1).mono ?_; rintro q w2 ⟨rfl, hS, hB⟩; (have H2 := Lib.hid (And.intro hS (H1.out.2.trans hB))); clear hS hB)
            | (go_at_call 41; refine (bool_any b true s2.1 s2.2 _ H2.out.1).mono ?_; rintro y w' ⟨rfl, hS, hB⟩; (have HT := Lib.hid (And.intro hS hB)); clear hS hB))
      go_end0
      exact ⟨rfl, HT.out.1, (below_alloc HA.out.2.1 _).trans (H2.out.2.trans HT.out.2)⟩
    · skip
      have e0 : plainF W 10 arg s = pushF [oneF true] s2 := by simp only [plainF, e1, e2, h1, h2]; rfl
      rw [e0]
      clear e0 e1 e2
      go_enter Tryd.func22, Tryd.ntmps22
      go_wp2_with (first
            | (go_at_call 21; refine (P1 _ (HA.out.1.alloc _)).mono ?_; rintro q w1 ⟨rfl, hS, hB⟩; (have H1 := Lib.hid (And.intro hS hB)); clear hS hB)
            | (go_at_call 21; refine (P2 _ H1.out.1).mono ?_; rintro q w2 ⟨rfl, hS, hB⟩; (have H2 := Lib.hid (And.intro hS (H1.out.2.trans hB))); clear hS hB)
            | (go_at_call 41; refine (bool_any b true s2.1 s2.2 _ H2.out.1).mono ?_; rintro y w' ⟨rfl, hS, hB⟩; (have HT := Lib.hid (And.intro hS hB)); clear hS hB))
      go_end0
      exact ⟨rfl, HT.out.1, (below_alloc HA.out.2.1 _).trans (H2.out.2.trans HT.out.2)⟩

set_option maxHeartbeats 1000000 in
theorem plain_2 (h : Stk w b s.1 s.2) (hW : CWAt w b W v1 v2) (ha : W64 arg) (hn : W.n1 ≤ 9223372036854775807) :
    Calls Tryd.prog 22 #[.agg #[v1, v2, .int .u64 W.ht], .pointer (some ⟨b, 0, none⟩), .int .i64 2, .int .u64 arg] w fun x w' =>
      x = .returned (.tuple #[]) ∧ Stk w' b (plainF W 2 arg s).1 (plainF W 2 arg s).2 ∧ Below b w w' := by
  obtain ⟨a1, k1, rfl, hk1, hl1, f1⟩ := hW.1
  obtain ⟨a2, k2, rfl, hk2, hl2, f2⟩ := hW.2
  obtain ⟨k, rfl⟩ := Int.eq_ofNat_of_zero_le ha.1
  have hk63 : W.n1 < 18446744073709551616 := by omega
  have hw : IntKind.u64.wrap (W.n1 : Int) = W.n1 := by rw [IntKind.wrap_u64]; omega
  by_cases hlt : k < W.n1
  · obtain ⟨b1, o1, rfl, hb, hbs, hc⟩ : ∃ b1 o1, a1 = some ⟨b1, o1, none⟩ ∧ b1 < b ∧ b1 < w.heap.size ∧ ∀ j, j < W.n1 → w.cell? ⟨b1, o1 + j, none⟩ = some (.int .u64 (W.FL j)) := by
      rcases f1 with h0 | h0
      · omega
      · exact h0
    have c0 : ∀ o, (w.alloc o).cell? ⟨b1, o1 + k, none⟩ = some (.int .u64 (W.FL k)) := fun o => (World.cell?_of_block (w := w) (Below.heap_alloc w _ _ hbs)).trans (hc k hlt)
    have HA := Lib.hid (And.intro h (And.intro h.lt (And.intro hlt hc)))
    have hge : ¬ ((k : Int) ≥ W.n1) := by omega
    have e0 : plainF W 2 (k : Int) s = pushF [W.FL k] s := by simp only [plainF]; rw [if_neg hge]; rfl
    rw [e0]
    clear h hW hc ha f1 f2 hk1 hk2 e0
    have hgi : (W.n1 : Int) > k := by omega
    clear hn hl1 hl2 hk63
    go_enter Tryd.func22, Tryd.ntmps22
    go_wp2_with (first
      | (go_at_call 36; refine (push_at b [W.FL k] s.1 s.2 (w.alloc _) _ (by simp) (HA.out.1.alloc _) (by simp)).mono ?_; rintro y w' ⟨rfl, hS, hB⟩; (have HT := Lib.hid (And.intro hS hB)); clear hS hB))
    go_end0
    exact ⟨rfl, HT.out.1, (below_alloc HA.out.2.1 _).trans HT.out.2⟩
  · have HA := Lib.hid (And.intro h h.lt)
    have hge : ((k : Int) ≥ W.n1) := by omega
    have e0 : plainF W 2 (k : Int) s = (s.1, failF s.2 1) := by simp only [plainF]; rw [if_pos hge]
    rw [e0]
    clear h hW ha f1 f2 hk1 hk2 e0
    clear hn hl1 hl2 hk63
    go_enter Tryd.func22, Tryd.ntmps22
    go_wp2_with (first
      | (go_at_call 35; refine (fail_any b s.1 s.2 1 _ (HA.out.1.alloc _)).mono ?_; rintro y w' ⟨rfl, hS, hB⟩; (have HT := Lib.hid (And.intro hS hB)); clear hS hB))
    refine bodyPost_ret (results_none rfl _ _ _) rfl ?_
    exact ⟨rfl, HT.out.1, (below_alloc HA.out.2 _).only HT.out.2 (by have := HA.out.2; simp; omega) (by simp)⟩

set_option maxHeartbeats 1000000 in
theorem plain_16 (h : Stk w b s.1 s.2) (hW : CWAt w b W v1 v2) (ha : W64 arg) (hn : W.n2 ≤ 9223372036854775807) :
    Calls Tryd.prog 22 #[.agg #[v1, v2, .int .u64 W.ht], .pointer (some ⟨b, 0, none⟩), .int .i64 16, .int .u64 arg] w fun x w' =>
      x = .returned (.tuple #[]) ∧ Stk w' b (plainF W 16 arg s).1 (plainF W 16 arg s).2 ∧ Below b w w' := by
  obtain ⟨a1, k1, rfl, hk1, hl1, f1⟩ := hW.1
  obtain ⟨a2, k2, rfl, hk2, hl2, f2⟩ := hW.2
  obtain ⟨k, rfl⟩ := Int.eq_ofNat_of_zero_le ha.1
  have hk63 : W.n2 < 18446744073709551616 := by omega
  have hw : IntKind.u64.wrap (W.n2 : Int) = W.n2 := by rw [IntKind.wrap_u64]; omega
  by_cases hlt : k < W.n2
  · obtain ⟨b1, o1, rfl, hb, hbs, hc⟩ : ∃ b1 o1, a2 = some ⟨b1, o1, none⟩ ∧ b1 < b ∧ b1 < w.heap.size ∧ ∀ j, j < W.n2 → w.cell? ⟨b1, o1 + j, none⟩ = some (.bool (W.PD j)) := by
      rcases f2 with h0 | h0
      · omega
      · exact h0
    have c0 : ∀ o, (w.alloc o).cell? ⟨b1, o1 + k, none⟩ = some (.bool (W.PD k)) := fun o => (World.cell?_of_block (w := w) (Below.heap_alloc w _ _ hbs)).trans (hc k hlt)
    have HA := Lib.hid (And.intro h (And.intro h.lt (And.intro hlt hc)))
    have hge : ¬ ((k : Int) ≥ W.n2) := by omega
    have e0 : plainF W 16 (k : Int) s = pushF [oneF (W.PD k)] s := by simp only [plainF]; rw [if_neg hge]; rfl
    rw [e0]
    clear h hW hc ha f1 f2 hk1 hk2 e0
    have hgi : (W.n2 : Int) > k := by omega
    clear hn hl1 hl2 hk63
    go_enter Tryd.func22, Tryd.ntmps22
    go_wp2_with (first
      | (go_at_call 41; refine (bool_any b (W.PD k) s.1 s.2 _ (HA.out.1.alloc _)).mono ?_; rintro y w' ⟨rfl, hS, hB⟩; (have HT := Lib.hid (And.intro hS hB)); clear hS hB))
    go_end0
    exact ⟨rfl, HT.out.1, (below_alloc HA.out.2.1 _).trans HT.out.2⟩
  · have HA := Lib.hid (And.intro h h.lt)
    have hge : ((k : Int) ≥ W.n2) := by omega
    have e0 : plainF W 16 (k : Int) s = (s.1, failF s.2 1) := by simp only [plainF]; rw [if_pos hge]
    rw [e0]
    clear h hW ha f1 f2 hk1 hk2 e0
    clear hn hl1 hl2 hk63
    go_enter Tryd.func22, Tryd.ntmps22
    go_wp2_with (first
      | (go_at_call 35; refine (fail_any b s.1 s.2 1 _ (HA.out.1.alloc _)).mono ?_; rintro y w' ⟨rfl, hS, hB⟩; (have HT := Lib.hid (And.intro hS hB)); clear hS hB))
    refine bodyPost_ret (results_none rfl _ _ _) rfl ?_
    exact ⟨rfl, HT.out.1, (below_alloc HA.out.2 _).only HT.out.2 (by have := HA.out.2; simp; omega) (by simp)⟩
end
end Go.Proofs.YtfhhkapjpmfolaaDoor

