/- layer 11 (code): reckon at the three functions of money; all that goes on behind itself (plain). -/
import Derived.Test.YtfhhkapjpmfolaaDoorCodeB
namespace Go.Proofs.YtfhhkapjpmfolaaDoor
open Go.RowKit

abbrev St := List Int × Int
def Wide (s : St) : Prop := ∀ x ∈ s.1, W64 x
theorem popF_wide {s : St} (h : Wide s) : W64 (popF s).1 ∧ Wide (popF s).2 := by
  obtain ⟨l, e⟩ := s
  rcases List.eq_nil_or_concat l with rfl | ⟨xs, n, rfl⟩
  · exact ⟨⟨by simp [popF], by simp [popF]⟩, fun x hx => by simp [popF] at hx⟩
  · rw [List.concat_eq_append] at *
    have : popF (xs ++ [n], e) = (n, (xs, e)) := by simp [popF]
    rw [this]
    exact ⟨h n (by simp), fun x hx => h x (by simp; exact Or.inl hx)⟩
theorem pushF_wide : ∀ (ns : List Int) (s : St), Wide s → (∀ x ∈ ns, W64 x) → Wide (pushF ns s)
  | [], _, h, _ => h
  | n :: ns, (l, e), h, hn => by
    unfold pushF
    split
    · exact h
    · refine pushF_wide ns _ (fun x hx => ?_) fun x hx => hn x (by simp [hx])
      rcases List.mem_append.1 hx with hx | hx
      · exact h x hx
      · exact hn x (by simp at hx; simp [hx])
/-- What reckon does, of a function. -/
def reckonF (F : Int → Int → Int × Int) (s : St) : St :=
  if (popF (popF s).2).2.2 ≠ 0 then (popF (popF s).2).2
  else if (F (popF (popF s).2).1 (popF s).1).2 ≠ 0 then ((popF (popF s).2).2.1, failF (popF (popF s).2).2.2 (F (popF (popF s).2).1 (popF s).1).2)
  else pushF [(F (popF (popF s).2).1 (popF s).1).1] (popF (popF s).2).2
theorem addF_wide (a b : Int) (ha : W64 a) (hb : W64 b) : W64 (addF a b).1 := by
  obtain ⟨a0, a1⟩ := ha; obtain ⟨b0, b1⟩ := hb
  unfold addF; split <;> exact ⟨by simp <;> omega, by simp <;> omega⟩
theorem subF_wide (a b : Int) (ha : W64 a) (hb : W64 b) : W64 (subF a b).1 := by
  obtain ⟨a0, a1⟩ := ha; obtain ⟨b0, b1⟩ := hb
  unfold subF; split <;> exact ⟨by simp <;> omega, by simp <;> omega⟩
theorem mulF_wide (a b : Int) (ha : W64 a) (hb : W64 b) : W64 (mulF a b).1 := by
  have h := Int.mul_nonneg ha.1 hb.1
  unfold mulF; split
  · exact ⟨h, by assumption⟩
  · exact ⟨by decide, by decide⟩

set_option maxHeartbeats 1000000 in
theorem reckon_add (b : Nat) (s : St) (w : World) (h : Stk w b s.1 s.2) (hs : Wide s) :
    Calls Tryd.prog 37 #[.pointer (some ⟨b, 0, none⟩), .func (.func 38) #[] #[]] w fun x w' => x = .returned (.tuple #[]) ∧ Stk w' b (reckonF addF s).1 (reckonF addF s).2 ∧ Below b w w' := by
  have hw1 := (popF_wide hs).1
  have hw2 := (popF_wide (popF_wide hs).2).1
  have H := Lib.hid h
  clear h hs
  go_enter Tryd.func37, Tryd.ntmps37
  go_upto_region 1 with (first
    | (go_at_call 21; refine (pop_fn b s _ H.out).mono ?_; rintro x w1 ⟨rfl, hS, hB⟩; (have H1 := Lib.hid (And.intro hS hB)); clear hS hB)
    | (go_at_call 21; refine (pop_fn b (popF s).2 _ H1.out.1).mono ?_; rintro x w2 ⟨rfl, hS, hB⟩; (have H2 := Lib.hid (And.intro hS hB)); clear hS hB))
  obtain ⟨hS2, hB2⟩ := H2.out
  obtain ⟨s2, hs2⟩ : ∃ s2 : St, (popF (popF s).2).2 = s2 := ⟨_, rfl⟩
  rw [hs2] at hS2
  have HS := Lib.hid (And.intro hS2 (H1.out.2.trans hB2))
  obtain ⟨v, hb, _⟩ := hS2
  have c1 : w2.cell? ⟨b, 1, none⟩ = some (.int .i64 s2.2) := by simp [World.cell?, hb]
  clear hb hB2 H2 H1 H
  by_cases h0 : s2.2 = 0
  · rw [h0] at c1
    have hm := fun w => madd_any _ _ hw2 hw1 w
    obtain ⟨r, hr⟩ : ∃ r, addF (popF (popF s).2).1 (popF s).1 = r := ⟨_, rfl⟩
    rw [hr] at hm
    by_cases h1 : r.2 = 0
    · rw [h1] at hm
      go_wp2_with (first
        | (go_at_call 38; refine (hm _).mono ?_; rintro x w3 ⟨rfl, rfl⟩)
        | (go_at_call 36; refine (push_any b [r.1] s2.1 s2.2 _ HS.out.1 (by simp)).mono ?_; rintro y w' ⟨rfl, hS, hB⟩; (have HT := Lib.hid (And.intro hS hB)); clear hS hB))
      go_end0
      refine ⟨rfl, ?_⟩
      rw [reckonF, hs2, if_neg (by simp [h0]), hr, if_neg (by simp [h1])]
      exact ⟨HT.out.1, HS.out.2.trans HT.out.2⟩
    · go_wp2_with (first
        | (go_at_call 38; refine (hm _).mono ?_; rintro x w3 ⟨rfl, rfl⟩)
        | (go_at_call 35; refine (fail_any b s2.1 s2.2 r.2 _ HS.out.1).mono ?_; rintro y w' ⟨rfl, hS, hB⟩; (have HT := Lib.hid (And.intro hS hB)); clear hS hB))
      refine bodyPost_ret (results_none rfl _ _ _) rfl ?_
      refine ⟨rfl, ?_⟩
      rw [reckonF, hs2, if_neg (by simp [h0]), hr, if_pos (by simp [h1])]
      obtain ⟨v, hb, _⟩ := HS.out.1
      have := lt_of_block hb
      exact ⟨HT.out.1, HS.out.2.only HT.out.2 (by omega) (by simp)⟩
  · go_wp2_with fail
    refine bodyPost_ret (results_none rfl _ _ _) rfl ?_
    refine ⟨rfl, ?_⟩
    rw [reckonF, hs2, if_pos h0]
    exact HS.out

set_option maxHeartbeats 1000000 in
theorem reckon_sub (b : Nat) (s : St) (w : World) (h : Stk w b s.1 s.2) (hs : Wide s) :
    Calls Tryd.prog 37 #[.pointer (some ⟨b, 0, none⟩), .func (.func 39) #[] #[]] w fun x w' => x = .returned (.tuple #[]) ∧ Stk w' b (reckonF subF s).1 (reckonF subF s).2 ∧ Below b w w' := by
  have hw1 := (popF_wide hs).1
  have hw2 := (popF_wide (popF_wide hs).2).1
  have H := Lib.hid h
  clear h hs
  go_enter Tryd.func37, Tryd.ntmps37
  go_upto_region 1 with (first
    | (go_at_call 21; refine (pop_fn b s _ H.out).mono ?_; rintro x w1 ⟨rfl, hS, hB⟩; (have H1 := Lib.hid (And.intro hS hB)); clear hS hB)
    | (go_at_call 21; refine (pop_fn b (popF s).2 _ H1.out.1).mono ?_; rintro x w2 ⟨rfl, hS, hB⟩; (have H2 := Lib.hid (And.intro hS hB)); clear hS hB))
  obtain ⟨hS2, hB2⟩ := H2.out
  obtain ⟨s2, hs2⟩ : ∃ s2 : St, (popF (popF s).2).2 = s2 := ⟨_, rfl⟩
  rw [hs2] at hS2
  have HS := Lib.hid (And.intro hS2 (H1.out.2.trans hB2))
  obtain ⟨v, hb, _⟩ := hS2
  have c1 : w2.cell? ⟨b, 1, none⟩ = some (.int .i64 s2.2) := by simp [World.cell?, hb]
  clear hb hB2 H2 H1 H
  by_cases h0 : s2.2 = 0
  · rw [h0] at c1
    have hm := fun w => msub_any _ _ hw2 hw1 w
    obtain ⟨r, hr⟩ : ∃ r, subF (popF (popF s).2).1 (popF s).1 = r := ⟨_, rfl⟩
    rw [hr] at hm
    by_cases h1 : r.2 = 0
    · rw [h1] at hm
      go_wp2_with (first
        | (go_at_call 39; refine (hm _).mono ?_; rintro x w3 ⟨rfl, rfl⟩)
        | (go_at_call 36; refine (push_any b [r.1] s2.1 s2.2 _ HS.out.1 (by simp)).mono ?_; rintro y w' ⟨rfl, hS, hB⟩; (have HT := Lib.hid (And.intro hS hB)); clear hS hB))
      go_end0
      refine ⟨rfl, ?_⟩
      rw [reckonF, hs2, if_neg (by simp [h0]), hr, if_neg (by simp [h1])]
      exact ⟨HT.out.1, HS.out.2.trans HT.out.2⟩
    · go_wp2_with (first
        | (go_at_call 39; refine (hm _).mono ?_; rintro x w3 ⟨rfl, rfl⟩)
        | (go_at_call 35; refine (fail_any b s2.1 s2.2 r.2 _ HS.out.1).mono ?_; rintro y w' ⟨rfl, hS, hB⟩; (have HT := Lib.hid (And.intro hS hB)); clear hS hB))
      refine bodyPost_ret (results_none rfl _ _ _) rfl ?_
      refine ⟨rfl, ?_⟩
      rw [reckonF, hs2, if_neg (by simp [h0]), hr, if_pos (by simp [h1])]
      obtain ⟨v, hb, _⟩ := HS.out.1
      have := lt_of_block hb
      exact ⟨HT.out.1, HS.out.2.only HT.out.2 (by omega) (by simp)⟩
  · go_wp2_with fail
    refine bodyPost_ret (results_none rfl _ _ _) rfl ?_
    refine ⟨rfl, ?_⟩
    rw [reckonF, hs2, if_pos h0]
    exact HS.out

set_option maxHeartbeats 1000000 in
theorem reckon_mul (b : Nat) (s : St) (w : World) (h : Stk w b s.1 s.2) (hs : Wide s) :
    Calls Tryd.prog 37 #[.pointer (some ⟨b, 0, none⟩), .func (.func 40) #[] #[]] w fun x w' => x = .returned (.tuple #[]) ∧ Stk w' b (reckonF mulF s).1 (reckonF mulF s).2 ∧ Below b w w' := by
  have hw1 := (popF_wide hs).1
  have hw2 := (popF_wide (popF_wide hs).2).1
  have H := Lib.hid h
  clear h hs
  go_enter Tryd.func37, Tryd.ntmps37
  go_upto_region 1 with (first
    | (go_at_call 21; refine (pop_fn b s _ H.out).mono ?_; rintro x w1 ⟨rfl, hS, hB⟩; (have H1 := Lib.hid (And.intro hS hB)); clear hS hB)
    | (go_at_call 21; refine (pop_fn b (popF s).2 _ H1.out.1).mono ?_; rintro x w2 ⟨rfl, hS, hB⟩; (have H2 := Lib.hid (And.intro hS hB)); clear hS hB))
  obtain ⟨hS2, hB2⟩ := H2.out
  obtain ⟨s2, hs2⟩ : ∃ s2 : St, (popF (popF s).2).2 = s2 := ⟨_, rfl⟩
  rw [hs2] at hS2
  have HS := Lib.hid (And.intro hS2 (H1.out.2.trans hB2))
  obtain ⟨v, hb, _⟩ := hS2
  have c1 : w2.cell? ⟨b, 1, none⟩ = some (.int .i64 s2.2) := by simp [World.cell?, hb]
  clear hb hB2 H2 H1 H
  by_cases h0 : s2.2 = 0
  · rw [h0] at c1
    have hm := fun w => mmul_any _ _ hw2 hw1 w
    obtain ⟨r, hr⟩ : ∃ r, mulF (popF (popF s).2).1 (popF s).1 = r := ⟨_, rfl⟩
    rw [hr] at hm
    by_cases h1 : r.2 = 0
    · rw [h1] at hm
      go_wp2_with (first
        | (go_at_call 40; refine (hm _).mono ?_; rintro x w3 ⟨rfl, rfl⟩)
        | (go_at_call 36; refine (push_any b [r.1] s2.1 s2.2 _ HS.out.1 (by simp)).mono ?_; rintro y w' ⟨rfl, hS, hB⟩; (have HT := Lib.hid (And.intro hS hB)); clear hS hB))
      go_end0
      refine ⟨rfl, ?_⟩
      rw [reckonF, hs2, if_neg (by simp [h0]), hr, if_neg (by simp [h1])]
      exact ⟨HT.out.1, HS.out.2.trans HT.out.2⟩
    · go_wp2_with (first
        | (go_at_call 40; refine (hm _).mono ?_; rintro x w3 ⟨rfl, rfl⟩)
        | (go_at_call 35; refine (fail_any b s2.1 s2.2 r.2 _ HS.out.1).mono ?_; rintro y w' ⟨rfl, hS, hB⟩; (have HT := Lib.hid (And.intro hS hB)); clear hS hB))
      refine bodyPost_ret (results_none rfl _ _ _) rfl ?_
      refine ⟨rfl, ?_⟩
      rw [reckonF, hs2, if_neg (by simp [h0]), hr, if_pos (by simp [h1])]
      obtain ⟨v, hb, _⟩ := HS.out.1
      have := lt_of_block hb
      exact ⟨HT.out.1, HS.out.2.only HT.out.2 (by omega) (by simp)⟩
  · go_wp2_with fail
    refine bodyPost_ret (results_none rfl _ _ _) rfl ?_
    refine ⟨rfl, ?_⟩
    rw [reckonF, hs2, if_pos h0]
    exact HS.out
end Go.Proofs.YtfhhkapjpmfolaaDoor
