/- law 11: plain laws on runs: what is spent; more gas; three small programs. No program's walk in sight. -/
import Derived.Test.YtfhhkapjpmfolaaDoorCodeG
namespace Go.Proofs.YtfhhkapjpmfolaaDoor
open Go.RowKit

def restF (W : CW) (n : Nat) (p : Nat → Nat) (x : RS) : Sum (Int × Nat × Int) RS :=
  if (fetchF n p x.at_).1 = 0 then .inl ((popF x.s).1, x.sp + costF 0, (popF x.s).2.2)
  else if (fetchF n p x.at_).1 = 11 then .inr ⟨x.s, (fetchF n p x.at_).2.1, x.sp + costF 11⟩
  else if (fetchF n p x.at_).1 = 12 then
    if (popF x.s).2.2 ≠ 0 then .inl (0, x.sp + costF 12, (popF x.s).2.2)
    else .inr ⟨(popF x.s).2, if (popF x.s).1 ≠ 0 then (fetchF n p x.at_).2.1 else (fetchF n p x.at_).2.2.1, x.sp + costF 12⟩
  else if (plainF W (fetchF n p x.at_).1 (fetchF n p x.at_).2.1 x.s).2 ≠ 0 then .inl (0, x.sp + costF (fetchF n p x.at_).1, (plainF W (fetchF n p x.at_).1 (fetchF n p x.at_).2.1 x.s).2)
  else .inr ⟨plainF W (fetchF n p x.at_).1 (fetchF n p x.at_).2.1 x.s, (fetchF n p x.at_).2.2.1, x.sp + costF (fetchF n p x.at_).1⟩
theorem stepF_rest (W : CW) (n : Nat) (p : Nat → Nat) (gas : Nat) (x : RS) : stepF W n p gas x =
    if (fetchF n p x.at_).2.2.2 ≠ 0 then .inl (0, x.sp, (fetchF n p x.at_).2.2.2) else if gas < x.sp + costF (fetchF n p x.at_).1 then .inl (0, x.sp, 24) else restF W n p x := rfl
theorem restF_spent (W : CW) (n : Nat) (p : Nat → Nat) (x : RS) : (∀ r, restF W n p x = .inl r → r.2.1 = x.sp + costF (fetchF n p x.at_).1) ∧ (∀ y, restF W n p x = .inr y → y.sp = x.sp + costF (fetchF n p x.at_).1) := by
  unfold restF
  by_cases h0 : (fetchF n p x.at_).1 = 0
  · rw [if_pos h0, h0]; exact ⟨fun r h => (by cases h; rfl), fun y h => by cases h⟩
  · rw [if_neg h0]
    by_cases h1 : (fetchF n p x.at_).1 = 11
    · rw [if_pos h1, h1]; exact ⟨fun r h => (by cases h), fun y h => by cases h; rfl⟩
    · rw [if_neg h1]
      by_cases h2 : (fetchF n p x.at_).1 = 12
      · rw [if_pos h2, h2]
        split
        · exact ⟨fun r h => (by cases h; rfl), fun y h => by cases h⟩
        · exact ⟨fun r h => (by cases h), fun y h => by cases h; rfl⟩
      · rw [if_neg h2]
        split
        · exact ⟨fun r h => (by cases h; rfl), fun y h => by cases h⟩
        · exact ⟨fun r h => (by cases h), fun y h => by cases h; rfl⟩

theorem run_spent (W : CW) (n : Nat) (p : Nat → Nat) (gas : Nat) : ∀ (k : Nat) (x : RS), x.sp ≤ gas → gas < k + x.sp → x.sp ≤ (runF W n p gas k x).2.1 ∧ (runF W n p gas k x).2.1 ≤ gas
  | 0, x => fun h1 h2 => by omega
  | k + 1, x => fun h1 h2 => by
    rw [runF, stepF_rest]
    by_cases he : (fetchF n p x.at_).2.2.2 ≠ 0
    · rw [if_pos he]; exact ⟨Nat.le_refl _, h1⟩
    · rw [if_neg he]
      by_cases hg : gas < x.sp + costF (fetchF n p x.at_).1
      · rw [if_pos hg]; exact ⟨Nat.le_refl _, h1⟩
      · rw [if_neg hg]
        obtain ⟨r1, r2⟩ := restF_spent W n p x
        have hc := (costF_le (fetchF n p x.at_).1).1
        cases hr : restF W n p x with
        | inl r => have := r1 r hr; simp only; omega
        | inr y =>
          have := r2 y hr
          have ih := run_spent W n p gas k y (by omega) (by omega)
          simp only
          omega
theorem run_more (W : CW) (n : Nat) (p : Nat → Nat) (a b : Nat) (hab : a ≤ b) : ∀ (k k' : Nat) (x : RS), x.sp ≤ a → a < k + x.sp → b < k' + x.sp →
    ((runF W n p a k x).2.2 = 24 ∨ runF W n p a k x = runF W n p b k' x) ∧ (runF W n p a k x).2.1 ≤ (runF W n p b k' x).2.1
  | 0, _, x => fun h1 h2 _ => by omega
  | _ + 1, 0, x => fun h1 h2 h3 => by omega
  | k + 1, k' + 1, x => fun h1 h2 h3 => by
    have hsb := run_spent W n p b (k' + 1) x (by omega) (by omega)
    rw [runF, runF, stepF_rest, stepF_rest]
    rw [runF, stepF_rest] at hsb
    by_cases he : (fetchF n p x.at_).2.2.2 ≠ 0
    · rw [if_pos he, if_pos he]; exact ⟨Or.inr rfl, Nat.le_refl _⟩
    · rw [if_neg he, if_neg he]
      rw [if_neg he] at hsb
      by_cases hg : a < x.sp + costF (fetchF n p x.at_).1
      · rw [if_pos hg]; exact ⟨Or.inl rfl, hsb.1⟩
      · rw [if_neg hg, if_neg (by omega)]
        obtain ⟨r1, r2⟩ := restF_spent W n p x
        have hc := (costF_le (fetchF n p x.at_).1).1
        cases hr : restF W n p x with
        | inl r => exact ⟨Or.inr rfl, Nat.le_refl _⟩
        | inr y =>
          have := r2 y hr
          exact run_more W n p a b hab k k' y (by omega) (by omega) (by omega)

/-- What a program of any length answers. -/
def runG (W : CW) (n : Nat) (p : Nat → Nat) (gas : Nat) : Int × Nat × Int := if 256 < n then (0, 0, 1) else runF W n p gas (gas + 1) ⟨([], 0), 0, 0⟩

theorem gas_law (W : CW) (n : Nat) (p : Nat → Nat) (a b : Nat) (hab : a ≤ b) : (runG W n p a).2.1 ≤ a ∧ (runG W n p b).2.1 ≤ b ∧ (runG W n p a).2.1 ≤ (runG W n p b).2.1 ∧ ((runG W n p a).2.2 = 24 ∨ runG W n p a = runG W n p b) := by
  unfold runG
  split
  · simp
  · have h1 := run_spent W n p a (a + 1) ⟨([], 0), 0, 0⟩ (Nat.zero_le _) (Nat.lt_succ_self _)
    have h2 := run_spent W n p b (b + 1) ⟨([], 0), 0, 0⟩ (Nat.zero_le _) (Nat.lt_succ_self _)
    have h3 := run_more W n p a b hab (a + 1) (b + 1) ⟨([], 0), 0, 0⟩ (Nat.zero_le _) (Nat.lt_succ_self _) (Nat.lt_succ_self _)
    exact ⟨h1.2, h2.2, h3.2, h3.1⟩

/-! three small programs -/
def askP (o i : Nat) : List Nat := [o, i, 0]
theorem ask_load (W : CW) (i : Nat) : runG W 3 (fun j => (askP 2 i).getD j 0) 100 = if i < W.n1 then (W.FL i, 2, 0) else (0, 1, 1) := by
  by_cases h : i < W.n1
  · have h' : ¬ ((W.n1 : Int) ≤ (i : Int)) := by omega
    simp [runG, runF, stepF, fetchF, askP, moreF, costF, argF, plainF, pushF, popF, h, h']
  · have h' : (W.n1 : Int) ≤ (i : Int) := by omega
    simp [runG, runF, stepF, fetchF, askP, moreF, costF, argF, plainF, failF, h, h']
theorem ask_paid (W : CW) (i : Nat) : runG W 3 (fun j => (askP 16 i).getD j 0) 100 = if i < W.n2 then (oneF (W.PD i), 11, 0) else (0, 10, 1) := by
  by_cases h : i < W.n2
  · have h' : ¬ ((W.n2 : Int) ≤ (i : Int)) := by omega
    simp [runG, runF, stepF, fetchF, askP, moreF, costF, argF, plainF, pushF, popF, h, h']
  · have h' : (W.n2 : Int) ≤ (i : Int) := by omega
    simp [runG, runF, stepF, fetchF, askP, moreF, costF, argF, plainF, failF, h, h']
def nowP : List Nat := [17, 0]
theorem ask_now (W : CW) : runG W 2 (fun j => nowP.getD j 0) 2 = (W.ht, 2, 0) := by
  simp [runG, runF, stepF, fetchF, nowP, moreF, costF, argF, plainF, pushF, popF]
end Go.Proofs.YtfhhkapjpmfolaaDoor
