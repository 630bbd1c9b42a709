/- layer 11 (code): plain at every order; what Run answers, as a plain function. -/
import Derived.Test.YtfhhkapjpmfolaaDoorCodeF
namespace Go.Proofs.YtfhhkapjpmfolaaDoor
open Go.RowKit

theorem plain_any (b : Nat) (W : CW) (v1 v2 : Value) (op : Nat) (arg : Int) (s : St) (w : World) (hop : op < 18) (h0 : op ≠ 0) (h11 : op ≠ 11) (h12 : op ≠ 12) (h : Stk w b s.1 s.2) (hW : CWAt w b W v1 v2) (hs : Wide s) (ha : W64 arg)
    (hn1 : W.n1 ≤ 9223372036854775807) (hn2 : W.n2 ≤ 9223372036854775807) :
    Calls Tryd.prog 22 #[.agg #[v1, v2, .int .u64 W.ht], .pointer (some ⟨b, 0, none⟩), .int .i64 (op : Int), .int .u64 arg] w fun x w' =>
      x = .returned (.tuple #[]) ∧ Stk w' b (plainF W op arg s).1 (plainF W op arg s).2 ∧ Below b w w' := by
  have : op = 1 ∨ op = 2 ∨ op = 3 ∨ op = 4 ∨ op = 5 ∨ op = 6 ∨ op = 7 ∨ op = 8 ∨ op = 9 ∨ op = 10 ∨ op = 13 ∨ op = 14 ∨ op = 15 ∨ op = 16 ∨ op = 17 := by omega
  rcases this with rfl | rfl | rfl | rfl | rfl | rfl | rfl | rfl | rfl | rfl | rfl | rfl | rfl | rfl | rfl
  · exact plain_1 b W v1 v2 arg s w h hW hs ha
  · exact plain_2 b W v1 v2 arg s w h hW ha hn1
  · exact plain_3 b W v1 v2 arg s w h hW hs ha
  · exact plain_4 b W v1 v2 arg s w h hW hs ha
  · exact plain_5 b W v1 v2 arg s w h hW hs ha
  · exact plain_6 b W v1 v2 arg s w h hW hs ha
  · exact plain_7 b W v1 v2 arg s w h hW hs ha
  · exact plain_8 b W v1 v2 arg s w h hW hs ha
  · exact plain_9 b W v1 v2 arg s w h hW hs ha
  · exact plain_10 b W v1 v2 arg s w h hW hs ha
  · exact plain_13 b W v1 v2 arg s w h hW hs ha
  · exact plain_14 b W v1 v2 arg s w h hW hs ha
  · exact plain_15 b W v1 v2 arg s w h hW hs ha
  · exact plain_16 b W v1 v2 arg s w h hW ha hn2
  · exact plain_17 b W v1 v2 arg s w h hW hs ha

/-- The state of a run between two orders: the stack, where, what was spent. -/
structure RS where
  s : St
  at_ : Nat
  sp : Nat
/-- One order: the end, or the next state. -/
def stepF (W : CW) (n : Nat) (p : Nat → Nat) (gas : Nat) (x : RS) : Sum (Int × Nat × Int) RS :=
  if (fetchF n p x.at_).2.2.2 ≠ 0 then .inl (0, x.sp, (fetchF n p x.at_).2.2.2)
  else if gas < x.sp + costF (fetchF n p x.at_).1 then .inl (0, x.sp, 24)
  else if (fetchF n p x.at_).1 = 0 then .inl ((popF x.s).1, x.sp + costF 0, (popF x.s).2.2)
  else if (fetchF n p x.at_).1 = 11 then .inr ⟨x.s, (fetchF n p x.at_).2.1, x.sp + costF 11⟩
  else if (fetchF n p x.at_).1 = 12 then
    if (popF x.s).2.2 ≠ 0 then .inl (0, x.sp + costF 12, (popF x.s).2.2)
    else .inr ⟨(popF x.s).2, if (popF x.s).1 ≠ 0 then (fetchF n p x.at_).2.1 else (fetchF n p x.at_).2.2.1, x.sp + costF 12⟩
  else if (plainF W (fetchF n p x.at_).1 (fetchF n p x.at_).2.1 x.s).2 ≠ 0 then .inl (0, x.sp + costF (fetchF n p x.at_).1, (plainF W (fetchF n p x.at_).1 (fetchF n p x.at_).2.1 x.s).2)
  else .inr ⟨plainF W (fetchF n p x.at_).1 (fetchF n p x.at_).2.1 x.s, (fetchF n p x.at_).2.2.1, x.sp + costF (fetchF n p x.at_).1⟩
def runF (W : CW) (n : Nat) (p : Nat → Nat) (gas : Nat) : Nat → RS → Int × Nat × Int
  | 0, _ => (0, 0, 0)
  | k + 1, x => match stepF W n p gas x with
    | .inl r => r
    | .inr y => runF W n p gas k y

theorem oneF_wide (x : Bool) : W64 (oneF x) := by cases x <;> exact ⟨by decide, by decide⟩
theorem failF_self (l : List Int) (e c : Int) (h : Wide (l, e)) : Wide (l, failF e c) := h
theorem reckonF_wide (F : Int → Int → Int × Int) (hF : ∀ a b, W64 a → W64 b → W64 (F a b).1) (s : St) (h : Wide s) : Wide (reckonF F s) := by
  have h1 := popF_wide h
  have h2 := popF_wide h1.2
  unfold reckonF
  split
  · exact h2.2
  · split
    · exact h2.2
    · exact pushF_wide _ _ h2.2 fun x hx => by simp at hx; subst hx; exact hF _ _ h2.1 h1.1
theorem plainF_wide (W : CW) (op : Nat) (arg : Int) (s : St) (h : Wide s) (ha : W64 arg) (hW : W.wide) : Wide (plainF W op arg s) := by
  have h1 := popF_wide h
  have h2 := popF_wide h1.2
  have one : ∀ (x : Int) (t : St), Wide t → W64 x → Wide (pushF [x] t) := fun x t ht hx => pushF_wide _ _ ht fun y hy => by simp at hy; subst hy; exact hx
  have two : ∀ (x y : Int) (t : St), Wide t → W64 x → W64 y → Wide (pushF [x, y] t) := fun x y t ht hx hy => pushF_wide _ _ ht fun z hz => by
    simp at hz; rcases hz with rfl | rfl
    · exact hx
    · exact hy
  unfold plainF
  split
  · exact one _ _ h ha
  · split
    · exact h
    · exact one _ _ h (hW.2 _ (by have := ha.1; omega))
  · exact reckonF_wide _ addF_wide s h
  · exact reckonF_wide _ subF_wide s h
  · exact reckonF_wide _ mulF_wide s h
  · exact one _ _ h2.2 (oneF_wide _)
  · exact one _ _ h2.2 (oneF_wide _)
  · exact one _ _ h1.2 (oneF_wide _)
  · exact one _ _ h2.2 (oneF_wide _)
  · exact one _ _ h2.2 (oneF_wide _)
  · exact two _ _ _ h1.2 h1.1 h1.1
  · exact two _ _ _ h2.2 h1.1 h2.1
  · exact h1.2
  · split
    · exact h
    · exact one _ _ h (oneF_wide _)
  · exact one _ _ h hW.1
  · exact h
end Go.Proofs.YtfhhkapjpmfolaaDoor
