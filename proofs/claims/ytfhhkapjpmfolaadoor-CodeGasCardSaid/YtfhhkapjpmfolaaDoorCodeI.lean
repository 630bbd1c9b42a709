/- law 11: light. -/
import Derived.Test.YtfhhkapjpmfolaaDoorCodeH
namespace Go.Proofs.YtfhhkapjpmfolaaDoor
open Go.RowKit

theorem light_any (a1 a2 : Option Addr) (n1 n2 k1 k2 : Nat) (ht : Int) (w : World) :
    Calls Tryd.prog 9 #[.agg #[.slice a1 n1 k1, .slice a2 n2 k2, .int .u64 ht]] w fun x w' =>
      x = .returned (.bool (decide (n1 ≤ 300) && decide (n2 ≤ 300))) ∧ Only [] w w' := by
  by_cases h1 : n1 ≤ 300
  · have b1 : decide ((n1 : Int) ≤ 300) = true := by rw [decide_eq_true_iff]; omega
    by_cases h2 : n2 ≤ 300
    · have b2 : decide ((n2 : Int) ≤ 300) = true := by rw [decide_eq_true_iff]; omega
      rw [decide_eq_true h1, decide_eq_true h2]
      clear h1 h2
      go_enter Tryd.func9, Tryd.ntmps9
      go_wp2
      go_ret
      exact ⟨rfl, (Only.refl _ _).alloc _⟩
    · have b2 : decide ((n2 : Int) ≤ 300) = false := by rw [decide_eq_false_iff_not]; omega
      rw [decide_eq_true h1, decide_eq_false h2]
      clear h1 h2
      go_enter Tryd.func9, Tryd.ntmps9
      go_wp2
      go_ret
      exact ⟨rfl, (Only.refl _ _).alloc _⟩
  · have b1 : decide ((n1 : Int) ≤ 300) = false := by rw [decide_eq_false_iff_not]; omega
    rw [decide_eq_false h1]
    clear h1
    go_enter Tryd.func9, Tryd.ntmps9
    go_wp2
    go_ret
    exact ⟨rfl, (Only.refl _ _).alloc _⟩
end Go.Proofs.YtfhhkapjpmfolaaDoor
