/- layer 11 (code): money's three functions; the stack's reckon. -/
import Derived.Test.YtfhhkapjpmfolaaDoorLays
import Derived.Test.YtfhhkapjpmfolaaDoorCodeA
import Derived.Shelf.Spec.BitsCarry
import Derived.Shelf.Bits.Mul64
import Derived.Ground.Names7Prog
import Derived.Ground.NamesProg
namespace Go.Proofs.YtfhhkapjpmfolaaDoor
open Go.RowKit Go.Shelf


def W64 (x : Int) : Prop := 0 ≤ x ∧ x < 18446744073709551616
theorem add64_0 (x y : Int) (hx : 0 ≤ x) (hy : 0 ≤ y) (w : World) : (callFunc 55 #[.int .u64 x, .int .u64 y, .int .u64 0]).run Tryd.prog w =
    .ok (.value (.tuple #[.int .u64 ((x + y) % 18446744073709551616), .int .u64 ((x + y) / 18446744073709551616)])) w := by
  obtain ⟨x, rfl⟩ := Int.eq_ofNat_of_zero_le hx
  obtain ⟨y, rfl⟩ := Int.eq_ofNat_of_zero_le hy
  refine (Any7.bits_Add64 Tryd.lays25 x y 0 (by omega) w).trans ?_
  congr 5 <;> omega
/-- What money.Add, Sub, Mul answer. -/
def addF (a b : Int) : Int × Int := if a + b < 18446744073709551616 then (a + b, 0) else (0, 11)
def subF (a b : Int) : Int × Int := if b > a then (0, 12) else (a - b, 0)
def mulF (a b : Int) : Int × Int := if a * b < 18446744073709551616 then (a * b, 0) else (0, 11)

theorem madd_any (a b : Int) (ha : W64 a) (hb : W64 b) (w : World) :
    Calls Tryd.prog 38 #[.int .u64 a, .int .u64 b] w fun x w' => x = .returned (.tuple #[.int .u64 (addF a b).1, .int .i64 (addF a b).2]) ∧ w' = w := by
  obtain ⟨a0, a1⟩ := ha; obtain ⟨b0, b1⟩ := hb
  by_cases h : a + b < 18446744073709551616
  · have e1 : (a + b) % 18446744073709551616 = a + b := by omega
    have e2 : (a + b) / 18446744073709551616 = 0 := by omega
    have e3 : addF a b = (a + b, 0) := by simp [addF, h]
    rw [e3]
    go_enter Tryd.func38, Tryd.ntmps38
    go_wp2_with (first | simp only [add64_0 a b a0 b0, e1, e2])
    go_ret2
    exact ⟨rfl, rfl⟩
  · have e2 : (a + b) / 18446744073709551616 = 1 := by omega
    have e3 : addF a b = (0, 11) := by simp [addF, h]
    rw [e3]
    go_enter Tryd.func38, Tryd.ntmps38
    go_wp2_with (first | simp only [add64_0 a b a0 b0, e2])
    go_ret2
    exact ⟨rfl, rfl⟩
theorem msub_any (a b : Int) (ha : W64 a) (hb : W64 b) (w : World) :
    Calls Tryd.prog 39 #[.int .u64 a, .int .u64 b] w fun x w' => x = .returned (.tuple #[.int .u64 (subF a b).1, .int .i64 (subF a b).2]) ∧ w' = w := by
  obtain ⟨a0, a1⟩ := ha; obtain ⟨b0, b1⟩ := hb
  go_enter Tryd.func39, Tryd.ntmps39
  go_wp2
  · go_ret2
    rename_i h
    have h : b > a := by simpa using h
    simp [subF, h]
  · go_ret2
    rename_i h
    have h : ¬ b > a := by simpa using h
    have e : (a - b) % 18446744073709551616 = a - b := by omega
    simp [subF, h]
theorem mmul_any (a b : Int) (ha : W64 a) (hb : W64 b) (w : World) :
    Calls Tryd.prog 40 #[.int .u64 a, .int .u64 b] w fun x w' => x = .returned (.tuple #[.int .u64 (mulF a b).1, .int .i64 (mulF a b).2]) ∧ w' = w := by
  obtain ⟨a, rfl⟩ := Int.eq_ofNat_of_zero_le ha.1
  obtain ⟨b, rfl⟩ := Int.eq_ofNat_of_zero_le hb.1
  have ha := ha.2; have hb := hb.2
  have c := fun w => Any.bits_Mul64 Tryd.lays264 a b (by omega) (by omega) w
  by_cases h : a * b < 18446744073709551616
  · have e1 : a * b % 18446744073709551616 = a * b := Nat.mod_eq_of_lt h
    have e2 : a * b / 18446744073709551616 = 0 := Nat.div_eq_of_lt h
    have hz : ((a : Int) * b) < 18446744073709551616 := by rw [← Int.natCast_mul]; omega
    have e3 : mulF a b = (((a * b : Nat) : Int), 0) := by simp [mulF, hz]
    rw [e3]
    rw [e1, e2] at c
    clear ha hb h hz e1 e2 e3
    go_enter Tryd.func40, Tryd.ntmps40
    go_wp2_with (go_at_call 56; refine (c _).mono ?_; rintro e w' ⟨rfl, rfl⟩)
    go_ret2
    exact ⟨rfl, rfl⟩
  · obtain ⟨q, hq⟩ : ∃ q, a * b / 18446744073709551616 = q := ⟨_, rfl⟩
    have hq0 : ((q : Int) == 0) = false := by simp; omega
    have hz : ¬ ((a : Int) * b) < 18446744073709551616 := by rw [← Int.natCast_mul]; omega
    have e3 : mulF a b = (0, 11) := by simp [mulF, hz]
    rw [e3]
    obtain ⟨r, hr⟩ : ∃ r, a * b % 18446744073709551616 = r := ⟨_, rfl⟩
    rw [hq, hr] at c
    have hq1 : ¬ ((q : Int) = 0) := by simp; omega
    clear ha hb h hz e3 hr hq
    go_enter Tryd.func40, Tryd.ntmps40
    go_wp2_with (go_at_call 56; refine (c _).mono ?_; rintro e w' ⟨rfl, rfl⟩)
    go_ret2
    exact ⟨rfl, rfl⟩
end Go.Proofs.YtfhhkapjpmfolaaDoor
