/- mill: the small functions: rotation, three, word, four. -/
import Derived.Test.YthoiihpbgdjbfaaMem
import Derived.WalkKit
import Derived.WalkSpells
import Derived.WalkLawsBesides
import Derived.BigQuiet
import Derived.Laws.BitsAllLaws
import Derived.Lib.Hide
import Derived.Deep.QuietTactic
namespace Go.Proofs.Ythoiihpbgdjbfaa
open Go.RowKit

/-- A turn to the left by c places, in the walk's spelling. -/
def rot (c : Nat) (x : Int) : Int := bits .or .u32 (x * 2 ^ c % 4294967296) (x / 2 ^ (32 - c))

set_option maxHeartbeats 400000 in
theorem rotl_any (x k : Int) (c : Nat) (w : World) (h0 : 0 ≤ x) (h1 : x < 4294967296) (hk : bits .and .u64 (IntKind.u64.wrap k) 31 = (c : Int)) (hc : c ≤ 31) :
    Calls Try.prog 70 #[.int .u32 x, .int .i64 k] w fun e w' => e = .returned (.int .u32 (rot c x)) ∧ w = w' := by
  go_enter Try.func70, Try.ntmps70
  go_wp2
  go_ret
  exact ⟨rfl, rfl⟩

theorem turn_back (a : Int) (h0 : 1 ≤ a) (h1 : a ≤ 31) : bits .and .u64 (IntKind.u64.wrap (-a)) 31 = ((32 - a).toNat : Int) := by
  obtain ⟨n, rfl⟩ := Int.eq_ofNat_of_zero_le (show 0 ≤ a by omega)
  have h : ∀ n : Fin 32, 1 ≤ n.val → bits .and .u64 (IntKind.u64.wrap (-(n.val : Int))) 31 = ((32 - (n.val : Int)).toNat : Int) := by decide +kernel
  exact h ⟨n, by omega⟩ (by simp; omega)

/-- What three answers: the last word is a shift where it falls. -/
def threeF (x a b c : Int) (falls : Bool) : Int := bits .xor .u32 (bits .xor .u32 (rot (32 - a).toNat x) (rot (32 - b).toNat x)) (if falls then x / 2 ^ c.toNat else rot (32 - c).toNat x)

set_option maxHeartbeats 400000 in
theorem three_any (x a b c : Int) (falls : Bool) (w : World) (h0 : 0 ≤ x) (h1 : x < 4294967296)
    (a0 : 1 ≤ a) (a1 : a ≤ 31) (b0 : 1 ≤ b) (b1 : b ≤ 31) (c0 : 1 ≤ c) (c1 : c ≤ 31) :
    Calls Try.prog 68 #[.int .u32 x, .int .i64 a, .int .i64 b, .int .i64 c, .bool falls] w fun e w' => e = .returned (.int .u32 (threeF x a b c falls)) ∧ w = w' := by
  cases falls
  all_goals
    go_enter Try.func68, Try.ntmps68
    go_wp2_with (go_at_call 70; refine (rotl_any x _ _ _ h0 h1 (turn_back _ (by assumption) (by assumption)) (by omega)).mono ?_; rintro e w' ⟨rfl, rfl⟩)
    go_ret
    exact ⟨rfl, rfl⟩

set_option maxHeartbeats 400000 in
theorem four_any (n : Int) (w : World) (h0 : 0 ≤ n) (h1 : n < 4294967296) :
    Calls Try.prog 39 #[.int .u32 n] w fun e w' => e = .returned (.slice (some ⟨w.heap.size, 0, none⟩) 4 4) ∧ w' = w.alloc (.cells #[.int .u8 (n / 16777216), .int .u8 (n / 65536 % 256), .int .u8 (n / 256 % 256), .int .u8 (n % 256)] 5) := by
  go_enter Try.func39, Try.ntmps39
  go_wp2
  go_ret
  exact ⟨rfl, rfl⟩

/-- What the first k of some bytes come to. -/
def accF (f : Nat → Int) : Nat → Int
  | 0 => 0
  | k + 1 => bits .or .u32 (accF f k * 256 % 4294967296) (f k)

theorem or_add (x y : Int) (hx : 0 ≤ x) (hx1 : x < 4294967296) (h : x % 256 = 0) (hy : 0 ≤ y) (hy1 : y < 256) : bits .or .u32 x y = x + y := by
  rw [u32_or x y hx hx1 hy (by omega)]
  obtain ⟨a, rfl⟩ := Int.eq_ofNat_of_zero_le hx
  obtain ⟨b, rfl⟩ := Int.eq_ofNat_of_zero_le hy
  have h1 : a = 2 ^ 8 * (a / 256) := by omega
  rw [Int.toNat_natCast, Int.toNat_natCast, h1, ← Nat.two_pow_add_eq_or_of_lt (by omega : b < 2 ^ 8)]
  omega

theorem accF_bd (f : Nat → Int) (hf : ∀ j, j < 4 → 0 ≤ f j ∧ f j < 256) : ∀ k, k ≤ 4 → 0 ≤ accF f k ∧ accF f k < 256 ^ k := by
  intro k
  induction k with
  | zero => intro _; simp [accF]
  | succ k ih =>
    intro hk
    obtain ⟨h0, h1⟩ := ih (by omega)
    obtain ⟨f0, f1⟩ := hf k (by omega)
    have h2 : accF f k * 256 < 4294967296 := by
      have : k = 0 ∨ k = 1 ∨ k = 2 ∨ k = 3 := by omega
      rcases this with rfl | rfl | rfl | rfl <;> simp at h1 <;> omega
    rw [accF, or_add _ _ (by omega) (by omega) (by omega) f0 f1]
    have h3 : (256 : Int) ^ (k + 1) = 256 ^ k * 256 := by rw [Int.pow_succ]
    rw [h3]; omega

theorem accF_word (f : Nat → Int) (hf : ∀ j, j < 4 → 0 ≤ f j ∧ f j < 256) : accF f 4 = ((f 0 * 256 + f 1) * 256 + f 2) * 256 + f 3 := by
  have b0 := hf 0 (by omega); have b1 := hf 1 (by omega); have b2 := hf 2 (by omega); have b3 := hf 3 (by omega)
  have e1 : accF f 1 = f 0 := by simp only [accF]; rw [or_add _ _ (by omega) (by omega) (by omega) (by omega) (by omega)]; omega
  have e2 : accF f 2 = f 0 * 256 + f 1 := by rw [accF, e1, or_add _ _ (by omega) (by omega) (by omega) (by omega) (by omega)]; omega
  have e3 : accF f 3 = (f 0 * 256 + f 1) * 256 + f 2 := by rw [accF, e2, or_add _ _ (by omega) (by omega) (by omega) (by omega) (by omega)]; omega
  rw [accF, e3, or_add _ _ (by omega) (by omega) (by omega) (by omega) (by omega)]; omega

set_option maxHeartbeats 400000 in
theorem word_any (b o n c : Nat) (f : Nat → Int) (w : World) (hn : 4 ≤ c) (hc : c ≤ 9223372036854775807) (hnc : n ≤ c)
    (hf : ∀ j, j < 4 → 0 ≤ f j ∧ f j < 256) (hcell : ∀ j, j < 4 → w.cell? ⟨b, o + j, none⟩ = some (.int .u8 (f j))) :
    Calls Try.prog 66 #[.slice (some ⟨b, o, none⟩) n c] w fun e w' => e = .returned (.int .u32 (((f 0 * 256 + f 1) * 256 + f 2) * 256 + f 3)) ∧ w = w' := by
  have H := Lib.hid (accF_word f hf)
  have HB := Lib.hid (accF_bd f hf)
  have HC := Lib.hid hcell
  have HF := Lib.hid hf
  clear hcell hf
  go_enter Try.func66, Try.ntmps66
  go_wp2
  go_loop [3, 9] (fun n i => ∃ k : Nat, k ≤ 4 ∧ i = .int .i64 k ∧ n = .int .u32 (accF f k)) (fun _ i => (4 - intOf i).toNat)
  case atStart => exact ⟨0, by omega, rfl, rfl⟩
  case round =>
    obtain ⟨k, hk, rfl, rfl⟩ := hrel
    by_cases hlt : k < 4
    · have h1 := HC.out k hlt
      obtain ⟨h2, h3⟩ := HF.out k hlt
      obtain ⟨h4, h5⟩ := HB.out k hk
      have H6 : Hid (accF f (k + 1) = bits .or .u32 (accF f k * 256 % 4294967296) (f k)) := rfl
      go_wp2
      go_round
      case rel => exact ⟨k + 1, by omega, by go_num, by rw [H6.out]⟩
      case measure => simp [intOf]; omega
    · go_wp2
      go_ret
      obtain rfl : k = 4 := by omega
      exact ⟨by rw [← H.out]; rfl, rfl⟩

end Go.Proofs.Ythoiihpbgdjbfaa
