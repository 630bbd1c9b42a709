/- layer 11 (code): fetch. -/
import Derived.Test.YtfhhkapjpmfolaaDoorCodeE
import Derived.Laws.BitsAllLaws
import Derived.Test.YtfhhkapjpmfolaaDoorSlc
namespace Go.Proofs.YtfhhkapjpmfolaaDoor
open Go.RowKit

def moreF : Nat → Nat
  | 1 => 8 | 2 => 1 | 11 => 2 | 12 => 2 | 16 => 1 | _ => 0
def costF : Nat → Nat
  | 5 => 3 | 16 => 10 | _ => 1
def nameF : Nat → List UInt8
  | 0 => [104, 97, 108, 116] | 1 => [112, 117, 115, 104] | 2 => [108, 111, 97, 100] | 3 => [97, 100, 100] | 4 => [115, 117, 98] | 5 => [109, 117, 108] | 6 => [108, 101, 115, 115] | 7 => [115, 97, 109, 101] | 8 => [110, 111, 116]
  | 9 => [98, 111, 116, 104] | 10 => [97, 110, 121] | 11 => [106, 117, 109, 112] | 12 => [105, 102] | 13 => [116, 119, 105, 99, 101] | 14 => [115, 119, 97, 112] | 15 => [100, 114, 111, 112] | 16 => [112, 97, 105, 100] | _ => [110, 111, 119]
/-- The table of forms lies in its variable. -/
def FormsAt (w : World) : Prop := ∀ k, k < 18 → w.cell? ⟨0, k * 3, none⟩ = some (.string ⟨(nameF k).toArray⟩) ∧ w.cell? ⟨0, k * 3 + 1, none⟩ = some (.int .i64 (moreF k : Int)) ∧ w.cell? ⟨0, k * 3 + 2, none⟩ = some (.int .i64 (costF k : Int))
theorem moreF_le (k : Nat) : moreF k ≤ 8 := by unfold moreF; split <;> omega
theorem costF_le (k : Nat) : 1 ≤ costF k ∧ costF k ≤ 10 := by unfold costF; split <;> omega
theorem FormsAt.below {w w' : World} {b : Nat} (h : FormsAt w) (hB : Below b w w') (hb : 0 < b) : FormsAt w' := fun k hk => by
  obtain ⟨h1, h2, h3⟩ := h k hk
  exact ⟨(World.cell?_of_block (w := w) (hB.block _ hb)).trans h1, (World.cell?_of_block (w := w) (hB.block _ hb)).trans h2, (World.cell?_of_block (w := w) (hB.block _ hb)).trans h3⟩

/-- A number out of bytes, the greatest first. -/
def argF (p : Nat → Nat) (s : Nat) : Nat → Nat
  | 0 => 0
  | k + 1 => argF p s k * 256 + p (s + k)
theorem argF_lt (p : Nat → Nat) (s : Nat) (hp : ∀ j, p j < 256) : ∀ k, argF p s k < 256 ^ k
  | 0 => by simp [argF]
  | k + 1 => by
    have h1 := argF_lt p s hp k
    have h2 := hp (s + k)
    rw [argF, Nat.pow_succ]; omega
theorem argF_step (p : Nat → Nat) (s k : Nat) (hp : ∀ j, p j < 256) (hk : k < 8) : bits .or .u64 ((argF p s k : Int) * 256 % 18446744073709551616) (p (s + k) : Int) = (argF p s (k + 1) : Int) := by
  have h1 := argF_lt p s hp k
  have h2 := hp (s + k)
  have h3 : (256 : Nat) ^ k ≤ 256 ^ 7 := Nat.pow_le_pow_right (by omega) (by omega)
  have h4 : argF p s k < 72057594037927936 := Nat.lt_of_lt_of_le h1 (Nat.le_trans h3 (by decide))
  have e1 : (argF p s k : Int) * 256 % 18446744073709551616 = ((argF p s k * 256 : Nat) : Int) := by omega
  rw [e1]
  have h5 : argF p s (k + 1) = 2 ^ 8 * argF p s k + p (s + k) := by rw [argF]; omega
  rw [bits_or_u64_nat _ _ (by omega) (by omega), h5, show argF p s k * 256 = 2 ^ 8 * argF p s k from by omega, ← Nat.two_pow_add_eq_or_of_lt (by omega : p (s + k) < 2 ^ 8)]

/-- What fetch answers: the order, its number, where the next one is, what is wrong. -/
def fetchF (n : Nat) (p : Nat → Nat) (at_ : Nat) : Nat × Nat × Nat × Nat :=
  if n ≤ at_ then (0, 0, 0, 9)
  else if 18 ≤ p at_ then (0, 0, 0, 33)
  else if n < at_ + 1 + moreF (p at_) then (0, 0, 0, 9)
  else (p at_, argF p (at_ + 1) (moreF (p at_)), at_ + 1 + moreF (p at_), 0)

theorem results_tmp4 {fn : Func} {t u v x : Tmp} (h : fn.results = #[.tmp t, .tmp u, .tmp v, .tmp x]) (tmps : Array Value) (P : Program) (w : World) :
    (results fn tmps).run P w = .ok (.tuple #[tmps.getD t undef, tmps.getD u undef, tmps.getD v undef, tmps.getD x undef]) w := by
  simp [results, h]
set_option maxHeartbeats 1000000 in
theorem fetch_any (B n : Nat) (v : Value) (p : Nat → Nat) (at_ : Nat) (w : World) (hv : SlAt w B v n (fun j => .int .u8 (p j : Int))) (hn : n ≤ 256) (hp : ∀ j, p j < 256) (hF : FormsAt w) (hat : at_ < 1000000) :
    Calls Tryd.prog 20 #[v, .int .i64 at_] w fun x w' => w' = w ∧ x = .returned (.tuple #[.int .i64 ((fetchF n p at_).1 : Int), .int .u64 ((fetchF n p at_).2.1 : Int), .int .i64 ((fetchF n p at_).2.2.1 : Int), .int .i64 ((fetchF n p at_).2.2.2 : Int)]) := by
  obtain ⟨a, c, rfl, hc, hc63, hcell0⟩ := hv
  by_cases h1 : n ≤ at_
  · have e0 : fetchF n p at_ = (0, 0, 0, 9) := by simp [fetchF, h1]
    rw [e0]
    have h1i : (at_ : Int) ≥ n := by omega
    go_enter Tryd.func20, Tryd.ntmps20
    go_wp2
    refine bodyPost_ret (results_tmp4 rfl _ _ _) rfl ?_
    exact ⟨rfl, rfl⟩
  · obtain ⟨b1, o1, rfl, -, -, hcell⟩ : ∃ b1 o1, a = some ⟨b1, o1, none⟩ ∧ b1 < B ∧ b1 < w.heap.size ∧ ∀ j, j < n → w.cell? ⟨b1, o1 + j, none⟩ = some (.int .u8 (p j : Int)) := by
      rcases hcell0 with h | h
      · omega
      · exact h
    have c0 := hcell at_ (by omega)
    obtain ⟨op, hop⟩ : ∃ op, p at_ = op := ⟨_, rfl⟩
    rw [hop] at c0
    clear hcell0
    have hop1 : (op : Int) < 256 := by have := hp at_; omega
    have h1i : ¬ (at_ : Int) ≥ n := by omega
    have hati : (at_ : Int) < n := by omega
    by_cases h2 : 18 ≤ op
    · have e0 : fetchF n p at_ = (0, 0, 0, 33) := by simp [fetchF, h1, hop, h2]
      rw [e0]
      have h2i : (op : Int) ≥ 18 := by omega
      clear hcell hF hp
      go_enter Tryd.func20, Tryd.ntmps20
      go_wp2
      refine bodyPost_ret (results_tmp4 rfl _ _ _) rfl ?_
      exact ⟨rfl, rfl⟩
    · have h2i : ¬ (op : Int) ≥ 18 := by omega
      have g1 := (hF op (by omega)).2.1
      obtain ⟨m, hm⟩ : ∃ m, moreF op = m := ⟨_, rfl⟩
      have hm8 : m ≤ 8 := by rw [← hm]; exact moreF_le _
      rw [hm] at g1
      by_cases h3 : n < at_ + 1 + m
      · have e0 : fetchF n p at_ = (0, 0, 0, 9) := by simp [fetchF, h1, hop, h2, hm, h3]
        rw [e0]
        have h3i : (at_ : Int) + 1 + m > n := by omega
        clear hcell hF hp
        go_enter Tryd.func20, Tryd.ntmps20
        go_wp2
        refine bodyPost_ret (results_tmp4 rfl _ _ _) rfl ?_
        exact ⟨rfl, rfl⟩
      · have e0 : fetchF n p at_ = (op, argF p (at_ + 1) m, at_ + 1 + m, 0) := by simp [fetchF, h1, hop, h2, hm, h3]
        rw [e0]
        have h3i : ¬ (at_ : Int) + 1 + m > n := by omega
        have HC := Lib.hid (And.intro hcell (And.intro hp (And.intro hc hm8)))
        clear hcell hF hp e0 hop hc63
        go_enter Tryd.func20, Tryd.ntmps20
        go_upto_region 9 with (fail)
        go_wp2_with ((with_reducible refine wpList_slice_lh (k1 := .i64) (k2 := .i64) (z1 := (at_ : Int) + 1) (z2 := (at_ : Int) + 1 + m) (ad := some ⟨b1, o1, none⟩) (n := n) (c := c) 5 Tryd.underlying22 Tryd.sizeOf5 (at_ + 1) (at_ + 1 + m) ?_ ?_ ?_ ?_ ?_ ?_ ?_ m (c - (at_ + 1)) ?_ ?_ ?_); (· rfl); (· rfl); (· rfl); (· go_num); (· go_num); (· omega); (· omega); (· omega); (· omega); (intro a6 h6); (have HA := Lib.hid h6); clear h6)
        go_loop [5, 38] (fun n i => ∃ k : Nat, k ≤ m ∧ i = .int .i64 k ∧ n = .int .u64 (argF p (at_ + 1) k : Int)) (fun _ i => (m - intOf i).toNat)
        case atStart => exact ⟨0, by omega, rfl, rfl⟩
        case round =>
          obtain ⟨k, hk, rfl, rfl⟩ := hrel
          by_cases hlt : k < m
          · have hki : (k : Int) < m := by omega
            have ha := HA.out (by omega) _ _ rfl
            subst ha
            have c1 := HC.out.1 (at_ + 1 + k) (by omega)
            rw [show o1 + (at_ + 1 + k) = o1 + (at_ + 1) + k by omega] at c1
            have b1 := HC.out.2.1 (at_ + 1 + k)
            have hstep := Lib.hid (argF_step p (at_ + 1) k HC.out.2.1 (by have := HC.out.2.2.2; omega))
            obtain ⟨y, hy⟩ : ∃ y, p (at_ + 1 + k) = y := ⟨_, rfl⟩
            rw [hy] at c1 b1
            have b1' : (y : Int) < 256 := by omega
            obtain ⟨z, hz⟩ : ∃ z, argF p (at_ + 1) k = z := ⟨_, rfl⟩
            have hzs := hstep.out
            rw [hz, hy] at hzs
            have HZ := Lib.hid (And.intro hz hzs)
            rw [hz]
            clear hzs hstep
            go_wp2
            go_round
            case rel => exact ⟨k + 1, by omega, by go_num, by rw [← HZ.out.2, IntKind.wrap_u64]⟩
            case measure => simp [intOf]; omega
          · have hki : ¬ (k : Int) < m := by omega
            obtain rfl : k = m := by omega
            go_wp2
            refine bodyPost_ret (results_tmp4 rfl _ _ _) rfl ?_
            exact ⟨rfl, rfl⟩
end Go.Proofs.YtfhhkapjpmfolaaDoor
