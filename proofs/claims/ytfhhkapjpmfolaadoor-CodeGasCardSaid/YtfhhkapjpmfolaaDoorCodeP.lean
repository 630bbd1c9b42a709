/- law 11: awake: the document's examples. -/
import Derived.Test.YtfhhkapjpmfolaaDoorCodeO
namespace Go.Proofs.YtfhhkapjpmfolaaDoor
open Go.RowKit Go.Lib

def awT : ByteArray := ⟨#[112, 117, 115, 104, 32, 50, 10, 112, 117, 115, 104, 32, 51, 10, 108, 101, 115, 115, 10, 104, 97, 108, 116]⟩
def awP : List Nat := [1, 0, 0, 0, 0, 0, 0, 0, 2, 1, 0, 0, 0, 0, 0, 0, 0, 3, 6, 0]
theorem aw_parse : parseF awT = (awP, 0) := by decide +kernel
def awW : CW := ⟨0, fun _ => 0, 0, fun _ => false, 0⟩
theorem aw_run : runF awW 20 (fun j => awP.getD j 0) 100 101 ⟨([], 0), 0, 0⟩ = (1, 4, 0) := by decide +kernel
def jmP : List Nat := [11, 0, 0]
theorem aw_jump : runF awW 3 (fun j => jmP.getD j 0) 50 51 ⟨([], 0), 0, 0⟩ = (0, 50, 24) := by decide +kernel
theorem awW_at (w : World) : CWAt w w.heap.size awW (.slice none 0 0) (.slice none 0 0) := ⟨⟨none, 0, rfl, Nat.le_refl _, by omega, Or.inl rfl⟩, ⟨none, 0, rfl, Nat.le_refl _, by omega, Or.inl rfl⟩⟩
theorem awW_wide : awW.wide := ⟨⟨by decide, by decide⟩, fun j hj => by cases hj⟩
theorem getD_lt (l : List Nat) (h : ∀ b ∈ l, b < 256) (j : Nat) : l.getD j 0 < 256 := by
  rw [List.getD_eq_getElem?_getD]
  cases hj : l[j]? with
  | none => simp
  | some b => exact h b (List.mem_of_getElem? hj)

theorem aw_1 (w : World) (hL : LaidAt w) : Calls Tryd.prog 16 #[.string ⟨#[112, 117, 115, 104, 32, 50, 10, 112, 117, 115, 104, 32, 51, 10, 108, 101, 115, 115, 10, 104, 97, 108, 116]⟩] w fun x w' =>
    ∃ a c, x = .returned (.tuple #[.slice a 20 c, .int .i64 0]) ∧ w'.ownsRow w.heap.size 5 1 (.slice a 20 c) 20 (awP.map fun (b : Nat) => .int .u8 (b : Int)) ∧ Only [] w w' := by
  refine (parse_any awT w hL).mono fun x w' ⟨v, h1, h2, h3⟩ => ?_
  rw [aw_parse] at h1 h2
  have h2 : w'.ownsRow w.heap.size 5 1 v 20 (awP.map fun (b : Nat) => .int .u8 (b : Int)) := h2
  obtain ⟨a, c, rfl⟩ := ownsRow_form h2
  exact ⟨a, c, h1, h2, h3⟩
theorem aw_2 (w w1 : World) (hL : LaidAt w) (a : Option Addr) (c : Nat) (h : w1.ownsRow w.heap.size 5 1 (.slice a 20 c) 20 (awP.map fun (b : Nat) => .int .u8 (b : Int))) (hO : Only [] w w1) :
    Calls Tryd.prog 11 #[.slice a 20 c, .agg #[.slice none 0 0, .slice none 0 0, .int .u64 0], .int .i64 100] w1 fun x w' => x = .returned (.tuple #[.int .u64 1, .int .i64 4, .int .i64 0]) ∧ Only [] w w' := by
  refine (run_any 20 (.slice a 20 c) (.slice none 0 0) (.slice none 0 0) (fun j => awP.getD j 0) awW 100 w1 (sl_own h) (by omega) (getD_lt _ (by decide)) (hL.only hO (by simp)).forms (by omega) (awW_at w1) awW_wide).mono fun x w' ⟨⟨R, h1, h2⟩, h3⟩ => ?_
  rw [show (100 : Nat) + 1 = 101 from rfl, aw_run] at h1
  subst h1
  exact ⟨h2, hO.trans h3 (by simp)⟩
theorem aw_3 (w w1 : World) (hL : LaidAt w) (hO : Only [] w w1) :
    Calls Tryd.prog 11 #[.slice (some ⟨w1.heap.size, 0, none⟩) 3 3, .agg #[.slice none 0 0, .slice none 0 0, .int .u64 0], .int .i64 50] (w1.alloc (.cells #[.int .u8 11, .int .u8 0, .int .u8 0] 5)) fun x w' => x = .returned (.tuple #[.int .u64 0, .int .i64 50, .int .i64 24]) ∧ Only [] w w' := by
  refine (run_any 3 (.slice (some ⟨w1.heap.size, 0, none⟩) 3 3) (.slice none 0 0) (.slice none 0 0) (fun j => jmP.getD j 0) awW 50 (w1.alloc (.cells #[.int .u8 11, .int .u8 0, .int .u8 0] 5))
      ⟨_, _, rfl, by omega, by omega, Or.inr ⟨w1.heap.size, 0, rfl, by simp, by simp, fun j hj => by
        rw [Nat.zero_add]
        match j, hj with
        | 0, _ => simp [jmP]
        | 1, _ => simp [jmP]
        | 2, _ => simp [jmP]⟩⟩ (by omega) (getD_lt _ (by decide)) (hL.only (hO.alloc _) (by simp)).forms (by omega) (awW_at _) awW_wide).mono fun x w' ⟨⟨R, h1, h2⟩, h3⟩ => ?_
  rw [show (50 : Nat) + 1 = 51 from rfl, aw_jump] at h1
  subst h1
  exact ⟨h2, (hO.alloc _).trans h3 (by simp)⟩

set_option maxRecDepth 20000 in
set_option maxHeartbeats 1000000 in
theorem awake_any (w : World) (hL : LaidAt w) : Calls Tryd.prog 10 #[] w fun x w' => x = .returned (.bool true) ∧ Only [] w w' := by
  have HL := Lib.hid hL
  clear hL
  go_enter Tryd.func10, Tryd.ntmps10
  go_wp2_with (go_at_call 16; refine (aw_1 _ HL.out).mono ?_; rintro e w1 ⟨a1, c1, rfl, h1, hO1⟩; (have H1 := Lib.hid (And.intro h1 hO1)); clear h1 hO1)
  refine (aw_2 w w1 HL.out a1 c1 H1.out.1 H1.out.2).mono ?_
  rintro e w2 ⟨rfl, hO2⟩
  have H2 := Lib.hid hO2
  clear hO2
  go_wp2_with (go_at_call 11; refine (aw_3 w w2 HL.out H2.out).mono ?_; rintro e w3 ⟨rfl, hO3⟩; (have H3 := Lib.hid hO3); clear hO3)
  go_ret
  exact ⟨rfl, H3.out⟩
end Go.Proofs.YtfhhkapjpmfolaaDoor
