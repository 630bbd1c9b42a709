/- mill: New, Write. -/
import Derived.Test.YthoiihpbgdjbfaaMillC
namespace Go.Proofs.Ythoiihpbgdjbfaa
open Go.RowKit

/-- A slice of n bytes, told by f, that doesn't lie in block P. -/
def BytesAt (w : World) (v : Value) (n : Nat) (f : Nat → Int) (P : Nat) : Prop :=
  ∃ (a : Option Addr) (cap : Nat), v = .slice a n cap ∧ n ≤ cap ∧ cap ≤ 9223372036854775807 ∧ (∀ j, j < n → U8 (f j)) ∧
    (n = 0 ∨ ∃ b o, a = some ⟨b, o, none⟩ ∧ b ≠ P ∧ b < w.heap.size ∧ ∀ j, j < n → w.cell? ⟨b, o + j, none⟩ = some (.int .u8 (f j)))
theorem BytesAt.only {w w' : World} {v : Value} {n : Nat} {f : Nat → Int} {P : Nat} (h : BytesAt w v n f P) (hO : Only [P] w w') : BytesAt w' v n f P := by
  obtain ⟨a, cap, h1, h2, h3, h4, h5⟩ := h
  refine ⟨a, cap, h1, h2, h3, h4, ?_⟩
  rcases h5 with h5 | ⟨b, o, e, hne, hlt, hc⟩
  · exact Or.inl h5
  · exact Or.inr ⟨b, o, e, hne, by have := hO.size; omega, fun j hj => (hO.cell (p := ⟨b, o + j, none⟩) hlt (by simpa using hne)).trans (hc j hj)⟩

set_option maxHeartbeats 400000 in
theorem put_bytes (P : Nat) (v : Value) (n : Nat) (m : MS) (f : Nat → Int) (w : World) (hm : m.ok) (hP : w.heap[P]? = some (.cells m.cells 110 (0, 0)))
    (hv : BytesAt w v n f P) (hl : m.long + n ≤ 281474976710656) :
    Calls Try.prog 46 #[.pointer (some ⟨P, 0, none⟩), v] w fun e w' =>
      e = .returned (.tuple #[]) ∧ Only [P] w w' ∧ w'.heap[P]? = some (.cells (m.feeds f n).cells 110 (0, 0)) := by
  obtain ⟨a, cap, rfl, h2, h3, h4, h5⟩ := hv
  by_cases h0 : n = 0
  · subst h0
    have HF := Lib.hid (show w.heap[P]? = some (.cells (m.feeds f 0).cells 110 (0, 0)) from hP)
    clear hP hm h4 h5
    go_enter Try.func46, Try.ntmps46
    go_wp2_with fail
    refine wp_loop_rounds 1 ?_
    rw [rounds_succ]
    go_wp2_with fail
    go_end0
    exact ⟨rfl, Only.refl _ _, HF.out⟩
  · rcases h5 with h5 | ⟨b, o, rfl, hne, hlt, hc⟩
    · exact absurd h5 h0
    · exact put_any P b o n cap m f w hm h4 hP hc hne hlt h2 h3 hl

/-- Parts, one behind the other. -/
def MS.parts (m : MS) (N : Nat → Nat) (F : Nat → Nat → Int) : Nat → MS
  | 0 => m
  | i + 1 => (m.parts N F i).feeds (F i) (N i)
def total (N : Nat → Nat) : Nat → Nat
  | 0 => 0
  | i + 1 => total N i + N i
theorem total_mono (N : Nat → Nat) (i : Nat) : ∀ d, total N i ≤ total N (i + d)
  | 0 => Nat.le_refl _
  | d + 1 => Nat.le_trans (total_mono N i d) (by show total N (i + d) ≤ total N (i + d) + N (i + d); omega)
theorem parts_long (m : MS) (N : Nat → Nat) (F : Nat → Nat → Int) : ∀ i, (m.parts N F i).long = m.long + total N i
  | 0 => rfl
  | i + 1 => by rw [MS.parts, feeds_long, parts_long m N F i, total]; omega
theorem parts_ok (m : MS) (N : Nat → Nat) (F : Nat → Nat → Int) (h : m.ok) : ∀ i, (∀ k, k < i → ∀ j, j < N k → U8 (F k j)) → (m.parts N F i).ok
  | 0, _ => h
  | i + 1, hf => feeds_ok _ _ (parts_ok m N F h i fun k hk => hf k (by omega)) _ (hf i (by omega))
theorem BytesAt.u8 {w : World} {v : Value} {n : Nat} {f : Nat → Int} {P : Nat} (h : BytesAt w v n f P) : ∀ j, j < n → U8 (f j) := by
  obtain ⟨_, _, _, _, _, h4, _⟩ := h; exact h4

set_option maxHeartbeats 1000000 in
theorem write_any (P b o n cap : Nat) (m : MS) (V : Nat → Value) (N : Nat → Nat) (F : Nat → Nat → Int) (w : World) (hm : m.ok) (hP : w.heap[P]? = some (.cells m.cells 110 (0, 0)))
    (hcell : ∀ i, i < n → w.cell? ⟨b, o + i, none⟩ = some (V i)) (hV : ∀ i, i < n → BytesAt w (V i) (N i) (F i) P) (hb : b ≠ P) (hbs : b < w.heap.size) (hn : n ≤ 9223372036854775807) (hl : m.long + total N n ≤ 281474976710656) :
    Calls Try.prog 38 #[.pointer (some ⟨P, 0, none⟩), .slice (some ⟨b, o, none⟩) n cap] w fun e w' =>
      e = .returned (.tuple #[]) ∧ Only [P] w w' ∧ w'.heap[P]? = some (.cells (m.parts N F n).cells 110 (0, 0)) := by
  have HH := Lib.hid (And.intro hm (And.intro hP (And.intro hcell (And.intro hV hl))))
  clear hm hP hcell hV hl
  go_enter Try.func38, Try.ntmps38
  go_wp2_with fail
  go_loopw [10] (fun i wr => ∃ k : Nat, k ≤ n ∧ i = .int .i64 k ∧ wr.heap[P]? = some (.cells (m.parts N F k).cells 110 (0, 0)) ∧ Only [P] w wr) (fun i _ => n - (intOf i).toNat)
  case atStart => exact ⟨0, by omega, rfl, HH.out.2.1, Only.refl _ _⟩
  case round =>
    obtain ⟨k, hk, rfl, hP, hO⟩ := hrel
    by_cases hlt : k < n
    · obtain ⟨Hm, HP, Hc, HV, Hl⟩ := HH.out
      have c0 : wr.cell? ⟨b, o + k, none⟩ = some (V k) := (hO.cell (p := ⟨b, o + k, none⟩) hbs (by simpa using hb)).trans (Hc k hlt)
      have hv := (HV k hlt).only hO
      have hle : (m.parts N F k).long + N k ≤ 281474976710656 := by
        rw [parts_long]
        have := total_mono N (k + 1) (n - (k + 1))
        rw [show k + 1 + (n - (k + 1)) = n by omega, total] at this
        omega
      have HC := Lib.hid (put_bytes P (V k) (N k) (m.parts N F k) (F k) wr (parts_ok m N F Hm k fun i hi => (HV i (by omega)).u8) hP hv hle)
      obtain ⟨a, cp, hve, _⟩ := hv
      have HO := Lib.hid hO
      rw [hve] at c0
      have HE := Lib.hid hve
      clear Hm HP Hc HV Hl hP hO hle hve
      go_wp2_with (go_at_call 46; rw [← HE.out]; refine HC.out.mono ?_; rintro e w' ⟨rfl, hO1, hP1⟩)
      go_roundw
      case rel => exact ⟨k + 1, by omega, by go_num, by assumption, HO.out.trans (by assumption) (by simp)⟩
      case measure => simp [intOf]; omega
    · obtain rfl : k = n := by omega
      have HF := Lib.hid (And.intro hO hP)
      clear hP hO
      go_wp2_with fail
      go_end0
      exact ⟨rfl, HF.out⟩

def initF : Nat → Int
  | 0 => 1779033703
  | 1 => 3144134277
  | 2 => 1013904242
  | 3 => 2773480762
  | 4 => 1359893119
  | 5 => 2600822924
  | 6 => 528734635
  | 7 => 1541459225
  | _ => 0
def MS.new : MS := ⟨initF, fun _ => 0, 0⟩
theorem new_ok : MS.new.ok := by
  refine ⟨?_, ?_⟩
  · intro j hj
    have h : ∀ j : Fin 8, 0 ≤ initF j.val ∧ initF j.val < 4294967296 := by decide
    exact h ⟨j, hj⟩
  · intro j _; exact (show (0 : Int) ≤ 0 ∧ (0 : Int) < 256 by decide)

set_option maxRecDepth 100000 in
set_option maxHeartbeats 1000000 in
theorem millnew_any (w : World) :
    Calls Try.prog 37 #[] w fun e w' => e = .returned (.pointer (some ⟨w.heap.size, 0, none⟩)) ∧ w' = w.alloc (.cells MS.new.cells 110) := by
  go_enter Try.func37, Try.ntmps37
  go_wp2
  go_ret
  exact ⟨rfl, rfl⟩
end Go.Proofs.Ythoiihpbgdjbfaa
