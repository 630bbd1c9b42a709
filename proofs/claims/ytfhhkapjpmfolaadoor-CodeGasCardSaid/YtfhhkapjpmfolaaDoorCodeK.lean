/- layer 1 (octet): num, Eight. -/
import Derived.Test.YtfhhkapjpmfolaaDoorCodeA
import Derived.Deep.LoopGhost
namespace Go.Proofs.YtfhhkapjpmfolaaDoor
open Go.RowKit

/-- Byte i of a number, counted from the lowest. -/
def byteI (n : Int) (i : Nat) : Int := n / 256 ^ i % 256
/-- A number's lowest bytes, the highest first. -/
def bytesI (n : Int) : Nat → List Int
  | 0 => []
  | k + 1 => byteI n k :: bytesI n k
theorem bytesI_length (n : Int) (k : Nat) : (bytesI n k).length = k := by induction k with
  | zero => rfl
  | succ k ih => simp [bytesI, ih]

theorem wpList_shr {P : Program} {ops : Array Oper} {rest : List Oper} {dst : Option Nat} {ty0 : TypeId} {pos : String} {after : _} {a : Act} {w : World} {Q : Exit → Act → World → Prop} {x y : Operand} {xt yt : TypeId}
    {k yk : IntKind} {n z : Int} (hx : a.eval x = .int k n) (hy : a.eval y = .int yk z) (s : Nat) (hz : z = s) (hs : s ≤ k.bits) (u : Int) (hu : n / 2 ^ s = u) (h : wpList P ops Q rest (a.put dst (.int k u)) w) :
    wpList P ops Q ((⟨dst, .binOp .shr xt x y yt, ty0, pos, after, none⟩ : Oper) :: rest) a w := by
  subst hz
  subst hu
  refine wpList_plain rfl fun K hK => ?_
  unfold Oper.wp execOp
  have e := shift_shr k yk n (s : Int) (by omega) (by omega)
  rw [Int.toNat_natCast] at e
  simp only [hx, hy, eqGuard_shr, binOp_shr, e, Sem.run_bind, Sem.run_pure, Result.andThen_ok]
  exact hK _ _ h

set_option maxHeartbeats 2000000 in
theorem num_any (B : Nat) (v : Value) (xs : List Int) (n : Int) (size : Nat) (w : World) (hv : w.ownsRow B 5 1 v xs.length (xs.map (Value.int .u8))) (hB : B ≤ w.heap.size) (hsz : size ≤ 8) (hl : xs.length ≤ 1000000) (h0 : 0 ≤ n) (h1 : n < 18446744073709551616) :
    Calls Tryd.prog 70 #[v, .int .u64 n, .int .i64 size] w fun x w' => ∃ v', x = .returned v' ∧
      w'.ownsRow B 5 1 v' (xs ++ bytesI n size).length ((xs ++ bytesI n size).map (Value.int .u8)) ∧ (v'.ownBlock = v.ownBlock ∨ ∀ g, v'.ownBlock = some g → w.heap.size ≤ g) ∧
      (∀ k, k < w.heap.size → some k ≠ v.ownBlock → w'.heap[k]? = w.heap[k]?) ∧ Below B w w' := by
  have HV := Lib.hid (And.intro hv (And.intro hB (And.intro h0 h1)))
  obtain ⟨a, c, rfl⟩ := ownsRow_form hv
  clear hv hB h0 h1
  go_enter Tryd.func70, Tryd.ntmps70
  go_wp2
  go_loopg [0, 7] (size + 1) (fun g s0 s7 wr => ∃ (k : Nat) (ys : List Int), k + g = size + 1 ∧ g ≠ 0 ∧ s7 = .int .i64 ((size : Int) - 1 - k) ∧ ys ++ bytesI n (size - k) = xs ++ bytesI n size ∧
    wr.ownsRow B 5 1 s0 ys.length (ys.map (Value.int .u8)) ∧ (s0.ownBlock = (Value.slice a xs.length c).ownBlock ∨ ∀ g, s0.ownBlock = some g → w.heap.size ≤ g) ∧
    (∀ k, k < w.heap.size → some k ≠ (Value.slice a xs.length c).ownBlock → wr.heap[k]? = w.heap[k]?) ∧ Below B w wr)
  case atStart =>
    obtain ⟨h1, h2, -⟩ := HV.out
    exact ⟨0, xs, by omega, by omega, by simp, rfl, h1, Or.inl rfl, fun _ _ _ => rfl, Below.refl _ _⟩
  case round =>
    obtain ⟨k, ys, hkg, hg0, rfl, hys, hown, hblk, hoth, hBl⟩ := hrel
    obtain ⟨r, rfl⟩ : ∃ r, size = k + r := ⟨size - k, by omega⟩
    have hi : ((k + r : Nat) : Int) - 1 - k = (r : Int) - 1 := by omega
    rw [hi]
    have HR := Lib.hid (And.intro hys (And.intro hown (And.intro hblk (And.intro hoth hBl))))
    clear hys hown hblk hoth hBl hi
    cases r with
    | zero =>
      clear hkg
      go_wp2_with fail
      refine bodyPost_ret (v := u0) (by simp [results, Tryd.results70, go_sem]) rfl ?_
      obtain ⟨h1, h2, h3, h4, h5⟩ := HR.out
      simp only [Nat.add_zero, Nat.sub_self, bytesI, List.append_nil] at h1
      subst h1
      exact ⟨_, rfl, h2, h3, h4, h5⟩
    | succ r =>
      have hi : ((r + 1 : Nat) : Int) - 1 = r := by omega
      rw [hi]
      have hr0 : ¬ (r : Int) < 0 := by omega
      have hr1 : (r : Int) ≥ 0 := by omega
      have hr8 : (r : Int) < 8 := by omega
      obtain ⟨q, hq⟩ : ∃ q, n / 2 ^ (8 * r) = q := ⟨_, rfl⟩
      have HQ := Lib.hid hq
      clear hi hq
      have HO := HR.out.2.1
      have hB' := HV.out.2.1
      have hwr : w.heap.size ≤ wr.heap.size := HR.out.2.2.2.2.size
      have hyl : ys.length ≤ 1000008 := by have := congrArg List.length HR.out.1; simp [bytesI_length] at this; omega
      obtain ⟨a0, c0, rfl⟩ := ownsRow_form HO
      have HW := Lib.hid (And.intro hB' (And.intro hwr (And.intro hyl (And.intro HO hkg))))
      clear HO hB' hwr hyl hkg hl
      go_wp2_with (first
        | ((with_reducible refine wpList_shr (k := .u64) (yk := .i64) (n := n) (z := 8 * (r : Int)) ?_ ?_ (8 * r) ?_ ?_ q ?_ ?_); (· rfl); (· rfl); (· omega); (· show 8 * r ≤ 64; omega); (· exact HQ.out))
        | ((with_reducible refine wpList_app B 5 (.int .u8 0) 1 1 Tryd.underlying98 ?_ ?_ ?_ (.slice a0 ys.length c0) ys.length (ys.map (Value.int .u8)) ?_ ?_ ⟨wr.heap.size, 0, none⟩ 1 1 [.int .u8 (q % 256)] ?_ ?_ ?_ ?_ ?_ ?_ ?_ ?_)
           (· kernel_rfl); (· rfl); (· decide); (· rfl); (· exact ownsRow_kept HW.out.2.2.2.1 fun k _ hk => Below.heap_alloc _ _ _ hk); (· rfl); (· rfl); (· exact one_new _ _ _)
           (· simp [Value.oneCell']); (· have := HW.out; unfold maxLen; omega); (· have := HW.out; omega); (· have := HW.out; simp; omega)
           (intro v6 w6 hown hgr hnil hblk)
           (have HA := Lib.hid (And.intro hown (And.intro hgr hblk)))
           (clear hown hgr hnil hblk)))
      go_roundg (gk - 1)
      case measure => omega
      case rel =>
        obtain ⟨hown, hgr, hblk⟩ := HA.out
        obtain ⟨h1, h2, h3, h4, h5⟩ := HR.out
        have hW := HW.out
        have eb : byteI n r = q % 256 := by rw [byteI, show (256 : Int) = 2 ^ 8 by decide, ← Int.pow_mul, HQ.out]
        refine ⟨k + 1, ys ++ [q % 256], by omega, by omega, by go_num, ?_, ?_, ?_, ?_, ?_⟩
        · rw [← h1, List.append_assoc, show k + (r + 1) - k = r + 1 by omega, show k + (r + 1) - (k + 1) = r by omega]
          simp [bytesI, eb]
        · rw [List.length_append, List.length_singleton, List.map_append, List.map_singleton]; exact hown
        · rcases hblk with h' | h'
          · rw [h']; exact h3
          · exact Or.inr fun g hg => by rw [h'] at hg; simp at hg; omega
        · intro j hj hne
          refine (hgr.block j (by simp; omega) fun e => ?_).trans ((Below.heap_alloc _ _ _ (by omega)).trans (h4 j hj hne))
          rcases h3 with h' | h'
          · rw [h'] at e; exact hne e
          · have := h' j e.symm; omega
        · exact (h5.alloc (by omega) _).grown hgr (by simp; omega) (fun g hg => (own_lt h2 hg).1)

set_option maxHeartbeats 2000000 in
theorem eight_any (n : Int) (w : World) (h0 : 0 ≤ n) (h1 : n < 18446744073709551616) (g : Nat) (hg : w.heap[g]? = some (.cells #[] 5 (0, 0))) (ga : Nat) (hga : w.heap[ga]? = some (.cells #[.int .u64 n] 25 (0, 0))) :
    Calls Tryd.prog 53 #[.slice (some ⟨g, 0, none⟩) 0 0, .slice (some ⟨ga, 0, none⟩) 1 1] w fun x w' => ∃ v', x = .returned v' ∧
      w'.ownsRow 0 5 1 v' 8 ((bytesI n 8).map (Value.int .u8)) ∧ (v'.ownBlock = some g ∨ ∀ b, v'.ownBlock = some b → w.heap.size ≤ b) ∧
      (∀ k, k < w.heap.size → k ≠ g → w'.heap[k]? = w.heap[k]?) ∧ Below 0 w w' := by
  have hlt := lt_of_block hg
  have hO : w.ownsRow 0 5 1 (.slice (some ⟨g, 0, none⟩) 0 0) 0 [] := ⟨rfl, Or.inr ⟨g, 0, #[], rfl, Nat.zero_le _, hg, Nat.le_refl _, Nat.zero_le _, rfl, rfl⟩⟩
  have cn : w.cell? ⟨ga, 0, none⟩ = some (.int .u64 n) := by simp [World.cell?, hga]
  have C := fun w1 (h : w1 = w) => num_any 0 (.slice (some ⟨g, 0, none⟩) 0 0) [] n 8 w1 (by rw [h]; exact hO) (Nat.zero_le _) (by omega) (by simp) h0 h1
  have HC := Lib.hid C
  clear C hO hg hga h0 h1
  go_enter Tryd.func53, Tryd.ntmps53
  go_wp2_with fail
  go_loopg [0, 9] 2 (fun g' s0 s9 wr => (g' = 2 ∧ s0 = .slice (some ⟨g, 0, none⟩) 0 0 ∧ s9 = .int .i64 0 ∧ wr = w) ∨ (g' = 1 ∧ s9 = .int .i64 1 ∧
      wr.ownsRow 0 5 1 s0 8 ((bytesI n 8).map (Value.int .u8)) ∧ (s0.ownBlock = some g ∨ ∀ b, s0.ownBlock = some b → w.heap.size ≤ b) ∧ (∀ k, k < w.heap.size → k ≠ g → wr.heap[k]? = w.heap[k]?) ∧ Below 0 w wr))
  case atStart => exact Or.inl ⟨rfl, rfl, rfl, rfl⟩
  case round =>
    rcases hrel with ⟨rfl, rfl, rfl, rfl⟩ | ⟨rfl, rfl, hO, hB, hK, hBl⟩
    · go_wp2_with (go_at_call 70; refine (HC.out _ rfl).mono ?_; rintro x w' ⟨v', rfl, h1, h2, h3, h4⟩; (have HN := Lib.hid (And.intro h1 (And.intro h2 (And.intro h3 h4)))); clear h1 h2 h3 h4)
      go_roundg 1
      case measure => omega
      case rel =>
        obtain ⟨h1, h2, h3, h4⟩ := HN.out
        refine Or.inr ⟨rfl, by go_num, by simpa [bytesI_length] using h1, by simpa [Value.ownBlock] using h2, fun k hk hne => h3 k hk (by simpa [Value.ownBlock] using hne), h4⟩
    · have HN := Lib.hid (And.intro hO (And.intro hB (And.intro hK hBl)))
      clear hO hB hK hBl
      go_wp2_with fail
      refine bodyPost_ret (v := u0) (by simp [results, Tryd.results53, go_sem]) rfl ?_
      obtain ⟨h1, h2, h3, h4⟩ := HN.out
      exact ⟨_, rfl, h1, h2, h3, h4⟩
end Go.Proofs.YtfhhkapjpmfolaaDoor
