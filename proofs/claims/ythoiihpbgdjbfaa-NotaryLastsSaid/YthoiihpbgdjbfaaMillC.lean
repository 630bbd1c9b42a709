/- mill: bytes are put in. -/
import Derived.Test.YthoiihpbgdjbfaaMillB
namespace Go.Proofs.Ythoiihpbgdjbfaa
open Go.RowKit

/-- A mill: its eight words, its block, and how many bytes came. -/
structure MS where
  st : Nat → Int
  wt : Nat → Int
  long : Nat
def MS.cells (m : MS) : Array Value := millC m.st m.wt m.long
def MS.ok (m : MS) : Prop := (∀ j, j < 8 → U32 (m.st j)) ∧ ∀ j, j < 64 → U8 (m.wt j)
/-- One byte comes in. -/
def MS.feed (m : MS) (x : Int) : MS :=
  ⟨if (m.long + 1) % 64 = 0 then grindF m.st (upd m.wt (m.long % 64) x) else m.st, upd m.wt (m.long % 64) x, m.long + 1⟩
def MS.feeds (m : MS) (f : Nat → Int) : Nat → MS
  | 0 => m
  | n + 1 => (m.feeds f n).feed (f n)
def wtS (wt : Nat → Int) (r q : Nat) (f : Nat → Int) : Nat → Int := fun j => if r ≤ j ∧ j < r + q then f (j - r) else wt j
theorem wtS_zero (wt : Nat → Int) (r : Nat) (f : Nat → Int) : wtS wt r 0 f = wt := by funext j; simp only [wtS]; rw [if_neg (by omega)]
theorem wtS_succ (wt : Nat → Int) (r q : Nat) (f : Nat → Int) : upd (wtS wt r q f) (r + q) (f q) = wtS wt r (q + 1) f := by
  funext j
  simp only [upd, wtS]
  by_cases e : j = r + q
  · subst e; rw [if_pos rfl, if_pos (by omega), Nat.add_sub_cancel_left]
  · rw [if_neg e]
    by_cases h : r ≤ j ∧ j < r + q
    · rw [if_pos h, if_pos (by omega)]
    · rw [if_neg h, if_neg (by omega)]
theorem feeds_within (m : MS) (f : Nat → Int) : ∀ q, m.long % 64 + q < 64 → m.feeds f q = ⟨m.st, wtS m.wt (m.long % 64) q f, m.long + q⟩ := by
  intro q
  induction q with
  | zero => intro _; rw [MS.feeds, wtS_zero]; rfl
  | succ q ih =>
    intro h
    rw [MS.feeds, ih (by omega), MS.feed]
    simp only
    have e : (m.long + q) % 64 = m.long % 64 + q := by omega
    rw [e, wtS_succ, if_neg (by omega)]
    rfl
/-- So many bytes as still fit into the block. -/
theorem feeds_chunk (m : MS) (f : Nat → Int) (q : Nat) (h0 : 0 < q) (h : m.long % 64 + q ≤ 64) :
    m.feeds f q = ⟨if (m.long + q) % 64 = 0 then grindF m.st (wtS m.wt (m.long % 64) q f) else m.st, wtS m.wt (m.long % 64) q f, m.long + q⟩ := by
  obtain ⟨p, rfl⟩ : ∃ p, q = p + 1 := ⟨q - 1, by omega⟩
  rw [MS.feeds, feeds_within m f p (by omega), MS.feed]
  simp only
  have e : (m.long + p) % 64 = m.long % 64 + p := by omega
  rw [e, wtS_succ]
  rfl
theorem feeds_add (m : MS) (f : Nat → Int) (a : Nat) : ∀ b, m.feeds f (a + b) = (m.feeds f a).feeds (fun j => f (a + j)) b
  | 0 => rfl
  | b + 1 => by rw [← Nat.add_assoc, MS.feeds, feeds_add m f a b]; rfl
theorem feed_long (m : MS) (x : Int) : (m.feed x).long = m.long + 1 := rfl
theorem feeds_long (m : MS) (f : Nat → Int) : ∀ n, (m.feeds f n).long = m.long + n
  | 0 => rfl
  | n + 1 => by rw [MS.feeds, feed_long, feeds_long m f n]; rfl
theorem feed_ok (m : MS) (x : Int) (h : m.ok) (hx : U8 x) : (m.feed x).ok := by
  refine ⟨fun j hj => ?_, fun j hj => ?_⟩
  · simp only [MS.feed]
    split
    · exact grindF_bd _ _ _
    · exact h.1 j hj
  · simp only [MS.feed, upd]
    split
    · exact hx
    · exact h.2 j hj
theorem feeds_ok (m : MS) (f : Nat → Int) (h : m.ok) : ∀ n, (∀ j, j < n → U8 (f j)) → (m.feeds f n).ok
  | 0, _ => h
  | n + 1, hf => feed_ok _ _ (feeds_ok m f h n fun j hj => hf j (by omega)) (hf n (by omega))
theorem feeds_congr (m : MS) (f g : Nat → Int) : ∀ n, (∀ j, j < n → f j = g j) → m.feeds f n = m.feeds g n
  | 0, _ => rfl
  | n + 1, h => by rw [MS.feeds, MS.feeds, feeds_congr m f g n (fun j hj => h j (by omega)), h n (by omega)]

theorem cells_split (m : MS) (i : Nat) : m.cells[i]? = if i < 8 then some (.int .u32 (m.st i)) else if i < 72 then some (.int .u8 (m.wt (i - 8))) else if i = 72 then some (.int .u64 m.long) else none := by
  by_cases h1 : i < 8
  · rw [if_pos h1]; exact millC_st _ _ _ _ h1
  · rw [if_neg h1]
    by_cases h2 : i < 72
    · rw [if_pos h2]
      have := millC_wt m.st m.wt m.long (i - 8) (by omega)
      rwa [show 8 + (i - 8) = i from by omega] at this
    · rw [if_neg h2]
      by_cases h3 : i = 72
      · subst h3; rw [if_pos rfl]; exact millC_long _ _ _
      · rw [if_neg h3]; exact Array.getElem?_eq_none (by rw [MS.cells, millC_size]; omega)
theorem cells_copied (m : MS) (r q : Nat) (f : Nat → Int) (h : r + q ≤ 64) (i : Nat) :
    (millC m.st (wtS m.wt r q f) m.long)[i]? = if 8 + r ≤ i ∧ i < 8 + r + ((List.range q).map fun j => Value.int .u8 (f j)).length then ((List.range q).map fun j => Value.int .u8 (f j))[i - (8 + r)]? else m.cells[i]? := by
  have e1 := cells_split ⟨m.st, wtS m.wt r q f, m.long⟩ i
  have e2 := cells_split m i
  simp only [MS.cells] at e1 e2 ⊢
  rw [e1, e2]
  simp only [List.length_map, List.length_range]
  by_cases h1 : 8 + r ≤ i ∧ i < 8 + r + q
  · rw [if_pos h1, if_neg (by omega), if_pos (by omega)]
    have h2 : r ≤ i - 8 ∧ i - 8 < r + q := by omega
    simp only [wtS, if_pos h2]
    rw [List.getElem?_map, List.getElem?_range (by omega)]
    simp [show i - 8 - r = i - (8 + r) by omega]
  · rw [if_neg h1]
    by_cases h2 : i < 8
    · rw [if_pos h2, if_pos h2]
    · rw [if_neg h2, if_neg h2]
      by_cases h3 : i < 72
      · rw [if_pos h3, if_pos h3]
        simp only [wtS]
        rw [if_neg (by omega)]
      · rw [if_neg h3, if_neg h3]

theorem wpList_copy_q {P : Program} {ops : Array Oper} {rest : List Oper} {dst : Option Nat} {ty0 : TypeId} {pos : String} {after : _} {a : Act} {w : World} {Q : Exit → Act → World → Prop} {d s : Operand} {dT sT : TypeId}
    (elem : TypeId) (hu : P.underlying dT = some (.slice elem)) (hsz : (P.info? elem).map (·.size) = some 1)
    (g off dLen dCap : Nat) (ad : Addr) (sLen sCap : Nat) (hd : a.eval d = .slice (some ⟨g, off, none⟩) dLen dCap) (hs : a.eval s = .slice (some ad) sLen sCap)
    (cur new : Array Value) (t : TypeId) (hg : w.heap[g]? = some (.cells cur t (0, 0))) (cs : List Value) (q : Nat) (hq : cs.length = q) (hn : q = Nat.min sLen dLen)
    (hsrc : ∀ j v, cs[j]? = some v → w.cell? (ad.add j) = some v) (hfit : off + q ≤ cur.size) (h1 : ∀ v ∈ cs, v.oneCell' = true)
    (hnew : ∀ i, new[i]? = if off ≤ i ∧ i < off + cs.length then cs[i - off]? else cur[i]?)
    (h : wpList P ops Q rest (a.put dst (.int .i64 q)) (w.setRow g new)) :
    wpList P ops Q ((⟨dst, .call { callee := .builtin .copy, args := #[d, s], argTypes := #[dT, sT] }, ty0, pos, after, none⟩ : Oper) :: rest) a w := by
  subst hq
  exact wpList_copy_at elem hu hsz g off dLen dCap ad sLen sCap hd hs cur new t hg cs hn hsrc hfit h1 hnew h
theorem u8s_one (q : Nat) (f : Nat → Int) : ∀ v ∈ (List.range q).map fun j => Value.int .u8 (f j), v.oneCell' = true := by
  intro v hv
  simp at hv
  obtain ⟨j, _, rfl⟩ := hv
  rfl
theorem u8s_get (q : Nat) (f : Nat → Int) (j : Nat) (v : Value) (h : ((List.range q).map fun j => Value.int .u8 (f j))[j]? = some v) : j < q ∧ v = .int .u8 (f j) := by
  have hj : j < q := by
    rcases Nat.lt_or_ge j q with h' | h'
    · exact h'
    · rw [List.getElem?_eq_none (by simpa using h')] at h; cases h
  simp [hj] at h
  exact ⟨hj, h.symm⟩

set_option maxRecDepth 100000 in
set_option maxHeartbeats 2000000 in
theorem put_any (P bB o n cap : Nat) (m : MS) (f : Nat → Int) (w : World) (hm : m.ok) (hf : ∀ j, j < n → U8 (f j)) (hP : w.heap[P]? = some (.cells m.cells 110 (0, 0)))
    (hb : ∀ j, j < n → w.cell? ⟨bB, o + j, none⟩ = some (.int .u8 (f j))) (hne : bB ≠ P) (hbs : bB < w.heap.size) (hnc : n ≤ cap) (hcap : cap ≤ 9223372036854775807) (hl : m.long + n ≤ 281474976710656) :
    Calls Try.prog 46 #[.pointer (some ⟨P, 0, none⟩), .slice (some ⟨bB, o, none⟩) n cap] w fun e w' =>
      e = .returned (.tuple #[]) ∧ Only [P] w w' ∧ w'.heap[P]? = some (.cells (m.feeds f n).cells 110 (0, 0)) := by
  have hPlt := lt_of_block hP
  have HP := Lib.hid hP
  have Hm := Lib.hid hm
  have Hf := Lib.hid hf
  have Hb := Lib.hid hb
  clear hP hm hf hb
  go_enter Try.func46, Try.ntmps46
  go_wp2_with fail
  go_loopw [1] (fun v wr => ∃ (c k kc : Nat) (ad : Addr), c + k = n ∧ c + kc = cap ∧ v = .slice (some ad) k kc ∧ (0 < k → ad = ⟨bB, o + c, none⟩) ∧
    wr.heap[P]? = some (.cells (m.feeds f c).cells 110 (0, 0)) ∧ Only [P] w wr) (fun v _ => match v with | .slice _ k _ => k | _ => 0)
  case atStart => exact ⟨0, n, cap, _, by omega, by omega, rfl, fun _ => rfl, HP.out, Only.refl _ _⟩
  case round =>
    obtain ⟨c, k, kc, ad, hk, hkc, rfl, had, hP, hO⟩ := hrel
    by_cases h0 : 0 < k
    · have hml : (m.feeds f c).long = m.long + c := feeds_long m f c
      have hmo := feeds_ok m f Hm.out c (fun j hj => Hf.out j (by omega))
      obtain ⟨m1, hm1⟩ : ∃ m1, m1 = m.feeds f c := ⟨_, rfl⟩
      rw [← hm1] at hP hml hmo
      rw [had h0]
      have hr : m1.long % 64 < 64 := by omega
      obtain ⟨r, hr1⟩ : ∃ r, r = m1.long % 64 := ⟨_, rfl⟩
      obtain ⟨q, hq⟩ : ∃ q, q = min k (64 - r) := ⟨_, rfl⟩
      have c72 : wr.cell? ⟨P, 72, none⟩ = some (.int .u64 (m1.long : Int)) := by
        rw [cell_of_row wr P 72 _ _ _ hP, cells_split]; rfl
      have e1 : (0 : Int) < (k : Int) := by omega
      have e2 : ∀ [Inhabited Nat], ((m1.long : Int) % 64) = (r : Int) := by intro _; omega
      have e2' : ∀ [Inhabited Nat], ((m1.long : Int).tmod 64) = (r : Int) := by intro _; rw [Int.tmod_eq_emod_of_nonneg (by omega)]; omega
      have e3 : (r : Int) ≤ 64 := by omega
      have e4 : ¬ 64 = r := by omega
      have hq0 : 0 < q := by omega
      have HI := Lib.hid (And.intro hk (And.intro hkc (And.intro hm1 (And.intro hml (And.intro hmo (And.intro hr1 (And.intro hq (And.intro hP hO))))))))
      clear hk hkc hm1 hml hmo hr1 hq hP hO hr had hq0
      go_wp2_with fail
      go_still_tail 10, (by kernel_rfl)
      obtain ⟨hk, hkc, hm1, hml, hmo, hr1, hq, hP, hO⟩ := HI.out
      change wpList _ _ _ _ _ wr.drew
      refine wpList_copy_q 5 Try.underlying69 (by kernel_rfl) P (8 + r) (64 - r) (64 - r) ⟨bB, o + c, none⟩ k kc (by rfl) (by rfl) m1.cells (millC m1.st (wtS m1.wt r q fun j => f (c + j)) m1.long) 110 hP
        ((List.range q).map fun j => Value.int .u8 (f (c + j))) q (by simp) hq ?_ (by rw [MS.cells, millC_size]; omega) (u8s_one _ _) (cells_copied m1 r q (fun j => f (c + j)) (by omega)) ?_
      · intro j v hv
        obtain ⟨hj, rfl⟩ := u8s_get _ _ _ _ hv
        rw [Addr.add_mid, Nat.add_assoc]
        have := hO.cell (p := ⟨bB, o + (c + j), none⟩) hbs (by simpa using hne)
        exact this.trans (Hb.out (c + j) (by omega))
      · obtain ⟨w2, hw2⟩ : ∃ w2 : World, w2 = wr.drew.setRow P (millC m1.st (wtS m1.wt r q fun j => f (c + j)) m1.long) := ⟨_, rfl⟩
        have hP2 : w2.heap[P]? = some (.cells (millC m1.st (wtS m1.wt r q fun j => f (c + j)) m1.long) 110 (0, 0)) := by
          rw [hw2]; exact setRow_heap _ _ _ _ _ _ hP
        have hO2 : Only [P] w w2 := by rw [hw2]; exact hO.drew.setRow _ _ (Or.inr (by simp))
        rw [← hw2]
        clear hw2
        have d72 : w2.cell? ⟨P, 72, none⟩ = some (.int .u64 (m1.long : Int)) := by
          rw [cell_of_row w2 P 72 _ _ _ hP2]; exact millC_long _ _ _
        have g72 := frozen_of_row w2 P 72 _ _ hP2
        have e5 : (m1.long : Int) + q ≤ 281474976710656 := by omega
        have e6 : (q : Int) ≤ k := by omega
        have e10 : 0 < q := by omega
        have e7 : (q : Int) ≤ 64 := by omega
        have hch := feeds_chunk m1 (fun j => f (c + j)) q (by omega) (by omega)
        rw [← hr1] at hch
        have hfe : m.feeds f (c + q) = m1.feeds (fun j => f (c + j)) q := by rw [feeds_add, ← hm1]
        have HP2 := Lib.hid (And.intro hP2 hO2)
        have HC := Lib.hid (And.intro hch hfe)
        clear hP2 hO2 hch hfe hk hkc hm1 hml hmo hr1 hq hP hO c72 e2 e2' e3
        have hP4 : (w2.setCell ⟨P, 72, none⟩ (.int .u64 ((m1.long : Int) + q))).heap[P]? = some (.cells (millC m1.st (wtS m1.wt r q fun j => f (c + j)) ((m1.long : Int) + q)) 110 (0, 0)) := by
          rw [heap_setCell_same w2 P 72 _ _ _ HP2.out.1, millC_set_long]
        have HM : Hid ((∀ j, j < 8 → U32 (m1.st j)) ∧ ∀ j, j < 64 → U8 (wtS m1.wt r q (fun j => f (c + j)) j)) := by
          obtain ⟨hk, hkc, hm1, hml, hmo, hr1, hq, hP, hO⟩ := HI.out
          refine ⟨hmo.1, fun j hj => ?_⟩
          simp only [wtS]
          split
          · exact Hf.out _ (by omega)
          · exact hmo.2 j hj
        by_cases h64 : (m1.long + q) % 64 = 0
        · have e8 : (((m1.long : Int) + q) % 64 == 0) = true := by rw [beq_iff_eq]; omega
          by_cases hkq : kc = q
          · go_wp2_with fail
            refine (grind_any P m1.st (wtS m1.wt r q fun j => f (c + j)) (m1.long + q) _ HM.out.1 HM.out.2 hP4).mono ?_
            rintro e w' ⟨rfl, hO3, hP3⟩
            have HP3 := Lib.hid (And.intro hO3 hP3)
            clear hO3 hP3
            go_wp2_with fail
            obtain ⟨hO3, hP3⟩ := HP3.out
            go_roundw
            case rel =>
              obtain ⟨hk, hkc, hm1, hml, hmo, hr1, hq, hP, hO⟩ := HI.out
              refine ⟨c + q, k - q, 0, _, by omega, by omega, rfl, ?_, ?_, ?_⟩
              · intro h; omega
              · rw [HC.out.2, HC.out.1, if_pos h64]; exact hP3
              · exact (HP2.out.2.setCell _ _ (Or.inr (by simp))).trans hO3 (by simp)
            case measure => simp; omega
          · go_wp2_with fail
            refine (grind_any P m1.st (wtS m1.wt r q fun j => f (c + j)) (m1.long + q) _ HM.out.1 HM.out.2 hP4).mono ?_
            rintro e w' ⟨rfl, hO3, hP3⟩
            have HP3 := Lib.hid (And.intro hO3 hP3)
            clear hO3 hP3
            go_wp2_with fail
            obtain ⟨hO3, hP3⟩ := HP3.out
            go_roundw
            case rel =>
              obtain ⟨hk, hkc, hm1, hml, hmo, hr1, hq, hP, hO⟩ := HI.out
              refine ⟨c + q, k - q, kc - q, _, by omega, by omega, rfl, ?_, ?_, ?_⟩
              · intro _; rw [Nat.add_assoc]
              · rw [HC.out.2, HC.out.1, if_pos h64]; exact hP3
              · exact (HP2.out.2.setCell _ _ (Or.inr (by simp))).trans hO3 (by simp)
            case measure => simp; omega
        · have e8 : (((m1.long : Int) + q) % 64 == 0) = false := by rw [beq_eq_false_iff_ne]; omega
          by_cases hkq : kc = q
          · go_wp2_with fail
            go_roundw
            case rel =>
              obtain ⟨hk, hkc, hm1, hml, hmo, hr1, hq, hP, hO⟩ := HI.out
              refine ⟨c + q, k - q, 0, _, by omega, by omega, rfl, ?_, ?_, ?_⟩
              · intro h; omega
              · rw [HC.out.2, HC.out.1, if_neg h64]; exact hP4
              · exact HP2.out.2.setCell _ _ (Or.inr (by simp))
            case measure => simp; omega
          · go_wp2_with fail
            go_roundw
            case rel =>
              obtain ⟨hk, hkc, hm1, hml, hmo, hr1, hq, hP, hO⟩ := HI.out
              refine ⟨c + q, k - q, kc - q, _, by omega, by omega, rfl, ?_, ?_, ?_⟩
              · intro _; rw [Nat.add_assoc]
              · rw [HC.out.2, HC.out.1, if_neg h64]; exact hP4
              · exact HP2.out.2.setCell _ _ (Or.inr (by simp))
            case measure => simp; omega
    · obtain rfl : k = 0 := by omega
      obtain rfl : c = n := by omega
      have HF := Lib.hid (And.intro hO hP)
      clear hP hO hk had
      go_wp2_with fail
      go_end0
      exact ⟨rfl, HF.out⟩
end Go.Proofs.Ythoiihpbgdjbfaa
