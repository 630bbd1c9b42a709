/- layer 11 (code): the walk of Run. -/
import Derived.Test.YtfhhkapjpmfolaaDoorCodeG
import Derived.WalkMore
import Derived.ScopeJumps
import Derived.Scope
namespace Go.Proofs.YtfhhkapjpmfolaaDoor
open Go.RowKit

def atInt : Value → Int | .int _ q => q | _ => 0

theorem heap_alloc_size (w : World) (o : Obj) : (w.alloc o).heap.size = w.heap.size + 1 := by simp
/-- What holds at every jump back. -/
def RunJ (w : World) (a : Option Addr) (n c gas : Nat) (v1 v2 : Value) (p : Nat → Nat) (W : CW) (R : Int × Nat × Int) (act : Act) (wr : World) : Prop :=
  ∃ (x : RS) (k : Nat), act.tmps.size = 95 ∧ act.defers = [] ∧ (act.tmps.getD 0 undef = .slice a n c ∧ act.tmps.getD 2 undef = .int .i64 gas ∧ act.tmps.getD 4 undef = .pointer (some ⟨w.heap.size, 0, none⟩) ∧
      act.tmps.getD 9 undef = .pointer (some ⟨w.heap.size + 1, 0, none⟩) ∧ act.tmps.getD 10 undef = .int .i64 (x.at_ : Int) ∧ act.tmps.getD 11 undef = .int .i64 (x.sp : Int)) ∧
    Stk wr (w.heap.size + 1) x.s.1 0 ∧ x.s.2 = 0 ∧ Wide x.s ∧ x.at_ < 1000000 ∧ x.sp ≤ gas ∧ gas + 1 ≤ k + x.sp ∧ runF W n p gas k x = R ∧
    wr.heap[w.heap.size]? = some (.cells #[v1, v2, .int .u64 W.ht] 33 (0, 0)) ∧ Below w.heap.size w wr
theorem act_of {act : Act} {k : Nat} (h : act.tmps.size = k) (hd : act.defers = []) : ∃ U : Nat → Value, (∀ i, act.tmps.getD i undef = U i) ∧ act = ⟨((List.range k).map U).toArray, []⟩ := by
  refine ⟨fun i => act.tmps.getD i undef, fun _ => rfl, ?_⟩
  obtain ⟨tmps, defers⟩ := act
  subst hd
  congr 1
  apply Array.ext_getElem?
  intro i
  by_cases hi : i < k
  · have : i < tmps.size := by have : tmps.size = k := h; omega
    simp [hi, Array.getD, this]
  · have : tmps.size ≤ i := by have : tmps.size = k := h; omega
    simp [hi, Array.getElem?_eq_none this]

theorem fetchF_ok {n : Nat} {p : Nat → Nat} {at_ op arg nx : Nat} (hp : ∀ j, p j < 256) (h : fetchF n p at_ = (op, arg, nx, 0)) : op < 18 ∧ arg = argF p (at_ + 1) (moreF op) ∧ nx = at_ + 1 + moreF op ∧ nx ≤ n ∧ arg < 18446744073709551616 ∧ (op = 11 ∨ op = 12 → arg < 65536) := by
  unfold fetchF at h
  split at h
  · simp at h
  · split at h
    · simp at h
    · split at h
      · simp at h
      · simp only [Prod.mk.injEq] at h
        obtain ⟨rfl, rfl, rfl, -⟩ := h
        have h1 := argF_lt p (at_ + 1) hp (moreF (p at_))
        have h2 := moreF_le (p at_)
        have h3 : (256 : Nat) ^ moreF (p at_) ≤ 256 ^ 8 := Nat.pow_le_pow_right (by omega) h2
        refine ⟨by omega, rfl, rfl, by omega, Nat.lt_of_lt_of_le h1 (Nat.le_trans h3 (by decide)), ?_⟩
        intro h4
        rcases h4 with h4 | h4 <;> rw [h4] at h1 ⊢ <;> exact h1

theorem SlAt.mono {w : World} {b b' : Nat} {v : Value} {n : Nat} {V : Nat → Value} (h : SlAt w b v n V) (hb : b ≤ b') : SlAt w b' v n V := by
  obtain ⟨a, c, h1, h2, h3, h4⟩ := h
  refine ⟨a, c, h1, h2, h3, h4.imp id ?_⟩
  rintro ⟨b1, o1, h5, h6, h7, h8⟩
  exact ⟨b1, o1, h5, by omega, h7, h8⟩

/-- A scope with one label: what is shown of the pass serves the first time too. -/
theorem scope_jumps {P : Program} {a : Act} {w : World} {Q : Exit → Act → World → Prop} {c rest : Code} (l : Nat) (J : Act → World → Prop) (μ : Act → World → Nat) (hf : findLabel c l = some (Code.skip.seq rest))
    (pass : ∀ a w, J a w → rest.wp P (Exit.jump l (fun a' w' => J a' w' ∧ μ a' w' < μ a w) Q) a w)
    (first : (∀ a w, J a w → rest.wp P (Exit.jump l J Q) a w) → c.wp P (Exit.jump l J Q) a w) : (Code.scope c).wp P Q a w :=
  wp_scope_jumps l J μ hf (first fun a w hJ => Code.wp_mono (fun e a' w' h => by
    cases e with
    | goto l' => exact ⟨h.1, h.2.1⟩
    | _ => exact h) (pass a w hJ)) fun a w hJ => wp_seq (wp_skip (pass a w hJ))

set_option maxRecDepth 20000 in
set_option maxHeartbeats 2000000 in
theorem run_any (n : Nat) (v v1 v2 : Value) (p : Nat → Nat) (W : CW) (gas : Nat) (w : World) (hv : SlAt w w.heap.size v n (fun j => .int .u8 (p j : Int))) (hn : n ≤ 256) (hp : ∀ j, p j < 256) (hF : FormsAt w) (hg : gas ≤ 4096)
    (hW : CWAt w w.heap.size W v1 v2) (hWw : W.wide) :
    Calls Tryd.prog 11 #[v, .agg #[v1, v2, .int .u64 W.ht], .int .i64 gas] w fun x w' => (∃ R, R = runF W n p gas (gas + 1) ⟨([], 0), 0, 0⟩ ∧ x = .returned (.tuple #[.int .u64 R.1, .int .i64 (R.2.1 : Int), .int .i64 R.2.2])) ∧ Only [] w w' := by
  obtain ⟨a, c, rfl, hc, hc63, hcell⟩ := hv
  obtain ⟨a1, k1, rfl, -⟩ := hW.1
  obtain ⟨a2, k2, rfl, -⟩ := hW.2
  have hn1 : W.n1 ≤ 9223372036854775807 := by obtain ⟨a, c, h1, h2, h3, -⟩ := hW.1; omega
  have hn2 : W.n2 ≤ 9223372036854775807 := by obtain ⟨a, c, h1, h2, h3, -⟩ := hW.2; omega
  have HW := Lib.hid (And.intro hWw (And.intro hn1 hn2))
  have HA := Lib.hid (And.intro hcell (And.intro hW hF))
  clear hcell hW hF hWw hn1 hn2
  have hni : ¬ (n : Int) > 256 := by omega
  have hgi : ¬ (gas : Int) > 4096 := by omega
  have hgi0 : ¬ (gas : Int) < 0 := by omega
  obtain ⟨R, hR⟩ : ∃ R, R = runF W n p gas (gas + 1) ⟨([], 0), 0, 0⟩ := ⟨_, rfl⟩
  rw [← hR]
  have HR := Lib.hid hR
  clear hR
  go_enter Tryd.func11, Tryd.ntmps11
  go_wp2
  refine scope_jumps 0 (RunJ w a n c gas (.slice a1 W.n1 k1) (.slice a2 W.n2 k2) p W R) (fun a' _ => (gas : Nat) - (atInt (a'.tmps.getD 11 undef)).toNat) rfl ?_ ?_
  · intro act wr hJ
    obtain ⟨x, k, hsz, hd, ⟨h0, h2, h4, h9, h10, h11⟩, hS, hse, hwd, hat, hsp, hk, hrun, hbox, hB⟩ := hJ
    have hmu : (atInt (act.tmps.getD 11 undef)).toNat = x.sp := by rw [h11]; simp [atInt]
    rw [hmu]
    clear hmu
    obtain ⟨U, hU, hact⟩ := act_of hsz hd
    rw [hU] at h0 h2 h4 h9 h10 h11
    clear hU hsz hd
    subst hact
    simp only [List.range, List.range.loop, List.map_cons, List.map_nil]
    rw [h0, h2, h4, h9, h10, h11]
    clear h0 h2 h4 h9 h10 h11
    obtain ⟨k, rfl⟩ : ∃ j, k = j + 1 := ⟨k - 1, by omega⟩
    obtain ⟨⟨op, arg, nx, e⟩, hf⟩ : ∃ r, fetchF n p x.at_ = r := ⟨_, rfl⟩
    have hB0 : Below w.heap.size w wr := hB.mono (by omega)
    have hv' : SlAt wr w.heap.size (.slice a n c) n (fun j => .int .u8 (p j : Int)) := SlAt.below ⟨a, c, rfl, hc, hc63, HA.out.1⟩ hB0
    have hpos : 0 < w.heap.size := by
      have := (HA.out.2.2 0 (by omega)).1
      rcases Nat.lt_or_ge 0 w.heap.size with h | h
      · exact h
      · have e0 : w.heap[0]? = none := Array.getElem?_eq_none h
        simp [World.cell?, e0] at this
    have hF' := HA.out.2.2.below hB hpos
    clear hpos
    have hfet := fetch_any w.heap.size n _ p x.at_ wr hv' hn hp hF' hat
    rw [hf] at hfet
    dsimp only at hfet
    rw [runF, stepF, hf] at hrun
    dsimp only at hrun
    have hbs := hS.lt
    have HX := Lib.hid (And.intro hS (And.intro hwd (And.intro hbox (And.intro hB (And.intro hF' (And.intro hbs hfet))))))
    clear hS hwd hbox hB hF' hfet hv' hB0 hbs
    by_cases he : e ≠ 0
    · rw [if_pos he] at hrun
      have hei : ((e : Int) != 0) = true := by rw [bne_iff_ne]; omega
      have HE := Lib.hid (And.intro hf (And.intro hrun he))
      clear hf hrun he
      go_wp2_with (go_at_call 20; refine HX.out.2.2.2.2.2.2.mono ?_; rintro y w1 ⟨rfl, rfl⟩)
      (try simp only [Exit.jump]); refine bodyPost_ret (results_tmp3 rfl _ _ _) rfl ?_
      exact ⟨⟨R, rfl, by rw [← HE.out.2.1]; rfl⟩, Only.of_below (HX.out.2.2.2.1.mono (by omega))⟩
    · rw [if_neg he] at hrun
      obtain rfl : e = 0 := by omega
      obtain ⟨hop, harg, hnx, hnxn, hargW, hargJ⟩ := fetchF_ok hp hf
      obtain ⟨co, hco⟩ : ∃ co, costF op = co := ⟨_, rfl⟩
      have hcb := costF_le op
      have gc := (HX.out.2.2.2.2.1 op hop).2.2
      rw [hco] at hrun gc hcb
      by_cases hgas : gas < x.sp + co
      · rw [if_pos hgas] at hrun
        have hgi : (co : Int) > (gas : Int) - x.sp := by omega
        have HE := Lib.hid (And.intro hf (And.intro hrun hgas))
        clear hf hrun hgas harg hargW hargJ hp
        go_wp2_with (go_at_call 20; refine HX.out.2.2.2.2.2.2.mono ?_; rintro y w1 ⟨rfl, rfl⟩)
        (try simp only [Exit.jump]); refine bodyPost_ret (results_tmp3 rfl _ _ _) rfl ?_
        exact ⟨⟨R, rfl, by rw [← HE.out.2.1]; rfl⟩, Only.of_below (HX.out.2.2.2.1.mono (by omega))⟩
      · rw [if_neg hgas] at hrun
        have hgi : ¬ (co : Int) > (gas : Int) - x.sp := by omega
        by_cases hop0 : op = 0
        · rw [if_pos hop0] at hrun
          subst hop0
          rw [hco] at hrun
          have HE := Lib.hid (And.intro hf (And.intro hrun hgas))
          clear hf hrun hgas harg hargW hargJ hp
          have hpop := pop_fn (w.heap.size + 1) x.s wr (by rw [hse]; exact HX.out.1)
          have HP := Lib.hid hpop
          clear hpop
          go_upto_region 15 with (first
            | (go_at_call 20; refine HX.out.2.2.2.2.2.2.mono ?_; rintro y w1 ⟨rfl, rfl⟩)
            | (go_at_call 21; refine HP.out.mono ?_; rintro y w2 ⟨rfl, hS, hB⟩; (have HS := Lib.hid (And.intro hS hB)); clear hS hB))
          obtain ⟨hS2, hB2⟩ := HS.out
          obtain ⟨s2, hs2⟩ : ∃ s2 : St, (popF x.s).2 = s2 := ⟨_, rfl⟩
          rw [hs2] at hS2
          have HT := Lib.hid (And.intro hS2 (And.intro hB2 hs2))
          obtain ⟨vs, hbs, _⟩ := hS2
          have cE : w2.cell? ⟨w.heap.size + 1, 1, none⟩ = some (.int .i64 s2.2) := by simp [World.cell?, hbs]
          clear hbs hB2 hs2 HS
          go_quiet (fail)
          go_wp2
          (try simp only [Exit.jump]); refine bodyPost_ret (results_tmp3 rfl _ _ _) rfl ?_
          refine ⟨⟨R, rfl, ?_⟩, (Only.of_below (HX.out.2.2.2.1.trans (HT.out.2.1.mono (by omega)))).drewN _⟩
          rw [← HE.out.2.1, ← HT.out.2.2]
          rfl
        · rw [if_neg hop0] at hrun
          have cE : wr.cell? ⟨w.heap.size + 1, 1, none⟩ = some (.int .i64 0) := by
            obtain ⟨vs, hb, _⟩ := HX.out.1
            simp [World.cell?, hb]
          by_cases hop11 : op = 11
          · rw [if_pos hop11] at hrun
            rw [hop11] at hco
            rw [hco] at hrun
            have hai := Lib.hid (show (arg : Int) < 65536 by have := hargJ (Or.inl hop11); omega)
            have CE := Lib.hid cE
            clear cE
            have HE := Lib.hid (And.intro hf (And.intro hrun (And.intro hgas (And.intro hop11 (And.intro hnx hco)))))
            clear hf hrun hgas harg hargW hargJ hp hop0 hop11
            have hgb : decide ((gas : Int) - x.sp < co) = false := by rw [decide_eq_false_iff_not]; omega
            clear hgi
            have hop11 := HE.out.2.2.2.1
            have h0i : ((op : Int) == 0) = false := by rw [hop11]; rfl
            have h11i : ((op : Int) == 11) = true := by rw [hop11]; rfl
            clear hop11
            have cE := CE.out
            have hai := hai.out
            go_upto_region 21 with (go_at_call 20; refine HX.out.2.2.2.2.2.2.mono ?_; rintro y w1 ⟨rfl, rfl⟩)
            go_wp2
            refine wp_goto ?_
            refine ⟨rfl, ⟨⟨x.s, arg, x.sp + co⟩, k, rfl, rfl, ⟨rfl, rfl, rfl, rfl, rfl, rfl⟩, HX.out.1, hse, HX.out.2.1, ?_, ?_, ?_, HE.out.2.1, HX.out.2.2.1, HX.out.2.2.2.1⟩, ?_⟩
            · show arg < 1000000; omega
            · have := HE.out.2.2.1; show x.sp + co ≤ gas; omega
            · show gas + 1 ≤ k + (x.sp + co); omega
            · have := HE.out.2.2.1
              show gas - (x.sp + co : Int).toNat < gas - x.sp
              omega
          · rw [if_neg hop11] at hrun
            by_cases hop12 : op = 12
            · rw [if_pos hop12] at hrun
              rw [hop12] at hco
              rw [hco] at hrun
              obtain ⟨⟨val, s2⟩, hps⟩ : ∃ r, popF x.s = r := ⟨_, rfl⟩
              have hpop := pop_fn (w.heap.size + 1) x.s wr (by rw [hse]; exact HX.out.1)
              have hw2 := (popF_wide HX.out.2.1).2
              rw [hps] at hpop hrun hw2
              dsimp only at hpop hrun hw2
              have HP := Lib.hid hpop
              have hai : (arg : Int) < 65536 := by have := hargJ (Or.inr hop12); omega
              have hgb : decide ((gas : Int) - x.sp < co) = false := by rw [decide_eq_false_iff_not]; omega
              have h0i : ((op : Int) == 0) = false := by rw [hop12]; rfl
              have h11i : ((op : Int) == 11) = false := by rw [hop12]; rfl
              have h12i : ((op : Int) == 12) = true := by rw [hop12]; rfl
              have HE := Lib.hid (And.intro hf (And.intro hrun (And.intro hgas (And.intro hop12 (And.intro hnx (And.intro hco hw2))))))
              clear hpop hf hrun hgas harg hargW hargJ hp hop0 hop11 hop12 hnx hco he hgi hw2 hps cE
              by_cases hval : val = 0
              · by_cases hez : s2.2 = 0
                · skip
                  have hvb : (val != 0) = false := by rw [hval]; rfl
                  have heb : (s2.2 != 0) = false := by rw [hez]; rfl
                  have HV := Lib.hid (And.intro hval hez)
                  clear hval hez
                  go_upto_region 21 with (first | (go_at_call 20; refine HX.out.2.2.2.2.2.2.mono ?_; rintro y w1 ⟨rfl, rfl⟩) | (go_at_call 21; refine HP.out.mono ?_; rintro y w2 ⟨rfl, hS, hB⟩; (have HS := Lib.hid (And.intro hS hB)); clear hS hB))
                  obtain ⟨hS2, hB2⟩ := HS.out
                  have HT := Lib.hid (And.intro hS2 hB2)
                  obtain ⟨vs, hbs, _⟩ := hS2
                  have cE : w2.cell? ⟨w.heap.size + 1, 1, none⟩ = some (.int .i64 s2.2) := by simp [World.cell?, hbs]
                  clear hbs hB2 HS
                  rw [HV.out.2] at cE
                  go_wp2
                  refine wp_goto ?_
                  refine ⟨rfl, ⟨⟨s2, nx, x.sp + co⟩, k, rfl, rfl, ⟨rfl, rfl, rfl, rfl, ?_, rfl⟩, ?_, HV.out.2, HE.out.2.2.2.2.2.2, ?_, ?_, ?_, ?_, ?_, HX.out.2.2.2.1.trans (HT.out.2.mono (by omega))⟩, ?_⟩
                  · show Value.int .i64 _ = .int .i64 (nx : Int); rw [HE.out.2.2.2.2.1]
                  · have := HT.out.1; rw [HV.out.2] at this; exact this
                  · show nx < 1000000; omega
                  · have := HE.out.2.2.1; show x.sp + co ≤ gas; omega
                  · show gas + 1 ≤ k + (x.sp + co); omega
                  · rw [← HE.out.2.1, if_neg (by simp [HV.out.2]), if_neg (by simp [HV.out.1])]
                  · exact (HT.out.2.block _ (by omega)).trans HX.out.2.2.1
                  · have := HE.out.2.2.1
                    show gas - (x.sp + co : Int).toNat < gas - x.sp
                    omega
                · skip
                  have hvb : (val != 0) = false := by rw [hval]; rfl
                  have heb : (s2.2 != 0) = true := by exact bne_iff_ne.2 hez
                  have HV := Lib.hid (And.intro hval hez)
                  clear hval hez
                  go_upto_region 21 with (first | (go_at_call 20; refine HX.out.2.2.2.2.2.2.mono ?_; rintro y w1 ⟨rfl, rfl⟩) | (go_at_call 21; refine HP.out.mono ?_; rintro y w2 ⟨rfl, hS, hB⟩; (have HS := Lib.hid (And.intro hS hB)); clear hS hB))
                  obtain ⟨hS2, hB2⟩ := HS.out
                  have HT := Lib.hid (And.intro hS2 hB2)
                  obtain ⟨vs, hbs, _⟩ := hS2
                  have cE : w2.cell? ⟨w.heap.size + 1, 1, none⟩ = some (.int .i64 s2.2) := by simp [World.cell?, hbs]
                  clear hbs hB2 HS
                  go_upto_region 22 with (fail)
                  go_quiet (fail)
                  go_wp2
                  (try simp only [Exit.jump]); refine bodyPost_ret (results_tmp3 rfl _ _ _) rfl ?_
                  refine ⟨⟨R, rfl, ?_⟩, (Only.of_below (HX.out.2.2.2.1.trans (HT.out.2.mono (by omega)))).drewN _⟩
                  rw [← HE.out.2.1, if_pos HV.out.2]
                  rfl
              · by_cases hez : s2.2 = 0
                · skip
                  have hvb : (val != 0) = true := by exact bne_iff_ne.2 hval
                  have heb : (s2.2 != 0) = false := by rw [hez]; rfl
                  have HV := Lib.hid (And.intro hval hez)
                  clear hval hez
                  go_upto_region 21 with (first | (go_at_call 20; refine HX.out.2.2.2.2.2.2.mono ?_; rintro y w1 ⟨rfl, rfl⟩) | (go_at_call 21; refine HP.out.mono ?_; rintro y w2 ⟨rfl, hS, hB⟩; (have HS := Lib.hid (And.intro hS hB)); clear hS hB))
                  obtain ⟨hS2, hB2⟩ := HS.out
                  have HT := Lib.hid (And.intro hS2 hB2)
                  obtain ⟨vs, hbs, _⟩ := hS2
                  have cE : w2.cell? ⟨w.heap.size + 1, 1, none⟩ = some (.int .i64 s2.2) := by simp [World.cell?, hbs]
                  clear hbs hB2 HS
                  rw [HV.out.2] at cE
                  go_wp2
                  refine wp_goto ?_
                  refine ⟨rfl, ⟨⟨s2, arg, x.sp + co⟩, k, rfl, rfl, ⟨rfl, rfl, rfl, rfl, ?_, rfl⟩, ?_, HV.out.2, HE.out.2.2.2.2.2.2, ?_, ?_, ?_, ?_, ?_, HX.out.2.2.2.1.trans (HT.out.2.mono (by omega))⟩, ?_⟩
                  · rfl
                  · have := HT.out.1; rw [HV.out.2] at this; exact this
                  · show arg < 1000000; omega
                  · have := HE.out.2.2.1; show x.sp + co ≤ gas; omega
                  · show gas + 1 ≤ k + (x.sp + co); omega
                  · rw [← HE.out.2.1, if_neg (by simp [HV.out.2]), if_pos HV.out.1]
                  · exact (HT.out.2.block _ (by omega)).trans HX.out.2.2.1
                  · have := HE.out.2.2.1
                    show gas - (x.sp + co : Int).toNat < gas - x.sp
                    omega
                · skip
                  have hvb : (val != 0) = true := by exact bne_iff_ne.2 hval
                  have heb : (s2.2 != 0) = true := by exact bne_iff_ne.2 hez
                  have HV := Lib.hid (And.intro hval hez)
                  clear hval hez
                  go_upto_region 21 with (first | (go_at_call 20; refine HX.out.2.2.2.2.2.2.mono ?_; rintro y w1 ⟨rfl, rfl⟩) | (go_at_call 21; refine HP.out.mono ?_; rintro y w2 ⟨rfl, hS, hB⟩; (have HS := Lib.hid (And.intro hS hB)); clear hS hB))
                  obtain ⟨hS2, hB2⟩ := HS.out
                  have HT := Lib.hid (And.intro hS2 hB2)
                  obtain ⟨vs, hbs, _⟩ := hS2
                  have cE : w2.cell? ⟨w.heap.size + 1, 1, none⟩ = some (.int .i64 s2.2) := by simp [World.cell?, hbs]
                  clear hbs hB2 HS
                  go_upto_region 22 with (fail)
                  go_quiet (fail)
                  go_wp2
                  (try simp only [Exit.jump]); refine bodyPost_ret (results_tmp3 rfl _ _ _) rfl ?_
                  refine ⟨⟨R, rfl, ?_⟩, (Only.of_below (HX.out.2.2.2.1.trans (HT.out.2.mono (by omega)))).drewN _⟩
                  rw [← HE.out.2.1, if_pos HV.out.2]
                  rfl
            · rw [if_neg hop12] at hrun
              obtain ⟨s2, hps⟩ : ∃ r, plainF W op (arg : Int) x.s = r := ⟨_, rfl⟩
              have hargW' : W64 (arg : Int) := ⟨by omega, by omega⟩
              have hCW : CWAt wr (w.heap.size + 1) W (.slice a1 W.n1 k1) (.slice a2 W.n2 k2) := by
                have := HA.out.2.1.below (HX.out.2.2.2.1.mono (by omega))
                exact ⟨this.1.mono (by omega), this.2.mono (by omega)⟩
              have hpl := plain_any (w.heap.size + 1) W _ _ op arg x.s wr hop hop0 hop11 hop12 (by rw [hse]; exact HX.out.1) hCW HX.out.2.1 hargW' HW.out.2.1 HW.out.2.2
              have hw2 := plainF_wide W op arg x.s HX.out.2.1 hargW' HW.out.1
              rw [hps] at hpl hrun hw2
              have HP := Lib.hid hpl
              have hbox := HX.out.2.2.1
              have x0 : wr.cell? ⟨w.heap.size, 0, none⟩ = some (.slice a1 W.n1 k1) := by simp [World.cell?, hbox]
              have x1 : wr.cell? ⟨w.heap.size, 1, none⟩ = some (.slice a2 W.n2 k2) := by simp [World.cell?, hbox]
              have x2 : wr.cell? ⟨w.heap.size, 2, none⟩ = some (.int .u64 W.ht) := by simp [World.cell?, hbox]
              have hgb : decide ((gas : Int) - x.sp < co) = false := by rw [decide_eq_false_iff_not]; omega
              have h0i : ((op : Int) == 0) = false := by simp; omega
              have h11i : ((op : Int) == 11) = false := by simp; omega
              have h12i : ((op : Int) == 12) = false := by simp; omega
              have HE := Lib.hid (And.intro hf (And.intro hrun (And.intro hgas (And.intro hop12 (And.intro hnx (And.intro hco hw2))))))
              clear hpl hf hrun hgas harg hargW hargW' hargJ hp hop0 hop11 hop12 hnx hco he hgi hw2 hps cE hbox hCW
              by_cases hez : s2.2 = 0
              · skip
                have heb : (s2.2 != 0) = false := by rw [hez]; rfl
                have HV := Lib.hid hez
                clear hez
                go_upto_region 21 with (first | (go_at_call 20; refine HX.out.2.2.2.2.2.2.mono ?_; rintro y w1 ⟨rfl, rfl⟩) | (go_at_call 22; refine HP.out.mono ?_; rintro y w2 ⟨rfl, hS, hB⟩; (have HS := Lib.hid (And.intro hS hB)); clear hS hB))
                obtain ⟨hS2, hB2⟩ := HS.out
                have HT := Lib.hid (And.intro hS2 hB2)
                obtain ⟨vs, hbs, _⟩ := hS2
                have cE : w2.cell? ⟨w.heap.size + 1, 1, none⟩ = some (.int .i64 s2.2) := by simp [World.cell?, hbs]
                clear hbs hB2 HS
                rw [HV.out] at cE
                go_wp2
                refine wp_goto ?_
                refine ⟨rfl, ⟨⟨s2, nx, x.sp + co⟩, k, rfl, rfl, ⟨rfl, rfl, rfl, rfl, ?_, rfl⟩, ?_, HV.out, HE.out.2.2.2.2.2.2, ?_, ?_, ?_, ?_, ?_, HX.out.2.2.2.1.trans (HT.out.2.mono (by omega))⟩, ?_⟩
                · show Value.int .i64 _ = .int .i64 (nx : Int); rw [HE.out.2.2.2.2.1]
                · have := HT.out.1; rw [HV.out] at this; exact this
                · show nx < 1000000; omega
                · have := HE.out.2.2.1; show x.sp + co ≤ gas; omega
                · show gas + 1 ≤ k + (x.sp + co); omega
                · rw [← HE.out.2.1, if_neg (by simp [HV.out])]
                · exact (HT.out.2.block _ (by omega)).trans HX.out.2.2.1
                · have := HE.out.2.2.1
                  show gas - (x.sp + co : Int).toNat < gas - x.sp
                  omega
              · skip
                have heb : (s2.2 != 0) = true := by exact bne_iff_ne.2 hez
                have HV := Lib.hid hez
                clear hez
                go_upto_region 21 with (first | (go_at_call 20; refine HX.out.2.2.2.2.2.2.mono ?_; rintro y w1 ⟨rfl, rfl⟩) | (go_at_call 22; refine HP.out.mono ?_; rintro y w2 ⟨rfl, hS, hB⟩; (have HS := Lib.hid (And.intro hS hB)); clear hS hB))
                obtain ⟨hS2, hB2⟩ := HS.out
                have HT := Lib.hid (And.intro hS2 hB2)
                obtain ⟨vs, hbs, _⟩ := hS2
                have cE : w2.cell? ⟨w.heap.size + 1, 1, none⟩ = some (.int .i64 s2.2) := by simp [World.cell?, hbs]
                clear hbs hB2 HS
                go_upto_region 22 with (fail)
                go_quiet (fail)
                go_wp2
                (try simp only [Exit.jump]); refine bodyPost_ret (results_tmp3 rfl _ _ _) rfl ?_
                refine ⟨⟨R, rfl, ?_⟩, (Only.of_below (HX.out.2.2.2.1.trans (HT.out.2.mono (by omega)))).drewN _⟩
                rw [← HE.out.2.1, if_pos HV.out]
                rfl
  · intro hp
    go_wp2
    go_step3
    rename_i K hK
    refine hK _ _ (hp _ _ ⟨⟨([], 0), 0, 0⟩, gas + 1, rfl, rfl, ⟨rfl, rfl, rfl, rfl, rfl, rfl⟩, ?_, rfl, ?_, ?_, ?_, ?_, ?_, ?_, ?_⟩)
    · refine ⟨.slice none 0 0, by rw [← heap_alloc_size]; exact alloc_new _ _, rfl, Or.inl ⟨rfl, rfl⟩⟩
    · exact fun x hx => by simp at hx
    · show 0 < 1000000; omega
    · show 0 ≤ gas; omega
    · show gas + 1 ≤ gas + 1 + 0; omega
    · exact HR.out.symm
    · exact (Below.heap_alloc _ _ _ (by simp)).trans (alloc_new _ _)
    · exact (((Only.refl [] w).alloc _).alloc _).below _ (by omega) (by simp)
end Go.Proofs.YtfhhkapjpmfolaaDoor
