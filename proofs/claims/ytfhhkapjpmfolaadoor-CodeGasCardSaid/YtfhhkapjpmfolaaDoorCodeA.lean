/- layer 11 (code): the stack: fail, pop, push, bool, reckon, walked. -/
import Derived.Test.YtfhhkapjpmfolaaDoorMem2
import Derived.Deep.LoopGhost
import Derived.Deep.CutBlock
import Derived.Deep.DeepCutAuto
namespace Go.Proofs.YtfhhkapjpmfolaaDoor
open Go.RowKit

/-- The first fault stands. -/
def failF (e c : Int) : Int := if e = 0 then c else e
/-- A stack: in block b; its numbers in a row of its own that lies behind b. -/
def Stk (w : World) (b : Nat) (l : List Int) (e : Int) : Prop :=
  ∃ v, w.heap[b]? = some (.cells #[v, .int .i64 e] 55 (0, 0)) ∧ w.ownsRow (b + 1) 25 1 v l.length (l.map (Value.int .u64))

theorem ownsRow_pop {w : World} {base : Nat} {e : TypeId} {a : Option Addr} {n m cap : Nat} {xs : List Value} {x : Value} (h : w.ownsRow base e 1 (.slice a (n + 1) cap) m (xs ++ [x])) (hm : m = n + 1) :
    n + 1 ≤ cap ∧ cap ≤ maxLen ∧ (∃ g, a = some ⟨g, 0, none⟩ ∧ base ≤ g ∧ g < w.heap.size ∧ w.cell? ⟨g, n, none⟩ = some x) ∧ w.ownsRow base e 1 (.slice a n cap) n xs := by
  subst hm
  obtain ⟨hl, h⟩ := h
  rw [Nat.mul_one, List.length_append, List.length_singleton] at hl
  rcases h with ⟨h0, _⟩ | ⟨g, cap', cur, hv, hg, hh, hn, hcap, hsz, htake⟩
  · simp at h0
  · simp only [Value.slice.injEq] at hv
    obtain ⟨rfl, -, rfl⟩ := hv
    have hx : cur[n]? = some x := by
      have := congrArg (fun l => l[n]?) htake
      simp only [Nat.mul_one] at this
      rw [List.getElem?_take_of_lt (by omega), List.getElem?_append_right (by omega), show n - xs.length = 0 by omega] at this
      simpa using this
    refine ⟨hn, hcap, ⟨g, rfl, hg, lt_of_block hh, by simp [World.cell?, hh, hx]⟩, by omega, Or.inr ⟨g, cap, cur, rfl, hg, hh, by omega, hcap, hsz, ?_⟩⟩
    have := congrArg (List.take n) htake
    rw [Nat.mul_one, List.take_take, Nat.min_eq_left (by omega)] at this
    rw [Nat.mul_one, this, List.take_append_of_le_length (by omega), List.take_of_length_le (by omega)]
theorem ownsRow_kept {w w' : World} {base : Nat} {e : TypeId} {size n : Nat} {v : Value} {xs : List Value} (h : w.ownsRow base e size v n xs) (hb : ∀ k, base ≤ k → k < w.heap.size → w'.heap[k]? = w.heap[k]?) : w'.ownsRow base e size v n xs := by
  obtain ⟨hl, h⟩ := h
  refine ⟨hl, h.imp id ?_⟩
  rintro ⟨g, cap', cur, hv, hg, hh, hr⟩
  exact ⟨g, cap', cur, hv, hg, (hb g hg (lt_of_block hh)).trans hh, hr⟩
theorem ownsRow_form {w : World} {base : Nat} {e : TypeId} {n : Nat} {v : Value} {xs : List Value} (h : w.ownsRow base e 1 v n xs) : ∃ a cap, v = .slice a n cap := by
  rcases h.2 with ⟨hv, h0⟩ | ⟨g, cap', cur, hv, _⟩
  · exact ⟨none, 0, by rw [hv, h0]⟩
  · exact ⟨_, _, hv⟩
theorem setCell_this (w : World) {b k : Nat} {cs : Array Value} {t : TypeId} (v : Value) (h : w.heap[b]? = some (.cells cs t (0, 0))) : (w.setCell ⟨b, k, none⟩ v).heap[b]? = some (.cells (cs.setIfInBounds k v) t (0, 0)) := by
  obtain ⟨hlt, hk⟩ := Array.getElem?_eq_some_iff.1 h
  show (w.heap.modify b _)[b]? = _
  rw [Array.getElem?_eq_getElem (by rw [Array.size_modify]; exact hlt), Array.getElem_modify_self, hk]
  rfl

theorem alloc_new (w : World) (o : Obj) : (w.alloc o).heap[w.heap.size]? = some o := by
  show (w.heap.push o)[w.heap.size]? = some o
  simp

theorem fail_any (b : Nat) (l : List Int) (e c : Int) (w : World) (h : Stk w b l e) :
    Calls Tryd.prog 35 #[.pointer (some ⟨b, 0, none⟩), .int .i64 c] w fun x w' => x = .returned (.tuple #[]) ∧ Stk w' b l (failF e c) ∧ Only [b] w w' := by
  obtain ⟨v, hb, hv⟩ := h
  have hlt := lt_of_block hb
  have c0 : w.cell? ⟨b, 0, none⟩ = some v := by simp [World.cell?, hb]
  have c1 : w.cell? ⟨b, 1, none⟩ = some (.int .i64 e) := by simp [World.cell?, hb]
  have f1 : w.frozen? ⟨b, 1, none⟩ = false := by simp [World.frozen?, hb]
  have HV := Lib.hid (And.intro hb hv)
  clear hb hv
  go_enter Tryd.func35, Tryd.ntmps35
  go_wp2
  · go_end0
    rename_i h0
    refine ⟨rfl, ⟨v, ?_, ?_⟩, (Only.refl _ _).setCell _ _ (Or.inr (by simp))⟩
    · rw [setCell_this _ _ HV.out.1, failF, if_pos (by simpa using h0)]; rfl
    · exact ownsRow_kept HV.out.2 fun k hk _ => Below.heap_setCell _ _ _ _ (by show k ≠ b; omega)
  · go_end0
    rename_i h0
    exact ⟨rfl, ⟨v, by rw [failF, if_neg (by simpa using h0)]; exact HV.out.1, HV.out.2⟩, Only.refl _ _⟩
theorem add_sub_one (n : Nat) : ((n : Int) + 1 - 1) = n := by omega
set_option maxHeartbeats 1000000 in
theorem pop_any (b : Nat) (l : List Int) (e : Int) (w : World) (h : Stk w b l e) :
    Calls Tryd.prog 21 #[.pointer (some ⟨b, 0, none⟩)] w fun x w' =>
      (l = [] → x = .returned (.int .u64 0) ∧ Stk w' b [] (failF e 12)) ∧ (∀ xs n, l = xs ++ [n] → x = .returned (.int .u64 n) ∧ Stk w' b xs e) ∧ Only [b] w w' := by
  rcases List.eq_nil_or_concat l with rfl | ⟨xs, n, rfl⟩
  · have hS := Lib.hid h
    obtain ⟨v, hb, hv⟩ := h
    have hlt := lt_of_block hb
    obtain ⟨a, cap, rfl⟩ := ownsRow_form hv
    have c0 : w.cell? ⟨b, 0, none⟩ = some (.slice a 0 cap) := by simp [World.cell?, hb]
    clear hb hv
    go_enter Tryd.func21, Tryd.ntmps21
    go_wp2_with (go_at_call 35; refine (fail_any b [] e 12 _ hS.out).mono ?_; rintro x w' ⟨rfl, hS', hO⟩; (have HS' := Lib.hid (And.intro hS' hO)); clear hS' hO)
    go_ret
    exact ⟨fun _ => ⟨rfl, HS'.out.1⟩, fun xs n h => by simp at h, HS'.out.2⟩
  · rw [List.concat_eq_append] at h ⊢
    obtain ⟨v, hb, hv⟩ := h
    have hlt := lt_of_block hb
    obtain ⟨a, cap, rfl⟩ := ownsRow_form hv
    rw [List.length_append, List.length_singleton, List.map_append, List.map_singleton] at hv
    rw [List.length_append, List.length_singleton] at hb
    obtain ⟨hn, hcap, ⟨g, rfl, hg, hgl, hx⟩, hv'⟩ := ownsRow_pop hv rfl
    have hmax : cap ≤ 9223372036854775807 := Nat.le_trans hcap (by decide)
    have c0 : w.cell? ⟨b, 0, none⟩ = some (.slice (some ⟨g, 0, none⟩) (xs.length + 1) cap) := by simp [World.cell?, hb]
    have f0 : w.frozen? ⟨b, 0, none⟩ = false := by simp [World.frozen?, hb]
    have HV := Lib.hid (And.intro hb hv')
    clear hb hv hv'
    go_enter Tryd.func21, Tryd.ntmps21
    go_wp2
    go_quiet (fail)
    go_wp2
    go_region
    go_wp2
    go_ret
    refine ⟨fun h => by simp at h, fun xs' n' h => ?_, ((Only.refl _ _).drewN _).setCell _ _ (Or.inr (by simp))⟩
    obtain ⟨rfl, h⟩ := List.append_inj_left' h rfl |> fun e => (⟨e, h⟩ : xs = xs' ∧ xs ++ [n] = xs' ++ [n'])
    obtain rfl : n = n' := by simpa using h
    refine ⟨rfl, .slice (some ⟨g, 0, none⟩) xs.length cap, ?_, ?_⟩
    · exact setCell_this (w.drewN (nq + 1)) _ HV.out.1
    · exact ownsRow_kept (w := w) HV.out.2 fun k hk _ => (Below.heap_setCell _ _ _ _ (by show k ≠ b; omega)).trans rfl

/-- What push does, number by number: where the stack is full it stops. -/
def pushF : List Int → List Int × Int → List Int × Int
  | [], s => s
  | n :: ns, (l, e) => if 32 ≤ l.length then (l, failF e 4) else pushF ns (l ++ [n], e)

theorem pushF_one (n : Int) (l : List Int) (e : Int) : pushF [n] (l, e) = if 32 ≤ l.length then (l, failF e 4) else (l ++ [n], e) := rfl

theorem setCell_own {w : World} {b k base : Nat} {v : Value} {e : TypeId} {size n : Nat} {u : Value} {xs : List Value} (h : w.ownsRow base e size v n xs) (hb : b < base) : (w.setCell ⟨b, k, none⟩ u).ownsRow base e size v n xs :=
  ownsRow_kept h fun i hi _ => Below.heap_setCell _ _ _ _ (by show i ≠ b; omega)

theorem _root_.Go.RowKit.Below.only {B : Nat} {S : List Nat} {w w1 w2 : World} (h : Below B w w1) (k : Only S w1 w2) (hB : B ≤ w1.heap.size) (hS : ∀ x ∈ S, B ≤ x) : Below B w w2 :=
  ⟨k.os.trans h.os, k.tape.trans h.tape, k.output.trans h.output, Nat.le_trans h.size k.size, fun i hi => (k.block i (by omega) (fun m => by have := hS i m; omega)).trans (h.block i hi)⟩
/-- The stack with its slice named. -/
def StkV (w : World) (b : Nat) (v : Value) (l : List Int) (e : Int) : Prop :=
  w.heap[b]? = some (.cells #[v, .int .i64 e] 55 (0, 0)) ∧ w.ownsRow (b + 1) 25 1 v l.length (l.map (Value.int .u64))
theorem own_lt {w : World} {base : Nat} {e : TypeId} {size n : Nat} {v : Value} {xs : List Value} (h : w.ownsRow base e size v n xs) {g : Nat} (hg : v.ownBlock = some g) : base ≤ g ∧ g < w.heap.size := by
  rcases h.2 with ⟨rfl, _⟩ | ⟨g', cap', cur, rfl, hb, hh, _⟩
  · simp [Value.ownBlock] at hg
  · obtain rfl : g' = g := by simpa [Value.ownBlock] using hg
    exact ⟨hb, lt_of_block hh⟩

theorem one_new (w : World) (x : Value) (e : TypeId) : ∀ (j : Nat) (u : Value), [x][j]? = some u → (w.alloc (.cells #[x] e)).cell? ((⟨w.heap.size, 0, none⟩ : Addr).add j) = some u := by
  intro j u hu
  rcases j with _ | j
  · have hu : x = u := by simpa using hu
    subst hu
    have h0 : (w.alloc (.cells #[x] e)).heap[w.heap.size]? = some (.cells #[x] e (0, 0)) := alloc_new w _
    show (w.alloc (.cells #[x] e)).cell? ⟨w.heap.size, 0, none⟩ = some x
    unfold World.cell?
    simp only [h0]
    rfl
  · simp at hu
theorem not_own {w : World} {base : Nat} {e : TypeId} {size n b : Nat} {v : Value} {xs : List Value} (h : w.ownsRow base e size v n xs) (hb : b < base) : some b ≠ v.ownBlock := fun hg => by have := (own_lt h hg.symm).1; omega

set_option maxHeartbeats 2000000 in
theorem push_any (b : Nat) (ns l : List Int) (e : Int) (w : World) (h : Stk w b l e) (hlen : ns.length ≤ 100) :
    Calls Tryd.prog 36 #[.pointer (some ⟨b, 0, none⟩), .slice (some ⟨w.heap.size, 0, none⟩) ns.length ns.length] (w.alloc (.cells (ns.map (Value.int .u64)).toArray 25)) fun x w' =>
      x = .returned (.tuple #[]) ∧ Stk w' b (pushF ns (l, e)).1 (pushF ns (l, e)).2 ∧ Below b w w' := by
  obtain ⟨v, hb, hv⟩ := h
  have hlt := lt_of_block hb
  have HV := Lib.hid (And.intro hb hv)
  clear hb hv
  refine calls_name (fun W => StkV W b v l e ∧ W.heap[w.heap.size]? = some (.cells (ns.map (Value.int .u64)).toArray 25 (0, 0)) ∧ (∀ g, v.ownBlock = some g → g < w.heap.size) ∧ Below b w W) ?_ ?_
  · exact ⟨⟨(Below.heap_alloc _ _ _ hlt).trans HV.out.1, ownsRow_kept HV.out.2 fun k _ hk => Below.heap_alloc _ _ _ hk⟩, alloc_new _ _, fun g hg => (own_lt HV.out.2 hg).2, Only.below ((Only.refl [] _).alloc _) b (by omega) (by simp)⟩
  rintro w1 ⟨hS, hA, hg, hB⟩
  have HS := Lib.hid (And.intro hS (And.intro hA (And.intro hg hB)))
  clear hS hA hg hB HV
  go_enter Tryd.func36, Tryd.ntmps36
  go_wp2_with fail
  go_loopg [8] ns.length (fun g s8 wr => ∃ (k : Nat) (v' : Value) (l' : List Int), k + g = ns.length ∧ s8 = .int .i64 k ∧ StkV wr b v' l' e ∧ pushF (ns.drop k) (l', e) = pushF ns (l, e) ∧
    wr.heap[w.heap.size]? = some (.cells (ns.map (Value.int .u64)).toArray 25 (0, 0)) ∧ v'.ownBlock ≠ some w.heap.size ∧ Below b w wr)
  case atStart =>
    obtain ⟨hS, hA, hg, hB⟩ := HS.out
    exact ⟨0, v, l, by omega, rfl, hS, rfl, hA, fun e => by have := hg _ e; omega, hB⟩
  case round =>
    obtain ⟨k, v', l', hkg, rfl, hS, hp, hA, hne, hB⟩ := hrel
    obtain ⟨hb, hv⟩ := hS
    have hbl := lt_of_block hb
    have hal := lt_of_block hA
    obtain ⟨a, cap, rfl⟩ := ownsRow_form hv
    by_cases hk : k < ns.length
    · have hki : (k : Int) < (ns.length : Int) := by omega
      obtain ⟨n, hn⟩ : ∃ n, ns[k]? = some n := ⟨_, List.getElem?_eq_getElem hk⟩
      have hdrop : ns.drop k = n :: ns.drop (k + 1) := by rw [List.drop_eq_getElem_cons hk]; congr 1; rw [List.getElem?_eq_getElem hk] at hn; simpa using hn
      have cn : wr.cell? ⟨w.heap.size, k, none⟩ = some (.int .u64 n) := by simp [World.cell?, hA, hn]
      have c0 : wr.cell? ⟨b, 0, none⟩ = some (.slice a l'.length cap) := by simp [World.cell?, hb]
      rw [hdrop] at hp
      have HV := Lib.hid (And.intro hb (And.intro hv (And.intro hp (And.intro hA (And.intro hne (And.intro hB hn))))))
      clear hb hv hp hA hne hB hn hdrop
      by_cases hfull : 32 ≤ l'.length
      · have hfi : (l'.length : Int) ≥ 32 := by omega
        have hS : Stk wr b l' e := ⟨_, HV.out.1, HV.out.2.1⟩
        have HS' := Lib.hid hS
        clear hS
        go_wp2_with (go_at_call 35; refine (fail_any b l' e 4 _ HS'.out).mono ?_; rintro x w' ⟨rfl, hS', hO⟩; (have HT := Lib.hid (And.intro hS' hO)); clear hS' hO)
        refine bodyPost_ret (results_none rfl _ _ _) rfl ?_
        have e1 : pushF ns (l, e) = (l', failF e 4) := by rw [← HV.out.2.2.1]; simp [pushF, hfull]
        rw [e1]
        exact ⟨rfl, HT.out.1, HV.out.2.2.2.2.2.1.only HT.out.2 (by omega) (by simp)⟩
      · have hfi : ¬ (l'.length : Int) ≥ 32 := by omega
        go_wp2_with (first
          | ((with_reducible refine wpList_app (b + 1) 25 (.int .u64 0) 1 8 Tryd.underlying23 ?_ ?_ ?_ (.slice a l'.length cap) l'.length (l'.map (Value.int .u64)) ?_ ?_ ⟨wr.heap.size, 0, none⟩ 1 1 [.int .u64 n] ?_ ?_ ?_ ?_ ?_ ?_ ?_ ?_)
             (· kernel_rfl); (· rfl); (· decide); (· rfl); (· exact ownsRow_kept HV.out.2.1 fun k _ hk => Below.heap_alloc _ _ _ hk); (· rfl); (· rfl); (· exact one_new _ _ _)
             (· simp [Value.oneCell']); (· unfold maxLen; omega); (· omega); (· simp; omega)
             (intro v6 w6 hown hgr hnil hblk)
             (obtain ⟨a6, c6, rfl⟩ := ownsRow_form hown)
             (have hb6 : w6.heap[b]? = some (.cells #[.slice a l'.length cap, .int .i64 e] 55 (0, 0)) := (hgr.block b (by simp; omega) (not_own HV.out.2.1 (by omega))).trans ((Below.heap_alloc _ _ _ hbl).trans HV.out.1))
             (have f6 : w6.frozen? ⟨b, 0, none⟩ = false := by simp [World.frozen?, hb6])
             (have g6 : w6.cell? ⟨b, 0, none⟩ = some (.slice a l'.length cap) := by simp [World.cell?, hb6])
             (have HA := Lib.hid (And.intro hown (And.intro hgr (And.intro hblk hb6))))
             (clear hown hgr hnil hblk hb6)))
        go_roundg (gk - 1)
        case measure => omega
        case rel =>
          obtain ⟨hown, hgr, hblk, hb6⟩ := HA.out
          refine ⟨k + 1, .slice a6 (l'.length + 1) c6, l' ++ [n], by omega, by go_num, ⟨?_, ?_⟩, ?_, ?_, ?_, ?_⟩
          · rw [setCell_this _ _ hb6]; rfl
          · rw [List.length_append, List.length_singleton, List.map_append, List.map_singleton]
            exact setCell_own hown (by omega)
          · rw [← HV.out.2.2.1]; simp [pushF, hfull]
          · exact (Below.heap_setCell _ _ _ _ (by show w.heap.size ≠ b; omega)).trans ((hgr.block _ (by simp; omega) (fun h => HV.out.2.2.2.2.1 h.symm)).trans ((Below.heap_alloc _ _ _ hal).trans HV.out.2.2.2.1))
          · intro h
            rcases hblk with h' | h'
            · rw [h'] at h; exact HV.out.2.2.2.2.1 h
            · rw [h'] at h; simp at h; omega
          · exact ((HV.out.2.2.2.2.2.1.alloc (by omega) _).grown hgr (by simp; omega) (fun g hg => by have := (own_lt HV.out.2.1 hg).1; omega)).setCell (Nat.le_refl _) _
    · have hki : ¬ (k : Int) < (ns.length : Int) := by omega
      have hkn : k = ns.length := by omega
      have HV := Lib.hid (And.intro hb (And.intro hv (And.intro hp hB)))
      clear hb hv hp hB hA hne
      go_wp2_with fail
      go_end0
      have e1 : pushF ns (l, e) = (l', e) := by rw [← HV.out.2.2.1, hkn, List.drop_length]; rfl
      rw [e1]
      exact ⟨rfl, ⟨_, HV.out.1, HV.out.2.1⟩, HV.out.2.2.2⟩
/-- A bool as a number. -/
def oneF (x : Bool) : Int := if x then 1 else 0
theorem bool_any (b : Nat) (x : Bool) (l : List Int) (e : Int) (w : World) (h : Stk w b l e) :
    Calls Tryd.prog 41 #[.pointer (some ⟨b, 0, none⟩), .bool x] w fun y w' =>
      y = .returned (.tuple #[]) ∧ Stk w' b (pushF [oneF x] (l, e)).1 (pushF [oneF x] (l, e)).2 ∧ Below b w w' := by
  have H := Lib.hid h
  clear h
  cases x
  · go_enter Tryd.func41, Tryd.ntmps41
    go_wp2_with (go_at_call 36; refine (push_any b [0] l e w H.out (by simp)).mono ?_; rintro y w' ⟨rfl, hS, hB⟩; (have HT := Lib.hid (And.intro hS hB)); clear hS hB)
    go_end0
    exact ⟨rfl, HT.out⟩
  · go_enter Tryd.func41, Tryd.ntmps41
    go_wp2_with (go_at_call 36; refine (push_any b [1] l e w H.out (by simp)).mono ?_; rintro y w' ⟨rfl, hS, hB⟩; (have HT := Lib.hid (And.intro hS hB)); clear hS hB)
    refine bodyPost_ret (results_none rfl _ _ _) rfl ?_
    exact ⟨rfl, HT.out⟩

/-- Two numbers off: the upper one first. -/
def popF : List Int × Int → Int × (List Int × Int)
  | (l, e) => if l = [] then (0, ([], failF e 12)) else (l.getLast?.getD 0, (l.dropLast, e))
theorem pop_fn (b : Nat) (s : List Int × Int) (w : World) (h : Stk w b s.1 s.2) :
    Calls Tryd.prog 21 #[.pointer (some ⟨b, 0, none⟩)] w fun x w' =>
      x = .returned (.int .u64 (popF s).1) ∧ Stk w' b (popF s).2.1 (popF s).2.2 ∧ Below b w w' := by
  obtain ⟨l, e⟩ := s
  obtain ⟨v, hb, _⟩ := id h
  have hlt := lt_of_block hb
  refine (pop_any b l e w h).mono ?_
  rintro x w' ⟨h0, h1, hO⟩
  have hB : Below b w w' := hO.below b (by omega) (by simp)
  rcases List.eq_nil_or_concat l with rfl | ⟨xs, n, rfl⟩
  · obtain ⟨rfl, hS⟩ := h0 rfl
    exact ⟨rfl, hS, hB⟩
  · rw [List.concat_eq_append] at *
    obtain ⟨rfl, hS⟩ := h1 xs n rfl
    have : popF (xs ++ [n], e) = (n, (xs, e)) := by simp [popF]
    rw [this]
    exact ⟨rfl, hS, hB⟩
end Go.Proofs.YtfhhkapjpmfolaaDoor
