/- layer 11 (code): all that goes on behind itself (plain), order by order. -/
import Derived.Test.YtfhhkapjpmfolaaDoorCodeC
namespace Go.Proofs.YtfhhkapjpmfolaaDoor
open Go.RowKit

/-- What a program can ask. -/
structure CW where
  n1 : Nat
  FL : Nat → Int
  n2 : Nat
  PD : Nat → Bool
  ht : Int
/-- A slice of one-cell elements that lies below block b. -/
def SlAt (w : World) (b : Nat) (v : Value) (n : Nat) (V : Nat → Value) : Prop :=
  ∃ a c, v = .slice a n c ∧ n ≤ c ∧ c ≤ 9223372036854775807 ∧ (n = 0 ∨ ∃ b1 o1, a = some ⟨b1, o1, none⟩ ∧ b1 < b ∧ b1 < w.heap.size ∧ ∀ j, j < n → w.cell? ⟨b1, o1 + j, none⟩ = some (V j))
def CWAt (w : World) (b : Nat) (W : CW) (v1 v2 : Value) : Prop := SlAt w b v1 W.n1 (fun j => .int .u64 (W.FL j)) ∧ SlAt w b v2 W.n2 (fun j => .bool (W.PD j))
def CW.wide (W : CW) : Prop := W64 W.ht ∧ ∀ j, j < W.n1 → W64 (W.FL j)
theorem SlAt.below {w w' : World} {b : Nat} {v : Value} {n : Nat} {V : Nat → Value} (h : SlAt w b v n V) (hB : Below b w w') : SlAt w' b v n V := by
  obtain ⟨a, c, h1, h2, h3, h4⟩ := h
  refine ⟨a, c, h1, h2, h3, h4.imp id ?_⟩
  rintro ⟨b1, o1, h5, h6, h7, h8⟩
  exact ⟨b1, o1, h5, h6, Nat.lt_of_lt_of_le h7 hB.size, fun j hj => (World.cell?_of_block (w := w) (hB.block _ h6)).trans (h8 j hj)⟩
theorem CWAt.below {w w' : World} {b : Nat} {W : CW} {v1 v2 : Value} (h : CWAt w b W v1 v2) (hB : Below b w w') : CWAt w' b W v1 v2 := ⟨h.1.below hB, h.2.below hB⟩
theorem Stk.lt {w : World} {b : Nat} {l : List Int} {e : Int} (h : Stk w b l e) : b < w.heap.size := by obtain ⟨v, hb, _⟩ := h; exact lt_of_block hb
theorem Stk.alloc {w : World} {b : Nat} {l : List Int} {e : Int} (h : Stk w b l e) (o : Obj) : Stk (w.alloc o) b l e := by
  have hlt := h.lt
  obtain ⟨v, hb, hv⟩ := h
  exact ⟨v, (Below.heap_alloc _ _ _ hlt).trans hb, ownsRow_kept hv fun k _ hk => Below.heap_alloc _ _ _ hk⟩
theorem below_alloc {w : World} {b : Nat} (h : b < w.heap.size) (o : Obj) : Below b w (w.alloc o) := Only.below ((Only.refl [] _).alloc _) b (by omega) (by simp)

theorem push_at (b : Nat) (ns l : List Int) (e : Int) (w : World) (g : Nat) (hg : g = w.heap.size) (h : Stk w b l e) (hlen : ns.length ≤ 100) :
    Calls Tryd.prog 36 #[.pointer (some ⟨b, 0, none⟩), .slice (some ⟨g, 0, none⟩) ns.length ns.length] (w.alloc (.cells (ns.map (Value.int .u64)).toArray 25)) fun x w' =>
      x = .returned (.tuple #[]) ∧ Stk w' b (pushF ns (l, e)).1 (pushF ns (l, e)).2 ∧ Below b w w' := by subst hg; exact push_any b ns l e w h hlen
/-- What an order that goes on behind itself does. -/
def plainF (W : CW) (op : Nat) (arg : Int) (s : St) : St :=
  match op with
  | 1 => pushF [arg] s
  | 2 => if arg ≥ W.n1 then (s.1, failF s.2 1) else pushF [W.FL arg.toNat] s
  | 3 => reckonF addF s
  | 4 => reckonF subF s
  | 5 => reckonF mulF s
  | 6 => pushF [oneF (decide ((popF (popF s).2).1 < (popF s).1))] (popF (popF s).2).2
  | 7 => pushF [oneF ((popF (popF s).2).1 == (popF s).1)] (popF (popF s).2).2
  | 8 => pushF [oneF ((popF s).1 == 0)] (popF s).2
  | 9 => pushF [oneF ((popF (popF s).2).1 != 0 && (popF s).1 != 0)] (popF (popF s).2).2
  | 10 => pushF [oneF ((popF (popF s).2).1 != 0 || (popF s).1 != 0)] (popF (popF s).2).2
  | 13 => pushF [(popF s).1, (popF s).1] (popF s).2
  | 14 => pushF [(popF s).1, (popF (popF s).2).1] (popF (popF s).2).2
  | 15 => (popF s).2
  | 16 => if arg ≥ W.n2 then (s.1, failF s.2 1) else pushF [oneF (W.PD arg.toNat)] s
  | 17 => pushF [W.ht] s
  | _ => s

section
variable (b : Nat) (W : CW) (v1 v2 : Value) (arg : Int) (s : St) (w : World)

set_option maxHeartbeats 1000000 in
theorem plain_1 (h : Stk w b s.1 s.2) (hW : CWAt w b W v1 v2) (hs : Wide s) (_ha : W64 arg) :
    Calls Tryd.prog 22 #[.agg #[v1, v2, .int .u64 W.ht], .pointer (some ⟨b, 0, none⟩), .int .i64 1, .int .u64 arg] w fun x w' =>
      x = .returned (.tuple #[]) ∧ Stk w' b (plainF W 1 arg s).1 (plainF W 1 arg s).2 ∧ Below b w w' := by
  obtain ⟨a1, k1, rfl, -⟩ := hW.1
  obtain ⟨a2, k2, rfl, -⟩ := hW.2
  have HA := Lib.hid (And.intro h (And.intro h.lt hs))
  clear h hW hs _ha
  go_enter Tryd.func22, Tryd.ntmps22
  go_wp2_with (first
    | (go_at_call 36; refine (push_at b [arg] s.1 s.2 (w.alloc _) _ (by simp) (HA.out.1.alloc _) (by simp)).mono ?_; rintro y w' ⟨rfl, hS, hB⟩; (have HT := Lib.hid (And.intro hS hB)); clear hS hB))
  go_end0
  exact ⟨rfl, HT.out.1, (below_alloc HA.out.2.1 _).trans HT.out.2⟩

set_option maxHeartbeats 1000000 in
theorem plain_3 (h : Stk w b s.1 s.2) (hW : CWAt w b W v1 v2) (hs : Wide s) (_ha : W64 arg) :
    Calls Tryd.prog 22 #[.agg #[v1, v2, .int .u64 W.ht], .pointer (some ⟨b, 0, none⟩), .int .i64 3, .int .u64 arg] w fun x w' =>
      x = .returned (.tuple #[]) ∧ Stk w' b (plainF W 3 arg s).1 (plainF W 3 arg s).2 ∧ Below b w w' := by
  obtain ⟨a1, k1, rfl, -⟩ := hW.1
  obtain ⟨a2, k2, rfl, -⟩ := hW.2
  have HA := Lib.hid (And.intro h (And.intro h.lt hs))
  clear h hW hs _ha
  go_enter Tryd.func22, Tryd.ntmps22
  go_wp2_with (first
    | (go_at_call 37; refine (reckon_add b s _ (HA.out.1.alloc _) HA.out.2.2).mono ?_; rintro y w' ⟨rfl, hS, hB⟩; (have HT := Lib.hid (And.intro hS hB)); clear hS hB))
  go_end0
  exact ⟨rfl, HT.out.1, (below_alloc HA.out.2.1 _).trans HT.out.2⟩

set_option maxHeartbeats 1000000 in
theorem plain_4 (h : Stk w b s.1 s.2) (hW : CWAt w b W v1 v2) (hs : Wide s) (_ha : W64 arg) :
    Calls Tryd.prog 22 #[.agg #[v1, v2, .int .u64 W.ht], .pointer (some ⟨b, 0, none⟩), .int .i64 4, .int .u64 arg] w fun x w' =>
      x = .returned (.tuple #[]) ∧ Stk w' b (plainF W 4 arg s).1 (plainF W 4 arg s).2 ∧ Below b w w' := by
  obtain ⟨a1, k1, rfl, -⟩ := hW.1
  obtain ⟨a2, k2, rfl, -⟩ := hW.2
  have HA := Lib.hid (And.intro h (And.intro h.lt hs))
  clear h hW hs _ha
  go_enter Tryd.func22, Tryd.ntmps22
  go_wp2_with (first
    | (go_at_call 37; refine (reckon_sub b s _ (HA.out.1.alloc _) HA.out.2.2).mono ?_; rintro y w' ⟨rfl, hS, hB⟩; (have HT := Lib.hid (And.intro hS hB)); clear hS hB))
  go_end0
  exact ⟨rfl, HT.out.1, (below_alloc HA.out.2.1 _).trans HT.out.2⟩

set_option maxHeartbeats 1000000 in
theorem plain_5 (h : Stk w b s.1 s.2) (hW : CWAt w b W v1 v2) (hs : Wide s) (_ha : W64 arg) :
    Calls Tryd.prog 22 #[.agg #[v1, v2, .int .u64 W.ht], .pointer (some ⟨b, 0, none⟩), .int .i64 5, .int .u64 arg] w fun x w' =>
      x = .returned (.tuple #[]) ∧ Stk w' b (plainF W 5 arg s).1 (plainF W 5 arg s).2 ∧ Below b w w' := by
  obtain ⟨a1, k1, rfl, -⟩ := hW.1
  obtain ⟨a2, k2, rfl, -⟩ := hW.2
  have HA := Lib.hid (And.intro h (And.intro h.lt hs))
  clear h hW hs _ha
  go_enter Tryd.func22, Tryd.ntmps22
  go_wp2_with (first
    | (go_at_call 37; refine (reckon_mul b s _ (HA.out.1.alloc _) HA.out.2.2).mono ?_; rintro y w' ⟨rfl, hS, hB⟩; (have HT := Lib.hid (And.intro hS hB)); clear hS hB))
  go_end0
  exact ⟨rfl, HT.out.1, (below_alloc HA.out.2.1 _).trans HT.out.2⟩

set_option maxHeartbeats 1000000 in
theorem plain_6 (h : Stk w b s.1 s.2) (hW : CWAt w b W v1 v2) (hs : Wide s) (_ha : W64 arg) :
    Calls Tryd.prog 22 #[.agg #[v1, v2, .int .u64 W.ht], .pointer (some ⟨b, 0, none⟩), .int .i64 6, .int .u64 arg] w fun x w' =>
      x = .returned (.tuple #[]) ∧ Stk w' b (plainF W 6 arg s).1 (plainF W 6 arg s).2 ∧ Below b w w' := by
  obtain ⟨a1, k1, rfl, -⟩ := hW.1
  obtain ⟨a2, k2, rfl, -⟩ := hW.2
  have HA := Lib.hid (And.intro h (And.intro h.lt hs))
  clear h hW hs _ha
  go_enter Tryd.func22, Tryd.ntmps22
  go_wp2_with (first
    | (go_at_call 21; refine (pop_fn b s _ (HA.out.1.alloc _)).mono ?_; rintro x w1 ⟨rfl, hS, hB⟩; (have H1 := Lib.hid (And.intro hS hB)); clear hS hB)
    | (go_at_call 21; refine (pop_fn b (popF s).2 _ H1.out.1).mono ?_; rintro x w2 ⟨rfl, hS, hB⟩; (have H2 := Lib.hid (And.intro hS (H1.out.2.trans hB))); clear hS hB)
    | (go_at_call 41; refine (bool_any b (decide ((popF (popF s).2).1 < (popF s).1)) (popF (popF s).2).2.1 (popF (popF s).2).2.2 _ H2.out.1).mono ?_; rintro y w' ⟨rfl, hS, hB⟩; (have HT := Lib.hid (And.intro hS hB)); clear hS hB))
  go_end0
  exact ⟨rfl, HT.out.1, (below_alloc HA.out.2.1 _).trans (H2.out.2.trans HT.out.2)⟩

set_option maxHeartbeats 1000000 in
theorem plain_7 (h : Stk w b s.1 s.2) (hW : CWAt w b W v1 v2) (hs : Wide s) (_ha : W64 arg) :
    Calls Tryd.prog 22 #[.agg #[v1, v2, .int .u64 W.ht], .pointer (some ⟨b, 0, none⟩), .int .i64 7, .int .u64 arg] w fun x w' =>
      x = .returned (.tuple #[]) ∧ Stk w' b (plainF W 7 arg s).1 (plainF W 7 arg s).2 ∧ Below b w w' := by
  obtain ⟨a1, k1, rfl, -⟩ := hW.1
  obtain ⟨a2, k2, rfl, -⟩ := hW.2
  have HA := Lib.hid (And.intro h (And.intro h.lt hs))
  clear h hW hs _ha
  go_enter Tryd.func22, Tryd.ntmps22
  go_wp2_with (first
    | (go_at_call 21; refine (pop_fn b s _ (HA.out.1.alloc _)).mono ?_; rintro x w1 ⟨rfl, hS, hB⟩; (have H1 := Lib.hid (And.intro hS hB)); clear hS hB)
    | (go_at_call 21; refine (pop_fn b (popF s).2 _ H1.out.1).mono ?_; rintro x w2 ⟨rfl, hS, hB⟩; (have H2 := Lib.hid (And.intro hS (H1.out.2.trans hB))); clear hS hB)
    | (go_at_call 41; refine (bool_any b ((popF (popF s).2).1 == (popF s).1) (popF (popF s).2).2.1 (popF (popF s).2).2.2 _ H2.out.1).mono ?_; rintro y w' ⟨rfl, hS, hB⟩; (have HT := Lib.hid (And.intro hS hB)); clear hS hB))
  go_end0
  exact ⟨rfl, HT.out.1, (below_alloc HA.out.2.1 _).trans (H2.out.2.trans HT.out.2)⟩

set_option maxHeartbeats 1000000 in
theorem plain_8 (h : Stk w b s.1 s.2) (hW : CWAt w b W v1 v2) (hs : Wide s) (_ha : W64 arg) :
    Calls Tryd.prog 22 #[.agg #[v1, v2, .int .u64 W.ht], .pointer (some ⟨b, 0, none⟩), .int .i64 8, .int .u64 arg] w fun x w' =>
      x = .returned (.tuple #[]) ∧ Stk w' b (plainF W 8 arg s).1 (plainF W 8 arg s).2 ∧ Below b w w' := by
  obtain ⟨a1, k1, rfl, -⟩ := hW.1
  obtain ⟨a2, k2, rfl, -⟩ := hW.2
  have HA := Lib.hid (And.intro h (And.intro h.lt hs))
  clear h hW hs _ha
  go_enter Tryd.func22, Tryd.ntmps22
  go_wp2_with (first
    | (go_at_call 21; refine (pop_fn b s _ (HA.out.1.alloc _)).mono ?_; rintro x w1 ⟨rfl, hS, hB⟩; (have H1 := Lib.hid (And.intro hS hB)); clear hS hB)
    | (go_at_call 41; refine (bool_any b ((popF s).1 == 0) (popF s).2.1 (popF s).2.2 _ H1.out.1).mono ?_; rintro y w' ⟨rfl, hS, hB⟩; (have HT := Lib.hid (And.intro hS hB)); clear hS hB))
  go_end0
  exact ⟨rfl, HT.out.1, (below_alloc HA.out.2.1 _).trans (H1.out.2.trans HT.out.2)⟩

set_option maxHeartbeats 1000000 in
theorem plain_13 (h : Stk w b s.1 s.2) (hW : CWAt w b W v1 v2) (hs : Wide s) (_ha : W64 arg) :
    Calls Tryd.prog 22 #[.agg #[v1, v2, .int .u64 W.ht], .pointer (some ⟨b, 0, none⟩), .int .i64 13, .int .u64 arg] w fun x w' =>
      x = .returned (.tuple #[]) ∧ Stk w' b (plainF W 13 arg s).1 (plainF W 13 arg s).2 ∧ Below b w w' := by
  obtain ⟨a1, k1, rfl, -⟩ := hW.1
  obtain ⟨a2, k2, rfl, -⟩ := hW.2
  have HA := Lib.hid (And.intro h (And.intro h.lt hs))
  clear h hW hs _ha
  go_enter Tryd.func22, Tryd.ntmps22
  go_wp2_with (first
    | (go_at_call 21; refine (pop_fn b s _ (HA.out.1.alloc _)).mono ?_; rintro x w1 ⟨rfl, hS, hB⟩; (have H1 := Lib.hid (And.intro hS hB)); clear hS hB)
    | (go_at_call 36; refine (push_any b [(popF s).1, (popF s).1] (popF s).2.1 (popF s).2.2 _ H1.out.1 (by simp)).mono ?_; rintro y w' ⟨rfl, hS, hB⟩; (have HT := Lib.hid (And.intro hS hB)); clear hS hB))
  go_end0
  exact ⟨rfl, HT.out.1, (below_alloc HA.out.2.1 _).trans (H1.out.2.trans HT.out.2)⟩

set_option maxHeartbeats 1000000 in
theorem plain_14 (h : Stk w b s.1 s.2) (hW : CWAt w b W v1 v2) (hs : Wide s) (_ha : W64 arg) :
    Calls Tryd.prog 22 #[.agg #[v1, v2, .int .u64 W.ht], .pointer (some ⟨b, 0, none⟩), .int .i64 14, .int .u64 arg] w fun x w' =>
      x = .returned (.tuple #[]) ∧ Stk w' b (plainF W 14 arg s).1 (plainF W 14 arg s).2 ∧ Below b w w' := by
  obtain ⟨a1, k1, rfl, -⟩ := hW.1
  obtain ⟨a2, k2, rfl, -⟩ := hW.2
  have HA := Lib.hid (And.intro h (And.intro h.lt hs))
  clear h hW hs _ha
  go_enter Tryd.func22, Tryd.ntmps22
  go_wp2_with (first
    | (go_at_call 21; refine (pop_fn b s _ (HA.out.1.alloc _)).mono ?_; rintro x w1 ⟨rfl, hS, hB⟩; (have H1 := Lib.hid (And.intro hS hB)); clear hS hB)
    | (go_at_call 21; refine (pop_fn b (popF s).2 _ H1.out.1).mono ?_; rintro x w2 ⟨rfl, hS, hB⟩; (have H2 := Lib.hid (And.intro hS (H1.out.2.trans hB))); clear hS hB)
    | (go_at_call 36; refine (push_any b [(popF s).1, (popF (popF s).2).1] (popF (popF s).2).2.1 (popF (popF s).2).2.2 _ H2.out.1 (by simp)).mono ?_; rintro y w' ⟨rfl, hS, hB⟩; (have HT := Lib.hid (And.intro hS hB)); clear hS hB))
  go_end0
  exact ⟨rfl, HT.out.1, (below_alloc HA.out.2.1 _).trans (H2.out.2.trans HT.out.2)⟩

set_option maxHeartbeats 1000000 in
theorem plain_15 (h : Stk w b s.1 s.2) (hW : CWAt w b W v1 v2) (hs : Wide s) (_ha : W64 arg) :
    Calls Tryd.prog 22 #[.agg #[v1, v2, .int .u64 W.ht], .pointer (some ⟨b, 0, none⟩), .int .i64 15, .int .u64 arg] w fun x w' =>
      x = .returned (.tuple #[]) ∧ Stk w' b (plainF W 15 arg s).1 (plainF W 15 arg s).2 ∧ Below b w w' := by
  obtain ⟨a1, k1, rfl, -⟩ := hW.1
  obtain ⟨a2, k2, rfl, -⟩ := hW.2
  have HA := Lib.hid (And.intro h (And.intro h.lt hs))
  clear h hW hs _ha
  go_enter Tryd.func22, Tryd.ntmps22
  go_wp2_with (first
    | (go_at_call 21; refine (pop_fn b s _ (HA.out.1.alloc _)).mono ?_; rintro x w1 ⟨rfl, hS, hB⟩; (have H1 := Lib.hid (And.intro hS hB)); clear hS hB))
  go_end0
  exact ⟨rfl, H1.out.1, (below_alloc HA.out.2.1 _).trans H1.out.2⟩

set_option maxHeartbeats 1000000 in
theorem plain_17 (h : Stk w b s.1 s.2) (hW : CWAt w b W v1 v2) (hs : Wide s) (_ha : W64 arg) :
    Calls Tryd.prog 22 #[.agg #[v1, v2, .int .u64 W.ht], .pointer (some ⟨b, 0, none⟩), .int .i64 17, .int .u64 arg] w fun x w' =>
      x = .returned (.tuple #[]) ∧ Stk w' b (plainF W 17 arg s).1 (plainF W 17 arg s).2 ∧ Below b w w' := by
  obtain ⟨a1, k1, rfl, -⟩ := hW.1
  obtain ⟨a2, k2, rfl, -⟩ := hW.2
  have HA := Lib.hid (And.intro h (And.intro h.lt hs))
  clear h hW hs _ha
  go_enter Tryd.func22, Tryd.ntmps22
  go_wp2_with (first
    | (go_at_call 36; refine (push_at b [W.ht] s.1 s.2 (w.alloc _) _ (by simp) (HA.out.1.alloc _) (by simp)).mono ?_; rintro y w' ⟨rfl, hS, hB⟩; (have HT := Lib.hid (And.intro hS hB)); clear hS hB))
  go_end0
  exact ⟨rfl, HT.out.1, (below_alloc HA.out.2.1 _).trans HT.out.2⟩
end
end Go.Proofs.YtfhhkapjpmfolaaDoor

