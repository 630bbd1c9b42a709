/- layer 11 (code): Check, as a plain function. -/
import Derived.Test.YtfhhkapjpmfolaaDoorCodeH
import Derived.Test.YtfhhkapjpmfolaaDoorMaps
namespace Go.Proofs.YtfhhkapjpmfolaaDoor
open Go.RowKit
open Go.Maps (Keyed)

/-- The orders' beginnings, and where the leaps go. -/
def scanF (n : Nat) (p : Nat → Nat) : Nat → Nat → List Nat → List Nat → Nat × List Nat × List Nat
  | 0, _, bs, ls => (0, bs, ls)
  | k + 1, at_, bs, ls =>
    if n ≤ at_ then (0, bs, ls)
    else if (fetchF n p at_).2.2.2 ≠ 0 then ((fetchF n p at_).2.2.2, bs, ls)
    else scanF n p k (fetchF n p at_).2.2.1 (bs ++ [at_]) (if (fetchF n p at_).1 = 11 ∨ (fetchF n p at_).1 = 12 then ls ++ [(fetchF n p at_).2.1] else ls)
def checkF (n : Nat) (p : Nat → Nat) : Nat :=
  if 256 < n then 1
  else if (scanF n p (n + 1) 0 [] []).1 ≠ 0 then (scanF n p (n + 1) 0 [] []).1
  else if (scanF n p (n + 1) 0 [] []).2.2.all (fun x => (scanF n p (n + 1) 0 [] []).2.1.contains x) then 0 else 10

def begV (bs : List Nat) : List (Value × Value) := bs.map fun (x : Nat) => (Value.int .u64 (x : Int), Value.bool true)
theorem beg_get (bs : List Nat) (x : Nat) : mget (begV bs) (.int .u64 (x : Int)) = if bs.contains x then some (.bool true) else none := by
  induction bs with
  | nil => simp [begV, mget]
  | cons y r ih =>
    rw [begV, List.map_cons, mget]
    by_cases h : y = x
    · subst h; simp
    · have h1 : ¬ (Value.int .u64 (y : Int) = .int .u64 (x : Int)) := by simp; omega
      rw [if_neg h1]
      show mget (begV r) _ = _
      rw [ih]
      simp [show ¬ x = y from fun e => h e.symm]
theorem beg_put (bs : List Nat) (x : Nat) (h : x ∉ bs) : mput (begV bs) (.int .u64 (x : Int)) (.bool true) = begV (bs ++ [x]) := by
  rw [mput_none]
  · simp [begV]
  · intro p hp
    simp only [begV, List.mem_map] at hp
    obtain ⟨y, hy, rfl⟩ := hp
    intro e
    simp only [Value.int.injEq, true_and] at e
    obtain rfl : y = x := by omega
    exact h hy
theorem begins_law : Keyed Tryd.prog 25 := Maps.int_keyed Tryd.underlying25
theorem beg_key (x : Nat) (h : x < 18446744073709551616) : KeyOk Tryd.prog 25 (.int .u64 (x : Int)) := by
  have hu : Tryd.prog.underlying 25 = some (.int .u64) := Tryd.underlying25
  have hw : (Lit.int .u64 (x : Int)).wf = true := by simp [Lit.wf, IntKind.bits, IntKind.signed, IntKind.min, IntKind.max]; omega
  exact ⟨.int .u64 (x : Int), by simp [keyOf, mapKey, hu, hw]⟩
theorem beg_apart (bs : List Nat) (h : bs.Nodup) : Apart (begV bs) := by
  unfold Apart begV
  rw [List.pairwise_map]
  refine h.imp fun {a b} hab e => hab ?_
  simp only [Value.int.injEq, true_and] at e
  omega
theorem MapIs.at {P : Program} {k : TypeId} {w w' : World} {b : Nat} {l : List (Value × Value)} (h : MapIs P k w b l) (hb : w'.heap[b]? = w.heap[b]?) : MapIs P k w' b l := by
  obtain ⟨es, clock, h1, h2⟩ := h
  exact ⟨es, clock, hb.trans h1, h2⟩
theorem setObj_other {w : World} {b k : Nat} (o : Obj) (h : b ≠ k) : (World.setObj w b o).heap[k]? = w.heap[k]? := by
  show (w.heap.setIfInBounds b o)[k]? = _
  rw [Array.getElem?_setIfInBounds, if_neg h]
theorem beg_look (w W : World) (b : Nat) (bs : List Nat) (hA : bs.Nodup) (h : MapIs Tryd.prog 25 w b (begV bs)) (x : Nat) (hx : x < 18446744073709551616) (hW : W.heap = w.heap) :
    (Instr.lookup 74 (.map (some b)) (.int .u64 (x : Int)) false).run Tryd.prog W = .ok (.bool (bs.contains x)) W := by
  have := (run_lookup_ok begins_law Tryd.underlying74 h (beg_apart bs hA) (beg_key x hx) (z := .bool false) (fun W => (zero_of_info (P := Tryd.prog) (t := 4) (v := .bool false) (n := 1) (by kernel_rfl)).1 W) W hW).2
  rw [this, beg_get]
  cases bs.contains x <;> rfl

def ScanInv (n : Nat) (p : Nat → Nat) (w : World) (g : Nat) (s4 s5 : Value) (wr : World) (at_ : Nat) (bs ls : List Nat) : Prop :=
  s5 = .int .i64 (at_ : Int) ∧ scanF n p (n + 1) 0 [] [] = scanF n p g at_ bs ls ∧ n < g + at_ ∧ at_ ≤ n ∧ (∀ x ∈ bs, x < at_) ∧ bs.Nodup ∧ MapIs Tryd.prog 25 wr w.heap.size (begV bs) ∧ ls.length ≤ at_ ∧ (∀ x ∈ ls, x < 18446744073709551616) ∧
    wr.ownsRow (w.heap.size + 1) 25 1 s4 ls.length (ls.map fun (x : Nat) => .int .u64 (x : Int)) ∧ Below w.heap.size w wr

set_option maxRecDepth 20000 in
set_option maxHeartbeats 4000000 in
theorem check_any (n : Nat) (v : Value) (p : Nat → Nat) (w : World) (hv : SlAt w w.heap.size v n (fun j => .int .u8 (p j : Int))) (hp : ∀ j, p j < 256) (hF : FormsAt w) (hg : 0 < w.heap.size) :
    Calls Tryd.prog 18 #[v] w fun x w' => x = .returned (.int .i64 (checkF n p : Int)) ∧ Only [] w w' := by
  obtain ⟨a, c, rfl, -⟩ := id hv
  by_cases hn : 256 < n
  · have b1 : decide ((n : Int) > 256) = true := by rw [decide_eq_true_iff]; omega
    have e0 : checkF n p = 1 := by simp [checkF, hn]
    rw [e0]
    clear hv hF hn
    go_enter Tryd.func18, Tryd.ntmps18
    go_wp2
    go_ret
    exact ⟨rfl, Only.refl _ _⟩
  · have b1 : decide ((n : Int) > 256) = false := by rw [decide_eq_false_iff_not]; omega
    have HA := Lib.hid (And.intro hv (And.intro hp (And.intro hF (And.intro hg hn))))
    have hmm := @run_makeMap Tryd.prog
    clear hv hp hF hn
    go_enter Tryd.func18, Tryd.ntmps18
    go_wp2_with fail
    clear hmm
    go_loopg [4, 5] (n + 1) (fun g s4 s5 wr => ∃ at_ bs ls, ScanInv n p w g s4 s5 wr at_ bs ls)
    case atStart =>
      refine ⟨0, [], [], rfl, rfl, by omega, by omega, by simp, List.nodup_nil, mapIs_new _ _, by simp, by simp, ⟨rfl, Or.inl ⟨rfl, rfl⟩⟩, ?_⟩
      exact (Only.refl [] w |>.alloc _).below _ (Nat.le_refl _) (by simp)
    case round =>
      obtain ⟨at_, bs, ls, rfl, hsc, hng, hatn, hbs, hnd, hM, hll, hlw, hown, hB⟩ := hrel
      obtain ⟨hv, hp, hF, hg', hn⟩ := HA.out
      have hlen : ls.length ≤ 256 := by omega
      obtain ⟨a4, c4, rfl⟩ := ownsRow_form hown
      have HR := Lib.hid (And.intro hsc (And.intro hbs (And.intro hnd (And.intro hM (And.intro hlw (And.intro hown hB))))))
      have hMlt := hM.lt
      clear hsc hbs hnd hM hlw hown
      by_cases hat : n ≤ at_
      · have b2 : ¬ (at_ : Int) < n := by omega
        have hl63 : (ls.length : Int) ≤ 256 := by omega
        have e1 : scanF n p (n + 1) 0 [] [] = (0, bs, ls) := by
          rw [HR.out.1]
          cases gk with
          | zero => rfl
          | succ g => simp [scanF, hat]
        have e2 : checkF n p = if ls.all (fun x => bs.contains x) then 0 else 10 := by
          rw [checkF, if_neg hn, e1]; simp
        have E2 := Lib.hid e2
        clear e1 e2 hat hv hF hp
        go_wp2_with fail
        go_loop [47] (fun s47 => ∃ k : Nat, k ≤ ls.length ∧ s47 = .int .i64 k ∧ ∀ j, j < k → ∀ x, ls[j]? = some x → bs.contains x = true) (fun i => (ls.length - (intOf i).toNat))
        case atStart => exact ⟨0, Nat.zero_le _, rfl, fun j hj => by omega⟩
        case round =>
          obtain ⟨k, hk, rfl, hkk⟩ := hrel
          have HK := Lib.hid hkk
          clear hkk
          by_cases hlt : k < ls.length
          · obtain ⟨x, hx⟩ : ∃ x, ls[k]? = some x := ⟨_, List.getElem?_eq_getElem hlt⟩
            have hki : (k : Int) < (ls.length : Int) := by omega
            obtain ⟨b4, rfl, c4c⟩ : ∃ b4, a4 = some ⟨b4, 0, none⟩ ∧ wr.cell? ⟨b4, k, none⟩ = some (.int .u64 (x : Int)) := by
              have ho := HR.out.2.2.2.2.2.1
              rcases ho.2 with ⟨h0, h1⟩ | ⟨g, cap', cur, hv, hg, hh, _⟩
              · simp at h1; subst h1; simp at hlt
              · have hva := hv
                simp only [Value.slice.injEq] at hva
                obtain ⟨rfl, -, rfl⟩ := hva
                have := ho.cellAt k (by simpa using hlt)
                exact ⟨g, rfl, by rw [this]; simp [hx]⟩
            have hlk := beg_look wr wr w.heap.size bs HR.out.2.2.1 HR.out.2.2.2.1 x (HR.out.2.2.2.2.1 x (List.mem_of_getElem? hx)) rfl
            have HX := Lib.hid hx
            cases hb : bs.contains x with
            | true =>
              rw [hb] at hlk
              have HB := Lib.hid hb
              clear hb hx
              go_wp2_with fail
              go_round
              case rel =>
                refine ⟨k + 1, by omega, by go_num, fun j hj y hy => ?_⟩
                by_cases hjk : j = k
                · subst hjk; rw [HX.out] at hy; cases hy; exact HB.out
                · exact HK.out j (by omega) y hy
              case measure => simp [intOf]; omega
            | false =>
              rw [hb] at hlk
              have e3 : checkF n p = 10 := by
                rw [E2.out, if_neg]
                intro h
                rw [List.all_eq_true] at h
                rw [h x (List.mem_of_getElem? hx)] at hb
                cases hb
              have E3 := Lib.hid e3
              clear e3 hb hx
              go_wp2_with fail
              go_ret
              exact ⟨by rw [E3.out]; rfl, Only.of_below hB⟩
          · have hki : ¬ (k : Int) < (ls.length : Int) := by omega
            have e3 : checkF n p = 0 := by
              rw [E2.out, if_pos]
              rw [List.all_eq_true]
              intro x hx
              obtain ⟨j, hj, rfl⟩ := List.getElem_of_mem hx
              exact HK.out j (by omega) _ (List.getElem?_eq_getElem hj)
            have E3 := Lib.hid e3
            clear e3
            go_wp2_with fail
            go_ret
            exact ⟨by rw [E3.out]; rfl, Only.of_below hB⟩
      · have hati : (at_ : Int) < n := by omega
        obtain ⟨g, rfl⟩ : ∃ g, gk = g + 1 := ⟨gk - 1, by omega⟩
        obtain ⟨⟨op, arg, nx, e⟩, hf⟩ : ∃ f, fetchF n p at_ = f := ⟨_, rfl⟩
        have hfetch := fun W (hW : Below w.heap.size w W) => fetch_any w.heap.size n (.slice a n c) p at_ W (hv.below hW) (by omega) hp (hF.below hW hg') (by omega)
        rw [hf] at hfetch
        have hsc : (e ≠ 0 → scanF n p (n + 1) 0 [] [] = (e, bs, ls)) ∧ (e = 0 → scanF n p (n + 1) 0 [] [] = scanF n p g nx (bs ++ [at_]) (if op = 11 ∨ op = 12 then ls ++ [arg] else ls)) := by
          rw [HR.out.1, scanF, if_neg hat, hf]
          exact ⟨fun h => by rw [if_pos h], fun h => by rw [if_neg (by simp [h])]⟩
        have hok0 := fun (h : e = 0) => fetchF_ok (op := op) (arg := arg) (nx := nx) hp (by rw [hf, h])
        by_cases he : e = 0
        · subst he
          have hok := hok0 rfl
          have hsc0 := hsc.2 rfl
          have hnd' : (bs ++ [at_]).Nodup := by
            rw [List.nodup_append]
            refine ⟨HR.out.2.2.1, by simp, ?_⟩
            intro x hx y hy
            simp at hy; subst hy
            have := HR.out.2.1 x hx; omega
          have hput : mput (begV bs) (.int .u64 (at_ : Int)) (.bool true) = begV (bs ++ [at_]) := beg_put bs at_ fun h => by have := HR.out.2.1 at_ h; omega
          have h256 : (at_ : Int) ≤ 256 := by omega
          have HF := Lib.hid hfetch
          have HS := Lib.hid (And.intro hok (And.intro hsc0 (And.intro hnd' (And.intro hput hn))))
          have hops : op = 11 ∨ op = 12 ∨ (((op : Int) == 11) = false ∧ ((op : Int) == 12) = false) := by
            by_cases h1 : op = 11
            · exact Or.inl h1
            · by_cases h2 : op = 12
              · exact Or.inr (Or.inl h2)
              · exact Or.inr (Or.inr ⟨by simp; omega, by simp; omega⟩)
          clear hok hok0 hsc0 hnd' hput hsc hfetch hf hv hF hp hat
          rcases hops with rfl | rfl | ⟨o1, o2⟩
          · go_wp2_with (first
              | (go_at_call 20; refine (HF.out _ hB).mono ?_; rintro x w' ⟨hw', rfl⟩; obtain rfl := hw'.symm)
              | ((with_reducible refine wpList_mapUpdate_is 25 4 begins_law Tryd.underlying74 w.heap.size (begV bs) ?_ ?_ (.int .u64 (at_ : Int)) (.bool true) ?_ ?_ ?_ ?_ ?_)
                 (· exact HR.out.2.2.2.1); (· exact beg_apart _ HR.out.2.2.1); (· exact beg_key _ (by omega)); (· rfl); (· rfl); (· rfl)
                 (intro w2 hM2 hw2)
                 (have H2 := Lib.hid (And.intro hM2 hw2))
                 (have hz2 : w.heap.size < w2.heap.size := by (obtain ⟨o, rfl⟩ := hw2); simpa [World.setObj] using hMlt)
                 (clear hM2 hw2))
              | ((with_reducible refine wpList_app (w.heap.size + 1) 25 (.int .u64 0) 1 8 Tryd.underlying23 ?_ ?_ ?_ (.slice a4 ls.length c4) ls.length (ls.map fun (x : Nat) => .int .u64 (x : Int)) ?_ ?_ ⟨w2.heap.size, 0, none⟩ 1 1 [.int .u64 (arg : Int)] ?_ ?_ ?_ ?_ ?_ ?_ ?_ ?_)
                 (· kernel_rfl); (· rfl); (· decide); (· rfl)
                 (· (obtain ⟨-, o, rfl⟩ := H2.out); exact ownsRow_kept HR.out.2.2.2.2.2.1 fun k hk hlt => (Below.heap_alloc _ _ _ (by simpa [World.setObj] using hlt)).trans (setObj_other _ (by omega)))
                 (· rfl); (· rfl); (· exact one_new _ _ _)
                 (· simp [Value.oneCell']); (· unfold maxLen; omega); (· omega); (· simp; omega)
                 (intro v6 w6 hown hgr hnil hblk)
                 (have HA6 := Lib.hid (And.intro hown hgr))
                 (clear hown hgr hnil hblk)))
            go_roundg g
            case measure => omega
            case rel =>
              obtain ⟨hown, hgr⟩ := HA6.out
              obtain ⟨⟨-, -, hnx, hnx', harg, -⟩, hsc0, hnd', hput, -⟩ := HS.out
              obtain ⟨hM2, o, hw2⟩ := H2.out
              rw [hput] at hM2
              refine ⟨nx, bs ++ [at_], ls ++ [arg], rfl, ?_, by omega, hnx', ?_, hnd', hM2.at ?_, by simp; omega, ?_, ?_, ?_⟩
              · rw [hsc0, if_pos (by simp)]
              · intro x hx
                rcases List.mem_append.1 hx with h | h
                · have := HR.out.2.1 x h; omega
                · simp at h; omega
              · exact (hgr.block _ (by simp; omega) (not_own HR.out.2.2.2.2.2.1 (by omega))).trans (Below.heap_alloc _ _ _ (by omega))
              · intro x hx
                rcases List.mem_append.1 hx with h | h
                · exact HR.out.2.2.2.2.1 x h
                · simp at h; omega
              · rw [List.length_append, List.length_singleton, List.map_append, List.map_singleton]; exact hown
              · subst hw2
                exact (((setObj_only o (Only.of_below HR.out.2.2.2.2.2.2) (Or.inl (Nat.le_refl _))).to_below.alloc (by simp [World.setObj]; omega) _).grown hgr (by simp [World.setObj]; omega) (fun g hg => by have := (own_lt HR.out.2.2.2.2.2.1 hg).1; omega))
          · go_wp2_with (first
              | (go_at_call 20; refine (HF.out _ hB).mono ?_; rintro x w' ⟨hw', rfl⟩; obtain rfl := hw'.symm)
              | ((with_reducible refine wpList_mapUpdate_is 25 4 begins_law Tryd.underlying74 w.heap.size (begV bs) ?_ ?_ (.int .u64 (at_ : Int)) (.bool true) ?_ ?_ ?_ ?_ ?_)
                 (· exact HR.out.2.2.2.1); (· exact beg_apart _ HR.out.2.2.1); (· exact beg_key _ (by omega)); (· rfl); (· rfl); (· rfl)
                 (intro w2 hM2 hw2)
                 (have H2 := Lib.hid (And.intro hM2 hw2))
                 (have hz2 : w.heap.size < w2.heap.size := by (obtain ⟨o, rfl⟩ := hw2); simpa [World.setObj] using hMlt)
                 (clear hM2 hw2))
              | ((with_reducible refine wpList_app (w.heap.size + 1) 25 (.int .u64 0) 1 8 Tryd.underlying23 ?_ ?_ ?_ (.slice a4 ls.length c4) ls.length (ls.map fun (x : Nat) => .int .u64 (x : Int)) ?_ ?_ ⟨w2.heap.size, 0, none⟩ 1 1 [.int .u64 (arg : Int)] ?_ ?_ ?_ ?_ ?_ ?_ ?_ ?_)
                 (· kernel_rfl); (· rfl); (· decide); (· rfl)
                 (· (obtain ⟨-, o, rfl⟩ := H2.out); exact ownsRow_kept HR.out.2.2.2.2.2.1 fun k hk hlt => (Below.heap_alloc _ _ _ (by simpa [World.setObj] using hlt)).trans (setObj_other _ (by omega)))
                 (· rfl); (· rfl); (· exact one_new _ _ _)
                 (· simp [Value.oneCell']); (· unfold maxLen; omega); (· omega); (· simp; omega)
                 (intro v6 w6 hown hgr hnil hblk)
                 (have HA6 := Lib.hid (And.intro hown hgr))
                 (clear hown hgr hnil hblk)))
            go_roundg g
            case measure => omega
            case rel =>
              obtain ⟨hown, hgr⟩ := HA6.out
              obtain ⟨⟨-, -, hnx, hnx', harg, -⟩, hsc0, hnd', hput, -⟩ := HS.out
              obtain ⟨hM2, o, hw2⟩ := H2.out
              rw [hput] at hM2
              refine ⟨nx, bs ++ [at_], ls ++ [arg], rfl, ?_, by omega, hnx', ?_, hnd', hM2.at ?_, by simp; omega, ?_, ?_, ?_⟩
              · rw [hsc0, if_pos (by simp)]
              · intro x hx
                rcases List.mem_append.1 hx with h | h
                · have := HR.out.2.1 x h; omega
                · simp at h; omega
              · exact (hgr.block _ (by simp; omega) (not_own HR.out.2.2.2.2.2.1 (by omega))).trans (Below.heap_alloc _ _ _ (by omega))
              · intro x hx
                rcases List.mem_append.1 hx with h | h
                · exact HR.out.2.2.2.2.1 x h
                · simp at h; omega
              · rw [List.length_append, List.length_singleton, List.map_append, List.map_singleton]; exact hown
              · subst hw2
                exact (((setObj_only o (Only.of_below HR.out.2.2.2.2.2.2) (Or.inl (Nat.le_refl _))).to_below.alloc (by simp [World.setObj]; omega) _).grown hgr (by simp [World.setObj]; omega) (fun g hg => by have := (own_lt HR.out.2.2.2.2.2.1 hg).1; omega))
          · go_wp2_with (first
              | (go_at_call 20; refine (HF.out _ hB).mono ?_; rintro x w' ⟨hw', rfl⟩; obtain rfl := hw'.symm)
              | ((with_reducible refine wpList_mapUpdate_is 25 4 begins_law Tryd.underlying74 w.heap.size (begV bs) ?_ ?_ (.int .u64 (at_ : Int)) (.bool true) ?_ ?_ ?_ ?_ ?_)
                 (· exact HR.out.2.2.2.1); (· exact beg_apart _ HR.out.2.2.1); (· exact beg_key _ (by omega)); (· rfl); (· rfl); (· rfl)
                 (intro w2 hM2 hw2)
                 (have H2 := Lib.hid (And.intro hM2 hw2))
                 (have hz2 : w.heap.size < w2.heap.size := by (obtain ⟨o, rfl⟩ := hw2); simpa [World.setObj] using hMlt)
                 (clear hM2 hw2))
              | ((with_reducible refine wpList_app (w.heap.size + 1) 25 (.int .u64 0) 1 8 Tryd.underlying23 ?_ ?_ ?_ (.slice a4 ls.length c4) ls.length (ls.map fun (x : Nat) => .int .u64 (x : Int)) ?_ ?_ ⟨w2.heap.size, 0, none⟩ 1 1 [.int .u64 (arg : Int)] ?_ ?_ ?_ ?_ ?_ ?_ ?_ ?_)
                 (· kernel_rfl); (· rfl); (· decide); (· rfl)
                 (· (obtain ⟨-, o, rfl⟩ := H2.out); exact ownsRow_kept HR.out.2.2.2.2.2.1 fun k hk hlt => (Below.heap_alloc _ _ _ (by simpa [World.setObj] using hlt)).trans (setObj_other _ (by omega)))
                 (· rfl); (· rfl); (· exact one_new _ _ _)
                 (· simp [Value.oneCell']); (· unfold maxLen; omega); (· omega); (· simp; omega)
                 (intro v6 w6 hown hgr hnil hblk)
                 (have HA6 := Lib.hid (And.intro hown hgr))
                 (clear hown hgr hnil hblk)))
            go_roundg g
            case measure => omega
            case rel =>
              obtain ⟨⟨-, -, hnx, hnx', harg, -⟩, hsc0, hnd', hput, -⟩ := HS.out
              obtain ⟨hM2, o, hw2⟩ := H2.out
              rw [hput] at hM2
              have hop1 : ¬ (op = 11 ∨ op = 12) := by
                simp at o1 o2; omega
              refine ⟨nx, bs ++ [at_], ls, rfl, ?_, by omega, hnx', ?_, hnd', hM2, by omega, HR.out.2.2.2.2.1, ?_, ?_⟩
              · rw [hsc0, if_neg hop1]
              · intro x hx
                rcases List.mem_append.1 hx with h | h
                · have := HR.out.2.1 x h; omega
                · simp at h; omega
              · subst hw2
                exact ownsRow_kept HR.out.2.2.2.2.2.1 fun k hk hlt => setObj_other _ (by omega)
              · subst hw2
                exact (setObj_only o (Only.of_below HR.out.2.2.2.2.2.2) (Or.inl (Nat.le_refl _))).to_below
        · have hb3 : ((e : Int) != 0) = true := by simp; omega
          have e3 : checkF n p = e := by rw [checkF, if_neg hn, hsc.1 he, if_pos he]
          have E3 := Lib.hid e3
          have HF := Lib.hid hfetch
          clear e3 hfetch hsc hok0 hf hv hF hp he hat
          go_wp2_with (go_at_call 20; refine (HF.out _ hB).mono ?_; rintro x w' ⟨rfl, rfl⟩)
          go_ret
          exact ⟨by rw [E3.out]; rfl, Only.of_below hB⟩
end Go.Proofs.YtfhhkapjpmfolaaDoor
