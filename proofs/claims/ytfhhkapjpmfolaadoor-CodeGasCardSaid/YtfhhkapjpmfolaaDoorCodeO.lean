/- layer 11 (code): Parse, as a plain function. -/
import Derived.Test.YtfhhkapjpmfolaaDoorLays
import Derived.Test.YtfhhkapjpmfolaaDoorCodeM
import Derived.Test.YtfhhkapjpmfolaaDoorCodeN
import Derived.Shelf.Strings.Split
namespace Go.Proofs.YtfhhkapjpmfolaaDoor
open Go.RowKit Go.Lib

/-- The bytes of lines, one behind the other, or what is wrong with the first that is wrong. -/
def parseLines : List ByteArray → List Nat → List Nat × Nat
  | [], acc => (acc, 0)
  | l :: r, acc => if (orderF l.data.toList).2 ≠ 0 then ([], (orderF l.data.toList).2) else parseLines r (acc ++ (orderF l.data.toList).1)
def linesF (t : ByteArray) : List ByteArray := Lib.splitB ⟨#[10]⟩ 0 (Lib.countB t ⟨#[10]⟩) t
def parseF (t : ByteArray) : List Nat × Nat :=
  if 4096 < t.size then ([], 8)
  else if t.size = 0 then ([], 0)
  else if (parseLines (linesF t) []).2 ≠ 0 then ([], (parseLines (linesF t) []).2)
  else if checkF (parseLines (linesF t) []).1.length (fun j => (parseLines (linesF t) []).1.getD j 0) ≠ 0 then ([], checkF (parseLines (linesF t) []).1.length (fun j => (parseLines (linesF t) []).1.getD j 0))
  else ((parseLines (linesF t) []).1, 0)

theorem splitB_small (sep : ByteArray) : ∀ (k : Nat) (s : ByteArray), ∀ x ∈ Lib.splitB sep 0 k s, x.size ≤ s.size
  | 0, s => by simp [Lib.splitB]
  | k + 1, s => by
    intro x hx
    unfold Lib.splitB at hx
    split at hx
    · simp at hx; subst hx; exact Nat.le_refl _
    · rcases List.mem_cons.1 hx with h | h
      · subst h; simp only [ByteArray.size_extract]; omega
      · have h1 := splitB_small sep k _ x h
        simp only [ByteArray.size_extract] at h1; omega
theorem bytesN_lt (u : Nat) : ∀ k, ∀ b ∈ bytesN u k, b < 256
  | 0 => by simp [bytesN]
  | k + 1 => by
    intro b hb
    rcases List.mem_cons.1 hb with h | h
    · subst h; exact Nat.mod_lt _ (by omega)
    · exact bytesN_lt u k b h
theorem opOf_lt (name : List UInt8) : ∀ g k, g ≤ 18 → opOf name g = some k → k < 18
  | 0, k => by simp [opOf]
  | g + 1, k => by
    intro hg h
    rw [opOf] at h
    split at h
    · simp at h; omega
    · exact opOf_lt name g k (by omega) h
theorem orderF_ok (l : List UInt8) : (∀ b ∈ (orderF l).1, b < 256) ∧ (orderF l).1.length ≤ 9 ∧ ((orderF l).2 = 0 → (orderF l).1 ≠ []) := by
  unfold orderF
  cases h : opOf (Lib.cut l [32]).1 18 with
  | none => simp
  | some k =>
    have hk := opOf_lt _ 18 k (Nat.le_refl _) h
    simp only
    unfold lineF
    split
    · simp
    · split
      · simp; omega
      · rcases Lib.parseUintB (8 * moreF k) (Lib.cut l [32]).2.1 with u | _ | _
        · simp only
          split
          · refine ⟨fun b hb => ?_, ?_, by simp⟩
            · rcases List.mem_cons.1 hb with h | h
              · omega
              · exact bytesN_lt _ _ b h
            · have := moreF_le k
              rw [List.length_cons, bytesN_length]; omega
          · simp
        · simp
        · simp
theorem sl_own {w : World} {base n : Nat} {v : Value} {l : List Nat} {k : IntKind} {e : TypeId} (h : w.ownsRow base e 1 v n (l.map fun (b : Nat) => .int k (b : Int))) : SlAt w w.heap.size v n (fun j => .int k ((l.getD j 0 : Nat) : Int)) := by
  have hl : l.length = n := by have := h.1; simpa using this
  rcases h.2 with ⟨rfl, h0⟩ | ⟨g, cap', cur, rfl, hg, hh, h1, h2, _⟩
  · subst h0
    exact ⟨none, 0, rfl, Nat.le_refl _, by omega, Or.inl rfl⟩
  · refine ⟨_, _, rfl, h1, by unfold maxLen at h2; omega, ?_⟩
    by_cases hn : n = 0
    · exact Or.inl hn
    · refine Or.inr ⟨g, 0, rfl, lt_of_block hh, lt_of_block hh, fun j hj => ?_⟩
      rw [Nat.zero_add, h.cellAt j (by omega)]
      rw [List.getElem?_map, List.getElem?_eq_getElem (by omega)]
      simp [List.getD, List.getElem?_eq_getElem (show j < l.length by omega)]

set_option maxRecDepth 20000 in
set_option maxHeartbeats 4000000 in
theorem parse_any (t : ByteArray) (w : World) (hL : LaidAt w) :
    Calls Tryd.prog 16 #[.string t] w fun x w' => ∃ v, x = .returned (.tuple #[v, .int .i64 ((parseF t).2 : Int)]) ∧
      w'.ownsRow w.heap.size 5 1 v (parseF t).1.length ((parseF t).1.map fun (b : Nat) => .int .u8 (b : Int)) ∧ Only [] w w' := by
  by_cases h1 : 4096 < t.size
  · have b1 : (t.size : Int) > 4096 := by omega
    have e1 : parseF t = ([], 8) := by simp [parseF, h1]
    rw [e1]
    clear h1 e1
    go_enter Tryd.func16, Tryd.ntmps16
    go_wp2
    refine bodyPost_ret (v := .tuple #[.slice none 0 0, .int .i64 8]) (by simp [results, Tryd.results16, go_sem]) rfl ?_
    exact ⟨_, rfl, ⟨rfl, Or.inl ⟨rfl, rfl⟩⟩, Only.refl _ _⟩
  · have b1 : ¬ (t.size : Int) > 4096 := by omega
    by_cases h2 : t.size = 0
    · have e1 : parseF t = ([], 0) := by simp [parseF, h2]
      rw [e1]
      obtain rfl : t = ⟨#[]⟩ := by
        cases t with | mk d => congr 1; exact Array.eq_empty_of_size_eq_zero h2
      clear h1 e1 h2
      go_enter Tryd.func16, Tryd.ntmps16
      go_wp2
      refine bodyPost_ret (v := .tuple #[.slice (some ⟨w.heap.size, 0, none⟩) 0 0, .int .i64 0]) (by simp [results, Tryd.results16, go_sem]) rfl ?_
      exact ⟨_, rfl, ⟨rfl, Or.inr ⟨w.heap.size, 0, #[], rfl, Nat.le_refl _, alloc_new _ _, Nat.le_refl _, Nat.zero_le _, rfl, rfl⟩⟩, (Only.refl _ _).alloc _⟩
    · obtain ⟨m, hm⟩ := hL.len
      have hcut := fun w (hm : w.cell? ⟨2, 0, none⟩ = some (.int .i64 m)) => Any.strings_Split Tryd.lays146 (by kernel_rfl) t ⟨#[10]⟩ m w (by omega) hm (by decide)
      have hle := Lib.countB_le ⟨#[10]⟩ (by decide) t.size t (Nat.le_refl _)
      have hlen := Lib.splitB_all ⟨#[10]⟩ (by decide) 0 _ t rfl
      have hsm := splitB_small ⟨#[10]⟩ (Lib.countB t ⟨#[10]⟩) t
      obtain ⟨N, hN⟩ : ∃ N, Lib.countB t ⟨#[10]⟩ + 1 = N := ⟨_, rfl⟩
      obtain ⟨ls, hls⟩ : ∃ ls, Lib.splitB ⟨#[10]⟩ 0 (Lib.countB t ⟨#[10]⟩) t = ls := ⟨_, rfl⟩
      rw [hls] at hcut hlen hsm
      rw [hN] at hcut hlen
      have hN4 : N ≤ 4097 := by omega
      have hne : t.toList.isEmpty = false := by
        rw [ByteArray.toList_eq]
        cases t with | mk d =>
        cases d with | mk l =>
        cases l with
        | nil => exact absurd rfl h2
        | cons x r => rfl
      have e1 : parseF t = if (parseLines ls []).2 ≠ 0 then ([], (parseLines ls []).2)
          else if checkF (parseLines ls []).1.length (fun j => (parseLines ls []).1.getD j 0) ≠ 0 then ([], checkF (parseLines ls []).1.length (fun j => (parseLines ls []).1.getD j 0))
          else ((parseLines ls []).1, 0) := by
        rw [parseF, if_neg h1, if_neg h2, linesF, hls]
      have HA := Lib.hid (And.intro hL (And.intro e1 (And.intro hlen (And.intro hsm hm))))
      have HC := Lib.hid hcut
      have hz := hL.size.2.2.1
      have h4096 : (t.size : Int) ≤ 4096 := by omega
      clear hL e1 hlen hsm hm hcut hle hN hls h1 h2
      go_enter Tryd.func16, Tryd.ntmps16
      go_wp2_with (first
        | (go_at_call 32; refine (HC.out _ ?_).mono ?_; (· exact (World.cell?_of_block (w := w) (Below.heap_alloc w _ _ hz)).trans HA.out.2.2.2.2); rintro e w1 ⟨rfl, hw1⟩; (have H1 := Lib.hid hw1); (have hz1 : w.heap.size + 2 ≤ w1.heap.size := by rw [hw1]; simp); clear hw1))
      go_loopg [4, 20] (N + 1) (fun g s4 s20 wr => ∃ (k : Nat) (acc : List Nat), k + g = N + 1 ∧ g ≠ 0 ∧ s20 = .int .i64 (k : Int) ∧ parseLines ls [] = parseLines (ls.drop k) acc ∧
        wr.ownsRow w.heap.size 5 1 s4 acc.length (acc.map fun (b : Nat) => .int .u8 (b : Int)) ∧ acc.length ≤ 9 * k ∧ (∀ b ∈ acc, b < 256) ∧ s4.ownBlock ≠ some (w.heap.size + 1) ∧
        wr.heap[w.heap.size + 1]? = some (.cells (ls.map Value.string).toArray 9 (0, 0)) ∧ Only [] w wr)
      case atStart =>
        refine ⟨0, [], by omega, by omega, rfl, rfl, ⟨rfl, Or.inr ⟨w.heap.size, 0, #[], rfl, Nat.le_refl _, ?_, Nat.le_refl _, Nat.zero_le _, rfl, rfl⟩⟩, by simp, by simp, by simp [Value.ownBlock], ?_, ?_⟩
        · rw [H1.out]; exact kept_alloc _ (alloc_new _ _)
        · rw [H1.out]; exact heap_alloc2_new _ _ _
        · rw [H1.out]; exact ((Only.refl _ _).alloc _).alloc _
      case round =>
        obtain ⟨k, acc, hkg, hg0, rfl, hpl, hown, hacc, hlt, hblk, hrow, hO⟩ := hrel
        obtain ⟨a4, c4, rfl⟩ := ownsRow_form hown
        have hLr : LaidAt wr := HA.out.1.only hO (by simp)
        have hzr := hO.size
        have hrl := lt_of_block hrow
        by_cases hk : k < N
        · obtain ⟨x, hx⟩ : ∃ x, ls[k]? = some x := ⟨_, List.getElem?_eq_getElem (by rw [HA.out.2.2.1]; exact hk)⟩
          have hki : (k : Int) < N := by omega
          have hdrop : ls.drop k = x :: ls.drop (k + 1) := by
            have hl : k < ls.length := by rw [HA.out.2.2.1]; exact hk
            rw [List.drop_eq_getElem_cons hl]; congr 1
            rw [List.getElem?_eq_getElem hl] at hx; simpa using hx
          have hxs : x.size ≤ 4096 := by have := HA.out.2.2.2.1 x (List.mem_of_getElem? hx); omega
          have c2 : wr.cell? ⟨w.heap.size + 1, k, none⟩ = some (.string x) := by simp [World.cell?, hrow, hx]
          have hord := order_any x hxs wr hLr
          rw [hdrop, parseLines] at hpl
          obtain ⟨hb9, h9, hne9⟩ := orderF_ok x.data.toList
          obtain ⟨⟨bs, e⟩, hbe⟩ : ∃ r, orderF x.data.toList = r := ⟨_, rfl⟩
          rw [hbe] at hpl hord hb9 h9 hne9
          simp only at hpl hord hb9 h9 hne9
          have HO := Lib.hid hord
          have HR := Lib.hid (And.intro hown (And.intro hblk (And.intro hrow (And.intro hO (And.intro hlt (And.intro hb9 hne9))))))
          clear hown hblk hrow hO hlt hord hx hdrop hxs hLr hbe hk hb9 hne9
          by_cases he : e = 0
          · subst he
            rw [if_neg (by simp)] at hpl
            have HP := Lib.hid hpl
            clear hpl
            go_wp2_with (first
              | (go_at_call 33; refine HO.out.mono ?_; rintro e w2 ⟨v7, rfl, h7, hO7⟩
                 (obtain ⟨n7, hn7⟩ : ∃ n7, bs.length = n7 + 1 := ⟨bs.length - 1, by have := List.length_pos_iff.2 (HR.out.2.2.2.2.2.2 rfl); omega⟩)
                 (rw [hn7] at h7)
                 (obtain ⟨g7, c7, rfl, hc71, hc72, hc73, hc74, hc75⟩ := own_blk h7)
                 (have H7 := Lib.hid (And.intro hn7 (And.intro hc73 (And.intro hc74 (And.intro hc75 hO7)))))
                 (have hz2 := hO7.size)
                 clear h7 hO7 hn7 hc71 hc72 hc73 hc74 hc75)
              | ((with_reducible refine wpList_app w.heap.size 5 (.int .u8 0) 1 1 Tryd.underlying22 ?_ ?_ ?_ (.slice a4 acc.length c4) acc.length (acc.map fun (b : Nat) => .int .u8 (b : Int)) ?_ ?_ ⟨g7, 0, none⟩ (n7 + 1) c7 (bs.map fun (b : Nat) => .int .u8 (b : Int)) ?_ ?_ ?_ ?_ ?_ ?_ ?_ ?_)
                 (· kernel_rfl); (· rfl); (· decide); (· rfl); (· exact ownsRow_kept HR.out.1 fun k _ hk => H7.out.2.2.2.2.block k hk (by simp)); (· rfl); (· have := H7.out.1; simp; omega)
                 (· (intro j u hu); (rw [Lib.add_plain, Nat.zero_add]); exact H7.out.2.2.2.1 j u hu)
                 (· simp [Value.oneCell']); (· have := H7.out.1; unfold maxLen; omega); (· have := H7.out.1; omega); (· omega)
                 (intro v6 w6 hown6 hgr6 hnil6 hblk6)
                 (have H6 := Lib.hid (And.intro hown6 (And.intro hgr6 hblk6)))
                 (clear hown6 hgr6 hnil6 hblk6)))
            go_roundg (gk - 1)
            case measure => omega
            case rel =>
              obtain ⟨h61, h62, h63⟩ := H6.out
              obtain ⟨hn7, h71, h72, h73, h74⟩ := H7.out
              obtain ⟨r1, r2, r3, r4, r5, r6, -⟩ := HR.out
              refine ⟨k + 1, acc ++ bs, by omega, by omega, by go_num, HP.out, ?_, ?_, ?_, ?_, ?_, ?_⟩
              · rw [List.length_append, hn7, List.map_append]; exact h61
              · rw [List.length_append]; omega
              · intro b hb
                rcases List.mem_append.1 hb with h | h
                · exact r5 b h
                · exact r6 b h
              · intro h
                rcases h63 with h' | h'
                · rw [h'] at h; exact r2 h
                · rw [h'] at h; simp at h; omega
              · exact (h62.block _ (by omega) (fun h => r2 h.symm)).trans (h74.keeps r3 (by simp))
              · exact (r4.trans h74 (by simp)).grown h62 fun g hg => Or.inl ((own_lt r1 hg).1)
          · rw [if_pos he] at hpl
            have e1 : parseF t = ([], e) := by
              rw [HA.out.2.1, hpl, if_pos (by simpa using he)]
            have E1 := Lib.hid e1
            have heb : ((e : Int) != 0) = true := by simp; omega
            clear e1 hpl he
            go_wp2_with (first
              | (go_at_call 33; refine HO.out.mono ?_; rintro e w2 ⟨v7, rfl, h7, hO7⟩; (obtain ⟨a7, c7, rfl⟩ := ownsRow_form h7); (have H7 := Lib.hid hO7); clear h7 hO7))
            refine bodyPost_ret (v := .tuple #[.slice none 0 0, .int .i64 (e : Int)]) (by simp [results, Tryd.results16, go_sem]) rfl ?_
            rw [E1.out]
            exact ⟨_, rfl, ⟨rfl, Or.inl ⟨rfl, rfl⟩⟩, HR.out.2.2.2.1.trans H7.out (by simp)⟩
        · have hki : ¬ (k : Int) < N := by omega
          have hkl : ls.drop k = [] := List.drop_eq_nil_of_le (by rw [HA.out.2.2.1]; omega)
          rw [hkl, parseLines] at hpl
          have e1 := HA.out.2.1
          rw [hpl] at e1
          rw [if_neg (by simp)] at e1
          simp only at e1
          have hchk := check_any acc.length (.slice a4 acc.length c4) (fun j => acc.getD j 0) wr (sl_own hown) (fun j => by
            rw [List.getD_eq_getElem?_getD]
            cases hj : acc[j]? with
            | none => simp
            | some b => exact hlt b (List.mem_of_getElem? hj)) hLr.forms hLr.size.1
          obtain ⟨c, hc⟩ : ∃ c, checkF acc.length (fun j => acc.getD j 0) = c := ⟨_, rfl⟩
          rw [hc] at e1 hchk
          have HR := Lib.hid (And.intro hown hO)
          have HK := Lib.hid hchk
          clear hown hblk hrow hO hlt hchk hkl hpl hLr hk hc
          by_cases h0 : c = 0
          · subst h0
            rw [if_neg (by simp)] at e1
            have E1 := Lib.hid e1
            clear e1
            go_wp2_with (go_at_call 18; refine HK.out.mono ?_; rintro e w2 ⟨rfl, hO2⟩; (have H2 := Lib.hid hO2); clear hO2)
            refine bodyPost_ret (v := .tuple #[.slice a4 acc.length c4, .int .i64 0]) (by simp [results, Tryd.results16, go_sem]) rfl ?_
            rw [E1.out]
            exact ⟨_, rfl, ownsRow_kept HR.out.1 fun k _ hk => H2.out.block k hk (by simp), HR.out.2.trans H2.out (by simp)⟩
          · rw [if_pos h0] at e1
            have E1 := Lib.hid e1
            have hcb : ((c : Int) != 0) = true := by simp; omega
            clear e1 h0
            go_wp2_with (go_at_call 18; refine HK.out.mono ?_; rintro e w2 ⟨rfl, hO2⟩; (have H2 := Lib.hid hO2); clear hO2)
            refine bodyPost_ret (v := .tuple #[.slice none 0 0, .int .i64 (c : Int)]) (by simp [results, Tryd.results16, go_sem]) rfl ?_
            rw [E1.out]
            exact ⟨_, rfl, ⟨rfl, Or.inl ⟨rfl, rfl⟩⟩, HR.out.2.trans H2.out (by simp)⟩
end Go.Proofs.YtfhhkapjpmfolaaDoor
