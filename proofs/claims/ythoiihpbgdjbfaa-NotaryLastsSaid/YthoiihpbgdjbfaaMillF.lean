/- mill: For, Lock. -/
import Derived.Test.YthoiihpbgdjbfaaMillE
namespace Go.Proofs.Ythoiihpbgdjbfaa
open Go.RowKit

theorem BytesAt.fresh {w : World} {v : Value} {n : Nat} {f : Nat → Int} {P P' : Nat} (h : BytesAt w v n f P) (hP : w.heap.size ≤ P') : BytesAt w v n f P' := by
  obtain ⟨a, cap, h1, h2, h3, h4, h5⟩ := h
  refine ⟨a, cap, h1, h2, h3, h4, ?_⟩
  rcases h5 with h5 | ⟨b, o, e, _, hlt, hc⟩
  · exact Or.inl h5
  · exact Or.inr ⟨b, o, e, by omega, hlt, hc⟩
theorem BytesAt.keep {w w' : World} {v : Value} {n : Nat} {f : Nat → Int} {P : Nat} (h : BytesAt w v n f P) (hO : Only [] w w') : BytesAt w' v n f P := h.only (hO.mono (by simp))
/-- A row of bytes in a block of its own. -/
theorem bytes_row {w : World} {b n e P : Nat} {f : Nat → Int} (h : w.heap[b]? = some (.cells (rowC .u8 n f) e (0, 0))) (hn : n ≤ 9223372036854775807) (hf : ∀ j, j < n → U8 (f j)) (hP : b ≠ P) : BytesAt w (.slice (some ⟨b, 0, none⟩) n n) n f P :=
  ⟨_, _, rfl, Nat.le_refl _, hn, hf, Or.inr ⟨b, 0, rfl, hP, lt_of_block h, fun j hj => by rw [Nat.zero_add]; exact row_cell h j hj⟩⟩
theorem heap_alloc3_new (w : World) (A B C : Obj) : (((w.alloc A).alloc B).alloc C).heap[w.heap.size + 2]? = some C := by
  have h := heap_alloc_last ((w.alloc A).alloc B) C
  simpa using h
theorem new_block {w1 w2 : World} {O : Obj} (h : Only [] w1 w2) : (w2.alloc O).heap[w2.heap.size]? = some O := heap_alloc_last _ _

def hdrF (domain : Int) (n : Nat) (j : Nat) : Int := if j = 0 then domain else n
/-- A mill behind a domain and k parts. -/
def forM (domain : Int) (n : Nat) (N : Nat → Nat) (F : Nat → Nat → Int) : Nat → MS
  | 0 => MS.new.feeds (hdrF domain n) 2
  | k + 1 => ((forM domain n N F k).feeds (fourF (N k)) 4).feeds (F k) (N k)
def forF (domain : Int) (n : Nat) (N : Nat → Nat) (F : Nat → Nat → Int) : Nat → Int := (forM domain n N F n).sum
theorem forM_long (domain : Int) (n : Nat) (N : Nat → Nat) (F : Nat → Nat → Int) : ∀ k, (forM domain n N F k).long = 2 + 4 * k + total N k
  | 0 => rfl
  | k + 1 => by rw [forM, feeds_long, feeds_long, forM_long domain n N F k, total]; omega
theorem hdrF_bd (domain : Int) (n : Nat) (hd : U8 domain) (hn : n < 256) (j : Nat) : U8 (hdrF domain n j) := by
  unfold hdrF; split
  · exact hd
  · exact ⟨by omega, by omega⟩
theorem forM_ok (domain : Int) (n : Nat) (N : Nat → Nat) (F : Nat → Nat → Int) (hd : U8 domain) (hn : n < 256) : ∀ k, (∀ i, i < k → N i ≤ 2147483648 ∧ ∀ j, j < N i → U8 (F i j)) → (forM domain n N F k).ok
  | 0, _ => feeds_ok _ _ new_ok _ fun j _ => hdrF_bd _ _ hd hn j
  | k + 1, h => feeds_ok _ _ (feeds_ok _ _ (forM_ok domain n N F hd hn k fun i hi => h i (by omega)) _ fun j _ => fourF_bd _ ⟨by omega, by have := (h k (by omega)).1; omega⟩ j) _ (h k (by omega)).2

set_option maxRecDepth 100000 in
set_option maxHeartbeats 1000000 in
theorem for_any (domain : Int) (b o n cap : Nat) (V : Nat → Value) (N : Nat → Nat) (F : Nat → Nat → Int) (w : World) (hd : U8 domain) (hn : n < 256)
    (hcell : ∀ i, i < n → w.cell? ⟨b, o + i, none⟩ = some (V i)) (hb : b < w.heap.size) (hV : ∀ i, i < n → BytesAt w (V i) (N i) (F i) w.heap.size) (hN : ∀ i, i < n → N i ≤ 2147483648) (hT : total N n ≤ 70368744177664) :
    Calls Try.prog 30 #[.int .u8 domain, .slice (some ⟨b, o, none⟩) n cap] w fun e w' => e = .returned (.agg (rowC .u8 32 (forF domain n N F))) ∧ Only [] w w' := by
  have HH := Lib.hid (And.intro hd (And.intro hcell (And.intro hV (And.intro hN hT))))
  clear hd hcell hV hN hT
  go_enter Try.func30, Try.ntmps30
  go_upto_region 2 with (go_at_call 37; refine (millnew_any _).mono ?_; rintro e w' ⟨rfl, rfl⟩)
  refine wp_name (fun W => W.heap[w.heap.size]? = some (.cells (rowC .u8 32 fun _ => 0) 87 (0, 0)) ∧ W.heap[w.heap.size + 1]? = some (.cells MS.new.cells 110 (0, 0)) ∧ Only [] w W)
    ⟨heap_alloc2_old _ _ _, heap_alloc2_new _ _ _, ((Only.refl _ _).alloc _).alloc _⟩ ?_
  intro w1 ⟨hD1, hP1, hO1⟩
  have hPlt := lt_of_block hP1
  have H1 := Lib.hid (And.intro hD1 (And.intro hP1 hO1))
  clear hD1 hP1 hO1
  have i0 : (n : Int) < 256 := by omega
  go_wp2_with fail
  refine calls_name (fun W => W.heap[w1.heap.size]? = some (.cells (rowC .u8 2 (hdrF domain n)) 5 (0, 0)) ∧ W.heap[w1.heap.size + 1]? = some (.cells #[.slice (some ⟨w1.heap.size, 0, none⟩) 2 2] 69 (0, 0)) ∧ Only [] w1 W)
    ⟨heap_alloc2_old _ _ _, heap_alloc2_new _ _ _, ((Only.refl _ _).alloc _).alloc _⟩ ?_
  intro w2 ⟨hA, hB, hO2⟩
  have hd := HH.out.1
  refine (write_any (w.heap.size + 1) (w1.heap.size + 1) 0 1 1 MS.new (fun _ => .slice (some ⟨w1.heap.size, 0, none⟩) 2 2) (fun _ => 2) (fun _ => hdrF domain n) w2 new_ok (hO2.keeps H1.out.2.1 (by simp))
    (fun i hi => by obtain rfl : i = 0 := by omega
                    exact cell_of_one hB) (fun i _ => bytes_row hA (by omega) (fun j _ => hdrF_bd _ _ hd hn j) (by omega)) (by omega) (lt_of_block hB) (by omega) (by show 0 + (0 + 2) ≤ _; omega)).mono ?_
  rintro e w3 ⟨rfl, hO3, hP3⟩
  have hO13 : Only [w.heap.size + 1] w1 w3 := (hO2.mono (by simp)).trans hO3 (by simp)
  have hP3' : w3.heap[w.heap.size + 1]? = some (.cells (forM domain n N F 0).cells 110 (0, 0)) := hP3
  have hD3 := hO13.keeps H1.out.1 (by simp)
  have hO03 : Only [] w w3 := H1.out.2.2.trans hO13 (by intro x hx hlt; simp at hx; omega)
  have H3 := Lib.hid (And.intro hP3' (And.intro hD3 hO03))
  clear hA hB hO2 hd hO3 hP3 hO13 hP3' hD3 hO03 H1
  go_wp2_with fail
  go_loopw [19] (fun i wr => ∃ k : Nat, k ≤ n ∧ i = .int .i64 k ∧ wr.heap[w.heap.size + 1]? = some (.cells (forM domain n N F k).cells 110 (0, 0)) ∧ wr.heap[w.heap.size]? = some (.cells (rowC .u8 32 fun _ => 0) 87 (0, 0)) ∧ Only [] w wr) (fun i _ => n - (intOf i).toNat)
  case atStart => exact ⟨0, by omega, rfl, H3.out⟩
  case round =>
    obtain ⟨k, hk, rfl, hP, hD, hO⟩ := hrel
    by_cases hlt : k < n
    · obtain ⟨hd, hcell, hV, hN, hT⟩ := HH.out
      have hv := ((hV k hlt).fresh (P' := w.heap.size + 1) (by omega)).keep hO
      have hNk := hN k hlt
      have hPw := lt_of_block hP
      have hok := forM_ok domain n N F hd hn k (fun i hi => ⟨hN i (by omega), (hV i (by omega)).u8⟩)
      have hlong := forM_long domain n N F k
      have htot := total_mono N (k + 1) (n - (k + 1))
      rw [show k + 1 + (n - (k + 1)) = n by omega, total] at htot
      have c0 : wr.cell? ⟨b, o + k, none⟩ = some (V k) := (hO.cell (p := ⟨b, o + k, none⟩) hb (by simp)).trans (hcell k hlt)
      obtain ⟨a, cp, hve, _⟩ := id hv
      rw [hve] at c0
      have i1 : (0 : Int) ≤ (N k : Int) := by omega
      have i2 : (N k : Int) < 4294967296 := by omega
      have HI := Lib.hid (And.intro hP (And.intro hD (And.intro hO (And.intro hv (And.intro hve (And.intro hok (And.intro hlong (And.intro htot (And.intro hNk hT)))))))))
      clear hP hD hO hv hve hok hlong htot hNk hT hd hcell hV hN
      go_wp2_with (go_at_call 39; refine (four_row _ _ i1 i2).mono ?_; rintro e w' ⟨rfl, rfl⟩)
      refine calls_name (fun W => W.heap[wr.heap.size]? = some (.cells (rowC .u8 4 (fourF (N k))) 5 (0, 0)) ∧ W.heap[wr.heap.size + 1]? = some (.cells #[.slice (some ⟨wr.heap.size, 0, none⟩) 4 4, .slice a (N k) cp] 69 (0, 0)) ∧ Only [] wr W)
        ⟨heap_alloc2_old _ _ _, heap_alloc2_new _ _ _, ((Only.refl _ _).alloc _).alloc _⟩ ?_
      intro w4 ⟨hA, hB, hO4⟩
      obtain ⟨hP, hD, hO, hv, hve, hok, hlong, htot, hNk, hT⟩ := HI.out
      refine (write_any (w.heap.size + 1) (wr.heap.size + 1) 0 2 2 (forM domain n N F k) (fun i => if i = 0 then .slice (some ⟨wr.heap.size, 0, none⟩) 4 4 else V k) (fun i => if i = 0 then 4 else N k) (fun i => if i = 0 then fourF (N k) else F k) w4 hok (hO4.keeps hP (by simp))
        ?_ ?_ (by omega) (lt_of_block hB) (by omega) (by show _ + (0 + 4 + N k) ≤ _; omega)).mono ?_
      · intro i hi
        rw [Nat.zero_add, cell_of_row w4 _ i _ _ _ hB]
        have : i = 0 ∨ i = 1 := by omega
        rcases this with rfl | rfl
        · rfl
        · rw [hve]; rfl
      · intro i hi
        have : i = 0 ∨ i = 1 := by omega
        rcases this with rfl | rfl
        · exact bytes_row hA (by omega) (fun j _ => fourF_bd _ ⟨i1, i2⟩ j) (by omega)
        · exact hv.keep hO4
      · rintro e w5 ⟨rfl, hO5, hP5⟩
        have hO45 : Only [w.heap.size + 1] wr w5 := (hO4.mono (by simp)).trans hO5 (by simp)
        have hP5' : w5.heap[w.heap.size + 1]? = some (.cells (forM domain n N F (k + 1)).cells 110 (0, 0)) := hP5
        have H5 := Lib.hid (And.intro hP5' (And.intro (hO45.keeps hD (by simp)) (hO.trans hO45 (by intro x hx hlt; simp at hx; omega) : Only [] w w5)))
        clear hA hB hO4 hP hD hO hv hve hok hlong htot hNk hT hO5 hP5 hO45 hP5'
        go_wp2_with fail
        go_roundw
        case rel => exact ⟨k + 1, by omega, by go_num, H5.out⟩
        case measure => simp [intOf]; omega
    · obtain rfl : k = n := by omega
      have H6 := Lib.hid (And.intro hP (And.intro hD hO))
      clear hP hD hO
      go_wp2_with fail
      obtain ⟨hd, hcell, hV, hN, hT⟩ := HH.out
      refine (sum_any (w.heap.size + 1) (forM domain k N F k) wr (forM_ok domain k N F hd hn k (fun i hi => ⟨hN i hi, (hV i hi).u8⟩)) H6.out.1 (by rw [forM_long]; omega)).mono ?_
      rintro e w6 ⟨rfl, hO6⟩
      have hD6 := hO6.keeps H6.out.2.1 (by simp)
      have H7 := Lib.hid (And.intro hD6 ((H6.out.2.2.trans hO6 (by simp)).setRow w.heap.size (rowC .u8 32 (forF domain k N F)) (Or.inl (Nat.le_refl _))))
      clear hD6 hO6 hd hcell hV hN hT
      go_wp2_with ((with_reducible refine wpList_store_at w.heap.size 87 (rowC .u8 32 fun _ => 0) (rowC .u8 32 (forF domain k N F)) H7.out.1 ?_ ?_ ?_ ?_ (rowC_one _ _ _) ?_); (· rfl); (· rfl); (· rw [rowC_size]; kernel_rfl); (· rw [rowC_size, rowC_size]))
      exact bodyPost_ret (v := .agg (rowC .u8 32 (forF domain k N F))) (results_cell_row rfl _ _ w.heap.size 87 (rowC .u8 32 (forF domain k N F)) (0, 0) _ rfl (setRow_heap _ _ _ _ _ _ H7.out.1) Try.underlying87 rfl (by rw [rowC_size]; kernel_rfl)) rfl ⟨rfl, H7.out.2⟩

/-- What a secret is known by. -/
def lockF (s : Nat → Int) : Nat → Int := forF 6 1 (fun _ => 32) (fun _ => s)

set_option maxRecDepth 100000 in
set_option maxHeartbeats 1000000 in
theorem lock_any (s : Nat → Int) (hs : ∀ j, j < 32 → U8 (s j)) (w : World) :
    Calls Try.prog 22 #[.agg (rowC .u8 32 s)] w fun e w' => e = .returned (.agg (rowC .u8 32 (lockF s))) ∧ Only [] w w' := by
  go_enter Try.func22, Try.ntmps22
  go_wp2_with fail
  refine calls_name (fun W => W.heap[w.heap.size]? = some (.cells (rowC .u8 32 s) 46 (0, 0)) ∧ W.heap[w.heap.size + 1]? = some (.cells (rowC .u8 32 fun _ => 0) 53 (0, 0)) ∧
      W.heap[w.heap.size + 2]? = some (.cells #[.slice (some ⟨w.heap.size, 0, none⟩) 32 32] 69 (0, 0)) ∧ Only [] w W)
    ⟨?_, ?_, ?_, (((Only.refl _ _).alloc _).alloc _).alloc _⟩ ?_
  · rw [Below.heap_alloc _ _ _ (by simp; omega)]; exact heap_alloc2_old _ _ _
  · rw [Below.heap_alloc _ _ _ (by simp)]; exact heap_alloc2_new _ _ _
  · exact heap_alloc3_new _ _ _ _
  intro w1 ⟨hA, hR, hB, hO⟩
  refine (for_any 6 (w.heap.size + 2) 0 1 1 (fun _ => .slice (some ⟨w.heap.size, 0, none⟩) 32 32) (fun _ => 32) (fun _ => s) w1 ⟨by decide, by decide⟩ (by omega)
    (fun i hi => by obtain rfl : i = 0 := by omega
                    exact cell_of_one hB) (lt_of_block hB) (fun i _ => bytes_row hA (by omega) hs (by have := lt_of_block hA; omega)) (fun _ _ => by omega) (by show 0 + 32 ≤ _; omega)).mono ?_
  rintro e w2 ⟨rfl, hO2⟩
  have hR2 := hO2.keeps hR (by simp)
  have H := Lib.hid (And.intro hR2 ((hO.trans hO2 (by simp)).setRow (w.heap.size + 1) (rowC .u8 32 (lockF s)) (Or.inl (by omega))))
  clear hA hR hB hO hO2 hR2
  go_wp2_with ((with_reducible refine wpList_store_at (w.heap.size + 1) 53 (rowC .u8 32 fun _ => 0) (rowC .u8 32 (lockF s)) H.out.1 ?_ ?_ ?_ ?_ (rowC_one _ _ _) ?_); (· rfl); (· rfl); (· rw [rowC_size]; kernel_rfl); (· rw [rowC_size, rowC_size]))
  exact bodyPost_ret (v := .agg (rowC .u8 32 (lockF s))) (results_cell_row rfl _ _ (w.heap.size + 1) 53 (rowC .u8 32 (lockF s)) (0, 0) _ rfl (setRow_heap _ _ _ _ _ _ H.out.1) Try.underlying53 rfl (by rw [rowC_size]; kernel_rfl)) rfl ⟨rfl, H.out.2⟩
end Go.Proofs.Ythoiihpbgdjbfaa
