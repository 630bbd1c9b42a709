/- law 10: To, awake. -/
import Derived.Test.YthoiihpbgdjbfaaNotaryD
namespace Go.Proofs.Ythoiihpbgdjbfaa
open Go.RowKit
open Go.Maps (Keyed)

section
variable {P : Program}
theorem wpList_load_g {ops : Array Oper} {rest : List Oper} {dst : Option Nat} {ty0 : TypeId} {pos : String} {after : _} {g : _} {a : Act} {w : World} {Q : Exit → Act → World → Prop} {ty : TypeId} {x : Operand}
    (b o : Nat) (cells : Array Value) (d : TypeDesc) (hc : w.rangeAt b o cells.toList) (hw : Region.wanted (⟨dst, .load ty x, ty0, pos, after, g⟩ : Oper) (yielded ops a.tmps) = true) (hx : a.eval x = .pointer (some ⟨b, o, none⟩))
    (hu : P.underlying ty = some d) (hd : d.isRow = true) (hi : (P.info? ty).map (·.size) = some cells.size)
    (h : wpList P ops Q rest (a.put dst (.agg cells)) w) : wpList P ops Q ((⟨dst, .load ty x, ty0, pos, after, g⟩ : Oper) :: rest) a w :=
  wpList_step fun K hK => by
    rw [if_pos hw]
    exact wp_load_mid ty x rfl b o hx cells.toList d hc hu hd (by simpa using hi) (by simpa using hK _ _ h)
end

def oneF (j : Nat) : Int := if j = 0 then 1 else 0
theorem oneF_bd (j : Nat) (_ : j < 32) : U8 (oneF j) := by
  unfold oneF; split
  · exact ⟨by decide, by decide⟩
  · exact ⟨by decide, by decide⟩
theorem condC_0 (id by_ amount : Int) (h : Nat → Int) (expiry : Int) : (condC id by_ amount h expiry)[0]? = some (.int .u64 id) := by
  unfold condC
  rw [Array.getElem?_append_left (by simp [rowC_size]), Array.getElem?_append_left (by simp)]; rfl
theorem condC_1 (id by_ amount : Int) (h : Nat → Int) (expiry : Int) : (condC id by_ amount h expiry)[1]? = some (.int .i64 by_) := by
  unfold condC
  rw [Array.getElem?_append_left (by simp [rowC_size]), Array.getElem?_append_left (by simp)]; rfl
theorem condC_2 (id by_ amount : Int) (h : Nat → Int) (expiry : Int) : (condC id by_ amount h expiry)[2]? = some (.int .u64 amount) := by
  unfold condC
  rw [Array.getElem?_append_left (by simp [rowC_size]), Array.getElem?_append_left (by simp)]; rfl
theorem condC_all {w : World} {b : Nat} {id by_ amount : Int} {h : Nat → Int} {expiry : Int} {t : TypeId} {fr : Nat × Nat} (hb : w.heap[b]? = some (.cells (condC id by_ amount h expiry) t fr)) : w.rangeAt b 0 (condC id by_ amount h expiry).toList := fun j v hv => by
  rw [Nat.zero_add, cell_of_row w b j _ _ _ hb, ← Array.getElem?_toList]; exact hv

theorem condC_one (id by_ amount : Int) (h : Nat → Int) (expiry : Int) : (condC id by_ amount h expiry).all (·.oneCell') = true := by
  rw [Array.all_eq_true_iff_forall_mem]
  intro v hv
  unfold condC at hv
  rcases Array.mem_append.1 hv with hv | hv
  · rcases Array.mem_append.1 hv with hv | hv
    · simp at hv; rcases hv with rfl | rfl | rfl <;> rfl
    · have := rowC_one .u8 32 h
      rw [Array.all_eq_true_iff_forall_mem] at this
      exact this v hv
  · simp at hv; subst hv; rfl

set_option maxRecDepth 100000 in
set_option maxHeartbeats 1000000 in
theorem l10to_any (id by_ amount : Int) (h : Nat → Int) (expiry : Int) (w : World) :
    Calls Try.prog 15 #[.agg (condC id by_ amount h expiry)] w fun e w' => e = .returned (.agg (condC id by_ amount h expiry)) ∧ Only [] w w' := by
  go_enter Try.func15, Try.ntmps15
  go_upto_region 1 with (fail)
  refine wp_name (fun W => W.heap[w.heap.size]? = some (.cells (condC id by_ amount h expiry) 56 (0, 0)) ∧ W.heap[w.heap.size + 1]? = some (.cells (condC 0 0 0 (fun _ => 0) 0) 59 (0, 0)) ∧ Only [] w W)
    ⟨heap_alloc2_old _ _ _, heap_alloc2_new _ _ _, ((Only.refl _ _).alloc _).alloc _⟩ ?_
  intro w1 ⟨hA, hB, hO⟩
  have c0 : w1.cell? ⟨w.heap.size, 0, none⟩ = some (.int .u64 id) := by rw [cell_of_row w1 _ 0 _ _ _ hA, condC_0]
  have c1 : w1.cell? ⟨w.heap.size, 1, none⟩ = some (.int .i64 by_) := by rw [cell_of_row w1 _ 1 _ _ _ hA, condC_1]
  have c2 : w1.cell? ⟨w.heap.size, 2, none⟩ = some (.int .u64 amount) := by rw [cell_of_row w1 _ 2 _ _ _ hA, condC_2]
  have c35 : w1.cell? ⟨w.heap.size, 35, none⟩ = some (.int .u64 expiry) := by rw [cell_of_row w1 _ 35 _ _ _ hA, condC_expiry]
  have HR := Lib.hid (condC_range hA)
  have H := Lib.hid (And.intro hB hO)
  clear hA hB hO
  go_wp2_with (first
    | ((with_reducible refine wpList_load_part w.heap.size 3 (rowC .u8 32 h) _ HR.out ?_ Try.underlying35 ?_ ?_ ?_); (· rfl); (· rfl); (· rw [rowC_size]; kernel_rfl))
    | ((with_reducible refine wpList_build_to (condC id by_ amount h expiry) ?_ ?_); (· kernel_rfl))
    | ((with_reducible refine wpList_store_at (w.heap.size + 1) 59 (condC 0 0 0 (fun _ => 0) 0) (condC id by_ amount h expiry) H.out.1 ?_ ?_ ?_ ?_ (condC_one _ _ _ _ _) ?_); (· rfl); (· rfl); (· rw [condC_size]; kernel_rfl); (· rw [condC_size, condC_size])))
  exact bodyPost_ret (v := .agg (condC id by_ amount h expiry)) (results_cell_row rfl _ _ (w.heap.size + 1) 59 (condC id by_ amount h expiry) (0, 0) _ rfl (setRow_heap _ _ _ _ _ _ H.out.1) Try.underlying59 rfl (by rw [condC_size]; kernel_rfl)) rfl ⟨rfl, H.out.2.setRow _ _ (Or.inl (by omega))⟩

set_option maxRecDepth 100000 in
set_option maxHeartbeats 1000000 in
theorem l10awake_any (w : World) : Calls Try.prog 5 #[] w fun e w' => e = .returned (.bool true) ∧ Only [] w w' := by
  go_enter Try.func5, Try.ntmps5
  go_wp2_with fail
  refine (nnew_any w).mono ?_
  rintro e w1 ⟨N, M, rfl, hN, hO, hNn, hMn⟩
  have H := Lib.hid (And.intro hN (And.intro hO (And.intro hNn hMn)))
  clear hN hO hNn hMn
  go_wp2_with ((with_reducible refine wpList_build_to (t := 46) (rowC .u8 32 oneF) ?_ ?_); (· kernel_rfl))
  refine (tell_any N M [] oneF oneF_bd 6 (by decide) (by decide) w1 H.out.1).mono ?_
  rintro e w2 ⟨hd, hO2⟩
  have hd2 : e = .returned (.int .i64 0) ∧ IsNotary w2 N M [(lockF oneF, oneF, 6)] := by
    rcases hd with ⟨h1, _⟩ | ⟨_, h2, h3⟩
    · cases h1
    · exact ⟨h2, h3⟩
  obtain ⟨rfl, hN2⟩ := hd2
  have hO02 : Only [M] w w2 := (H.out.2.1.mono (by simp)).trans hO2 (by simp)
  have H2 := Lib.hid (And.intro hN2 hO02)
  clear hd hO2 hN2 hO02
  go_upto_region 4 with (first
    | ((with_reducible refine wpList_build_to (t := 46) (rowC .u8 32 oneF) ?_ ?_); (· kernel_rfl))
    | (go_at_call 22; refine (lock_any oneF oneF_bd _).mono ?_; rintro e w3 ⟨rfl, hO3⟩; (have HO3 := Lib.hid hO3); clear hO3)
    | ((with_reducible refine wpList_build_to (t := 59) (condC 0 0 0 (lockF oneF) 5) ?_ ?_); (· kernel_rfl))
    | ((with_reducible refine wpList_store_new (condC 0 0 0 (lockF oneF) 5) ?_ ?_ ?_ ?_ (condC_one _ _ _ _ _) ?_); (· rfl); (· rfl); (· rw [condC_size]; kernel_rfl); (· rw [condC_size]; kernel_rfl)))
  refine wp_name (fun W => W.heap[w3.heap.size]? = some (.cells (condC 0 0 0 (lockF oneF) 5) 59 (0, 0)) ∧ Only [] w3 W) ⟨heap_alloc_last _ _, (Only.refl _ _).alloc _⟩ ?_
  intro w4 ⟨hC, hO4⟩
  have hO24 := HO3.out.trans hO4 (by simp)
  have hN4 := H2.out.1.only hO24 (by simp) (by simp)
  have e5 : ofB [(lockF oneF, oneF, 6)] (lockF oneF) 5 5 = 0 := by simp [ofB, inB, bget, bgetD]
  have e6 : ofB [(lockF oneF, oneF, 6)] (lockF oneF) 5 6 = 2 := by simp [ofB, inB, bget, bgetD]
  have HR := Lib.hid (condC_all hC)
  have hC5 := of_np (.pointer (some ⟨N, 0, none⟩)) [(lockF oneF, oneF, 6)] 0 0 0 (lockF oneF) (lockF_bd _ oneF_bd) 5 5 w4 (Or.inr ⟨N, M, rfl, hN4⟩)
  rw [e5] at hC5
  have HC5 := Lib.hid hC5
  clear hC5
  have H4 := Lib.hid (And.intro hC (And.intro hN4 (And.intro (H2.out.2.trans hO24 (by simp) : Only [M] w w4) e6)))
  clear hC hO4 hO24 hN4 e5 e6
  go_wp2_with (first
    | ((with_reducible refine wpList_load_g w3.heap.size 0 (condC 0 0 0 (lockF oneF) 5) _ HR.out ?_ ?_ Try.underlying59 ?_ ?_ ?_); (· rfl); (· rfl); (· rfl); (· rw [condC_size]; kernel_rfl)))
  refine HC5.out.mono ?_
  rintro e w5 ⟨rfl, hO5⟩
  have hN5 := H4.out.2.1.only hO5 (by simp) (by simp)
  have hC5 := hO5.keeps H4.out.1 (by simp)
  have HR5 := Lib.hid (condC_all hC5)
  have hC6 := of_np (.pointer (some ⟨N, 0, none⟩)) [(lockF oneF, oneF, 6)] 0 0 0 (lockF oneF) (lockF_bd _ oneF_bd) 5 6 w5 (Or.inr ⟨N, M, rfl, hN5⟩)
  rw [H4.out.2.2.2] at hC6
  have HC6 := Lib.hid hC6
  have H5 := Lib.hid (And.intro hN5 (H4.out.2.2.1.trans hO5 (by simp)))
  clear hC6 hN5 hC5 hO5
  go_wp2_with (first
    | ((with_reducible refine wpList_load_g w3.heap.size 0 (condC 0 0 0 (lockF oneF) 5) _ HR5.out ?_ ?_ Try.underlying59 ?_ ?_ ?_); (· rfl); (· rfl); (· rfl); (· rw [condC_size]; kernel_rfl)))
  refine HC6.out.mono ?_
  rintro e w6 ⟨rfl, hO6⟩
  have hN6 := H5.out.1.only hO6 (by simp) (by simp)
  have HM := Lib.hid (many_any N M [(lockF oneF, oneF, 6)] w6 hN6)
  have H6 := Lib.hid (H5.out.2.trans hO6 (by simp))
  clear hO6 hN6
  go_wp2_with fail
  refine HM.out.mono ?_
  rintro e w7 ⟨rfl, rfl⟩
  go_wp2_with fail
  go_ret
  have hall : Only [] w w6 := ⟨H6.out.os, H6.out.tape, H6.out.output, H6.out.size, fun k hk _ => H6.out.block k hk (by simp; have := H.out.2.2.2; omega)⟩
  exact ⟨rfl, hall⟩
end Go.Proofs.Ythoiihpbgdjbfaa
