/- law 10: NotaryLasts, the row: for every input the law answers true and leaves what it was given as it was. -/
import Derived.Test.YthoiihpbgdjbfaaRows
import Derived.Test.YthoiihpbgdjbfaaNotaryF
import Derived.ProofKit
namespace Go.Proofs.Ythoiihpbgdjbfaa
open Go.ChangeShapes Go.WideShapes Go.ChangeAt Go.RowKit Go.Deep

theorem Try.own : ownKnob Try.prog.godebug = none := by kernel_rfl
theorem u8_of_wf {x : Int} (h : (Lit.int .u8 x).wf = true) : U8 x := by have := bounds_u8 h; exact ⟨this.1, by omega⟩

/-- A payment, opened. -/
theorem cond_of_trod {H : Type} {enc : TypeId × Value → H} {w : World} {fuel : Nat} {cs : List Value} {x : DataW H × List MemPlace}
    (h : DataW.trod enc Try.prog w 0 (fun _ => true) true fuel 56 cs = some x) : ∃ c : CD, cs = c.cells.toList ∧ c.ok := by
  obtain ⟨xs, m, _, _, hlen, hxl, hx⟩ := DataW.trod_struct Try.underlying56 h
  rw [show Try.prog.cellsOf 56 = 36 by kernel_rfl] at hlen
  have c24 : Try.prog.cellsOf 24 = 1 := by kernel_rfl
  have c3 : Try.prog.cellsOf 3 = 1 := by kernel_rfl
  have c35 : Try.prog.cellsOf 35 = 32 := by kernel_rfl
  have c5 : Try.prog.cellsOf 5 = 1 := by kernel_rfl
  have f0 : DataW.trod enc Try.prog w 0 (fun _ => true) true m 24 ((cs.drop 0).take (Try.prog.cellsOf 24)) = xs[0]? := hx 0 _ rfl
  have f1 : DataW.trod enc Try.prog w 0 (fun _ => true) true m 3 ((cs.drop 1).take (Try.prog.cellsOf 3)) = xs[1]? := hx 1 _ rfl
  have f2 : DataW.trod enc Try.prog w 0 (fun _ => true) true m 24 ((cs.drop 2).take (Try.prog.cellsOf 24)) = xs[2]? := hx 2 _ rfl
  have f3 : DataW.trod enc Try.prog w 0 (fun _ => true) true m 35 ((cs.drop 3).take (Try.prog.cellsOf 35)) = xs[3]? := hx 3 _ rfl
  have f4 : DataW.trod enc Try.prog w 0 (fun _ => true) true m 24 ((cs.drop 35).take (Try.prog.cellsOf 24)) = xs[4]? := hx 4 _ rfl
  rw [c24] at f0 f2 f4
  rw [c3] at f1
  rw [c35] at f3
  rw [List.drop_zero] at f0
  have hsz : xs.length = 5 := hxl
  rw [List.getElem?_eq_getElem (by omega)] at f0 f1 f2 f3 f4
  obtain ⟨z0, e0, _, w0⟩ := DataW.trod_int Try.underlying24 f0
  obtain ⟨z1, e1, _, w1⟩ := DataW.trod_int Try.underlying3 f1
  obtain ⟨z2, e2, _, w2⟩ := DataW.trod_int Try.underlying24 f2
  obtain ⟨f, e3, w3⟩ := nums_of_trod Try.underlying35 Try.underlying5 c5 c35 f3
  obtain ⟨z4, e4, _, w4⟩ := DataW.trod_int Try.underlying24 f4
  refine ⟨⟨z0, z1, z2, f, z4⟩, ?_, fun j hj => u8_of_wf (w3 j hj), ?_⟩
  · show cs = (condC z0 z1 z2 f z4).toList
    have g : ∀ (n k : Nat) (l : List Value), (cs.drop n).take k = l → cs.drop n = l ++ cs.drop (n + k) := fun n k l h => by
      rw [← h, ← List.drop_drop]; exact (List.take_append_drop k (cs.drop n)).symm
    have h0 := g 0 1 _ (by simpa using e0)
    have h1 := g 1 1 _ e1
    have h2 := g 2 1 _ e2
    have h3 := g 3 32 _ e3
    have h4 := g 35 1 _ e4
    rw [List.drop_zero] at h0
    rw [h0, h1, h2, h3, h4, List.drop_eq_nil_of_le (by omega)]
    simp [condC]
  · have := bounds_u64 w4
    exact ⟨this.1, show z4 < 18446744073709551616 by omega⟩

set_option maxRecDepth 100000 in
theorem lasts_lifted (os : Os) (started : os.Started) (H : Type) (enc : TypeId × Value → H) :
    ReturnsInHanded {} Try.checked os 4 .any (Rows.notaryLastsSpec.pre6 enc Try.prog Try.f4 Rows.notaryLastsRow.domain false) (Rows.notaryLastsSpec.post enc Try.prog Try.f4 false true false false) := by
  refine returnsInHanded_of_change (C := Try.checked) Try.own started (by kernel_rfl) Try.func4
    (ChangeSpec.witness6 (enc := enc) (C := Try.checked) false ⟨#[], #[.slice none 0 0, .slice none 0 0, .slice none 0 0], []⟩ 8 (by kernel_rfl) (by kernel_rfl) (by kernel_rfl) (by kernel_rfl)) ?_
  intro W base args ds gs before hval0 hW hcnd _
  have hval : ∀ (j : Nat) t v, Try.f4.params[j]? = some t → args[j]? = some v → Value.okWide Try.prog W .any base t v := hval0
  have hW' := hW
  obtain ⟨p, q, hA0, hV, rfl, hfz, hnd⟩ := hW
  have hA : DataW.TrodAll enc Try.prog W 0 (fun _ => true) true Try.f4.params.toList args.toList ds p := hA0
  rw [Try.params4] at hA hval
  obtain ⟨v0, v1, v2, d0, d1, d2, p0, p1, p2, rfl, rfl, rfl, h0, h1, h2⟩ := trodAll_three hA
  obtain ⟨rfl, rfl⟩ := trodVars_none hV
  have s0 := okWide_slice Try.underlying51 (hval 0 51 v0 rfl rfl)
  have s1 := okWide_slice Try.underlying69 (hval 1 69 v1 rfl rfl)
  have s2 := okWide_slice Try.underlying23 (hval 2 23 v2 rfl rfl)
  have c35 : Try.prog.cellsOf 35 = 32 := by kernel_rfl
  have c5 : Try.prog.cellsOf 5 = 1 := by kernel_rfl
  obtain ⟨n0, R0, r0, t0⟩ := rows_of_trod Try.underlying51 c35 (by omega) s0 h0
  obtain ⟨n1, R1, r1, t1⟩ := rows_of_trod Try.underlying69 c5 (by omega) s1 h1
  obtain ⟨n2, R2, r2, t2⟩ := rows_of_trod Try.underlying23 (show Try.prog.cellsOf 56 = 36 by kernel_rfl) (by omega) s2 h2
  obtain ⟨SEC, hSEC⟩ := byte_rows Try.underlying35 Try.underlying5 c5 c35 fun j hj => (t0 j hj).2
  obtain ⟨ST, hST⟩ := choose_lt (α := Int) (p := fun j z => R1 j = [.int .u8 z] ∧ U8 z) fun j hj => by
    obtain ⟨fuel, x, hx⟩ := (t1 j hj).2
    obtain ⟨z, hz, _, hw⟩ := DataW.trod_int Try.underlying5 hx
    exact ⟨z, hz, u8_of_wf hw⟩
  haveI : Inhabited CD := ⟨⟨0, 0, 0, fun _ => 0, 0⟩⟩
  obtain ⟨C, hC⟩ := choose_lt (α := CD) (p := fun j c => R2 j = c.cells.toList ∧ c.ok) fun j hj => by
    obtain ⟨fuel, x, hx⟩ := (t2 j hj).2
    exact cond_of_trod hx
  clear hA0 hval0
  simp only [List.append_nil] at hW'
  have hlt : ∀ x ∈ p0 ++ p1 ++ p2, x.block < W.heap.size := fun x hx => hW'.lt x hx
  refine (lasts_any v0 v1 v2 n0 n1 n2 SEC ST C W (r0.congr fun j hj => (hSEC j hj).1) (fun j hj i hi => u8_of_wf ((hSEC j hj).2 i hi))
    (r1.congr fun j hj => (hST j hj).1) (fun j hj => (hST j hj).2) (r2.congr fun j hj => (hC j hj).1) (fun j hj => (hC j hj).2)).mono fun e W' ⟨he, hO⟩ => ?_
  subst he
  have hB := hO.to_below
  have again : ∀ {t : TypeId} {v : Value} {d : DataW H} {ps : List MemPlace}, Try.prog.readableRec t = true → t < Try.prog.types.size → DataW.Trod enc Try.prog W 0 (fun _ => true) true t v d ps → (∀ x ∈ ps, x.block < W.heap.size) →
      DataW.Trod enc Try.prog W' 0 (fun b => decide (b < W.heap.size)) true t v d ps := fun hr ht h hl => Below.trod Try.laidOut hr ht h hB hl
  refine ⟨_, rfl, _, _, _, [], p0 ++ (p1 ++ p2), [], hW', ?_, ?_, rfl, hB.frame _, fun h => by cases h⟩
  · exact trodAll_mk1 (shut_bool Try.underlying4 _)
  · exact trodAll_mk3 (again (by kernel_rfl) (of_decide_eq_true (by kernel_rfl)) h0 fun x hx => hlt x (by simp [hx]))
      (again (by kernel_rfl) (of_decide_eq_true (by kernel_rfl)) h1 fun x hx => hlt x (by simp [hx])) (again (by kernel_rfl) (of_decide_eq_true (by kernel_rfl)) h2 fun x hx => hlt x (by simp [hx]))

theorem notaryLasts_holds : Rows.NotaryLastsSaid :=
  OpenClaim.holds_of_wide 4 Try.f4 rfl rfl rfl rfl rfl rfl rfl ⟨rfl, rfl, rfl, rfl, rfl⟩ rfl rfl rfl rfl rfl (by kernel_rfl) Try.func4 (by kernel_rfl)
    (of_decide_eq_true (by kernel_rfl)) (by unfold Func.isWrapper; first | (rw [if_pos (by decide +kernel)]; kernel_rfl) | (rw [if_neg (by decide +kernel)]; exact ⟨rfl, rfl⟩))
    (fun os started H enc _ => lasts_lifted os started H enc)
#print axioms notaryLasts_holds
end Go.Proofs.Ythoiihpbgdjbfaa
