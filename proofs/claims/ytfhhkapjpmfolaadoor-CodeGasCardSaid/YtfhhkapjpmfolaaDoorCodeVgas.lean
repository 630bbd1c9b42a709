/- law 11, CodeGas: for every input the law answers true and leaves what it was given as it was; the listed variables tied to the program's text. No condition of its own. -/
import Derived.Test.YtfhhkapjpmfolaaDoorCodeU
import Derived.Test.YtfhhkapjpmfolaaDoorCodeW
import Derived.Test.YtfhhkapjpmfolaaDoorCards
namespace Go.Proofs.YtfhhkapjpmfolaaDoor
open Go.ChangeShapes Go.WideShapes Go.ChangeAt Go.RowKit Go.Deep
open Go.ChangeMaps (open_string shut_string)

set_option maxRecDepth 100000 in
theorem gas_lifted (os : Os) (started : os.Started) (H : Type) (enc : TypeId × Value → H) :
    ReturnsInHanded {} Tryd.checked os 4 .any (fun w args => (Rows.codeGasSpec.pre enc Tryd.prog Tryd.f4 Rows.codeGasRow.domain false w args ∧ laidMetH Tryd.prog laid8 w) ∧ sizedMet enc Tryd.prog Tryd.f4 (OpenSpec.ofChange Rows.codeGasSpec) false w args)
      (Rows.codeGasSpec.post enc Tryd.prog Tryd.f4 false true false false) := by
  refine wrap_and_shaped (C := Tryd.checked) (X := fun w _ => laidMetH Tryd.prog laid8 w) (fun _ _ _ hh h => h.of_heap hh) Tryd.own started (by kernel_rfl) Tryd.func4
    (ChangeSpec.witness_at (enc := enc) (C := Tryd.checked) (os := os) (X := fun w _ => laidMetH Tryd.prog laid8 w) false (laidWorld os) #[.slice none 0 0, .agg #[.slice none 0 0, .slice none 0 0, .int .u64 0], .int .u16 0, .int .u16 0] 8 rfl (by kernel_rfl) (by kernel_rfl) (by kernel_rfl) (by kernel_rfl) (by kernel_rfl) (laid8_met os _)) ?_
  intro W base args ds gs before hval0 hW _ hL hsh
  have hval : ∀ (j : Nat) t v, Tryd.f4.params[j]? = some t → args[j]? = some v → Value.okWide Tryd.prog W .any base t v := hval0
  have hW' := hW
  obtain ⟨p, q, hA0, hV, rfl, _, _⟩ := hW
  have hA : DataW.TrodAll enc Tryd.prog W 0 (fun _ => true) true Tryd.f4.params.toList args.toList ds p := hA0
  rw [Tryd.params4] at hA hval
  obtain ⟨v0, v1, v2, v3, d0, d1, d2, d3, p0, p1, p2, p3, rfl, rfl, rfl, h0, h1, h2, h3⟩ := trodAll_four hA
  obtain ⟨rfl, rfl⟩ := trodVars_none hV
  obtain ⟨n0, b0, hs0, hb0⟩ := bytes_arg (hval 0 22 v0 rfl rfl) h0
  obtain ⟨Wc1, va1, vb1, rfl, hcw1, hwide1⟩ := cw_of_trod (hval 1 27 v1 rfl rfl) h1
  obtain ⟨z2, rfl, rfl, rfl, wf2⟩ := open_int Tryd.underlying38 (hval 2 38 v2 rfl rfl) h2
  obtain ⟨ba2, bb2⟩ := bounds_u16 wf2
  obtain ⟨n2, rfl⟩ := Int.eq_ofNat_of_zero_le ba2
  obtain ⟨z3, rfl, rfl, rfl, wf3⟩ := open_int Tryd.underlying38 (hval 3 38 v3 rfl rfl) h3
  obtain ⟨ba3, bb3⟩ := bounds_u16 wf3
  obtain ⟨n3, rfl⟩ := Int.eq_ofNat_of_zero_le ba3
  clear hA0 hval0
  simp only [List.append_nil] at hW'
  have hlt0 : ∀ x ∈ p0, x.block < W.heap.size := fun x hx => hW'.lt x (by simp [hx])
  have hlt1 : ∀ x ∈ p1, x.block < W.heap.size := fun x hx => hW'.lt x (by simp [hx])
  refine (gas_any n0 v0 b0 Wc1 va1 vb1 n2 n3 W hs0 hb0 (by omega) (by omega) hcw1 hwide1 (laidAt_of (laidH hL) hsh)).mono fun e W' ⟨he, hO⟩ => ?_
  subst he
  have hB := hO.to_below
  refine ⟨_, rfl, _, _, _, [], p0 ++ (p1 ++ ([] ++ ([]))), [], hW', ?_, ?_, rfl, hB.frame _, fun h => by cases h⟩
  · exact trodAll_mk1 (shut_bool Tryd.underlying4 _)
  · exact trodAll_mk4 (Below.trod Tryd.laidOut (by kernel_rfl) (of_decide_eq_true (by kernel_rfl)) h0 hB hlt0) (Below.trod Tryd.laidOut (by kernel_rfl) (of_decide_eq_true (by kernel_rfl)) h1 hB hlt1) (shut_int Tryd.underlying38 wf2) (shut_int Tryd.underlying38 wf3)

theorem gas_row : Rows.CodeGasSaid :=
  OpenClaim.holds_of_wide 4 Tryd.f4 rfl rfl rfl rfl rfl rfl rfl ⟨rfl, rfl, rfl, rfl, rfl⟩ rfl rfl rfl rfl rfl (by kernel_rfl) Tryd.func4 (by kernel_rfl)
    (of_decide_eq_true (by kernel_rfl)) (by unfold Func.isWrapper; first | (rw [if_pos (by decide +kernel)]; kernel_rfl) | (rw [if_neg (by decide +kernel)]; exact ⟨rfl, rfl⟩))
    (fun os started H enc _ => gas_lifted os started H enc)
theorem codeGas_card : Rows.CodeGasCardSaid :=
  Claim7.holds_tied_plain_at .later [] [.data, .data, .data, .data, .sentinel, .sentinel, .data, .pinned] true (true, "f6e0c87e63533d2eedf6ac3a1d5a462c221add847cff29421cbeaf3703e088c7") true
    gas_row (fun _ h => by cases h) (by kernel_rfl) (fun _ h => by cases h) codeGas_row_tie rfl ⟨rfl, rfl⟩ (by kernel_rfl) rfl
    (fun f fn hf hfn => by
      obtain rfl : f = 4 := Option.some.inj ((show Tryd.prog.funcNamed "tollhouse/tollhouselaw11.CodeGas" = some 4 by kernel_rfl).symm.trans hf) |>.symm
      obtain rfl : fn = Tryd.f4 := (Option.some.inj (Tryd.func4.symm.trans hfn)).symm
      exact ⟨by kernel_rfl, fun j t ht => by
        rw [Tryd.params4] at ht
        rcases j with _ | j
        · obtain rfl : t = 22 := by simpa using ht.symm
          exact (show Tryd.prog.wantsStandIn 22 = false by kernel_rfl)
        ·
          rcases j with _ | j
          · obtain rfl : t = 27 := by simpa using ht.symm
            exact (show Tryd.prog.wantsStandIn 27 = false by kernel_rfl)
          ·
            rcases j with _ | j
            · obtain rfl : t = 38 := by simpa using ht.symm
              exact (show Tryd.prog.wantsStandIn 38 = false by kernel_rfl)
            ·
              rcases j with _ | j
              · obtain rfl : t = 38 := by simpa using ht.symm
                exact (show Tryd.prog.wantsStandIn 38 = false by kernel_rfl)
              · simp at ht⟩)
    (by kernel_rfl)
#print axioms codeGas_card
end Go.Proofs.YtfhhkapjpmfolaaDoor
