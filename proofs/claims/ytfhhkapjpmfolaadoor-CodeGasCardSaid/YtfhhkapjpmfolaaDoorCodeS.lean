/- law 11: what the rows' condition on listed variables gives the walks; a world that meets it; the wraps. -/
import Derived.Test.YtfhhkapjpmfolaaDoorRows
import Derived.Test.YtfhhkapjpmfolaaDoorTie
import Derived.Test.YtfhhkapjpmfolaaDoorCodeP
import Derived.Test.YtfhhkapjpmfolaaDoorRd
import Derived.SizedLaws
import Derived.HandedShaped
import Derived.Shelf.Vars
import Derived.JoinedOf
import Derived.RowKitTokens
import Derived.LaidLaws
import Derived.LaidHandle
import Derived.Stop.LaidErr
import Derived.Lib.LaidTab
import Derived.OpenShut
import Derived.ProofKit
import Derived.SevenTiedAt
namespace Go.Proofs.YtfhhkapjpmfolaaDoor
open Go.ChangeShapes Go.WideShapes Go.ChangeAt Go.RowKit

theorem Tryd.own : ownKnob Tryd.prog.godebug = none := by kernel_rfl
abbrev laid8 : List (String × DataW Unit) := [("math/bits.deBruijn32tab", Rows.laid_math_bits_deBruijn32tab), ("math/bits.deBruijn64tab", Rows.laid_math_bits_deBruijn64tab), ("internal/strconv.uint64pow10", Rows.laid_internal_strconv_uint64pow10), ("unicode/utf8.acceptRanges", Rows.laid_unicode_utf8_acceptRanges), ("strconv.ErrRange", Rows.laid_strconv_ErrRange), ("strconv.ErrSyntax", Rows.laid_strconv_ErrSyntax), ("tollhouse/code.forms", Rows.laid_tollhouse_code_forms), ("unicode/utf8.first", Rows.laid_unicode_utf8_first)]

theorem starE : "*" ++ "errors.errorString" = "*errors.errorString" := by decide
theorem rowE (u : TypeId) (h : Tryd.prog.typeName? 3 u = some "*errors.errorString") : u = 151 :=
  typeName_ptr_named (nm := "errors.errorString") (by rw [starE]; kernel_rfl) (by kernel_rfl) (by decide) u (by rw [starE]; exact h)

/-- A table of forms, read: its cells. -/
theorem forms_of_laid {r : List (String × DataW Unit)} {W : World} (h : laidMet Tryd.prog (("tollhouse/code.forms", Rows.laid_tollhouse_code_forms) :: r) W) : FormsAt W := by
  obtain ⟨ps, ⟨g', t', cs, fuel, p, q, hg', ht', hvar, hd, _, _⟩, _⟩ := h
  obtain rfl := Option.some.inj ((show Tryd.prog.globalNamed "tollhouse/code.forms" = some 0 by kernel_rfl).symm.trans hg')
  obtain rfl := Option.some.inj ((show (Tryd.prog.globals[0]?).map (·.type) = some 60 by kernel_rfl).symm.trans ht')
  have hc : ∀ j, W.cell? ⟨0, j, none⟩ = cs[j]? := fun j => World.var?_cell (show Tryd.prog.globalNamed "tollhouse/code.forms" = some 0 by kernel_rfl) hvar j
  obtain ⟨xs, m, _, hx, _, hl, hxs⟩ := DataW.trod_array Tryd.underlying60 hd
  have c3 : Tryd.prog.cellsOf 59 = 3 := by kernel_rfl
  have c1 : Tryd.prog.cellsOf 9 = 1 := by kernel_rfl
  have c2 : Tryd.prog.cellsOf 3 = 1 := by kernel_rfl
  rw [c3] at hxs
  intro k hk
  have hk' := hxs k hk
  rw [List.getElem?_eq_getElem (by omega)] at hk'
  obtain ⟨ys, m', _, hy, _, hyl, hys⟩ := DataW.trod_struct Tryd.underlying59 hk'
  have f0 : DataW.trod (fun _ => ()) Tryd.prog W 0 (fun _ => true) false m' 9 ((((cs.toList.drop (k * 3)).take 3).drop 0).take (Tryd.prog.cellsOf 9)) = ys[0]? := hys 0 _ rfl
  have f1 : DataW.trod (fun _ => ()) Tryd.prog W 0 (fun _ => true) false m' 3 ((((cs.toList.drop (k * 3)).take 3).drop 1).take (Tryd.prog.cellsOf 3)) = ys[1]? := hys 1 _ rfl
  have f2 : DataW.trod (fun _ => ()) Tryd.prog W 0 (fun _ => true) false m' 3 ((((cs.toList.drop (k * 3)).take 3).drop 2).take (Tryd.prog.cellsOf 3)) = ys[2]? := hys 2 _ rfl
  have hyl : ys.length = 3 := hyl
  rw [c1] at f0
  rw [c2] at f1 f2
  rw [List.getElem?_eq_getElem (by omega)] at f0 f1 f2
  obtain ⟨s, e0, d0, _⟩ := DataW.trod_string Tryd.underlying9 f0
  obtain ⟨z1, e1, d1, _⟩ := DataW.trod_int Tryd.underlying3 f1
  obtain ⟨z2, e2, d2, _⟩ := DataW.trod_int Tryd.underlying3 f2
  have hform : (ys.map (·.1)) = [.lit (.string s.data.toList), .lit (.int .i64 z1), .lit (.int .i64 z2)] := by
    apply List.ext_getElem (by simp [hyl])
    intro i h1 h2
    rw [List.getElem_map]
    match i, h1 with
    | 0, _ => simp [d0]
    | 1, _ => simp [d1]
    | 2, _ => simp [d2]
    | i + 3, h1 => exfalso; simp at h1; omega
  have hget : (xs.map (·.1))[k]? = some (DataW.agg [.lit (.string s.data.toList), .lit (.int .i64 z1), .lit (.int .i64 z2)]) := by
    rw [List.getElem?_map, List.getElem?_eq_getElem (by omega), Option.map_some, hy, hform]
  have hx' : xs.map (·.1) = (match (Rows.laid_tollhouse_code_forms : DataW Unit) with | .agg l => l | _ => []) := by
    have := congrArg Prod.fst hx
    simp only at this
    rw [this]
  rw [hx'] at hget
  have cell : ∀ i v, i < 3 → (((cs.toList.drop (k * 3)).take 3).drop i).take 1 = [v] → W.cell? ⟨0, k * 3 + i, none⟩ = some v := fun i v hi e => by
    rw [hc]
    have := congrArg (·[0]?) e
    simpa [List.getElem?_take, List.getElem?_drop, hi] using this
  have q0 := cell 0 _ (by omega) e0
  have q1 := cell 1 _ (by omega) e1
  have q2 := cell 2 _ (by omega) e2
  rw [Nat.add_zero] at q0
  rw [q0, q1, q2]
  have key : s.data.toList = nameF k ∧ z1 = (moreF k : Int) ∧ z2 = (costF k : Int) := by
    have : k = 0 ∨ k = 1 ∨ k = 2 ∨ k = 3 ∨ k = 4 ∨ k = 5 ∨ k = 6 ∨ k = 7 ∨ k = 8 ∨ k = 9 ∨ k = 10 ∨ k = 11 ∨ k = 12 ∨ k = 13 ∨ k = 14 ∨ k = 15 ∨ k = 16 ∨ k = 17 := by omega
    rcases this with rfl | rfl | rfl | rfl | rfl | rfl | rfl | rfl | rfl | rfl | rfl | rfl | rfl | rfl | rfl | rfl | rfl | rfl <;>
      (simp [Rows.laid_tollhouse_code_forms] at hget; obtain ⟨h1, h2, h3⟩ := hget; exact ⟨h1.symm, h2.symm, h3.symm⟩)
  obtain ⟨k1, k2, k3⟩ := key
  refine ⟨?_, by rw [k2], by rw [k3]⟩
  rw [← k1]

theorem laidAt_of {W : World} (h : laidMet Tryd.prog laid8 W) (hsh : W.ShapedOpen Tryd.prog) : LaidAt W := by
  have h3 := h.tail.tail
  have h5 := h3.tail.tail
  have h6 := h5.tail
  have h7 := h6.tail
  have hgP : Tryd.prog.globalNamed "internal/strconv.uint64pow10" = some 1 := by kernel_rfl
  have tab : Lib.TabIs Tryd.prog W "internal/strconv.uint64pow10" .u64 Lib.pow10Tab :=
    Lib.tabIs_of_head hgP (show (Tryd.prog.globals[1]?).map (·.type) = some 120 by kernel_rfl) Tryd.underlying120 Tryd.underlying25 (by kernel_rfl) (by kernel_rfl) h3
  obtain ⟨a0, s0, hv0, -, -, -⟩ := laid_sentinel h5 (show Tryd.prog.globalNamed "strconv.ErrRange" = some 4 by kernel_rfl) (show (Tryd.prog.globals[4]?).map (·.type) = some 89 by kernel_rfl) Tryd.underlying89 rowE Tryd.underlying151 Tryd.underlying153 rfl rfl Tryd.underlying9 (by kernel_rfl) (by kernel_rfl)
  obtain ⟨a1, s1, hv1, -, -, -⟩ := laid_sentinel h6 (show Tryd.prog.globalNamed "strconv.ErrSyntax" = some 3 by kernel_rfl) (show (Tryd.prog.globals[3]?).map (·.type) = some 89 by kernel_rfl) Tryd.underlying89 rowE Tryd.underlying151 Tryd.underlying153 rfl rfl Tryd.underlying9 (by kernel_rfl) (by kernel_rfl)
  have forms := forms_of_laid h7
  have len : ∃ m, W.cell? ⟨2, 0, none⟩ = some (.int .i64 m) := cell_of_shapedOpen_int hsh (of_decide_eq_true (by kernel_rfl)) (t := 3) (zero := #[.int .i64 0]) (by kernel_rfl) rfl (by kernel_rfl) (by kernel_rfl) Tryd.underlying3
  have lt : ∀ {g j v}, W.cell? ⟨g, j, none⟩ = some v → g < W.heap.size := fun {g j v} hc => World.block_lt_of_cell? _ _ hc
  obtain ⟨m, hm⟩ := len
  have hp := World.var?_cell hgP tab 0
  refine ⟨forms, tab, ⟨_, _, hv1⟩, ⟨_, _, hv0⟩, ⟨m, hm⟩, lt (forms 0 (by omega)).2.1, lt (hp.trans (show _ = some (Value.int .u64 1) from rfl)), lt hm,
    lt ((World.var?_cell (show Tryd.prog.globalNamed "strconv.ErrSyntax" = some 3 by kernel_rfl) hv1 0).trans (show _ = some _ from rfl)),
    lt ((World.var?_cell (show Tryd.prog.globalNamed "strconv.ErrRange" = some 4 by kernel_rfl) hv0 0).trans (show _ = some _ from rfl))⟩
end Go.Proofs.YtfhhkapjpmfolaaDoor
