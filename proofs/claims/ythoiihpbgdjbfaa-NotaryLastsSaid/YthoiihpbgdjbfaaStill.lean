/- Steps of a quiet region's head: whole rows loaded and built. -/
import Derived.Test.YthoiihpbgdjbfaaMem2
import Derived.StillTailTactics
namespace Go.Proofs.Ythoiihpbgdjbfaa
open Go.RowKit
section
variable {P : Program}
theorem wpStill_yields {ops : Array Oper} {rest : List Oper} {o : Oper} {a : Act} {w : World} {Q : Act → Prop} {v : Value} (hg : o.guard = none) (hr : (execOp a.eval o).run P w = .ok (.value v) w)
    (h : wpStill P ops w Q rest (a.put o.dst v)) : wpStill P ops w Q (o :: rest) a := by
  show if Region.wanted o (yielded ops a.tmps) then o.still P a w (wpStill P ops w Q rest) else wpStill P ops w Q rest (a.put o.dst undef)
  rw [if_pos (by simp [Region.wanted, hg])]
  unfold Oper.still
  rw [hr, Oper.stillUpon_value]
  exact h
theorem wpStill_load_part {ops : Array Oper} {rest : List Oper} {dst : Option Nat} {ty0 : TypeId} {pos : String} {after : _} {a : Act} {w : World} {Q : Act → Prop} {ty : TypeId} {x : Operand}
    (b o : Nat) (cells : Array Value) (d : TypeDesc) (hc : w.rangeAt b o cells.toList) (hx : a.eval x = .pointer (some ⟨b, o, none⟩))
    (hu : P.underlying ty = some d) (hd : d.isRow = true) (hi : (P.info? ty).map (·.size) = some cells.size)
    (h : wpStill P ops w Q rest (a.put dst (.agg cells))) : wpStill P ops w Q ((⟨dst, .load ty x, ty0, pos, after, none⟩ : Oper) :: rest) a := by
  refine wpStill_yields (v := .agg cells) rfl ?_ h
  have := run_loadVar_mid (P := P) w b o ty cells.toList d hc hu hd (by simpa using hi)
  unfold execOp
  simp only [hx, Instr.loadAt, Instr.sureAddr, Sem.run_bind, Sem.run_pure, Result.andThen_ok, this]
theorem wpStill_build {ops : Array Oper} {rest : List Oper} {dst : Option Nat} {ty0 : TypeId} {pos : String} {after : _} {a : Act} {w : World} {Q : Act → Prop} {t : TypeId} {parts : Array (Nat × Operand)}
    (cells : Array Value) (hf : P.built t (parts.map fun (i, x) => (i, a.eval x)).toList = some cells)
    (h : wpStill P ops w Q rest (a.put dst (.agg cells))) : wpStill P ops w Q ((⟨dst, .build t parts, ty0, pos, after, none⟩ : Oper) :: rest) a := by
  refine wpStill_yields (v := .agg cells) rfl ?_ h
  unfold execOp
  simp only [Sem.run_bind, run_build w t _ cells hf, Result.andThen_ok]
  rfl
end
end Go.Proofs.Ythoiihpbgdjbfaa
