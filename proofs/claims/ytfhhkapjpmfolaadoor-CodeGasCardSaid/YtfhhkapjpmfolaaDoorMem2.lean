/- More small laws on memory, over any program: append onto what the call owns; make; a world under one name. -/
import Derived.Test.YtfhhkapjpmfolaaDoorMem
import Derived.Maps.AppendAt
namespace Go.Proofs.YtfhhkapjpmfolaaDoor
open Go.RowKit

section
variable {P : Program}
theorem wp_name {c : Code} {Q : Exit → Act → World → Prop} {a : Act} {W : World} (R : World → Prop) (hR : R W) (h : ∀ w1, R w1 → Code.wp P c Q a w1) : Code.wp P c Q a W := h W hR
theorem wpList_name {ops : Array Oper} {rest : List Oper} {Q : Exit → Act → World → Prop} {a : Act} {W : World} (R : World → Prop) (hR : R W) (h : ∀ w1, R w1 → wpList P ops Q rest a w1) : wpList P ops Q rest a W := h W hR
theorem calls_name {f : FuncId} {args : Array Value} {K : Ending → World → Prop} {W : World} (R : World → Prop) (hR : R W) (h : ∀ w1, R w1 → Calls P f args w1 K) : Calls P f args W K := h W hR

/-- append(s, x..), s a slice that the call owns. -/
theorem wpList_app {ops : Array Oper} {rest : List Oper} {dst : Option Nat} {ty0 : TypeId} {pos : String} {after : _} {a : Act} {w : World} {Q : Exit → Act → World → Prop} {s x : Operand} {t : TypeId}
    (base : Nat) (e : TypeId) (z : Value) (size bytes : Nat) (ht : P.underlying t = some (.slice e)) (hI : (P.info? e).map (fun i => (i.zero, i.size, i.bytes)) = some (some z, size, bytes)) (hzs : z.cells.size = size) (hsz : 0 < size)
    (v : Value) (n : Nat) (xs : List Value) (hs : a.eval s = v) (hown : w.ownsRow base e size v n xs)
    (ad : Addr) (m c : Nat) (news : List Value) (hx : a.eval x = .slice (some ad) m c) (hl : news.length = m * size) (hnews : ∀ j u, news[j]? = some u → w.cell? (ad.add j) = some u) (h1 : ∀ u ∈ news, u.oneCell' = true)
    (h63 : n + m ≤ maxLen) (hbytes : (n + m) * bytes ≤ 140737488355328) (hbase : base ≤ w.heap.size)
    (h : ∀ v' w', w'.ownsRow base e size v' (n + m) (xs ++ news) → w.grownBy w' v.ownBlock → (v' = .slice none 0 0 ↔ v = .slice none 0 0 ∧ m = 0) → (v'.ownBlock = v.ownBlock ∨ v'.ownBlock = some w.heap.size) → wpList P ops Q rest (a.put dst v') w') :
    wpList P ops Q ((⟨dst, .call { callee := .builtin .append, args := #[s, x], argTypes := #[t, t] }, ty0, pos, after, none⟩ : Oper) :: rest) a w := by
  cases hq : P.info? e with
  | none => simp [hq] at hI
  | some i =>
    simp [hq] at hI
    exact wpList_append_own_at w rfl s x t rfl base e i z size bytes ht hq hI.1 hI.2.1 hI.2.2 hzs hsz v n xs hs hown ad m c news hx hl hnews h1 h63 hbytes hbase h

theorem made_row (k : IntKind) (n : Nat) : madeCells #[.int k 0] n = rowC k n (fun _ => 0) := by
  apply Array.ext_getElem?
  intro i
  by_cases h : i < n
  · rw [rowC_get _ _ _ _ h]
    have : i < (madeCells #[.int k 0] n).size := by rw [size_madeCells]; exact h
    rw [Array.getElem?_eq_getElem this]
    simp [madeCells, Nat.mod_one]
  · rw [Array.getElem?_eq_none (by rw [size_madeCells]; omega), Array.getElem?_eq_none (by rw [rowC_size]; omega)]
/-- make([]T, n), T an integer's kind. -/
theorem run_make_row (t e : TypeId) (k : IntKind) (bytes : Nat) (ht : P.underlying t = some (.slice e)) (hI : (P.info? e).map (fun i => (i.zero, i.size, i.bytes)) = some (some (.int k 0), 1, bytes)) (kl kc : IntKind) (n : Nat)
    (hb : n * bytes ≤ 281474976710656) (h63 : n ≤ 9223372036854775807) (w : World) :
    (Instr.makeSlice t (.int kl n) (.int kc n)).run P w = .ok (.slice (some ⟨w.heap.size, 0, none⟩) n n) (w.alloc (.cells (rowC k n fun _ => 0) e)) := by
  cases hq : P.info? e with
  | none => simp [hq] at hI
  | some i =>
    simp [hq] at hI
    have := run_make (P := P) w t e i (.int k 0) ht hq hI.1 kl kc n n (by omega) (by omega) (by rw [hI.2.2, Int.mul_comm, ← Int.natCast_mul]; omega) (by omega)
    rw [hI.2.1] at this
    simpa [Value.cells, made_row] using this
end

theorem owns_row {w : World} {b e n base : Nat} {k : IntKind} {f : Nat → Int} (h : w.heap[b]? = some (.cells (rowC k n f) e (0, 0))) (hb : base ≤ b) (hn : n ≤ maxLen) :
    w.ownsRow base e 1 (.slice (some ⟨b, 0, none⟩) n n) n (rowC k n f).toList := by
  refine ⟨by simp [rowC], Or.inr ⟨b, n, rowC k n f, rfl, hb, h, Nat.le_refl _, hn, by simp [rowC_size], ?_⟩⟩
  rw [List.take_of_length_le (by simp [rowC])]
theorem Only.grown {S : List Nat} {a w w' : World} {row : Option Nat} (h : Only S a w) (hg : w.grownBy w' row) (hr : ∀ k, row = some k → a.heap.size ≤ k ∨ k ∈ S) : Only S a w' :=
  ⟨hg.os.trans h.os, hg.tape.trans h.tape, hg.output.trans h.output, Nat.le_trans h.size hg.size,
   fun k hk hs => (hg.block k (Nat.lt_of_lt_of_le hk h.size) (fun e => by rcases hr k e.symm with h' | h'; · omega
                                                                          · exact hs h')).trans (h.block k hk hs)⟩
end Go.Proofs.YtfhhkapjpmfolaaDoor
