/- notary: the book; New, When, Secret, In, Of, Many. -/
import Derived.Test.YthoiihpbgdjbfaaMillF
import Derived.Test.YthoiihpbgdjbfaaMaps
import Derived.Deep.RegionHeld3
namespace Go.Proofs.Ythoiihpbgdjbfaa
open Go.RowKit
open Go.Maps (Keyed)

theorem Try.laidOut : laidOutB Try.prog = true := by kernel_rfl
theorem hash_law : Keyed Try.prog 53 :=
  Keyed.of_law (deep_law_laid Try.laidOut (m := 2) (by omega) (of_decide_eq_true (by kernel_rfl)) (by kernel_rfl) (by kernel_rfl))
/-- A hash as a value. -/
def hashV (h : Nat → Int) : Value := .agg (rowC .u8 32 h)
theorem mapM_some {α β : Type} (g : α → Option β) : ∀ (l : List α), (∀ i ∈ l, ∃ y, g i = some y) → ∃ ys, l.mapM g = some ys
  | [], _ => ⟨[], rfl⟩
  | a :: r, h => by
    obtain ⟨y, hy⟩ := h a (by simp)
    obtain ⟨ys, hys⟩ := mapM_some g r fun i hi => h i (by simp [hi])
    exact ⟨y :: ys, by simp [List.mapM_cons, hy, hys]⟩
theorem hash_key (h : Nat → Int) (hh : ∀ j, j < 32 → U8 (h j)) : KeyOk Try.prog 53 (hashV h) := by
  have hc : Try.prog.cellsOf 53 = 32 := by kernel_rfl
  have hc1 : Try.prog.cellsOf 5 = 1 := by kernel_rfl
  have hk : Try.prog.keyType 53 = true := by kernel_rfl
  have hu : Try.prog.underlying 53 = some (.array 32 5) := by kernel_rfl
  have hpos : 0 < Try.prog.types.size := of_decide_eq_true (by kernel_rfl)
  obtain ⟨m, hm⟩ : ∃ m, Try.prog.types.size = m + 1 := ⟨Try.prog.types.size - 1, by omega⟩
  have hl : ∃ ls, Try.prog.keyLits (Try.prog.types.size + 1) 53 (rowC .u8 32 h).toList = some ls := by
    unfold Program.keyLits
    rw [hu]
    simp only
    rw [if_pos (by rw [hc]; simp [rowC]), hc1, hm]
    obtain ⟨ys, hys⟩ := mapM_some (fun i => Try.prog.keyLits (m + 1) 5 (((rowC .u8 32 h).toList.drop (i * 1)).take 1)) (List.range 32) (fun i hi => by
      have hi' : i < 32 := by simpa using hi
      have e : ((rowC .u8 32 h).toList.drop (i * 1)).take 1 = [.int .u8 (h i)] := by
        have hlen : i < (rowC .u8 32 h).toList.length := by simp [rowC]; omega
        rw [Nat.mul_one, List.drop_eq_getElem_cons hlen]
        simp [rowC]
      have hw : (Lit.int .u8 (h i)).wf = true := by
        obtain ⟨h0, h1⟩ := hh i hi'
        simp [Lit.wf, IntKind.min, IntKind.max, IntKind.signed, IntKind.bits]; omega
      exact ⟨[.int .u8 (h i)], by rw [e]; unfold Program.keyLits; rw [Try.underlying5]; simp [hw]⟩)
    exact ⟨ys.flatten, by rw [hys]; rfl⟩
  obtain ⟨ls, hls⟩ := hl
  refine ⟨.string (keyBytes ls), ?_⟩
  unfold keyOf hashV
  rw [hu]
  have hf : (Value.agg (rowC .u8 32 h)).formed Try.prog 53 = true := by simp only [Value.formed, hu, hc, rowC_size]; rfl
  simp only [hk, hf, Bool.and_self, if_true, Value.cells, hls, Option.map_some]

/-- An entry's cells: the secret, and when it was told. -/
def entryC (s : Nat → Int) (at_ : Int) : Array Value := rowC .u8 32 s ++ #[.int .u64 at_]
def entryV (s : Nat → Int) (at_ : Int) : Value := .agg (entryC s at_)
theorem entryC_size (s : Nat → Int) (a : Int) : (entryC s a).size = 33 := by simp [entryC, rowC_size]
theorem entryC_get (s : Nat → Int) (a : Int) (j : Nat) (h : j < 32) : (entryC s a)[j]? = some (.int .u8 (s j)) := by
  unfold entryC; rw [Array.getElem?_append_left (by rw [rowC_size]; exact h), rowC_get _ _ _ _ h]
theorem entryC_at (s : Nat → Int) (a : Int) : (entryC s a)[32]? = some (.int .u64 a) := by
  unfold entryC; rw [Array.getElem?_append_right (by rw [rowC_size]; omega)]; simp [rowC_size]
theorem entryC_one (s : Nat → Int) (a : Int) : (entryC s a).all (·.oneCell') = true := by
  rw [Array.all_eq_true_iff_forall_mem]
  intro v hv
  unfold entryC at hv
  rcases Array.mem_append.1 hv with h | h
  · have := rowC_one .u8 32 s
    rw [Array.all_eq_true_iff_forall_mem] at this
    exact this v h
  · simp at h; subst h; rfl
theorem entryC_range {w : World} {b : Nat} {s : Nat → Int} {a : Int} {t : TypeId} {fr : Nat × Nat} (h : w.heap[b]? = some (.cells (entryC s a) t fr)) : w.rangeAt b 0 (rowC .u8 32 s).toList := fun j v hv => by
  obtain ⟨hj, rfl⟩ := u8s_get 32 s j v (by simpa [rowC] using hv)
  rw [Nat.zero_add, cell_of_row w b _ _ _ _ h, entryC_get _ _ _ hj]

/-- A book: hash, secret, height, in the order in which they were told. -/
abbrev Book := List ((Nat → Int) × (Nat → Int) × Int)
def pairsOf (B : Book) : List (Value × Value) := B.map fun e => (hashV e.1, entryV e.2.1 e.2.2)
section
open Classical
noncomputable def bget : Book → Value → Option ((Nat → Int) × Int)
  | [], _ => none
  | e :: r, k => if hashV e.1 = k then some e.2 else bget r k
end
noncomputable def bgetD (B : Book) (k : Value) : (Nat → Int) × Int := (bget B k).getD (fun _ => 0, 0)
theorem mget_pairs (B : Book) (k : Value) : mget (pairsOf B) k = (bget B k).map fun x => entryV x.1 x.2 := by
  induction B with
  | nil => rfl
  | cons e r ih =>
    simp only [pairsOf, List.map_cons, mget, bget] at ih ⊢
    split
    · rfl
    · exact ih
theorem mget_pairsD (B : Book) (k : Value) : (mget (pairsOf B) k).getD (entryV (fun _ => 0) 0) = entryV (bgetD B k).1 (bgetD B k).2 := by
  rw [mget_pairs, bgetD]; cases bget B k <;> rfl
theorem mget_pairs_some (B : Book) (k : Value) : (mget (pairsOf B) k).isSome = (bget B k).isSome := by
  rw [mget_pairs]; cases bget B k <;> rfl
def Book.ok (B : Book) : Prop := Apart (pairsOf B) ∧ ∀ e ∈ B, (∀ j, j < 32 → U8 (e.1 j)) ∧ (∀ j, j < 32 → U8 (e.2.1 j)) ∧ 0 ≤ e.2.2 ∧ e.2.2 < 18446744073709551616
/-- A notary with this book. -/
def IsNotary (w : World) (N M : Nat) (B : Book) : Prop :=
  w.heap[N]? = some (.cells #[.map (some M)] 74 (0, 0)) ∧ MapIs Try.prog 53 w M (pairsOf B) ∧ B.ok
theorem IsNotary.only {w w' : World} {N M : Nat} {B : Book} {S : List Nat} (h : IsNotary w N M B) (hO : Only S w w') (hN : N ∉ S) (hM : M ∉ S) : IsNotary w' N M B :=
  ⟨hO.keeps h.1 hN, h.2.1.only hO hM, h.2.2⟩

theorem entry_zero (W : World) : (zeroValue 76).run Try.prog W = .ok (entryV (fun _ => 0) 0) W :=
  (zero_of_info (P := Try.prog) (t := 76) (v := entryV (fun _ => 0) 0) (n := 33) (by kernel_rfl)).1 W

set_option maxRecDepth 100000 in
set_option maxHeartbeats 1000000 in
theorem when_any (N M : Nat) (B : Book) (h : Nat → Int) (hh : ∀ j, j < 32 → U8 (h j)) (w : World) (hN : IsNotary w N M B) :
    Calls Try.prog 11 #[.pointer (some ⟨N, 0, none⟩), hashV h] w fun e w' =>
      e = .returned (.tuple #[.int .u64 (bgetD B (hashV h)).2, .bool (bget B (hashV h)).isSome]) ∧ Only [] w w' := by
  have HN := Lib.hid hN
  have HH := Lib.hid hh
  clear hN hh
  unfold hashV
  go_enter Try.func11, Try.ntmps11
  go_upto_region 3 with (fail)
  refine wp_name (fun W => W.heap[w.heap.size]? = some (.cells (rowC .u8 32 h) 53 (0, 0)) ∧ Only [] w W) ⟨heap_alloc_last _ _, (Only.refl _ _).alloc _⟩ ?_
  intro w1 ⟨hB, hO⟩
  have hN1 := HN.out.only hO (by simp) (by simp)
  have c0 : w1.cell? ⟨N, 0, none⟩ = some (.map (some M)) := cell_of_one hN1.1
  obtain ⟨hl, hhl⟩ : ∃ l : List Value, l = (rowC .u8 32 h).toList := ⟨_, rfl⟩
  obtain ⟨el, hel⟩ : ∃ l : List Value, l = (entryC (bgetD B (hashV h)).1 (bgetD B (hashV h)).2).toList := ⟨_, rfl⟩
  have hlk : ∀ W : World, Only [] w1 W → (Instr.lookup 72 (.map (some M)) (.agg hl.toArray) true).run Try.prog W = .ok (.tuple #[.agg el.toArray, .bool (bget B (hashV h)).isSome]) W := fun W hW => by
    have := (run_lookup_ok hash_law Try.underlying72 (hN1.only hW (by simp) (by simp)).2.1 hN1.2.2.1 (hash_key h HH.out) entry_zero W rfl).1
    rw [mget_pairsD, mget_pairs_some] at this
    rw [hhl, hel]
    simpa [hashV, entryV] using this
  have hS : ∀ W : World, Only [] w1 W → W.cell? ⟨N, 0, none⟩ = some (.map (some M)) ∧ W.rangeAt w.heap.size 0 hl ∧
      (Instr.lookup 72 (.map (some M)) (.agg hl.toArray) true).run Try.prog W = .ok (.tuple #[.agg el.toArray, .bool (bget B (hashV h)).isSome]) W :=
    fun W hW => ⟨(cell_of_one (hN1.only hW (by simp) (by simp)).1), by rw [hhl]; exact row_range (hW.keeps hB (by simp)), hlk W hW⟩
  have hu := Try.underlying53
  have hi : (Try.prog.info? 53).map (·.size) = some hl.length := by rw [hhl, show (rowC .u8 32 h).toList.length = 32 by simp [rowC]]; kernel_rfl
  have hi2 : (Try.prog.info? 76).map (·.size) = some el.length := by rw [hel, show (entryC (bgetD B (hashV h)).1 (bgetD B (hashV h)).2).toList.length = 33 by simp [entryC_size]]; kernel_rfl
  have hll : el.length = 33 := by rw [hel]; simp [entryC_size]
  have hst : ∀ old : Array Value, old.size = 33 → (storeCells ⟨w1.heap.size, 0, none⟩ el 0).run Try.prog ((w1.alloc (.cells old 76)).drew) = .ok () ((w1.alloc (.cells el.toArray 76)).drew) := fun old ho => by
    have := run_storeCells_new (P := Try.prog) w1.drew 76 old el.toArray (by simpa using hi2) (by simp [ho, hll]) (by rw [hel, Array.toArray_toList]; exact entryC_one _ _)
    rw [List.toList_toArray] at this
    exact this
  have e32 : el[32]? = some (.int .u64 (bgetD B (hashV h)).2) := by rw [hel, Array.getElem?_toList]; exact entryC_at _ _
  have e32' : ∀ hp : 32 < el.length, el[32]'hp = .int .u64 (bgetD B (hashV h)).2 := fun hp => by rw [List.getElem?_eq_getElem hp] at e32; exact Option.some.inj e32
  have HB := Lib.hid (And.intro hB (And.intro hO hhl))
  have HE := Lib.hid hel
  clear hB hO hN1 hhl hel
  have HS := Lib.hid hS
  clear hlk hS hi2
  go_region_held3 (fun w' => w'.cell? ⟨N, 0, none⟩ = some (.map (some M)) ∧ w'.rangeAt w.heap.size 0 hl ∧
      (Instr.lookup 72 (.map (some M)) (.agg hl.toArray) true).run Try.prog w' = .ok (.tuple #[.agg el.toArray, .bool (bget B (hashV h)).isSome]) w')
    (first | exact HS.out _ (Only.refl _ _).drew | exact HS.out _ ((Only.refl _ _).alloc _).drew | exact HS.out _ ((Only.refl _ _).drew.alloc _))
    (first | fail)
  all_goals
    go_wp2_with fail
    go_ret2
    exact ⟨rfl, (HB.out.2.1.alloc _).drew⟩
end Go.Proofs.Ythoiihpbgdjbfaa
