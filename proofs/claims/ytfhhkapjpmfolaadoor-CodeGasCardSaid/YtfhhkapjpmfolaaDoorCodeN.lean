/- layer 11 (code): order, the bytes of a line, as a plain function. -/
import Derived.Test.YtfhhkapjpmfolaaDoorLays
import Derived.Test.YtfhhkapjpmfolaaDoorCodeF
import Derived.Test.YtfhhkapjpmfolaaDoorCodeK
import Derived.Test.YtfhhkapjpmfolaaDoorCodeL
import Derived.Test.YtfhhkapjpmfolaaDoorApf
import Derived.Shelf.Strings.Cut
import Derived.Shelf.Pu.ErrVarParseUint
import Derived.HandedShaped
namespace Go.Proofs.YtfhhkapjpmfolaaDoor
open Go.RowKit Go.Lib

/-- What the listed variables hold, as the walks take it. -/
structure LaidAt (w : World) : Prop where
  forms : FormsAt w
  tab : Lib.TabIs Tryd.prog w "internal/strconv.uint64pow10" .u64 Lib.pow10Tab
  syn : ∃ tp p, w.var? Tryd.prog "strconv.ErrSyntax" = some #[.iface tp p]
  ran : ∃ tp p, w.var? Tryd.prog "strconv.ErrRange" = some #[.iface tp p]
  len : ∃ m, w.cell? ⟨2, 0, none⟩ = some (.int .i64 m)
  size : 0 < w.heap.size ∧ 1 < w.heap.size ∧ 2 < w.heap.size ∧ 3 < w.heap.size ∧ 4 < w.heap.size
theorem LaidAt.pos {w : World} (h : LaidAt w) : 1 ≤ w.heap.size := by have := h.size.1; omega
theorem var_only {w w' : World} {name : String} {g : Nat} (hg : Tryd.prog.globalNamed name = some g) (h : w'.heap[g]? = w.heap[g]?) : w'.var? Tryd.prog name = w.var? Tryd.prog name := by
  unfold World.var?
  simp [hg, h]
theorem LaidAt.only {w w' : World} {S : List Nat} (h : LaidAt w) (hO : Only S w w') (hS : ∀ x ∈ S, w.heap.size ≤ x) : LaidAt w' := by
  have hb : ∀ g, g < w.heap.size → w'.heap[g]? = w.heap[g]? := fun g hg => hO.block g hg fun m => by have := hS g m; omega
  have hc : ∀ g j, g < w.heap.size → w'.cell? ⟨g, j, none⟩ = w.cell? ⟨g, j, none⟩ := fun g j hg => World.cell?_of_block (w := w) (hb g hg)
  obtain ⟨s1, s2, s3, s4, s5⟩ := h.size
  have hz := hO.size
  refine ⟨fun k hk => ?_, ?_, ?_, ?_, ?_, ⟨by omega, by omega, by omega, by omega, by omega⟩⟩
  · rw [hc 0 _ s1, hc 0 _ s1, hc 0 _ s1]; exact h.forms k hk
  · have := h.tab
    unfold Lib.TabIs at this ⊢
    rw [var_only (w := w) (g := 1) (by kernel_rfl) (hb _ s2)]
    exact this
  · obtain ⟨tp, p, e⟩ := h.syn
    exact ⟨tp, p, by rw [var_only (w := w) (g := 3) (by kernel_rfl) (hb _ s4)]; exact e⟩
  · obtain ⟨tp, p, e⟩ := h.ran
    exact ⟨tp, p, by rw [var_only (w := w) (g := 4) (by kernel_rfl) (hb _ s5)]; exact e⟩
  · obtain ⟨m, e⟩ := h.len
    exact ⟨m, by rw [hc 2 _ s3]; exact e⟩

theorem bytesWorld_only (w : World) (e : TypeId) (s : ByteArray) : Only [] w (Lib.bytesWorld w e s) := Only.of_below (Lib.bytesWorld_below w e s)

/-- strconv.ParseUint(s, 10, B), B = 64, 16, 8: the number, and no error. -/
theorem pu_ok (B : Nat) (hB : B = 64 ∨ B = 16 ∨ B = 8) (s : ByteArray) (hs : s.size ≤ 4096) (u : Nat) (h : Lib.parseUintB B s.data.toList = .ok u) (w : World) :
    Calls Tryd.prog 52 #[.string s, .int .i64 10, .int .i64 (B : Int)] w fun x w' => x = .returned (.tuple #[.int .u64 (u : Int), .nilIface]) ∧ Only [] w w' := by
  have hh : ∀ w', (w' = w ∨ w' = Lib.bytesWorld w 5 s) → Only [] w w' := fun w' hw => by
    rcases hw with rfl | rfl
    · exact Only.refl _ _
    · exact bytesWorld_only _ _ _
  rcases hB with rfl | rfl | rfl
  · exact (Any.strconv_ParseUint_10_at64_ok Tryd.laysPu14 s (by omega) u h w).mono fun e w' ⟨h1, h2⟩ => ⟨h1, hh _ h2⟩
  · exact (Any.strconv_ParseUint_10_at16_ok Tryd.laysPu14 s (by omega) u h w).mono fun e w' ⟨h1, h2⟩ => ⟨h1, hh _ h2⟩
  · exact (Any.strconv_ParseUint_10_at8_ok Tryd.laysPu14 s (by omega) u h w).mono fun e w' ⟨h1, h2⟩ => ⟨h1, hh _ h2⟩
/-- .. an error. -/
theorem pu_bad (B : Nat) (hB : B = 64 ∨ B = 16 ∨ B = 8) (s : ByteArray) (hs : s.size ≤ 4096) (h : ∀ u, Lib.parseUintB B s.data.toList ≠ .ok u) (w : World) (hL : LaidAt w) :
    Calls Tryd.prog 52 #[.string s, .int .i64 10, .int .i64 (B : Int)] w fun x w' => ∃ (u : Int) (T N : Nat), x = .returned (.tuple #[.int .u64 u, .iface T (.pointer (some ⟨N, 0, none⟩))]) ∧ Only [] w w' := by
  obtain ⟨t1, p1, v1⟩ := hL.syn
  obtain ⟨t2, p2, v2⟩ := hL.ran
  rcases hq : Lib.parseUintB B s.data.toList with u | _ | _
  · exact absurd hq (h u)
  ·
    rcases hB with rfl | rfl | rfl
    · exact (Any.strconv_ParseUint_10_at64_syntax_var Tryd.laysPu14 s (by omega) hq t1 p1 w v1).mono fun e w' ⟨N, h1, _, _, h2⟩ => ⟨_, _, N, h1, Only.of_below h2⟩
    · exact (Any.strconv_ParseUint_10_at16_syntax_var Tryd.laysPu14 s (by omega) hq t1 p1 w v1).mono fun e w' ⟨N, h1, _, _, h2⟩ => ⟨_, _, N, h1, Only.of_below h2⟩
    · exact (Any.strconv_ParseUint_10_at8_syntax_var Tryd.laysPu14 s (by omega) hq t1 p1 w v1).mono fun e w' ⟨N, h1, _, _, h2⟩ => ⟨_, _, N, h1, Only.of_below h2⟩
  ·
    rcases hB with rfl | rfl | rfl
    · exact (Any.strconv_ParseUint_10_at64_range_var Tryd.laysPu14 s (by omega) hq t2 p2 w v2).mono fun e w' ⟨N, h1, _, _, h2⟩ => ⟨_, _, N, h1, Only.of_below h2⟩
    · exact (Any.strconv_ParseUint_10_at16_range_var Tryd.laysPu14 s (by omega) hq t2 p2 w v2).mono fun e w' ⟨N, h1, _, _, h2⟩ => ⟨_, _, N, h1, Only.of_below h2⟩
    · exact (Any.strconv_ParseUint_10_at8_range_var Tryd.laysPu14 s (by omega) hq t2 p2 w v2).mono fun e w' ⟨N, h1, _, _, h2⟩ => ⟨_, _, N, h1, Only.of_below h2⟩

def bytesN (u : Nat) : Nat → List Nat
  | 0 => []
  | k + 1 => (u / 256 ^ k % 256) :: bytesN u k
theorem bytesN_length (u k : Nat) : (bytesN u k).length = k := by induction k with
  | zero => rfl
  | succ k ih => simp [bytesN, ih]
theorem bytesI_nat (u k : Nat) : bytesI (u : Int) k = (bytesN u k).map fun (x : Nat) => (x : Int) := by induction k with
  | zero => rfl
  | succ k ih =>
    rw [bytesI, bytesN, List.map_cons, ih, byteI]
    congr 1
theorem bytesI_drop (n : Int) (k d : Nat) : (bytesI n (k + d)).drop d = bytesI n k := by induction d with
  | zero => rfl
  | succ d ih => rw [← Nat.add_assoc, bytesI, List.drop_succ_cons, ih]

/-- The order of that name. -/
def opOf (name : List UInt8) : Nat → Option Nat
  | 0 => none
  | g + 1 => if nameF (18 - (g + 1)) = name then some (18 - (g + 1)) else opOf name g
def lineF (k : Nat) (rest : List UInt8) (more : Bool) : List Nat × Nat :=
  if more ≠ decide (0 < moreF k) then ([], 10)
  else if more = false then ([k], 0)
  else match Lib.parseUintB (8 * moreF k) rest with
    | .ok u => if Lib.decDigits u = rest then (k :: bytesN u (moreF k), 0) else ([], 10)
    | _ => ([], 10)
def orderF (l : List UInt8) : List Nat × Nat :=
  match opOf (Lib.cut l [32]).1 18 with
  | none => ([], 40)
  | some k => lineF k (Lib.cut l [32]).2.1 (Lib.cut l [32]).2.2

theorem forms_row {w : World} (h : FormsAt w) : ∃ cs : Array Value, cs.size = 54 ∧ w.rangeAt 0 0 cs.toList ∧ ∀ k, k < 18 → cs.extract (k * 3) (k * 3 + 3) = #[.string ⟨(nameF k).toArray⟩, .int .i64 (moreF k : Int), .int .i64 (costF k : Int)] := by
  refine ⟨((List.range 54).map fun j => (w.cell? ⟨0, j, none⟩).getD undef).toArray, by simp, ?_, ?_⟩
  · intro j v hv
    have hj : j < 54 := by have := (List.getElem?_eq_some_iff.1 hv).1; simpa using this
    simp [hj] at hv
    subst hv
    obtain ⟨k, r, hk, hr, rfl⟩ : ∃ k r, k < 18 ∧ r < 3 ∧ j = k * 3 + r := ⟨j / 3, j % 3, by omega, by omega, by omega⟩
    obtain ⟨h0, h1, h2⟩ := h k hk
    rw [Nat.zero_add]
    match r, hr with
    | 0, _ => rw [Nat.add_zero, h0]; rfl
    | 1, _ => rw [h1]; rfl
    | 2, _ => rw [h2]; rfl
  · intro k hk
    obtain ⟨h0, h1, h2⟩ := h k hk
    apply Array.ext_getElem?
    intro i
    rw [Array.getElem?_extract]
    by_cases hi : i < 3
    · rw [if_pos (by simp; omega)]
      have e : ∀ j, j < 54 → ((List.range 54).map fun j => (w.cell? ⟨0, j, none⟩).getD undef).toArray[j]? = some ((w.cell? ⟨0, j, none⟩).getD undef) := fun j hj => by simp [hj]
      rw [e _ (by omega)]
      match i, hi with
      | 0, _ => rw [Nat.add_zero, h0]; rfl
      | 1, _ => rw [h1]; rfl
      | 2, _ => rw [h2]; rfl
    · rw [if_neg (by simp; omega), Array.getElem?_eq_none (by simp; omega)]

theorem opOf_step (name : List UInt8) (k : Nat) (hk : k < 18) : opOf name (18 - k) = if nameF k = name then some k else opOf name (18 - (k + 1)) := by
  obtain ⟨g, hg⟩ : ∃ g, 18 - k = g + 1 := ⟨18 - k - 1, by omega⟩
  rw [hg, opOf, show 18 - (g + 1) = k by omega, show 18 - (k + 1) = g by omega]

theorem two_cell (w : World) (x y z : Value) (o : Obj) {i : Value} {T : TypeId} (h : i = y) : ((w.alloc (.cells #[x, y, z] T)).alloc o).cell? ⟨w.heap.size, 1, none⟩ = some i := by
  subst h
  have := kept_alloc o (alloc_new w (.cells #[x, i, z] T))
  simp [World.cell?, this]
theorem size_alloc2 (w : World) (o1 o2 : Obj) : ((w.alloc o1).alloc o2).heap.size = w.heap.size + 2 := by simp
theorem own_caps {w : World} {base : Nat} {e : TypeId} {a : Option Addr} {n m c : Nat} {xs : List Value} (h : w.ownsRow base e 1 (.slice a n c) m xs) : n ≤ c ∧ c ≤ maxLen := by
  rcases h.2 with ⟨hv, h0⟩ | ⟨g, cap', cur, hv, _, _, h1, h2, _⟩
  · simp only [Value.slice.injEq] at hv; obtain ⟨-, rfl, rfl⟩ := hv; exact ⟨Nat.le_refl _, Nat.zero_le _⟩
  · simp only [Value.slice.injEq] at hv; obtain ⟨-, rfl, rfl⟩ := hv; exact ⟨h1, h2⟩
theorem eight_news {w : World} {g : Nat} (m d : Nat) {U : Nat} (hm : m + d = 8) (h : ∀ j u, ((bytesI (U : Int) 8).map (Value.int .u8))[j]? = some u → w.cell? ⟨g, j, none⟩ = some u) :
    ∀ j u, ((bytesI (U : Int) m).map (Value.int .u8))[j]? = some u → w.cell? ((⟨g, 0 + d, none⟩ : Addr).add j) = some u := by
  intro j u hu
  have e : ((⟨g, 0 + d, none⟩ : Addr).add j) = ⟨g, d + j, none⟩ := by
    rw [Nat.zero_add]
    unfold Addr.add
    split
    · rename_i h0; subst h0; rfl
    · rfl
  rw [e]
  apply h
  rw [← hm, ← bytesI_drop (U : Int) m d] at *
  simpa [List.getElem?_drop] using hu
theorem own_blk {w : World} {base : Nat} {e : TypeId} {n : Nat} {v : Value} {xs : List Value} (h : w.ownsRow base e 1 v (n + 1) xs) : ∃ g c, v = .slice (some ⟨g, 0, none⟩) (n + 1) c ∧ n + 1 ≤ c ∧ c ≤ maxLen ∧ base ≤ g ∧ g < w.heap.size ∧ ∀ j u, xs[j]? = some u → w.cell? ⟨g, j, none⟩ = some u := by
  rcases h.2 with ⟨_, h0⟩ | ⟨g, cap', cur, rfl, hg, hh, h1, h2, _⟩
  · omega
  · refine ⟨g, cap', rfl, h1, h2, hg, lt_of_block hh, fun j u hu => ?_⟩
    have hj : j < n + 1 := by have := (List.getElem?_eq_some_iff.1 hu).1; have := h.1; omega
    rw [h.cellAt j (by omega)]; exact hu
theorem Only.grow1 {S : List Nat} {a w w' : World} {row : Option Nat} (h : Only S a w) (hg : w.grownBy w' row) (hr : ∀ g, row = some g → a.heap.size ≤ g ∨ g ∈ S) : Only S a w' :=
  ⟨hg.os.trans h.os, hg.tape.trans h.tape, hg.output.trans h.output, Nat.le_trans h.size hg.size, fun k hk hs => (hg.block k (Nat.lt_of_lt_of_le hk h.size) fun e => by
    rcases hr k e.symm with h' | h'
    · omega
    · exact hs h').trans (h.block k hk hs)⟩
theorem Only.eight {a w w6 : World} {o1 o2 : Obj} (h : Only [] a w) (h63 : ∀ k, k < ((w.alloc o1).alloc o2).heap.size → k ≠ w.heap.size → w6.heap[k]? = ((w.alloc o1).alloc o2).heap[k]?) (h64 : Below 0 ((w.alloc o1).alloc o2) w6) : Only [] a w6 := by
  have h1 : Only [w.heap.size] ((w.alloc o1).alloc o2) w6 := ⟨h64.os, h64.tape, h64.output, h64.size, fun k hk hs => h63 k hk (by simpa using hs)⟩
  exact ((h.alloc o1).alloc o2).trans h1 (fun x hx hlt => by simp at hx; subst hx; have := h.size; omega)
theorem moreF_cases (k : Nat) : moreF k = 0 ∨ moreF k = 1 ∨ moreF k = 2 ∨ moreF k = 8 := by unfold moreF; split <;> simp
theorem own_one (w : World) (B g : Nat) (x : Value) {e : TypeId} (h : w.heap[g]? = some (.cells #[x] e (0, 0))) (hB : B ≤ g) : w.ownsRow B e 1 (.slice (some ⟨g, 0, none⟩) 1 1) 1 [x] :=
  ⟨rfl, Or.inr ⟨g, 1, #[x], rfl, hB, h, Nat.le_refl _, by unfold maxLen; omega, rfl, rfl⟩⟩

set_option maxRecDepth 20000 in
set_option maxHeartbeats 4000000 in
theorem order_any (s : ByteArray) (hs : s.size ≤ 4096) (w : World) (hL : LaidAt w) :
    Calls Tryd.prog 33 #[.string s] w fun x w' => ∃ v, x = .returned (.tuple #[v, .int .i64 ((orderF s.data.toList).2 : Int)]) ∧
      w'.ownsRow w.heap.size 5 1 v (orderF s.data.toList).1.length ((orderF s.data.toList).1.map fun (b : Nat) => .int .u8 (b : Int)) ∧ Only [] w w' := by
  obtain ⟨m, hm⟩ := hL.len
  have hcut := fun w (hm : w.cell? ⟨2, 0, none⟩ = some (.int .i64 m)) => Any.strings_Cut Tryd.lays145 s ⟨#[32]⟩ m w (by omega) hm
  obtain ⟨R, e0⟩ : ∃ R, orderF s.data.toList = R := ⟨_, rfl⟩
  rw [e0]
  rw [orderF] at e0
  have hcl : (Lib.cut s.data.toList [32]).1.length ≤ 4096 ∧ (Lib.cut s.data.toList [32]).2.1.length ≤ 4096 := by
    have h : s.data.toList.length ≤ 4096 := by simpa using hs
    unfold Lib.cut
    split
    · simp; omega
    · simp; omega
  obtain ⟨⟨nm, rest, more⟩, hc⟩ : ∃ r, Lib.cut s.data.toList [32] = r := ⟨_, rfl⟩
  rw [hc] at e0 hcl
  rw [show (⟨#[32]⟩ : ByteArray).data.toList = [32] from rfl, hc] at hcut
  simp only at e0 hcl hcut
  obtain ⟨y, hy⟩ : ∃ y : ByteArray, (⟨nm.toArray⟩ : ByteArray) = y := ⟨_, rfl⟩
  rw [hy] at hcut
  have HY := Lib.hid hy
  clear hy
  have HA := Lib.hid (And.intro hL (And.intro hcl (And.intro hs e0)))
  have HC := Lib.hid hcut
  have HM := Lib.hid hm
  obtain ⟨cs, hcs, hrow, hget⟩ := forms_row hL.forms
  have HF := Lib.hid (And.intro hcs (And.intro hrow hget))
  have hz := hL.pos
  clear hL hcl hcut hm hc e0 hcs hrow hget hs
  go_enter Tryd.func33, Tryd.ntmps33
  go_wp2_with (first
    | (go_at_call 51; refine (HC.out _ HM.out).mono ?_; rintro e w1 ⟨rfl, q, hq⟩; (have H1 := Lib.hid hq); (have hz1 : 1 ≤ w1.heap.size := by rw [hq]; exact hz); clear hq)
    | ((with_reducible refine wpList_load_part 0 0 cs _ ?_ ?_ Tryd.underlying60 ?_ ?_ ?_)
       (· rw [H1.out]; exact HF.out.2.1); (· rfl); (· rfl); (· rw [HF.out.1]; kernel_rfl)))
  go_loopg [20] 19 (fun g s20 wr => ∃ k : Nat, k + g = 19 ∧ g ≠ 0 ∧ s20 = .int .i64 (k : Int) ∧ opOf nm 18 = opOf nm (18 - k) ∧ Only [] w wr)
  case atStart => exact ⟨0, rfl, by omega, rfl, rfl, by rw [H1.out]; exact (Only.refl _ _).drewN _⟩
  case round =>
    obtain ⟨k, hkg, hg0, rfl, hop, hO⟩ := hrel
    have HO := Lib.hid (And.intro hop hO)
    have hzr : 1 ≤ wr.heap.size := by have := hO.size; omega
    clear hop hO
    by_cases hk : k < 18
    · have hki : (k : Int) < 18 := by omega
      have hki0 : (0 : Int) ≤ (k : Int) := by omega
      obtain ⟨u, hu⟩ : ∃ u : ByteArray, (⟨(nameF k).toArray⟩ : ByteArray) = u := ⟨_, rfl⟩
      have hy := HY.out
      obtain ⟨mo, hmo⟩ : ∃ mo, moreF k = mo := ⟨_, rfl⟩
      obtain ⟨co, hco⟩ : ∃ co, costF k = co := ⟨_, rfl⟩
      have hget := HF.out.2.2 k hk
      rw [hu, hmo, hco] at hget
      have HU := Lib.hid (And.intro hu (And.intro hmo (And.intro hget hk)))
      clear hu hmo hco hget hk
      by_cases hn : nameF k = nm
      · have heq : (u.toList == y.toList) = true := by
          rw [← HU.out.1, ← hy, hn]; simp
        have hR : R = lineF k rest more := by
          rw [← HA.out.2.2.2, HO.out.1, opOf_step nm k HU.out.2.2.2, if_pos hn]
        have hmoc : mo = 0 ∨ mo = 1 ∨ mo = 2 ∨ mo = 8 := by rw [← HU.out.2.1]; exact moreF_cases k
        have hkm := HU.out.2.1
        have hk18 : k < 18 := HU.out.2.2.2
        have HR := Lib.hid (And.intro hR hkm)
        have hru : ∀ x : ByteArray, x = ⟨rest.toArray⟩ → x.size ≤ 4096 := fun x hx => by subst hx; show rest.toArray.size ≤ 4096; simpa using HA.out.2.1.2
        have HRS := Lib.hid (hru _ rfl)
        have hk256 : (k : Int) < 256 := by omega
        clear hn hy hR hkm hk18 hru
        cases more with
        | false =>
          rcases hmoc with rfl | rfl | rfl | rfl
          · have e1 : R = ([k], 0) := by rw [HR.out.1, lineF, HR.out.2]; rfl
            subst e1
            go_wp2_with ((with_reducible refine wpList_index_struct 59 (n := 18) (sz := 3) (k := .i64) Tryd.underlying60 ?_ Tryd.underlying59 ?_ k HU.out.2.2.2 _ HU.out.2.2.1 ?_ ?_ ?_); (· kernel_rfl); (· rfl); (· rfl); (· rfl))
            refine bodyPost_ret (v := .tuple #[.slice (some ⟨wr.heap.size + 1, 0, none⟩) 1 1, .int .i64 0]) (by simp [results, Tryd.results33, go_sem]) rfl ?_
            refine ⟨_, rfl, own_one _ _ _ _ (heap_alloc2_new _ _ _) (by have := HO.out.2.size; omega), ((HO.out.2.alloc _).alloc _)⟩
          · have e1 : R = ([], 10) := by rw [HR.out.1, lineF, HR.out.2]; rfl
            subst e1
            go_wp2_with ((with_reducible refine wpList_index_struct 59 (n := 18) (sz := 3) (k := .i64) Tryd.underlying60 ?_ Tryd.underlying59 ?_ k HU.out.2.2.2 _ HU.out.2.2.1 ?_ ?_ ?_); (· kernel_rfl); (· rfl); (· rfl); (· rfl))
            refine bodyPost_ret (v := .tuple #[.slice none 0 0, .int .i64 10]) (by simp [results, Tryd.results33, go_sem]) rfl ?_
            exact ⟨_, rfl, ⟨rfl, Or.inl ⟨rfl, rfl⟩⟩, (HO.out.2.alloc _)⟩
          · have e1 : R = ([], 10) := by rw [HR.out.1, lineF, HR.out.2]; rfl
            subst e1
            go_wp2_with ((with_reducible refine wpList_index_struct 59 (n := 18) (sz := 3) (k := .i64) Tryd.underlying60 ?_ Tryd.underlying59 ?_ k HU.out.2.2.2 _ HU.out.2.2.1 ?_ ?_ ?_); (· kernel_rfl); (· rfl); (· rfl); (· rfl))
            refine bodyPost_ret (v := .tuple #[.slice none 0 0, .int .i64 10]) (by simp [results, Tryd.results33, go_sem]) rfl ?_
            exact ⟨_, rfl, ⟨rfl, Or.inl ⟨rfl, rfl⟩⟩, (HO.out.2.alloc _)⟩
          · have e1 : R = ([], 10) := by rw [HR.out.1, lineF, HR.out.2]; rfl
            subst e1
            go_wp2_with ((with_reducible refine wpList_index_struct 59 (n := 18) (sz := 3) (k := .i64) Tryd.underlying60 ?_ Tryd.underlying59 ?_ k HU.out.2.2.2 _ HU.out.2.2.1 ?_ ?_ ?_); (· kernel_rfl); (· rfl); (· rfl); (· rfl))
            refine bodyPost_ret (v := .tuple #[.slice none 0 0, .int .i64 10]) (by simp [results, Tryd.results33, go_sem]) rfl ?_
            exact ⟨_, rfl, ⟨rfl, Or.inl ⟨rfl, rfl⟩⟩, (HO.out.2.alloc _)⟩
        | true =>
          rcases hmoc with rfl | rfl | rfl | rfl
          · have e1 : R = ([], 10) := by rw [HR.out.1, lineF, HR.out.2]; rfl
            subst e1
            go_wp2_with ((with_reducible refine wpList_index_struct 59 (n := 18) (sz := 3) (k := .i64) Tryd.underlying60 ?_ Tryd.underlying59 ?_ k HU.out.2.2.2 _ HU.out.2.2.1 ?_ ?_ ?_); (· kernel_rfl); (· rfl); (· rfl); (· rfl))
            refine bodyPost_ret (v := .tuple #[.slice none 0 0, .int .i64 10]) (by simp [results, Tryd.results33, go_sem]) rfl ?_
            exact ⟨_, rfl, ⟨rfl, Or.inl ⟨rfl, rfl⟩⟩, (HO.out.2.alloc _)⟩
          · have e1 : R = match Lib.parseUintB 8 rest with
                | .ok u => if Lib.decDigits u = rest then (k :: bytesN u 1, 0) else ([], 10)
                | _ => ([], 10) := by rw [HR.out.1, lineF, HR.out.2]; rfl
            by_cases hq : ∃ U, Lib.parseUintB 8 rest = .ok U
            · obtain ⟨U, hU⟩ := hq
              have hU64 : U < 18446744073709551616 := by have := Lib.parseUintB_le hU; omega
              have HU64 := Lib.hid hU64
              have HQ : Hid (Lib.parseUintB 8 (⟨rest.toArray⟩ : ByteArray).data.toList = .ok U) := Lib.hid hU
              rw [hU] at e1
              simp only at e1
              clear hU hU64
              by_cases hd : Lib.decDigits U = rest
              · rw [if_pos hd] at e1
                subst e1
                have hfs : (Lib.decDigits U == rest) = true := by rw [hd]; simp
                clear hd
                go_wp2_with (first
                  | (go_at_call 52; refine (pu_ok 8 (Or.inr (Or.inr rfl)) ⟨rest.toArray⟩ HRS.out U HQ.out _).mono ?_; rintro e w4 ⟨rfl, hO4⟩; (have h40 := ((HO.out.2.alloc _).alloc _).trans hO4 (by simp)); (have hz4 := hO4.size); (have c4 : w4.cell? ⟨wr.heap.size, 1, none⟩ = some (.int .i64 1) := by rw [hO4.cell (p := ⟨wr.heap.size, 1, none⟩) (by simp; omega) (by simp)]; exact two_cell _ _ _ _ _ rfl); (have b4 : w4.heap[wr.heap.size + 1]? = some (.cells #[.int .u8 (k : Int)] 5 (0, 0)) := hO4.keeps (heap_alloc2_new _ _ _) (by simp)); (have H4 := Lib.hid (And.intro h40 b4)); (simp only [size_alloc2] at hz4); clear hO4 h40 b4)
                  | (go_at_call 28; refine (fmt_any U HU64.out _ (HA.out.1.only H4.out.1 (by simp)).tab).mono ?_; rintro e w5 ⟨rfl, hO5⟩; (have h50 := H4.out.1.trans hO5 (by simp)); (have hz5 := hO5.size); (have c5 : w5.cell? ⟨wr.heap.size, 1, none⟩ = some (.int .i64 1) := by rw [hO5.cell (p := ⟨wr.heap.size, 1, none⟩) (by show wr.heap.size < _; omega) (by simp)]; exact c4); (have b5 : w5.heap[wr.heap.size + 1]? = some (.cells #[.int .u8 (k : Int)] 5 (0, 0)) := hO5.keeps H4.out.2 (by simp)); (have H5 := Lib.hid (And.intro h50 b5)); clear hO5 h50 b5)
                  | (go_at_call 53; refine (eight_any U _ (by omega) (by have := HU64.out; omega) w5.heap.size ?_ (w5.heap.size + 1) ?_).mono ?_; (· exact (Below.heap_alloc _ _ _ (by simp)).trans (alloc_new _ _)); (· exact heap_alloc2_new _ _ _); rintro e w6 ⟨v6, rfl, h61, h62, h63, h64⟩; (obtain ⟨g6, c6, rfl, hc61, hc62, -, -, hc63⟩ := own_blk h61); (have b6 : w6.heap[wr.heap.size + 1]? = some (.cells #[.int .u8 (k : Int)] 5 (0, 0)) := ((h63 _ (by simp; omega) (by omega)).trans ((Below.heap_alloc _ _ _ (by simp; omega)).trans (Below.heap_alloc _ _ _ (by omega)))).trans H5.out.2); (have c61 : w6.cell? ⟨wr.heap.size, 1, none⟩ = some (.int .i64 1) := by rw [World.cell?_of_block (w := w5) ((h63 _ (by simp; omega) (by show wr.heap.size ≠ _; omega)).trans ((Below.heap_alloc _ _ _ (by simp; show wr.heap.size < _; omega)).trans (Below.heap_alloc _ _ _ (by show wr.heap.size < _; omega))))]; exact c5); (have H6 := Lib.hid (And.intro h61 (And.intro hc61 (And.intro hc62 (And.intro hc63 (And.intro b6 (And.intro h63 h64))))))); (have hz6 := h64.size); (simp only [size_alloc2] at hz6); clear h61 h62 h63 h64 hc61 hc62 hc63 b6)
                  | ((with_reducible refine wpList_slice_l 5 Tryd.underlying98 Tryd.sizeOf5 (ad := some ⟨g6, 0, none⟩) (n := 8) (c := c6) (z1 := 7) (k1 := .i64) 7 ?_ ?_ ?_ ?_ ?_ 1 (c6 - 7) ?_ ?_ ?_); (· rfl); (· rfl); (· rfl); (· omega); (· exact H6.out.2.1); (· rfl); (· rfl); (intro a7 h7); (obtain rfl := h7 (by omega) _ _ rfl); clear h7)
                  | ((with_reducible refine wpList_app2 w.heap.size 5 (.int .u8 0) 1 1 Tryd.underlying22 Tryd.underlying98 ?_ ?_ ?_ (.slice (some ⟨wr.heap.size + 1, 0, none⟩) 1 1) 1 [.int .u8 (k : Int)] ?_ ?_ ⟨g6, 0 + 7, none⟩ 1 (c6 - 7) ((bytesI (U : Int) 1).map (Value.int .u8)) ?_ ?_ ?_ ?_ ?_ ?_ ?_ ?_); (· kernel_rfl); (· rfl); (· decide); (· rfl); (· exact own_one _ _ _ _ H6.out.2.2.2.2.1 (by have := HO.out.2.size; omega)); (· rfl); (· simp [bytesI_length]); (· exact eight_news 1 7 rfl H6.out.2.2.2.1); (· simp [Value.oneCell']); (· unfold maxLen; omega); (· omega); (· have := HO.out.2.size; omega); (intro v8 w8 hown8 hgr8 hnil8 hblk8); (have H8 := Lib.hid (And.intro hown8 hgr8)); clear hown8 hgr8 hnil8 hblk8)
                  | ((with_reducible refine wpList_index_struct 59 (n := 18) (sz := 3) (k := .i64) Tryd.underlying60 ?_ Tryd.underlying59 ?_ k HU.out.2.2.2 _ HU.out.2.2.1 ?_ ?_ ?_); (· kernel_rfl); (· rfl); (· rfl); (· rfl)))
                refine bodyPost_ret (v := .tuple #[v8, .int .i64 0]) (by simp [results, Tryd.results33, go_sem]) rfl ?_
                have h6 := H5.out.1.eight H6.out.2.2.2.2.2.1 H6.out.2.2.2.2.2.2
                refine ⟨_, rfl, ?_, h6.grow1 H8.out.2 fun g hg => ?_⟩
                · have := H8.out.1
                  simpa [bytesI_nat, bytesN_length, Nat.add_comm, Function.comp_def] using this
                · simp [Value.ownBlock] at hg; have := HO.out.2.size; exact Or.inl (by omega)
              · rw [if_neg hd] at e1
                subst e1
                have hfs : (Lib.decDigits U == rest) = false := by simpa using hd
                clear hd
                go_wp2_with (first
                  | (go_at_call 52; refine (pu_ok 8 (Or.inr (Or.inr rfl)) ⟨rest.toArray⟩ HRS.out U HQ.out _).mono ?_; rintro e w4 ⟨rfl, hO4⟩; (have h40 := ((HO.out.2.alloc _).alloc _).trans hO4 (by simp)); (have hz4 := hO4.size); (have c4 : w4.cell? ⟨wr.heap.size, 1, none⟩ = some (.int .i64 1) := by rw [hO4.cell (p := ⟨wr.heap.size, 1, none⟩) (by simp; omega) (by simp)]; exact two_cell _ _ _ _ _ rfl); (have b4 : w4.heap[wr.heap.size + 1]? = some (.cells #[.int .u8 (k : Int)] 5 (0, 0)) := hO4.keeps (heap_alloc2_new _ _ _) (by simp)); (have H4 := Lib.hid (And.intro h40 b4)); (simp only [size_alloc2] at hz4); clear hO4 h40 b4)
                  | (go_at_call 28; refine (fmt_any U HU64.out _ (HA.out.1.only H4.out.1 (by simp)).tab).mono ?_; rintro e w5 ⟨rfl, hO5⟩; (have h50 := H4.out.1.trans hO5 (by simp)); (have hz5 := hO5.size); (have c5 : w5.cell? ⟨wr.heap.size, 1, none⟩ = some (.int .i64 1) := by rw [hO5.cell (p := ⟨wr.heap.size, 1, none⟩) (by show wr.heap.size < _; omega) (by simp)]; exact c4); (have b5 : w5.heap[wr.heap.size + 1]? = some (.cells #[.int .u8 (k : Int)] 5 (0, 0)) := hO5.keeps H4.out.2 (by simp)); (have H5 := Lib.hid (And.intro h50 b5)); clear hO5 h50 b5)
                  | ((with_reducible refine wpList_index_struct 59 (n := 18) (sz := 3) (k := .i64) Tryd.underlying60 ?_ Tryd.underlying59 ?_ k HU.out.2.2.2 _ HU.out.2.2.1 ?_ ?_ ?_); (· kernel_rfl); (· rfl); (· rfl); (· rfl)))
                refine bodyPost_ret (v := .tuple #[.slice none 0 0, .int .i64 10]) (by simp [results, Tryd.results33, go_sem]) rfl ?_
                exact ⟨_, rfl, ⟨rfl, Or.inl ⟨rfl, rfl⟩⟩, H5.out.1⟩
            · have hq' : ∀ U, Lib.parseUintB 8 (⟨rest.toArray⟩ : ByteArray).data.toList ≠ .ok U := fun U h => hq ⟨U, h⟩
              have e2 : R = ([], 10) := by
                rw [e1]
                rcases hz : Lib.parseUintB 8 rest with U | _ | _
                · exact absurd ⟨U, hz⟩ hq
                · rfl
                · rfl
              have HQ := Lib.hid hq'
              clear e1 hq hq'
              subst e2
              go_wp2_with (first
                | (go_at_call 52; refine (pu_bad 8 (Or.inr (Or.inr rfl)) ⟨rest.toArray⟩ HRS.out HQ.out _ (HA.out.1.only ((HO.out.2.alloc _).alloc _) (by simp))).mono ?_; rintro e w4 ⟨U, T, N, rfl, hO4⟩; (have H4 := Lib.hid hO4); clear hO4)
                | ((with_reducible refine wpList_index_struct 59 (n := 18) (sz := 3) (k := .i64) Tryd.underlying60 ?_ Tryd.underlying59 ?_ k HU.out.2.2.2 _ HU.out.2.2.1 ?_ ?_ ?_); (· kernel_rfl); (· rfl); (· rfl); (· rfl)))
              refine bodyPost_ret (v := .tuple #[.slice none 0 0, .int .i64 10]) (by simp [results, Tryd.results33, go_sem]) rfl ?_
              exact ⟨_, rfl, ⟨rfl, Or.inl ⟨rfl, rfl⟩⟩, ((HO.out.2.alloc _).alloc _).trans H4.out (by simp)⟩
          · have e1 : R = match Lib.parseUintB 16 rest with
                | .ok u => if Lib.decDigits u = rest then (k :: bytesN u 2, 0) else ([], 10)
                | _ => ([], 10) := by rw [HR.out.1, lineF, HR.out.2]; rfl
            by_cases hq : ∃ U, Lib.parseUintB 16 rest = .ok U
            · obtain ⟨U, hU⟩ := hq
              have hU64 : U < 18446744073709551616 := by have := Lib.parseUintB_le hU; omega
              have HU64 := Lib.hid hU64
              have HQ : Hid (Lib.parseUintB 16 (⟨rest.toArray⟩ : ByteArray).data.toList = .ok U) := Lib.hid hU
              rw [hU] at e1
              simp only at e1
              clear hU hU64
              by_cases hd : Lib.decDigits U = rest
              · rw [if_pos hd] at e1
                subst e1
                have hfs : (Lib.decDigits U == rest) = true := by rw [hd]; simp
                clear hd
                go_wp2_with (first
                  | (go_at_call 52; refine (pu_ok 16 (Or.inr (Or.inl rfl)) ⟨rest.toArray⟩ HRS.out U HQ.out _).mono ?_; rintro e w4 ⟨rfl, hO4⟩; (have h40 := ((HO.out.2.alloc _).alloc _).trans hO4 (by simp)); (have hz4 := hO4.size); (have c4 : w4.cell? ⟨wr.heap.size, 1, none⟩ = some (.int .i64 2) := by rw [hO4.cell (p := ⟨wr.heap.size, 1, none⟩) (by simp; omega) (by simp)]; exact two_cell _ _ _ _ _ rfl); (have b4 : w4.heap[wr.heap.size + 1]? = some (.cells #[.int .u8 (k : Int)] 5 (0, 0)) := hO4.keeps (heap_alloc2_new _ _ _) (by simp)); (have H4 := Lib.hid (And.intro h40 b4)); (simp only [size_alloc2] at hz4); clear hO4 h40 b4)
                  | (go_at_call 28; refine (fmt_any U HU64.out _ (HA.out.1.only H4.out.1 (by simp)).tab).mono ?_; rintro e w5 ⟨rfl, hO5⟩; (have h50 := H4.out.1.trans hO5 (by simp)); (have hz5 := hO5.size); (have c5 : w5.cell? ⟨wr.heap.size, 1, none⟩ = some (.int .i64 2) := by rw [hO5.cell (p := ⟨wr.heap.size, 1, none⟩) (by show wr.heap.size < _; omega) (by simp)]; exact c4); (have b5 : w5.heap[wr.heap.size + 1]? = some (.cells #[.int .u8 (k : Int)] 5 (0, 0)) := hO5.keeps H4.out.2 (by simp)); (have H5 := Lib.hid (And.intro h50 b5)); clear hO5 h50 b5)
                  | (go_at_call 53; refine (eight_any U _ (by omega) (by have := HU64.out; omega) w5.heap.size ?_ (w5.heap.size + 1) ?_).mono ?_; (· exact (Below.heap_alloc _ _ _ (by simp)).trans (alloc_new _ _)); (· exact heap_alloc2_new _ _ _); rintro e w6 ⟨v6, rfl, h61, h62, h63, h64⟩; (obtain ⟨g6, c6, rfl, hc61, hc62, -, -, hc63⟩ := own_blk h61); (have b6 : w6.heap[wr.heap.size + 1]? = some (.cells #[.int .u8 (k : Int)] 5 (0, 0)) := ((h63 _ (by simp; omega) (by omega)).trans ((Below.heap_alloc _ _ _ (by simp; omega)).trans (Below.heap_alloc _ _ _ (by omega)))).trans H5.out.2); (have c61 : w6.cell? ⟨wr.heap.size, 1, none⟩ = some (.int .i64 2) := by rw [World.cell?_of_block (w := w5) ((h63 _ (by simp; omega) (by show wr.heap.size ≠ _; omega)).trans ((Below.heap_alloc _ _ _ (by simp; show wr.heap.size < _; omega)).trans (Below.heap_alloc _ _ _ (by show wr.heap.size < _; omega))))]; exact c5); (have H6 := Lib.hid (And.intro h61 (And.intro hc61 (And.intro hc62 (And.intro hc63 (And.intro b6 (And.intro h63 h64))))))); (have hz6 := h64.size); (simp only [size_alloc2] at hz6); clear h61 h62 h63 h64 hc61 hc62 hc63 b6)
                  | ((with_reducible refine wpList_slice_l 5 Tryd.underlying98 Tryd.sizeOf5 (ad := some ⟨g6, 0, none⟩) (n := 8) (c := c6) (z1 := 6) (k1 := .i64) 6 ?_ ?_ ?_ ?_ ?_ 2 (c6 - 6) ?_ ?_ ?_); (· rfl); (· rfl); (· rfl); (· omega); (· exact H6.out.2.1); (· rfl); (· rfl); (intro a7 h7); (obtain rfl := h7 (by omega) _ _ rfl); clear h7)
                  | ((with_reducible refine wpList_app2 w.heap.size 5 (.int .u8 0) 1 1 Tryd.underlying22 Tryd.underlying98 ?_ ?_ ?_ (.slice (some ⟨wr.heap.size + 1, 0, none⟩) 1 1) 1 [.int .u8 (k : Int)] ?_ ?_ ⟨g6, 0 + 6, none⟩ 2 (c6 - 6) ((bytesI (U : Int) 2).map (Value.int .u8)) ?_ ?_ ?_ ?_ ?_ ?_ ?_ ?_); (· kernel_rfl); (· rfl); (· decide); (· rfl); (· exact own_one _ _ _ _ H6.out.2.2.2.2.1 (by have := HO.out.2.size; omega)); (· rfl); (· simp [bytesI_length]); (· exact eight_news 2 6 rfl H6.out.2.2.2.1); (· simp [Value.oneCell']); (· unfold maxLen; omega); (· omega); (· have := HO.out.2.size; omega); (intro v8 w8 hown8 hgr8 hnil8 hblk8); (have H8 := Lib.hid (And.intro hown8 hgr8)); clear hown8 hgr8 hnil8 hblk8)
                  | ((with_reducible refine wpList_index_struct 59 (n := 18) (sz := 3) (k := .i64) Tryd.underlying60 ?_ Tryd.underlying59 ?_ k HU.out.2.2.2 _ HU.out.2.2.1 ?_ ?_ ?_); (· kernel_rfl); (· rfl); (· rfl); (· rfl)))
                refine bodyPost_ret (v := .tuple #[v8, .int .i64 0]) (by simp [results, Tryd.results33, go_sem]) rfl ?_
                have h6 := H5.out.1.eight H6.out.2.2.2.2.2.1 H6.out.2.2.2.2.2.2
                refine ⟨_, rfl, ?_, h6.grow1 H8.out.2 fun g hg => ?_⟩
                · have := H8.out.1
                  simpa [bytesI_nat, bytesN_length, Nat.add_comm, Function.comp_def] using this
                · simp [Value.ownBlock] at hg; have := HO.out.2.size; exact Or.inl (by omega)
              · rw [if_neg hd] at e1
                subst e1
                have hfs : (Lib.decDigits U == rest) = false := by simpa using hd
                clear hd
                go_wp2_with (first
                  | (go_at_call 52; refine (pu_ok 16 (Or.inr (Or.inl rfl)) ⟨rest.toArray⟩ HRS.out U HQ.out _).mono ?_; rintro e w4 ⟨rfl, hO4⟩; (have h40 := ((HO.out.2.alloc _).alloc _).trans hO4 (by simp)); (have hz4 := hO4.size); (have c4 : w4.cell? ⟨wr.heap.size, 1, none⟩ = some (.int .i64 2) := by rw [hO4.cell (p := ⟨wr.heap.size, 1, none⟩) (by simp; omega) (by simp)]; exact two_cell _ _ _ _ _ rfl); (have b4 : w4.heap[wr.heap.size + 1]? = some (.cells #[.int .u8 (k : Int)] 5 (0, 0)) := hO4.keeps (heap_alloc2_new _ _ _) (by simp)); (have H4 := Lib.hid (And.intro h40 b4)); (simp only [size_alloc2] at hz4); clear hO4 h40 b4)
                  | (go_at_call 28; refine (fmt_any U HU64.out _ (HA.out.1.only H4.out.1 (by simp)).tab).mono ?_; rintro e w5 ⟨rfl, hO5⟩; (have h50 := H4.out.1.trans hO5 (by simp)); (have hz5 := hO5.size); (have c5 : w5.cell? ⟨wr.heap.size, 1, none⟩ = some (.int .i64 2) := by rw [hO5.cell (p := ⟨wr.heap.size, 1, none⟩) (by show wr.heap.size < _; omega) (by simp)]; exact c4); (have b5 : w5.heap[wr.heap.size + 1]? = some (.cells #[.int .u8 (k : Int)] 5 (0, 0)) := hO5.keeps H4.out.2 (by simp)); (have H5 := Lib.hid (And.intro h50 b5)); clear hO5 h50 b5)
                  | ((with_reducible refine wpList_index_struct 59 (n := 18) (sz := 3) (k := .i64) Tryd.underlying60 ?_ Tryd.underlying59 ?_ k HU.out.2.2.2 _ HU.out.2.2.1 ?_ ?_ ?_); (· kernel_rfl); (· rfl); (· rfl); (· rfl)))
                refine bodyPost_ret (v := .tuple #[.slice none 0 0, .int .i64 10]) (by simp [results, Tryd.results33, go_sem]) rfl ?_
                exact ⟨_, rfl, ⟨rfl, Or.inl ⟨rfl, rfl⟩⟩, H5.out.1⟩
            · have hq' : ∀ U, Lib.parseUintB 16 (⟨rest.toArray⟩ : ByteArray).data.toList ≠ .ok U := fun U h => hq ⟨U, h⟩
              have e2 : R = ([], 10) := by
                rw [e1]
                rcases hz : Lib.parseUintB 16 rest with U | _ | _
                · exact absurd ⟨U, hz⟩ hq
                · rfl
                · rfl
              have HQ := Lib.hid hq'
              clear e1 hq hq'
              subst e2
              go_wp2_with (first
                | (go_at_call 52; refine (pu_bad 16 (Or.inr (Or.inl rfl)) ⟨rest.toArray⟩ HRS.out HQ.out _ (HA.out.1.only ((HO.out.2.alloc _).alloc _) (by simp))).mono ?_; rintro e w4 ⟨U, T, N, rfl, hO4⟩; (have H4 := Lib.hid hO4); clear hO4)
                | ((with_reducible refine wpList_index_struct 59 (n := 18) (sz := 3) (k := .i64) Tryd.underlying60 ?_ Tryd.underlying59 ?_ k HU.out.2.2.2 _ HU.out.2.2.1 ?_ ?_ ?_); (· kernel_rfl); (· rfl); (· rfl); (· rfl)))
              refine bodyPost_ret (v := .tuple #[.slice none 0 0, .int .i64 10]) (by simp [results, Tryd.results33, go_sem]) rfl ?_
              exact ⟨_, rfl, ⟨rfl, Or.inl ⟨rfl, rfl⟩⟩, ((HO.out.2.alloc _).alloc _).trans H4.out (by simp)⟩
          · have e1 : R = match Lib.parseUintB 64 rest with
                | .ok u => if Lib.decDigits u = rest then (k :: bytesN u 8, 0) else ([], 10)
                | _ => ([], 10) := by rw [HR.out.1, lineF, HR.out.2]; rfl
            by_cases hq : ∃ U, Lib.parseUintB 64 rest = .ok U
            · obtain ⟨U, hU⟩ := hq
              have hU64 : U < 18446744073709551616 := by have := Lib.parseUintB_le hU; omega
              have HU64 := Lib.hid hU64
              have HQ : Hid (Lib.parseUintB 64 (⟨rest.toArray⟩ : ByteArray).data.toList = .ok U) := Lib.hid hU
              rw [hU] at e1
              simp only at e1
              clear hU hU64
              by_cases hd : Lib.decDigits U = rest
              · rw [if_pos hd] at e1
                subst e1
                have hfs : (Lib.decDigits U == rest) = true := by rw [hd]; simp
                clear hd
                go_wp2_with (first
                  | (go_at_call 52; refine (pu_ok 64 (Or.inl rfl) ⟨rest.toArray⟩ HRS.out U HQ.out _).mono ?_; rintro e w4 ⟨rfl, hO4⟩; (have h40 := ((HO.out.2.alloc _).alloc _).trans hO4 (by simp)); (have hz4 := hO4.size); (have c4 : w4.cell? ⟨wr.heap.size, 1, none⟩ = some (.int .i64 8) := by rw [hO4.cell (p := ⟨wr.heap.size, 1, none⟩) (by simp; omega) (by simp)]; exact two_cell _ _ _ _ _ rfl); (have b4 : w4.heap[wr.heap.size + 1]? = some (.cells #[.int .u8 (k : Int)] 5 (0, 0)) := hO4.keeps (heap_alloc2_new _ _ _) (by simp)); (have H4 := Lib.hid (And.intro h40 b4)); (simp only [size_alloc2] at hz4); clear hO4 h40 b4)
                  | (go_at_call 28; refine (fmt_any U HU64.out _ (HA.out.1.only H4.out.1 (by simp)).tab).mono ?_; rintro e w5 ⟨rfl, hO5⟩; (have h50 := H4.out.1.trans hO5 (by simp)); (have hz5 := hO5.size); (have c5 : w5.cell? ⟨wr.heap.size, 1, none⟩ = some (.int .i64 8) := by rw [hO5.cell (p := ⟨wr.heap.size, 1, none⟩) (by show wr.heap.size < _; omega) (by simp)]; exact c4); (have b5 : w5.heap[wr.heap.size + 1]? = some (.cells #[.int .u8 (k : Int)] 5 (0, 0)) := hO5.keeps H4.out.2 (by simp)); (have H5 := Lib.hid (And.intro h50 b5)); clear hO5 h50 b5)
                  | (go_at_call 53; refine (eight_any U _ (by omega) (by have := HU64.out; omega) w5.heap.size ?_ (w5.heap.size + 1) ?_).mono ?_; (· exact (Below.heap_alloc _ _ _ (by simp)).trans (alloc_new _ _)); (· exact heap_alloc2_new _ _ _); rintro e w6 ⟨v6, rfl, h61, h62, h63, h64⟩; (obtain ⟨g6, c6, rfl, hc61, hc62, -, -, hc63⟩ := own_blk h61); (have b6 : w6.heap[wr.heap.size + 1]? = some (.cells #[.int .u8 (k : Int)] 5 (0, 0)) := ((h63 _ (by simp; omega) (by omega)).trans ((Below.heap_alloc _ _ _ (by simp; omega)).trans (Below.heap_alloc _ _ _ (by omega)))).trans H5.out.2); (have c61 : w6.cell? ⟨wr.heap.size, 1, none⟩ = some (.int .i64 8) := by rw [World.cell?_of_block (w := w5) ((h63 _ (by simp; omega) (by show wr.heap.size ≠ _; omega)).trans ((Below.heap_alloc _ _ _ (by simp; show wr.heap.size < _; omega)).trans (Below.heap_alloc _ _ _ (by show wr.heap.size < _; omega))))]; exact c5); (have H6 := Lib.hid (And.intro h61 (And.intro hc61 (And.intro hc62 (And.intro hc63 (And.intro b6 (And.intro h63 h64))))))); (have hz6 := h64.size); (simp only [size_alloc2] at hz6); clear h61 h62 h63 h64 hc61 hc62 hc63 b6)
                  | ((with_reducible refine wpList_slice_l 5 Tryd.underlying98 Tryd.sizeOf5 (ad := some ⟨g6, 0, none⟩) (n := 8) (c := c6) (z1 := 0) (k1 := .i64) 0 ?_ ?_ ?_ ?_ ?_ 8 (c6 - 0) ?_ ?_ ?_); (· rfl); (· rfl); (· rfl); (· omega); (· exact H6.out.2.1); (· rfl); (· rfl); (intro a7 h7); (obtain rfl := h7 (by omega) _ _ rfl); clear h7)
                  | ((with_reducible refine wpList_app2 w.heap.size 5 (.int .u8 0) 1 1 Tryd.underlying22 Tryd.underlying98 ?_ ?_ ?_ (.slice (some ⟨wr.heap.size + 1, 0, none⟩) 1 1) 1 [.int .u8 (k : Int)] ?_ ?_ ⟨g6, 0 + 0, none⟩ 8 (c6 - 0) ((bytesI (U : Int) 8).map (Value.int .u8)) ?_ ?_ ?_ ?_ ?_ ?_ ?_ ?_); (· kernel_rfl); (· rfl); (· decide); (· rfl); (· exact own_one _ _ _ _ H6.out.2.2.2.2.1 (by have := HO.out.2.size; omega)); (· rfl); (· simp [bytesI_length]); (· exact eight_news 8 0 rfl H6.out.2.2.2.1); (· simp [Value.oneCell']); (· unfold maxLen; omega); (· omega); (· have := HO.out.2.size; omega); (intro v8 w8 hown8 hgr8 hnil8 hblk8); (have H8 := Lib.hid (And.intro hown8 hgr8)); clear hown8 hgr8 hnil8 hblk8)
                  | ((with_reducible refine wpList_index_struct 59 (n := 18) (sz := 3) (k := .i64) Tryd.underlying60 ?_ Tryd.underlying59 ?_ k HU.out.2.2.2 _ HU.out.2.2.1 ?_ ?_ ?_); (· kernel_rfl); (· rfl); (· rfl); (· rfl)))
                refine bodyPost_ret (v := .tuple #[v8, .int .i64 0]) (by simp [results, Tryd.results33, go_sem]) rfl ?_
                have h6 := H5.out.1.eight H6.out.2.2.2.2.2.1 H6.out.2.2.2.2.2.2
                refine ⟨_, rfl, ?_, h6.grow1 H8.out.2 fun g hg => ?_⟩
                · have := H8.out.1
                  simpa [bytesI_nat, bytesN_length, Nat.add_comm, Function.comp_def] using this
                · simp [Value.ownBlock] at hg; have := HO.out.2.size; exact Or.inl (by omega)
              · rw [if_neg hd] at e1
                subst e1
                have hfs : (Lib.decDigits U == rest) = false := by simpa using hd
                clear hd
                go_wp2_with (first
                  | (go_at_call 52; refine (pu_ok 64 (Or.inl rfl) ⟨rest.toArray⟩ HRS.out U HQ.out _).mono ?_; rintro e w4 ⟨rfl, hO4⟩; (have h40 := ((HO.out.2.alloc _).alloc _).trans hO4 (by simp)); (have hz4 := hO4.size); (have c4 : w4.cell? ⟨wr.heap.size, 1, none⟩ = some (.int .i64 8) := by rw [hO4.cell (p := ⟨wr.heap.size, 1, none⟩) (by simp; omega) (by simp)]; exact two_cell _ _ _ _ _ rfl); (have b4 : w4.heap[wr.heap.size + 1]? = some (.cells #[.int .u8 (k : Int)] 5 (0, 0)) := hO4.keeps (heap_alloc2_new _ _ _) (by simp)); (have H4 := Lib.hid (And.intro h40 b4)); (simp only [size_alloc2] at hz4); clear hO4 h40 b4)
                  | (go_at_call 28; refine (fmt_any U HU64.out _ (HA.out.1.only H4.out.1 (by simp)).tab).mono ?_; rintro e w5 ⟨rfl, hO5⟩; (have h50 := H4.out.1.trans hO5 (by simp)); (have hz5 := hO5.size); (have c5 : w5.cell? ⟨wr.heap.size, 1, none⟩ = some (.int .i64 8) := by rw [hO5.cell (p := ⟨wr.heap.size, 1, none⟩) (by show wr.heap.size < _; omega) (by simp)]; exact c4); (have b5 : w5.heap[wr.heap.size + 1]? = some (.cells #[.int .u8 (k : Int)] 5 (0, 0)) := hO5.keeps H4.out.2 (by simp)); (have H5 := Lib.hid (And.intro h50 b5)); clear hO5 h50 b5)
                  | ((with_reducible refine wpList_index_struct 59 (n := 18) (sz := 3) (k := .i64) Tryd.underlying60 ?_ Tryd.underlying59 ?_ k HU.out.2.2.2 _ HU.out.2.2.1 ?_ ?_ ?_); (· kernel_rfl); (· rfl); (· rfl); (· rfl)))
                refine bodyPost_ret (v := .tuple #[.slice none 0 0, .int .i64 10]) (by simp [results, Tryd.results33, go_sem]) rfl ?_
                exact ⟨_, rfl, ⟨rfl, Or.inl ⟨rfl, rfl⟩⟩, H5.out.1⟩
            · have hq' : ∀ U, Lib.parseUintB 64 (⟨rest.toArray⟩ : ByteArray).data.toList ≠ .ok U := fun U h => hq ⟨U, h⟩
              have e2 : R = ([], 10) := by
                rw [e1]
                rcases hz : Lib.parseUintB 64 rest with U | _ | _
                · exact absurd ⟨U, hz⟩ hq
                · rfl
                · rfl
              have HQ := Lib.hid hq'
              clear e1 hq hq'
              subst e2
              go_wp2_with (first
                | (go_at_call 52; refine (pu_bad 64 (Or.inl rfl) ⟨rest.toArray⟩ HRS.out HQ.out _ (HA.out.1.only ((HO.out.2.alloc _).alloc _) (by simp))).mono ?_; rintro e w4 ⟨U, T, N, rfl, hO4⟩; (have H4 := Lib.hid hO4); clear hO4)
                | ((with_reducible refine wpList_index_struct 59 (n := 18) (sz := 3) (k := .i64) Tryd.underlying60 ?_ Tryd.underlying59 ?_ k HU.out.2.2.2 _ HU.out.2.2.1 ?_ ?_ ?_); (· kernel_rfl); (· rfl); (· rfl); (· rfl)))
              refine bodyPost_ret (v := .tuple #[.slice none 0 0, .int .i64 10]) (by simp [results, Tryd.results33, go_sem]) rfl ?_
              exact ⟨_, rfl, ⟨rfl, Or.inl ⟨rfl, rfl⟩⟩, ((HO.out.2.alloc _).alloc _).trans H4.out (by simp)⟩
      · have hne : (u.toList == y.toList) = false := by
          rw [← HU.out.1, ← hy]; simpa using hn
        have HN := Lib.hid hn
        clear hn hy
        go_wp2_with ((with_reducible refine wpList_index_struct 59 (n := 18) (sz := 3) (k := .i64) Tryd.underlying60 ?_ Tryd.underlying59 ?_ k HU.out.2.2.2 _ HU.out.2.2.1 ?_ ?_ ?_); (· kernel_rfl); (· rfl); (· rfl); (· rfl))
        go_roundg (gk - 1)
        case measure => omega
        case rel => exact ⟨k + 1, by omega, by have := HU.out.2.2.2; omega, by go_num, by rw [HO.out.1, opOf_step nm k HU.out.2.2.2, if_neg HN.out], HO.out.2.alloc _⟩
    · have hki : ¬ (k : Int) < 18 := by omega
      have e1 : R = ([], 40) := by
        rw [← HA.out.2.2.2, HO.out.1, show 18 - k = 0 by omega]; rfl
      subst e1
      clear hkg hk
      go_wp2_with fail
      refine bodyPost_ret (v := .tuple #[.slice none 0 0, .int .i64 40]) (by simp [results, Tryd.results33, go_sem]) rfl ?_
      exact ⟨_, rfl, ⟨rfl, Or.inl ⟨rfl, rfl⟩⟩, HO.out.2⟩
end Go.Proofs.YtfhhkapjpmfolaaDoor
