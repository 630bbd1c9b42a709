/- Maps, over any program: a map's block as a list of pairs, in the order in which they came. -/
import Derived.Test.YtfhhkapjpmfolaaDoorMem2
import Derived.Maps.Own
import Derived.DeepKeys4
namespace Go.Proofs.YtfhhkapjpmfolaaDoor
open Go.RowKit
open Go.Maps (Keyed)

section
open Classical
/-- What a list of pairs has of a key. -/
noncomputable def mget : List (Value × Value) → Value → Option Value
  | [], _ => none
  | p :: r, k => if p.1 = k then some p.2 else mget r k
noncomputable def mput : List (Value × Value) → Value → Value → List (Value × Value)
  | [], k, v => [(k, v)]
  | p :: r, k, v => if p.1 = k then (k, v) :: r else p :: mput r k v
theorem mget_mput (l : List (Value × Value)) (k v k' : Value) : mget (mput l k v) k' = if k = k' then some v else mget l k' := by
  induction l with
  | nil => simp [mput, mget]
  | cons p r ih =>
    rw [mput]
    by_cases h : p.1 = k
    · rw [if_pos h, mget, mget]
      by_cases h' : k = k'
      · rw [if_pos h', if_pos h']
      · rw [if_neg h', if_neg h', if_neg (by rw [h]; exact h')]
    · rw [if_neg h, mget, ih, mget]
      by_cases h' : k = k'
      · rw [if_neg (by rw [← h']; exact h), if_pos h', if_pos h']
      · rw [if_neg h', if_neg h']
theorem mget_none (l : List (Value × Value)) (k : Value) (h : ∀ p ∈ l, p.1 ≠ k) : mget l k = none := by
  induction l with
  | nil => rfl
  | cons p r ih => rw [mget, if_neg (h p (by simp)), ih fun q hq => h q (by simp [hq])]
theorem mput_none (l : List (Value × Value)) (k v : Value) (h : ∀ p ∈ l, p.1 ≠ k) : mput l k v = l ++ [(k, v)] := by
  induction l with
  | nil => rfl
  | cons p r ih => rw [mput, if_neg (h p (by simp)), ih fun q hq => h q (by simp [hq])]; rfl
theorem mput_keys (l : List (Value × Value)) (k v : Value) : ∀ p ∈ mput l k v, p.1 = k ∨ p ∈ l := by
  induction l with
  | nil => intro p hp; simp [mput] at hp; exact Or.inl (by rw [hp])
  | cons q r ih =>
    intro p hp
    rw [mput] at hp
    split at hp
    · rcases List.mem_cons.1 hp with h | h
      · exact Or.inl (by rw [h])
      · exact Or.inr (by simp [h])
    · rcases List.mem_cons.1 hp with h | h
      · exact Or.inr (by simp [h])
      · rcases ih p h with h' | h'
        · exact Or.inl h'
        · exact Or.inr (by simp [h'])
theorem mput_length (l : List (Value × Value)) (k v : Value) : (mput l k v).length = if (mget l k).isSome then l.length else l.length + 1 := by
  induction l with
  | nil => simp [mput, mget]
  | cons p r ih =>
    rw [mput, mget]
    by_cases h : p.1 = k
    · rw [if_pos h, if_pos h]; simp
    · rw [if_neg h, if_neg h, List.length_cons, ih]
      by_cases h' : (mget r k).isSome
      · rw [if_pos h', if_pos h']; rfl
      · rw [if_neg h', if_neg h']; rfl
end

def KeyOk (P : Program) (k : TypeId) (v : Value) : Prop := ∃ l, keyOf P k v = some l
def pairOf (e : MapEntry) : Value × Value := (e.key, e.val)
/-- Block b is a map of these pairs. -/
def MapIs (P : Program) (k : TypeId) (w : World) (b : Nat) (l : List (Value × Value)) : Prop :=
  ∃ es clock, w.heap[b]? = some (.map es clock) ∧ es.toList.map pairOf = l ∧ (∀ p ∈ l, KeyOk P k p.1) ∧ (es.toList.map (·.born)).Pairwise (· < ·) ∧ ∀ e ∈ es.toList, e.born < clock

section
variable {P : Program}
theorem MapIs.only {k : TypeId} {w w' : World} {b : Nat} {l : List (Value × Value)} {S : List Nat} (h : MapIs P k w b l) (hO : Only S w w') (hb : b ∉ S) : MapIs P k w' b l := by
  obtain ⟨es, clock, h1, h2⟩ := h
  exact ⟨es, clock, hO.keeps h1 hb, h2⟩
theorem MapIs.lt {k : TypeId} {w : World} {b : Nat} {l : List (Value × Value)} (h : MapIs P k w b l) : b < w.heap.size := by
  obtain ⟨es, clock, h1, _⟩ := h; exact lt_of_block h1
theorem mapIs_new (k : TypeId) (w : World) : MapIs P k (w.alloc (.map #[] 0)) w.heap.size [] :=
  ⟨#[], 0, heap_alloc_last _ _, rfl, by simp, by simp, by simp⟩

theorem get_at (l : List MapEntry) (x : Value) (j : Nat) (e : MapEntry) (hj : l[j]? = some e) (he : e.key = x) (hu : ∀ i e', l[i]? = some e' → e'.key = x → i = j) : mget (l.map pairOf) x = some e.val ∧
    ∀ v, mput (l.map pairOf) x v = (l.modify j fun e => { e with key := x, val := v }).map pairOf := by
  induction l generalizing j with
  | nil => simp at hj
  | cons q r ih =>
    cases j with
    | zero =>
      simp at hj
      subst hj
      refine ⟨?_, fun v => ?_⟩
      · simp only [List.map_cons, mget, pairOf, he, if_true]
      · simp only [List.map_cons, mput, pairOf, he, if_true, List.modify_zero_cons]
    | succ j =>
      simp at hj
      have hq : q.key ≠ x := fun e' => by have := hu 0 q rfl e'; omega
      obtain ⟨h1, h2⟩ := ih j hj (fun i e' hi he' => by have := hu (i + 1) e' (by simpa using hi) he'; omega)
      refine ⟨?_, fun v => ?_⟩
      · simp only [List.map_cons, mget, pairOf]; rw [if_neg hq]; exact h1
      · simp only [List.map_cons, mput, pairOf]; rw [if_neg hq]; simp only [List.modify_succ_cons, List.map_cons]
        rw [h2 v]; rfl

/-- The keys of a map are apart: what 'mput' keeps. -/
def Apart (l : List (Value × Value)) : Prop := l.Pairwise fun p q => p.1 ≠ q.1
theorem mput_apart (l : List (Value × Value)) (k v : Value) (h : Apart l) : Apart (mput l k v) := by
  induction l with
  | nil => simp [mput, Apart]
  | cons p r ih =>
    obtain ⟨h1, h2⟩ := List.pairwise_cons.1 h
    rw [mput]
    split
    · rename_i e
      exact List.pairwise_cons.2 ⟨fun q hq => by rw [← e]; exact h1 q hq, h2⟩
    · rename_i e
      refine List.pairwise_cons.2 ⟨fun q hq => ?_, ih h2⟩
      rcases mput_keys r k v q hq with h' | h'
      · rw [h']; exact e
      · exact h1 q h'
theorem apart_at {l : List MapEntry} (h : Apart (l.map pairOf)) {i j : Nat} {a b : MapEntry} (hi : l[i]? = some a) (hj : l[j]? = some b) (he : a.key = b.key) : i = j := by
  induction l generalizing i j with
  | nil => simp at hi
  | cons q r ih =>
    obtain ⟨h1, h2⟩ := List.pairwise_cons.1 h
    cases i with
    | zero =>
      cases j with
      | zero => rfl
      | succ j =>
        simp at hi hj
        subst hi
        exact absurd he (h1 (pairOf b) (List.mem_map.2 ⟨b, List.mem_of_getElem? hj, rfl⟩))
    | succ i =>
      cases j with
      | zero =>
        simp at hi hj
        subst hj
        exact absurd he.symm (h1 (pairOf a) (List.mem_map.2 ⟨a, List.mem_of_getElem? hi, rfl⟩))
      | succ j =>
        simp at hi hj
        rw [ih h2 hi hj]

theorem find_map {kt : TypeId} (K : Keyed P kt) (w : World) {x : Value} (hx : KeyOk P kt x) (es : List MapEntry) (hk : ∀ p ∈ es.map pairOf, KeyOk P kt p.1) (hA : Apart (es.map pairOf)) :
    ((Instr.findKey kt x es).run P w = .ok none w ∧ mget (es.map pairOf) x = none ∧ ∀ v, mput (es.map pairOf) x v = es.map pairOf ++ [(x, v)]) ∨
    ∃ j e, (Instr.findKey kt x es).run P w = .ok (some (j, e.val)) w ∧ es[j]? = some e ∧ e.key = x ∧ mget (es.map pairOf) x = some e.val ∧ ∀ v, mput (es.map pairOf) x v = (es.modify j fun e => { e with key := x, val := v }).map pairOf := by
  obtain ⟨lx, hlx⟩ := hx
  rcases K.find w hlx es (fun e he => hk (pairOf e) (List.mem_map.2 ⟨e, he, rfl⟩)) with ⟨h1, h2⟩ | ⟨j, e, h1, h2, h3⟩
  · have hn : ∀ p ∈ es.map pairOf, p.1 ≠ x := fun p hp => by
      obtain ⟨e, he, rfl⟩ := List.mem_map.1 hp
      exact h2 e he
    exact Or.inl ⟨h1, mget_none _ _ hn, fun v => mput_none _ _ _ hn⟩
  · obtain ⟨g1, g2⟩ := get_at es x j e h2 h3 (fun i e' hi he' => apart_at hA hi h2 (he'.trans h3.symm))
    exact Or.inr ⟨j, e, h1, h2, h3, g1, g2⟩

/-- v, ok := m[k] -/
theorem run_lookup_ok {T kt et : TypeId} (K : Keyed P kt) (hT : P.underlying T = some (.map kt et)) {w : World} {b : Nat} {l : List (Value × Value)} (h : MapIs P kt w b l) (hA : Apart l) {x : Value} (hx : KeyOk P kt x)
    {z : Value} (hz : ∀ w, (zeroValue et).run P w = .ok z w) (W : World) (hW : W.heap = w.heap) :
    (Instr.lookup T (.map (some b)) x true).run P W = .ok (.tuple #[(mget l x).getD z, .bool (mget l x).isSome]) W ∧
    (Instr.lookup T (.map (some b)) x false).run P W = .ok ((mget l x).getD z) W := by
  obtain ⟨es, clock, hb, rfl, hk, _, _⟩ := h
  rw [← hW] at hb
  obtain ⟨lx, hlx⟩ := id hx
  rcases find_map K W hx es.toList hk hA with ⟨h1, h2, _⟩ | ⟨j, e, h1, _, _, h2, _⟩
  · rw [h2]
    constructor <;> simp [Instr.lookup, run_underlying hT, MapKept.run_getObj_map hb, K.check W _ hlx, h1, hz, Result.andThen]
  · rw [h2]
    constructor <;> simp [Instr.lookup, run_underlying hT, MapKept.run_getObj_map hb, K.check W _ hlx, h1, Result.andThen]
/-- .. of a nil map. -/
theorem run_len_map' {T kt et ty : TypeId} (hT : P.underlying T = some (.map kt et)) {w : World} {b : Nat} {l : List (Value × Value)} (h : MapIs P kt w b l) (W : World) (hW : W.heap = w.heap) :
    (Builtin.len_ #[T] ty #[.map (some b)]).run P W = .ok (.int .i64 l.length) W := by
  obtain ⟨es, clock, hb, rfl, _⟩ := h
  rw [← hW] at hb
  simp [Builtin.len_, run_underlying hT, MapKept.run_getObj_map hb, Result.andThen, goInt]

def World.setObj (w : World) (b : Nat) (o : Obj) : World := { w with heap := w.heap.setIfInBounds b o }
theorem setObj_only {w : World} {b : Nat} (o : Obj) {S : List Nat} {a : World} (h : Only S a w) (hb : a.heap.size ≤ b ∨ b ∈ S) : Only S a (World.setObj w b o) :=
  ⟨h.os, h.tape, h.output, by have := h.size; simpa [World.setObj] using this, fun k hk hs => by
    have hne : b ≠ k := by
      intro e
      subst e
      rcases hb with hb | hb
      · omega
      · exact hs hb
    show (w.heap.setIfInBounds b o)[k]? = _
    rw [Array.getElem?_setIfInBounds, if_neg hne]
    exact h.block k hk hs⟩
theorem setObj_heap {w : World} {b : Nat} (o : Obj) (hb : b < w.heap.size) : (World.setObj w b o).heap[b]? = some o := by
  show (w.heap.setIfInBounds b o)[b]? = _
  rw [Array.getElem?_setIfInBounds, if_pos rfl, if_pos hb]

theorem push_stamps {es : Array MapEntry} {clock : Nat} {k v : Value} (h1 : (es.toList.map (·.born)).Pairwise (· < ·)) (h2 : ∀ e ∈ es.toList, e.born < clock) :
    ((es.push ⟨k, v, clock⟩).toList.map (·.born)).Pairwise (· < ·) ∧ ∀ e ∈ (es.push ⟨k, v, clock⟩).toList, e.born < clock + 1 := by
  refine ⟨?_, fun e he => ?_⟩
  · rw [Array.toList_push, List.map_append, List.pairwise_append]
    refine ⟨h1, by simp, fun a ha b hb => ?_⟩
    obtain ⟨e, he, rfl⟩ := List.mem_map.1 ha
    simp at hb
    subst hb
    exact h2 e he
  · rw [Array.toList_push, List.mem_append] at he
    rcases he with he | he
    · have := h2 e he; omega
    · simp at he; subst he; simp
theorem modify_born (l : List MapEntry) (j : Nat) (k v : Value) : (l.modify j fun e => { e with key := k, val := v }).map (·.born) = l.map (·.born) := by
  induction l generalizing j with
  | nil => simp
  | cons q r ih =>
    cases j with
    | zero => simp
    | succ j => simp [ih]

/-- m[k] = v -/
theorem run_mapUpdate {T kt et : TypeId} (K : Keyed P kt) (hT : P.underlying T = some (.map kt et)) {w : World} {b : Nat} {l : List (Value × Value)} (h : MapIs P kt w b l) (hA : Apart l) {x v : Value} (hx : KeyOk P kt x) :
    ∃ o, (Instr.mapUpdate T (.map (some b)) x v).run P w = .ok () (World.setObj w b o) ∧ MapIs P kt (World.setObj w b o) b (mput l x v) := by
  obtain ⟨es, clock, hb, rfl, hk, hs1, hs2⟩ := h
  obtain ⟨lx, hlx⟩ := id hx
  have hlt := lt_of_block hb
  have hkk : ∀ p ∈ mput (es.toList.map pairOf) x v, KeyOk P kt p.1 := fun p hp => by
    rcases mput_keys _ _ _ p hp with h | h
    · rw [h]; exact hx
    · exact hk p h
  rcases find_map K w hx es.toList hk hA with ⟨h1, _, h2⟩ | ⟨j, e, h1, he, hek, _, h2⟩
  · refine ⟨.map (es.push ⟨x, v, clock⟩) (clock + 1), ?_, ⟨es.push ⟨x, v, clock⟩, clock + 1, setObj_heap _ hlt, ?_, hkk, push_stamps hs1 hs2⟩⟩
    · simp [Instr.mapUpdate, run_underlying hT, MapKept.run_getObj_map hb, K.check w _ hlx, h1, MapKept.run_setObj_map _ hb, Result.andThen, World.setObj]
    · rw [h2 v]; simp [pairOf]
  · have hes : es[j]? = some e := by rw [← Array.getElem?_toList]; exact he
    have hst := K.stays w hlx
    refine ⟨.map (es.modify j fun e => { e with key := x, val := v }) clock, ?_, ⟨es.modify j fun e => { e with key := x, val := v }, clock, setObj_heap _ hlt, ?_, hkk, ?_, ?_⟩⟩
    · simp [Instr.mapUpdate, run_underlying hT, MapKept.run_getObj_map hb, K.check w _ hlx, h1, MapKept.run_setObj_map _ hb, Result.andThen, World.setObj, hes, hek, hst]
    · rw [h2 v, Array.toList_modify]
    · rw [Array.toList_modify, modify_born]; exact hs1
    · intro e' he'
      have : e'.born ∈ (es.modify j fun e => { e with key := x, val := v }).toList.map (·.born) := List.mem_map.2 ⟨e', he', rfl⟩
      rw [Array.toList_modify, modify_born] at this
      obtain ⟨e'', h3, h4⟩ := List.mem_map.1 this
      rw [← h4]; exact hs2 e'' h3
theorem wpList_mapUpdate_is {ops : Array Oper} {rest : List Oper} {dst : Option Nat} {ty0 : TypeId} {pos : String} {after : _} {a : Act} {w : World} {Q : Exit → Act → World → Prop} {T : TypeId} {m x v : Operand}
    (kt et : TypeId) (K : Keyed P kt) (hT : P.underlying T = some (.map kt et)) (b : Nat) (l : List (Value × Value)) (h : MapIs P kt w b l) (hA : Apart l) (key val : Value) (hx : KeyOk P kt key)
    (hm : a.eval m = .map (some b)) (hk : a.eval x = key) (hv : a.eval v = val)
    (hK : ∀ w', MapIs P kt w' b (mput l key val) → (∃ o, w' = World.setObj w b o) → wpList P ops Q rest (a.put dst undef) w') :
    wpList P ops Q ((⟨dst, .mapUpdate T m x v, ty0, pos, after, none⟩ : Oper) :: rest) a w := by
  refine wpList_plain rfl fun K' hK' => ?_
  obtain ⟨o, hrun, r1⟩ := run_mapUpdate (v := val) K hT h hA hx
  unfold Oper.wp
  simp [execOp, hm, hk, hv, hrun, Result.andThen]
  exact hK' _ _ (hK _ r1 ⟨o, rfl⟩)
end
end Go.Proofs.YtfhhkapjpmfolaaDoor
