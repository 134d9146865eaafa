/-
  Maps whose block is known as a list of keys and values: a look-up, a store, a deletion, the length.
-/
import Derived.Test.YthbhkmhmiplikaaBase
import Derived.Laws.StructEq
import Derived.MapKept
namespace Go.Proofs.Ythbhkmhmiplikaa
open Go.RowKit

section
variable {α : Type}

/-- The value at a key; the first one. -/
def look [DecidableEq α] (l : List (α × Value)) (a : α) : Option Value := (l.find? fun p => decide (p.1 = a)).map (·.2)
/-- With a value at a key: in the place of what is there, or as the last one. -/
def put [DecidableEq α] (l : List (α × Value)) (a : α) (v : Value) : List (α × Value) := if a ∈ l.map (·.1) then l.map fun p => if p.1 = a then (a, v) else p else l ++ [(a, v)]
/-- Without a key. -/
def del [DecidableEq α] (l : List (α × Value)) (a : α) : List (α × Value) := l.filter fun p => decide (p.1 ≠ a)

/-- Block r is a map that holds l: each key once. -/
def MapKV (enc : α → Value) (w : World) (r : Nat) (l : List (α × Value)) : Prop :=
  (l.map (·.1)).Nodup ∧ ∃ es clock, w.heap[r]? = some (.map es clock) ∧ es.toList.map (fun e => (e.key, e.val)) = l.map fun p => (enc p.1, p.2)

theorem MapKV.fr {enc : α → Value} {w w' : World} {r : Nat} {l : List (α × Value)} (h : MapKV enc w r l) {S : List Nat} (k : Fr S w w') (hr : r ∉ S) : MapKV enc w' r l := by
  obtain ⟨hn, es, c, h1, h2⟩ := h
  exact ⟨hn, es, c, k.keep h1 hr, h2⟩
theorem MapKV.drewN {enc : α → Value} {w : World} {r : Nat} {l : List (α × Value)} (h : MapKV enc w r l) (q : Nat) : MapKV enc (w.drewN q) r l := h
theorem MapKV.lt {enc : α → Value} {w : World} {r : Nat} {l : List (α × Value)} (h : MapKV enc w r l) : r < w.heap.size := by
  obtain ⟨_, es, c, h1, _⟩ := h
  exact lt_of_block h1
theorem MapKV.new (enc : α → Value) (w : World) : MapKV enc (w.alloc (.map #[] 0)) w.heap.size [] := ⟨by simp, #[], 0, block_alloc_new _ _, rfl⟩

/-- What the model's map asks of a key's type. -/
structure KeyOk [DecidableEq α] (P : Program) (k : TypeId) (enc : α → Value) : Prop where
  inj : ∀ a b, enc a = enc b → a = b
  check : ∀ (w : World) (em : Bool) (a : α), (Instr.checkKey em 10000 k (enc a)).run P w = .ok () w
  find : ∀ (w : World) (a : α) (es : List MapEntry) (ks : List α), es.map (·.key) = ks.map enc →
    (Instr.findKey k (enc a) es).run P w = .ok ((ks.findIdx? fun b => decide (b = a)).bind fun i => (es[i]?).map fun e => (i, e.val)) w
  stays : ∀ (w : World) (a : α), (Instr.keyThatStays (enc a) (enc a)).run P w = .ok (enc a) w

theorem keys_of {enc : α → Value} {es : List MapEntry} {l : List (α × Value)} (h : es.map (fun e => (e.key, e.val)) = l.map fun p => (enc p.1, p.2)) :
    es.map (·.key) = (l.map (·.1)).map enc := by
  have := congrArg (List.map Prod.fst) h
  simpa [Function.comp_def] using this

/-- What a look-up finds in the entries is what it finds in the list. -/
theorem found [DecidableEq α] {enc : α → Value} : ∀ {es : List MapEntry} {l : List (α × Value)} (_ : es.map (fun e => (e.key, e.val)) = l.map fun p => (enc p.1, p.2)) (a : α),
    ((((l.map (·.1)).findIdx? fun b => decide (b = a)).bind fun i => (es[i]?).map fun e => (i, e.val)).map (·.2)) = look l a
  | [], [], _, a => by simp [look]
  | [], p :: l, h, _ => by simp at h
  | e :: es, [], h, _ => by simp at h
  | e :: es, p :: l, h, a => by
    simp only [List.map_cons, List.cons.injEq, Prod.mk.injEq] at h
    obtain ⟨⟨h1, h2⟩, h3⟩ := h
    have ih := found h3 a
    simp only [List.map_cons, List.findIdx?_cons, look, List.find?_cons]
    by_cases hp : p.1 = a
    · simp [hp, h2]
    · simp only [hp, decide_false, Bool.false_eq_true, if_false]
      simp only [look] at ih
      rw [← ih]
      cases List.findIdx? (fun b => decide (b = a)) (l.map (·.1)) <;> simp [Function.comp_def]

theorem run_look [DecidableEq α] {P : Program} {k T : TypeId} {E : TypeId} {enc : α → Value} (K : KeyOk P k enc) (hT : P.underlying T = some (.map k E)) {z : Value} (hz : ∀ w : World, (zeroValue E).run P w = .ok z w)
    {w : World} {r : Nat} {l : List (α × Value)} (h : MapKV enc w r l) (a : α) (ok : Bool) :
    (Instr.lookup T (.map (some r)) (enc a) ok).run P w = .ok (if ok then .tuple #[(look l a).getD z, .bool (look l a).isSome] else (look l a).getD z) w := by
  obtain ⟨hn, es, c, h1, h2⟩ := h
  have hf := K.find w a es.toList (l.map (·.1)) (keys_of h2)
  have hg := found h2 a
  generalize hX : ((l.map (·.1)).findIdx? fun b => decide (b = a)).bind (fun i => (es.toList[i]?).map fun e => (i, e.val)) = X at hf hg
  have hck := K.check w es.isEmpty a
  cases X with
  | none =>
    simp only [Option.map_none] at hg
    simp only [← hg]
    simp [Instr.lookup, run_underlying hT, MapKept.run_getObj_map h1, hck, hf, hz, Result.andThen]
  | some p =>
    obtain ⟨i, v⟩ := p
    simp only [Option.map_some] at hg
    simp only [← hg]
    simp [Instr.lookup, run_underlying hT, MapKept.run_getObj_map h1, hck, hf, Result.andThen]


theorem map_eraseIdx {β γ : Type} (f : β → γ) : ∀ (l : List β) (i : Nat), (l.eraseIdx i).map f = (l.map f).eraseIdx i
  | [], i => by simp
  | x :: l, 0 => by simp
  | x :: l, i + 1 => by simp [map_eraseIdx f l i]

theorem block_set {w : World} {r : Nat} (h : r < w.heap.size) (o : Obj) : (w.heap.setIfInBounds r o)[r]? = some o := by simp [h]

theorem Fr.setBlock {S : List Nat} {a w : World} (h : Fr S a w) {r : Nat} (hr : r ∈ S ∨ a.heap.size ≤ r) (o : Obj) : Fr S a { w with heap := w.heap.setIfInBounds r o } :=
  ⟨h.os, h.tape, h.output, by simpa using h.size, fun k hk hn => by
    have hne : r ≠ k := fun e => by subst e; rcases hr with h1 | h1; exact hn h1; omega
    show (w.heap.setIfInBounds r o)[k]? = _
    rw [Array.getElem?_setIfInBounds_ne hne]
    exact h.block k hk hn⟩

theorem findIdx_none [DecidableEq α] {l : List (α × Value)} {a : α} (h : a ∉ l.map (·.1)) : ((l.map (·.1)).findIdx? fun b => decide (b = a)) = none := by
  rw [List.findIdx?_eq_none_iff]
  intro b hb
  exact decide_eq_false (fun e => h (e ▸ hb))
theorem findIdx_some [DecidableEq α] {l : List (α × Value)} {a : α} (h : a ∈ l.map (·.1)) : ∃ (i : Nat) (p : α × Value), ((l.map (·.1)).findIdx? fun b => decide (b = a)) = some i ∧ l[i]? = some p ∧ p.1 = a := by
  have hs : ((l.map (·.1)).findIdx? fun b => decide (b = a)).isSome := by
    rw [List.findIdx?_isSome, List.any_eq_true]
    exact ⟨a, h, by simp⟩
  obtain ⟨i, hi⟩ := Option.isSome_iff_exists.1 hs
  obtain ⟨hlt, he, _⟩ := List.findIdx?_eq_some_iff_getElem.1 hi
  simp only [List.length_map] at hlt
  exact ⟨i, l[i], hi, List.getElem?_eq_getElem hlt, by simpa using he⟩

theorem modify_put [DecidableEq α] {a : α} {v : Value} : ∀ {l : List (α × Value)} {i : Nat} {p : α × Value}, (l.map (·.1)).Nodup → l[i]? = some p → p.1 = a → (l.map fun p => if p.1 = a then (a, v) else p) = l.set i (a, v)
  | [], i, p, _, h, _ => by simp at h
  | q :: l, 0, p, hn, h, hp => by
    simp only [List.getElem?_cons_zero, Option.some.injEq] at h
    subst h
    simp only [List.map_cons, List.nodup_cons] at hn
    simp only [List.map_cons, hp, if_true, List.set_cons_zero, List.cons.injEq, true_and]
    apply List.ext_getElem (by simp)
    intro j h1 h2
    rw [List.getElem_map, if_neg]
    intro e
    exact hn.1 (by rw [hp, ← e]; exact List.mem_map_of_mem (List.getElem_mem _))
  | q :: l, i + 1, p, hn, h, hp => by
    simp only [List.map_cons, List.nodup_cons] at hn
    have hq : q.1 ≠ a := fun e => hn.1 (by
      rw [e, ← hp]
      exact List.mem_map_of_mem (List.mem_of_getElem? (by simpa using h)))
    simp only [List.map_cons, hq, if_false, List.set_cons_succ, List.cons.injEq, true_and]
    exact modify_put hn.2 (by simpa using h) hp

theorem erase_del [DecidableEq α] {a : α} : ∀ {l : List (α × Value)} {i : Nat} {p : α × Value}, (l.map (·.1)).Nodup → l[i]? = some p → p.1 = a → del l a = l.eraseIdx i
  | [], i, p, _, h, _ => by simp at h
  | q :: l, 0, p, hn, h, hp => by
    simp only [List.getElem?_cons_zero, Option.some.injEq] at h
    subst h
    simp only [List.map_cons, List.nodup_cons] at hn
    simp only [del, List.eraseIdx_cons_zero]
    rw [List.filter_cons_of_neg (by simp [hp]), List.filter_eq_self]
    intro x hx
    refine decide_eq_true fun e => hn.1 ?_
    rw [hp, ← e]
    exact List.mem_map_of_mem hx
  | q :: l, i + 1, p, hn, h, hp => by
    simp only [List.map_cons, List.nodup_cons] at hn
    have hq : q.1 ≠ a := fun e => hn.1 (by
      rw [e, ← hp]
      exact List.mem_map_of_mem (List.mem_of_getElem? (by simpa using h)))
    have ih := erase_del hn.2 (show l[i]? = some p by simpa using h) hp
    simp only [del] at ih ⊢
    rw [List.filter_cons_of_pos (by simp [hq]), ih, List.eraseIdx_cons_succ]

theorem keys_put [DecidableEq α] (l : List (α × Value)) (a : α) (v : Value) : (put l a v).map (·.1) = if a ∈ l.map (·.1) then l.map (·.1) else l.map (·.1) ++ [a] := by
  unfold put
  split
  · rw [List.map_map]
    apply List.map_congr_left
    intro p _
    simp only [Function.comp_def]
    split
    · rename_i h; exact h.symm
    · rfl
  · simp
theorem nodup_put [DecidableEq α] {l : List (α × Value)} (h : (l.map (·.1)).Nodup) (a : α) (v : Value) : ((put l a v).map (·.1)).Nodup := by
  rw [keys_put]
  split
  · exact h
  · rename_i hn
    rw [List.nodup_append]
    exact ⟨h, by simp, fun x hx y hy e => by simp at hy; subst hy; subst e; exact hn hx⟩
theorem nodup_del [DecidableEq α] {l : List (α × Value)} (h : (l.map (·.1)).Nodup) (a : α) : ((del l a).map (·.1)).Nodup :=
  h.sublist (List.filter_sublist.map _)

theorem run_put [DecidableEq α] {P : Program} {k T : TypeId} {E : TypeId} {enc : α → Value} (K : KeyOk P k enc) (hT : P.underlying T = some (.map k E)) {w : World} {r : Nat} {l : List (α × Value)} (h : MapKV enc w r l) (a : α) (v : Value) :
    ∃ o, (Instr.mapUpdate T (.map (some r)) (enc a) v).run P w = .ok () { w with heap := w.heap.setIfInBounds r o } ∧ MapKV enc { w with heap := w.heap.setIfInBounds r o } r (put l a v) := by
  obtain ⟨hn, es, c, h1, h2⟩ := h
  have hf := K.find w a es.toList (l.map (·.1)) (keys_of h2)
  have hck := K.check w false a
  have hlt := lt_of_block h1
  have hlen : es.toList.length = l.length := by have := congrArg List.length h2; simpa using this
  by_cases ha : a ∈ l.map (·.1)
  · obtain ⟨i, p, hi, hp, hpa⟩ := findIdx_some ha
    have hil : i < l.length := (List.getElem?_eq_some_iff.1 hp).1
    have hei : i < es.toList.length := by omega
    obtain ⟨e, he⟩ : ∃ e, es.toList[i]? = some e := ⟨_, List.getElem?_eq_getElem hei⟩
    have hke : e.key = enc a := by
      have := congrArg (fun x => x[i]?) h2
      simp only [List.getElem?_map, he, hp, Option.map_some, Option.some.injEq, Prod.mk.injEq] at this
      rw [this.1, hpa]
    have hke' : es[i]? = some e := by simpa using he
    rw [hi] at hf
    simp only [Option.bind_some, he, Option.map_some] at hf
    refine ⟨.map (es.modify i fun e => { e with key := enc a, val := v }) c, ?_, nodup_put hn a v, _, c, block_set hlt _, ?_⟩
    · have hs : (Instr.keyThatStays (((es[i]?).map (·.key)).getD (enc a)) (enc a)).run P w = .ok (enc a) w := by
        rw [hke']; simp only [Option.map_some, Option.getD_some, hke]; exact K.stays w a
      simp [Instr.mapUpdate, run_underlying hT, MapKept.run_getObj_map h1, hck, hf, hs, MapKept.run_setObj_map _ h1, Result.andThen]
    · rw [put, if_pos ha, modify_put hn hp hpa, List.map_set, ← h2]
      apply List.ext_getElem?
      intro j
      rw [List.getElem?_map, List.getElem?_set, List.getElem?_map]
      simp only [Array.getElem?_toList, Array.getElem?_modify]
      by_cases hij : i = j
      · subst hij
        simp [show i < es.size by simpa using hei]
      · simp [hij]
  · have hi := findIdx_none ha
    rw [hi] at hf
    simp only [Option.bind_none] at hf
    refine ⟨.map (es.push { key := enc a, val := v, born := c }) (c + 1), ?_, nodup_put hn a v, _, _, block_set hlt _, ?_⟩
    · simp [Instr.mapUpdate, run_underlying hT, MapKept.run_getObj_map h1, hck, hf, MapKept.run_setObj_map _ h1, Result.andThen]
    · rw [put, if_neg ha]
      simp [h2]

theorem run_del [DecidableEq α] {P : Program} {k T K' : TypeId} {E ty : TypeId} {enc : α → Value} (K : KeyOk P k enc) (hT : P.underlying T = some (.map k E)) {w : World} {r : Nat} {l : List (α × Value)} (h : MapKV enc w r l) (a : α) :
    ∃ o, (Builtin.delete_ #[T, K'] ty #[.map (some r), enc a]).run P w = .ok (.tuple #[]) { w with heap := w.heap.setIfInBounds r o } ∧ MapKV enc { w with heap := w.heap.setIfInBounds r o } r (del l a) := by
  obtain ⟨hn, es, c, h1, h2⟩ := h
  have hf := K.find w a es.toList (l.map (·.1)) (keys_of h2)
  have hck := K.check w es.isEmpty a
  have hlt := lt_of_block h1
  have hlen : es.toList.length = l.length := by have := congrArg List.length h2; simpa using this
  by_cases ha : a ∈ l.map (·.1)
  · obtain ⟨i, p, hi, hp, hpa⟩ := findIdx_some ha
    have hil : i < l.length := (List.getElem?_eq_some_iff.1 hp).1
    have hei : i < es.toList.length := by omega
    obtain ⟨e, he⟩ : ∃ e, es.toList[i]? = some e := ⟨_, List.getElem?_eq_getElem hei⟩
    rw [hi] at hf
    simp only [Option.bind_some, he, Option.map_some] at hf
    refine ⟨.map (es.eraseIdxIfInBounds i) c, ?_, nodup_del hn a, _, c, block_set hlt _, ?_⟩
    · simp [Builtin.delete_, run_underlying hT, MapKept.run_getObj_map h1, hck, hf, MapKept.run_setObj_map _ h1, Result.andThen]
    · rw [erase_del hn hp hpa, map_eraseIdx, ← h2, ← map_eraseIdx]
      congr 1
      simp
  · have hi := findIdx_none ha
    rw [hi] at hf
    simp only [Option.bind_none] at hf
    refine ⟨.map es c, ?_, nodup_del hn a, es, c, block_set hlt _, ?_⟩
    · simp [Builtin.delete_, run_underlying hT, MapKept.run_getObj_map h1, hck, hf, MapKept.run_setObj_map _ h1, Result.andThen]
    · rw [h2]
      congr 1
      unfold del
      rw [List.filter_eq_self.2]
      intro x hx
      exact decide_eq_true fun e => ha (e ▸ List.mem_map_of_mem hx)

theorem run_len_map {P : Program} {k T E ty : TypeId} {enc : α → Value} (hT : P.underlying T = some (.map k E)) {w : World} {r : Nat} {l : List (α × Value)} (h : MapKV enc w r l) :
    (Builtin.len_ #[T] ty #[.map (some r)]).run P w = .ok (.int .i64 l.length) w := by
  obtain ⟨hn, es, c, h1, h2⟩ := h
  have hlen : es.size = l.length := by have := congrArg List.length h2; simpa using this
  simp [Builtin.len_, run_underlying hT, MapKept.run_getObj_map h1, hlen, goInt, Result.andThen]

theorem put_run [DecidableEq α] {P : Program} {k T : TypeId} {E : TypeId} {enc : α → Value} (K : KeyOk P k enc) (hT : P.underlying T = some (.map k E)) {w : World} {r : Nat} {l : List (α × Value)} (h : MapKV enc w r l) (a : α) (v : Value) :
    ∃ w', (Instr.mapUpdate T (.map (some r)) (enc a) v).run P w = .ok () w' ∧ MapKV enc w' r (put l a v) ∧ Fr [r] w w' := by
  obtain ⟨o, h1, h2⟩ := run_put K hT h a v
  exact ⟨_, h1, h2, (Fr.refl _ _).setBlock (.inl (by simp)) o⟩
theorem del_run [DecidableEq α] {P : Program} {k T K' : TypeId} {E ty : TypeId} {enc : α → Value} (K : KeyOk P k enc) (hT : P.underlying T = some (.map k E)) {w : World} {r : Nat} {l : List (α × Value)} (h : MapKV enc w r l) (a : α) :
    ∃ w', (Builtin.delete_ #[T, K'] ty #[.map (some r), enc a]).run P w = .ok (.tuple #[]) w' ∧ MapKV enc w' r (del l a) ∧ Fr [r] w w' := by
  obtain ⟨o, h1, h2⟩ := run_del (K' := K') (ty := ty) K hT h a
  exact ⟨_, h1, h2, (Fr.refl _ _).setBlock (.inl (by simp)) o⟩
end
end Go.Proofs.Ythbhkmhmiplikaa
