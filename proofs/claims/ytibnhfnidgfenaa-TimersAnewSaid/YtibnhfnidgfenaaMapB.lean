/-
  Maps whose entries' stamps are known to be apart: what 'm[k] = append(m[k], x)' asks for.
-/
import Derived.Test.YtibnhfnidgfenaaKeys
namespace Go.Proofs.Ytibnhfnidgfenaa
open Go.RowKit

section
variable {α : Type}
/-- Block r is a map that holds l: each key once; no two entries bear one stamp. -/
def MapB (enc : α → Value) (w : World) (r : Nat) (l : List (α × Value)) : Prop :=
  (l.map (·.1)).Nodup ∧ ∃ es clock, w.heap[r]? = some (.map es clock) ∧ es.toList.map (fun e => (e.key, e.val)) = l.map (fun p => (enc p.1, p.2)) ∧ (es.toList.map (·.born)).Nodup ∧ ∀ e ∈ es.toList, e.born < clock
theorem MapB.kv {enc : α → Value} {w : World} {r : Nat} {l : List (α × Value)} (h : MapB enc w r l) : MapKV enc w r l := by
  obtain ⟨h1, es, c, h2, h3, _⟩ := h
  exact ⟨h1, es, c, h2, h3⟩
theorem MapB.fr {enc : α → Value} {w w' : World} {r : Nat} {l : List (α × Value)} (h : MapB enc w r l) {S : List Nat} (k : Fr S w w') (hr : r ∉ S) : MapB enc w' r l := by
  obtain ⟨hn, es, c, h1, h2⟩ := h
  exact ⟨hn, es, c, k.keep h1 hr, h2⟩
theorem MapB.lt {enc : α → Value} {w : World} {r : Nat} {l : List (α × Value)} (h : MapB enc w r l) : r < w.heap.size := h.kv.lt
theorem MapB.new (enc : α → Value) (w : World) : MapB enc (w.alloc (.map #[] 0)) w.heap.size [] := ⟨by simp, #[], 0, block_alloc_new _ _, rfl, by simp, by simp⟩

theorem borns_modify {es : Array MapEntry} {i : Nat} {f : MapEntry → MapEntry} (hf : ∀ e, (f e).born = e.born) : (es.modify i f).toList.map (·.born) = es.toList.map (·.born) := by
  apply List.ext_getElem?
  intro j
  rw [List.getElem?_map, List.getElem?_map]
  simp only [Array.getElem?_toList, Array.getElem?_modify]
  by_cases hij : i = j
  · subst hij
    cases es[i]? <;> simp [hf]
  · simp [hij]
theorem nodup_modify {es : Array MapEntry} {i : Nat} {f : MapEntry → MapEntry} (hf : ∀ e, (f e).born = e.born) (h : (es.toList.map (·.born)).Nodup) : ((es.modify i f).toList.map (·.born)).Nodup := by rw [borns_modify hf]; exact h
theorem mem_modify {es : Array MapEntry} {i : Nat} {f : MapEntry → MapEntry} (hf : ∀ e, (f e).born = e.born) {c : Nat} (h : ∀ e ∈ es.toList, e.born < c) : ∀ e ∈ (es.modify i f).toList, e.born < c := by
  intro e he
  have : e.born ∈ (es.modify i f).toList.map (·.born) := List.mem_map_of_mem he
  rw [borns_modify hf] at this
  obtain ⟨e', h1, h2⟩ := List.mem_map.1 this
  rw [← h2]; exact h e' h1
theorem kv_modify [DecidableEq α] {enc : α → Value} {es : Array MapEntry} {l : List (α × Value)} (hn : (l.map (·.1)).Nodup) (h2 : es.toList.map (fun e => (e.key, e.val)) = l.map fun p => (enc p.1, p.2)) {a : α} {v : Value} {i : Nat} {p : α × Value} (hp : l[i]? = some p) (hpa : p.1 = a) {f : MapEntry → MapEntry}
    (hf : ∀ e, es[i]? = some e → (f e).key = enc a ∧ (f e).val = v) : (es.modify i f).toList.map (fun e => (e.key, e.val)) = (put l a v).map fun p => (enc p.1, p.2) := by
  have ha : a ∈ l.map (·.1) := hpa ▸ List.mem_map_of_mem (List.mem_of_getElem? hp)
  have hlen : es.toList.length = l.length := by have := congrArg List.length h2; simpa using this
  have hil : i < l.length := (List.getElem?_eq_some_iff.1 hp).1
  rw [put, if_pos ha, modify_put hn hp hpa, List.map_set, ← h2]
  apply List.ext_getElem?
  intro j
  rw [List.getElem?_map, List.getElem?_set, List.getElem?_map]
  simp only [Array.getElem?_toList, Array.getElem?_modify]
  by_cases hij : i = j
  · subst hij
    have hlt : i < es.size := by simp at hlen; omega
    have := hf es[i] (by simp [hlt])
    simp [hlt, this.1, this.2]
  · simp [hij]
theorem entry_at [DecidableEq α] {enc : α → Value} {es : Array MapEntry} {l : List (α × Value)} (h2 : es.toList.map (fun e => (e.key, e.val)) = l.map fun p => (enc p.1, p.2)) {i : Nat} {p : α × Value} (hp : l[i]? = some p) : ∃ e, es[i]? = some e ∧ e.key = enc p.1 ∧ e.val = p.2 := by
  have hlen : es.toList.length = l.length := by have := congrArg List.length h2; simpa using this
  have hil : i < l.length := (List.getElem?_eq_some_iff.1 hp).1
  have hei : i < es.size := by simp at hlen; omega
  refine ⟨es[i], by simp [hei], ?_⟩
  have := congrArg (fun x => x[i]?) h2
  simp only [List.getElem?_map, hp, Option.map_some, Array.getElem?_toList] at this
  simp only [hei, Array.getElem?_eq_getElem, Option.map_some, Option.some.injEq, Prod.mk.injEq] at this
  exact this

theorem put_runB [DecidableEq α] {P : Program} {k T : TypeId} {E : TypeId} {enc : α → Value} (K : KeyOk P k enc) (hT : P.underlying T = some (.map k E)) {w : World} {r : Nat} {l : List (α × Value)} (h : MapB enc w r l) (a : α) (v : Value) :
    ∃ w', (Instr.mapUpdate T (.map (some r)) (enc a) v).run P w = .ok () w' ∧ MapB enc w' r (put l a v) ∧ Fr [r] w w' := by
  obtain ⟨hn, es, c, h1, h2, h3, h4⟩ := h
  have hf := K.find w a es.toList (l.map (·.1)) (keys_of h2)
  have hck := K.check w false a
  have hlt := lt_of_block h1
  by_cases ha : a ∈ l.map (·.1)
  · obtain ⟨i, p, hi, hp, hpa⟩ := findIdx_some ha
    obtain ⟨e, he, hke, _⟩ := entry_at h2 hp
    rw [hpa] at hke
    rw [hi] at hf
    simp only [Option.bind_some, Array.getElem?_toList, he, Option.map_some] at hf
    refine ⟨{ w with heap := w.heap.setIfInBounds r (.map (es.modify i fun e => { e with key := enc a, val := v }) c) }, ?_, ⟨nodup_put hn a v, _, c, block_set hlt _, kv_modify hn h2 hp hpa (fun _ _ => ⟨rfl, rfl⟩), nodup_modify (by intro _; rfl) h3, mem_modify (by intro _; rfl) h4⟩, (Fr.refl _ _).setBlock (.inl (by simp)) _⟩
    have hs : (Instr.keyThatStays (((es[i]?).map (·.key)).getD (enc a)) (enc a)).run P w = .ok (enc a) w := by
      rw [he]; simp only [Option.map_some, Option.getD_some, hke]; exact K.stays w a
    simp [Instr.mapUpdate, run_underlying hT, MapKept.run_getObj_map h1, hck, hf, hs, MapKept.run_setObj_map _ h1, Result.andThen]
  · have hi := findIdx_none ha
    rw [hi] at hf
    simp only [Option.bind_none] at hf
    refine ⟨{ w with heap := w.heap.setIfInBounds r (.map (es.push { key := enc a, val := v, born := c }) (c + 1)) }, ?_, ⟨nodup_put hn a v, _, _, block_set hlt _, by rw [put, if_neg ha]; simp [h2], ?_, ?_⟩, (Fr.refl _ _).setBlock (.inl (by simp)) _⟩
    · simp [Instr.mapUpdate, run_underlying hT, MapKept.run_getObj_map h1, hck, hf, MapKept.run_setObj_map _ h1, Result.andThen]
    · simp only [Array.toList_push, List.map_append, List.map_cons, List.map_nil]
      rw [List.nodup_append]
      refine ⟨h3, by simp, fun x hx y hy e => ?_⟩
      obtain ⟨e', h5, rfl⟩ := List.mem_map.1 hx
      have := h4 e' h5
      simp at hy; omega
    · intro e he
      simp only [Array.toList_push, List.mem_append, List.mem_cons, List.not_mem_nil, or_false] at he
      rcases he with he | he
      · have := h4 e he; omega
      · subst he; simp
theorem del_runB [DecidableEq α] {P : Program} {k T K' : TypeId} {E ty : TypeId} {enc : α → Value} (K : KeyOk P k enc) (hT : P.underlying T = some (.map k E)) {w : World} {r : Nat} {l : List (α × Value)} (h : MapB enc w r l) (a : α) :
    ∃ w', (Builtin.delete_ #[T, K'] ty #[.map (some r), enc a]).run P w = .ok (.tuple #[]) w' ∧ MapB enc w' r (del l a) ∧ Fr [r] w w' := by
  obtain ⟨hn, es, c, h1, h2, h3, h4⟩ := h
  have hf := K.find w a es.toList (l.map (·.1)) (keys_of h2)
  have hck := K.check w es.isEmpty a
  have hlt := lt_of_block h1
  by_cases ha : a ∈ l.map (·.1)
  · obtain ⟨i, p, hi, hp, hpa⟩ := findIdx_some ha
    obtain ⟨e, he, hke, _⟩ := entry_at h2 hp
    rw [hi] at hf
    simp only [Option.bind_some, Array.getElem?_toList, he, Option.map_some] at hf
    have hel : (es.eraseIdxIfInBounds i).toList = es.toList.eraseIdx i := by simp
    refine ⟨{ w with heap := w.heap.setIfInBounds r (.map (es.eraseIdxIfInBounds i) c) }, ?_, ⟨nodup_del hn a, _, c, block_set hlt _, ?_, ?_, ?_⟩, (Fr.refl _ _).setBlock (.inl (by simp)) _⟩
    · simp [Builtin.delete_, run_underlying hT, MapKept.run_getObj_map h1, hck, hf, MapKept.run_setObj_map _ h1, Result.andThen]
    · rw [erase_del hn hp hpa, map_eraseIdx, ← h2, ← map_eraseIdx, hel]
    · rw [hel]
      exact h3.sublist ((List.eraseIdx_sublist _ _).map _)
    · rw [hel]
      exact fun e he => h4 e (List.mem_of_mem_eraseIdx he)
  · have hi := findIdx_none ha
    rw [hi] at hf
    simp only [Option.bind_none] at hf
    have hd : del l a = l := by
      unfold del
      rw [List.filter_eq_self.2]
      intro x hx
      exact decide_eq_true fun e => ha (e ▸ List.mem_map_of_mem hx)
    refine ⟨{ w with heap := w.heap.setIfInBounds r (.map es c) }, ?_, ⟨nodup_del hn a, es, c, block_set hlt _, by rw [hd]; exact h2, h3, h4⟩, (Fr.refl _ _).setBlock (.inl (by simp)) _⟩
    simp [Builtin.delete_, run_underlying hT, MapKept.run_getObj_map h1, hck, hf, MapKept.run_setObj_map _ h1, Result.andThen]

/-- The entry whose stamp it is. -/
theorem find_born {es : Array MapEntry} (hn : (es.toList.map (·.born)).Nodup) {i : Nat} {e : MapEntry} (he : es[i]? = some e) : es.findIdx? (fun x => (x.born : Int) == (e.born : Int)) = some i := by
  obtain ⟨hlt, rfl⟩ := Array.getElem?_eq_some_iff.1 he
  rw [Array.findIdx?_eq_some_iff_getElem]
  refine ⟨hlt, by simp, fun j hj => ?_⟩
  have hne : es[j].born ≠ es[i].born := by
    intro h
    have h1 : (es.toList.map (·.born))[j]'(by simp; omega) = (es.toList.map (·.born))[i]'(by simpa using hlt) := by simpa using h
    have := (List.getElem_inj (h₀ := by simp; omega) (h₁ := by simpa using hlt) hn).1 h1
    omega
  simp only [beq_iff_eq]
  omega
/-- What 'm[k] = f(m[k])' does to the map: the entry is there at once, and is stored into later, whatever turned meanwhile. -/
def EntryThen (P : Program) (enc : α → Value) [DecidableEq α] (T : TypeId) (r : Nat) (l : List (α × Value)) (a : α) (n : Int) (w1 : World) : Prop :=
  ∀ w2 : World, w2.heap[r]? = w1.heap[r]? → ∀ u, ∃ w3, (Instr.entryStore T (.map (some r)) (.int .i64 n) u).run P w2 = .ok () w3 ∧ MapB enc w3 r (put l a u) ∧ Fr [r] w2 w3
theorem entry_runB [DecidableEq α] {P : Program} {k T : TypeId} {E : TypeId} {enc : α → Value} (K : KeyOk P k enc) (hT : P.underlying T = some (.map k E)) {z : Value} (hz : ∀ w : World, (zeroValue E).run P w = .ok z w) {w : World} {r : Nat} {l : List (α × Value)} (h : MapB enc w r l) (a : α) :
    ∃ (n : Int) (w1 : World), (Instr.mapEntry T (.map (some r)) (enc a)).run P w = .ok (.tuple #[(look l a).getD z, .int .i64 n]) w1 ∧ Fr [r] w w1 ∧ EntryThen P enc T r l a n w1 := by
  obtain ⟨hn, es, c, h1, h2, h3, h4⟩ := h
  have hf := K.find w a es.toList (l.map (·.1)) (keys_of h2)
  have hg := found h2 a
  have hck := K.check w false a
  have hlt := lt_of_block h1
  by_cases ha : a ∈ l.map (·.1)
  · obtain ⟨i, p, hi, hp, hpa⟩ := findIdx_some ha
    obtain ⟨e, he, hke, hve⟩ := entry_at h2 hp
    rw [hpa] at hke
    rw [hi] at hf hg
    simp only [Option.bind_some, Array.getElem?_toList, he, Option.map_some] at hf hg
    rw [← hg]
    refine ⟨e.born, { w with heap := w.heap.setIfInBounds r (.map (es.modify i fun e => { e with key := enc a }) c) }, ?_, (Fr.refl _ _).setBlock (.inl (by simp)) _, fun w2 hw2 u => ?_⟩
    · have hs : (Instr.keyThatStays e.key (enc a)).run P w = .ok (enc a) w := by rw [hke]; exact K.stays w a
      simp [Instr.mapEntry, run_underlying hT, MapKept.run_getObj_map h1, hck, hf, hs, he, MapKept.run_setObj_map _ h1, Result.andThen, goInt]
    · have h5 : w2.heap[r]? = some (.map (es.modify i fun e => { e with key := enc a }) c) := hw2.trans (block_set hlt _)
      have hlt2 := lt_of_block h5
      have he2 : (es.modify i fun e => { e with key := enc a })[i]? = some { e with key := enc a } := by simp [Array.getElem?_modify, he]
      have hn2 : ((es.modify i fun e => { e with key := enc a }).toList.map (·.born)).Nodup := nodup_modify (by intro _; rfl) h3
      have hfb := find_born hn2 he2
      have h6 : (es.modify i fun e => { e with key := enc a }).toList.map (fun e => (e.key, e.val)) = (put l a p.2).map fun p => (enc p.1, p.2) := kv_modify hn h2 hp hpa (fun e0 he0 => ⟨rfl, by rw [he] at he0; cases he0; exact hve⟩)
      have hpp : put l a p.2 = l := by
        rw [put, if_pos ha, modify_put hn hp hpa]
        apply List.ext_getElem?
        intro j
        rw [List.getElem?_set]
        by_cases hij : i = j
        · subst hij
          rw [hp, if_pos rfl, if_pos (List.getElem?_eq_some_iff.1 hp).1, ← hpa]
        · rw [if_neg hij]
      rw [hpp] at h6
      refine ⟨{ w2 with heap := w2.heap.setIfInBounds r (.map ((es.modify i fun e => { e with key := enc a }).modify i fun e => { e with val := u }) c) }, ?_, ⟨nodup_put hn a u, _, c, block_set hlt2 _, kv_modify hn h6 hp hpa (fun e0 he0 => ⟨by rw [he2] at he0; cases he0; rfl, rfl⟩), nodup_modify (by intro _; rfl) hn2, mem_modify (by intro _; rfl) (mem_modify (by intro _; rfl) h4)⟩, (Fr.refl _ _).setBlock (.inl (by simp)) _⟩
      simp only at hfb
      simp [Instr.entryStore, MapKept.run_getObj_map h5, asInt, asIntOf, hfb, MapKept.run_setObj_map _ h5, Result.andThen]
  · have hi := findIdx_none ha
    rw [hi] at hf hg
    simp only [Option.bind_none, Option.map_none] at hf hg
    rw [← hg]
    refine ⟨c, { w with heap := w.heap.setIfInBounds r (.map (es.push { key := enc a, val := z, born := c }) (c + 1)) }, ?_, (Fr.refl _ _).setBlock (.inl (by simp)) _, fun w2 hw2 u => ?_⟩
    · simp [Instr.mapEntry, run_underlying hT, MapKept.run_getObj_map h1, hck, hf, hz, MapKept.run_setObj_map _ h1, Result.andThen, goInt]
    · have h5 : w2.heap[r]? = some (.map (es.push { key := enc a, val := z, born := c }) (c + 1)) := hw2.trans (block_set hlt _)
      have hlt2 := lt_of_block h5
      have he2 : (es.push { key := enc a, val := z, born := c })[es.size]? = some { key := enc a, val := z, born := c } := by simp
      have hn2 : ((es.push { key := enc a, val := z, born := c }).toList.map (·.born)).Nodup := by
        simp only [Array.toList_push, List.map_append, List.map_cons, List.map_nil]
        rw [List.nodup_append]
        refine ⟨h3, by simp, fun x hx y hy e => ?_⟩
        obtain ⟨e', h5, rfl⟩ := List.mem_map.1 hx
        have := h4 e' h5
        simp at hy; omega
      have hfb := find_born hn2 he2
      have h7 : ∀ e ∈ (es.push { key := enc a, val := z, born := c }).toList, e.born < c + 1 := by
        intro e he
        simp only [Array.toList_push, List.mem_append, List.mem_cons, List.not_mem_nil, or_false] at he
        rcases he with he | he
        · have := h4 e he; omega
        · subst he; simp
      refine ⟨{ w2 with heap := w2.heap.setIfInBounds r (.map ((es.push { key := enc a, val := z, born := c }).modify es.size fun e => { e with val := u }) (c + 1)) }, ?_, ⟨nodup_put hn a u, _, c + 1, block_set hlt2 _, ?_, nodup_modify (by intro _; rfl) hn2, mem_modify (by intro _; rfl) h7⟩, (Fr.refl _ _).setBlock (.inl (by simp)) _⟩
      · simp only at hfb
        simp [Instr.entryStore, MapKept.run_getObj_map h5, asInt, asIntOf, hfb, MapKept.run_setObj_map _ h5, Result.andThen]
      · rw [put, if_neg ha]
        have hsz : es.size = l.length := by have := congrArg List.length h2; simpa using this
        apply List.ext_getElem?
        intro j
        rw [List.getElem?_map, List.getElem?_map]
        simp only [Array.getElem?_toList, Array.getElem?_modify, Array.getElem?_push]
        have hj := congrArg (fun x => x[j]?) h2
        simp only [List.getElem?_map, Array.getElem?_toList] at hj
        by_cases hjs : j = es.size
        · subst hjs
          simp [hsz]
        · rw [if_neg (fun h => hjs h.symm), if_neg hjs, hj]
          by_cases hjl : j < l.length
          · rw [List.getElem?_append_left hjl]
          · rw [List.getElem?_eq_none (by omega), List.getElem?_append_right (by omega)]
            rw [List.getElem?_eq_none (by simp; omega)]
end
end Go.Proofs.Ytibnhfnidgfenaa
