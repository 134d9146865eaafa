/-
  What Put and Cancel do to the wheel: the plain side.
-/
import Derived.Test.YtibnhfnidgfenaaWheel14
namespace Go.Proofs.Ytibnhfnidgfenaa
open Go.RowKit

variable {w : World} {b m1 m2 : Nat} {fp : List Nat} {now seq : Nat} {L : List Ent} {la : List ((Int × Int) × Value)} {f : Int × Int → List Nat}

theorem ownW_perm {L L' : List Ent} (h : L.Perm L') : (ownW b m1 m2 L).Perm (ownW b m1 m2 L') := (((h.map _).cons _).cons _).cons _
theorem Core.perm (h : Core w b m1 m2 fp now seq L la f) {L' : List Ent} (hp : L.Perm L') : Core w b m1 m2 fp now seq L' la f := by
  obtain ⟨lb, q1, q2, q3, q4⟩ := h.rows
  have hm : ∀ x, x ∈ ownW b m1 m2 L' ↔ x ∈ ownW b m1 m2 L := fun x => (ownW_perm hp).mem_iff.symm
  exact ⟨h.blk, h.all, fun e he => h.ents e (hp.mem_iff.2 he), ⟨lb, q1, q2, q3, fun p k hk => ⟨(q4 p k hk).1, fun hx => (q4 p k hk).2 ((hm k).1 hx)⟩⟩, (ownW_perm hp).nodup_iff.1 h.dist, fun x hx => h.foot x ((hm x).1 hx), h.lt⟩
/-- One more was put. -/
theorem Core.setSeq (h : Core w b m1 m2 fp now seq L la f) (s : Nat) : Core (w.setCell ⟨b, 1, none⟩ (.int .i64 s)) b m1 m2 fp now s L la f := by
  have hF : Fr [b] w (w.setCell ⟨b, 1, none⟩ (.int .i64 s)) := (Fr.refl _ _).setCell (.inl (by simp)) _
  have hd := h.dist
  have h1 : m1 ≠ b := by simp [ownW] at hd; exact fun e => hd.1.1 e.symm
  have h2 : m2 ≠ b := by simp [ownW] at hd; exact fun e => hd.1.2.1 e.symm
  have h3 : ∀ e ∈ L, e.blk ≠ b := fun e he e2 => by
    simp [ownW] at hd
    exact hd.1.2.2 e he e2
  obtain ⟨lb, q1, q2, q3, q4⟩ := h.rows
  refine ⟨?_, h.all.fr hF (by simpa using h1), fun e he => hF.keep (h.ents e he) (by simpa using h3 e he), ⟨lb, q1.fr hF (by simpa using h2), fun p => (q2 p).fr hF (fun g hg hm => ?_), q3, q4⟩, h.dist, h.foot, fun x hx => Nat.lt_of_lt_of_le (h.lt x hx) hF.size⟩
  · rw [block_setCell h.blk 1]
    rfl
  · have : g = b := by simpa using hm
    exact (q4 p g hg).2 (by simp [ownW, this])
/-- A new timer's block. -/
theorem Core.add (h : Core w b m1 m2 fp now seq L la f) {e : Ent} (he : e.blk = w.heap.size) : Core (w.alloc e.obj) b m1 m2 (fp ++ [e.blk]) now seq (e :: L) la f := by
  have hF : Fr [] w (w.alloc e.obj) := (Fr.refl _ _).alloc _
  obtain ⟨lb, q1, q2, q3, q4⟩ := h.rows
  have hlt := h.lt
  have hout : ∀ x ∈ fp, x ≠ e.blk := fun x hx h1 => by have := hlt x hx; omega
  have hperm : (ownW b m1 m2 (e :: L)).Perm (e.blk :: ownW b m1 m2 L) := by
    unfold ownW
    rw [List.map_cons]
    exact (List.perm_middle (l₁ := [b, m1, m2]) (a := e.blk) (l₂ := L.map (·.blk)))
  refine ⟨hF.keep h.blk (by simp), h.all.fr hF (by simp), fun x hx => ?_, ⟨lb, q1.fr hF (by simp), fun p => (q2 p).fr hF (by simp), q3, fun p k hk => ⟨List.mem_append_left _ (q4 p k hk).1, fun hx => ?_⟩⟩, hperm.nodup_iff.2 (List.nodup_cons.2 ⟨fun hx => hout _ (h.foot _ hx) rfl, h.dist⟩), fun x hx => ?_, fun x hx => ?_⟩
  · rcases List.mem_cons.1 hx with h1 | h1
    · subst h1
      rw [he]
      exact block_alloc_new w x.obj
    · exact hF.keep (h.ents x h1) (by simp)
  · rcases List.mem_cons.1 (hperm.mem_iff.1 hx) with h1 | h1
    · exact hout k (q4 p k hk).1 h1
    · exact (q4 p k hk).2 h1
  · rcases List.mem_cons.1 (hperm.mem_iff.1 hx) with h1 | h1
    · exact List.mem_append_right _ (by simp [h1])
    · exact List.mem_append_left _ (h.foot x h1)
  · rcases List.mem_append.1 hx with h1 | h1
    · exact Nat.lt_of_lt_of_le (hlt x h1) hF.size
    · simp at h1; simp; omega
theorem Core.setAll (h : Core w b m1 m2 fp now seq L la f) {w' : World} {la' : List ((Int × Int) × Value)} (hM : MapKV enc2 w' m1 la') (hF : Fr [m1] w w') : Core w' b m1 m2 fp now seq L la' f := by
  have hd := h.dist
  have h1 : b ≠ m1 := by simp [ownW] at hd; exact fun e => hd.1.1 e
  have h2 : m2 ≠ m1 := by simp [ownW] at hd; exact fun e => hd.2.1.1 e.symm
  have h3 : ∀ e ∈ L, e.blk ≠ m1 := fun e he e2 => by
    simp [ownW] at hd
    exact hd.2.1.2 e he e2
  obtain ⟨lb, q1, q2, q3, q4⟩ := h.rows
  refine ⟨hF.keep h.blk (by simpa using h1), hM, fun e he => hF.keep (h.ents e he) (by simpa using h3 e he), ⟨lb, q1.fr hF (by simpa using h2), fun p => (q2 p).fr hF (fun g hg hm => ?_), q3, q4⟩, h.dist, h.foot, fun x hx => Nat.lt_of_lt_of_le (h.lt x hx) hF.size⟩
  have : g = m1 := by simpa using hm
  exact (q4 p g hg).2 (by simp [ownW, this])
/-- Fewer timers. -/
theorem Core.less (h : Core w b m1 m2 fp now seq L la f) {L' : List Ent} (hs : L'.Sublist L) : Core w b m1 m2 fp now seq L' la f := by
  obtain ⟨lb, q1, q2, q3, q4⟩ := h.rows
  have hs2 : (ownW b m1 m2 L').Sublist (ownW b m1 m2 L) := (((hs.map _).cons_cons _).cons_cons _).cons_cons _
  exact ⟨h.blk, h.all, fun e he => h.ents e (hs.subset he), ⟨lb, q1, q2, q3, fun p k hk => ⟨(q4 p k hk).1, fun hx => (q4 p k hk).2 (hs2.subset hx)⟩⟩, h.dist.sublist hs2, fun x hx => h.foot x (hs2.subset hx), h.lt⟩

/-- A timer laid in turn. -/
def insE (e : Ent) : List Ent → List Ent
  | [] => [e]
  | x :: l => if e.due < x.due then e :: x :: l else x :: insE e l
theorem insE_perm (e : Ent) : ∀ l, (insE e l).Perm (e :: l)
  | [] => .refl _
  | x :: l => by
    unfold insE
    split
    · exact .refl _
    · exact ((insE_perm e l).cons x).trans (.swap _ _ _)
theorem insE_sorted {e : Ent} : ∀ {l : List Ent}, l.Pairwise Ahead → (∀ x ∈ l, x.seq < e.seq) → (insE e l).Pairwise Ahead
  | [], _, _ => by simp [insE]
  | x :: l, h, hs => by
    obtain ⟨h1, h2⟩ := List.pairwise_cons.1 h
    unfold insE
    split
    · rename_i hd
      refine List.pairwise_cons.2 ⟨fun y hy => ?_, h⟩
      rcases List.mem_cons.1 hy with h3 | h3
      · subst h3; exact .inl hd
      · have := h1 y h3
        unfold Ahead at this ⊢
        omega
    · rename_i hd
      refine List.pairwise_cons.2 ⟨fun y hy => ?_, insE_sorted h2 (fun y hy => hs y (by simp [hy]))⟩
      rcases List.mem_cons.1 ((insE_perm e l).mem_iff.1 hy) with h3 | h3
      · subst h3
        have := hs x (by simp)
        unfold Ahead
        omega
      · exact h1 y h3
theorem find_key {L : List Ent} (hk : (L.map Ent.key).Nodup) (k : Int × Int) (e : Ent) : entOf L k = some e ↔ e ∈ L ∧ e.key = k := by
  constructor
  · exact entOf_mem
  · intro ⟨h1, h2⟩
    unfold entOf
    cases hf : L.find? (fun e => decide (e.key = k)) with
    | none => exact absurd h2 (by simpa using List.find?_eq_none.1 hf e h1)
    | some x =>
      have hx := List.mem_of_find?_eq_some hf
      have hxk : x.key = k := by simpa using List.find?_some hf
      obtain ⟨i, hi, rfl⟩ := List.getElem_of_mem h1
      obtain ⟨j, hj, rfl⟩ := List.getElem_of_mem hx
      have : (L.map Ent.key)[i]'(by simpa using hi) = (L.map Ent.key)[j]'(by simpa using hj) := by simp [h2, hxk]
      have := (List.getElem_inj (h₀ := by simpa using hi) (h₁ := by simpa using hj) hk).1 this
      subst this
      rfl
theorem entOf_perm {L L' : List Ent} (hk : (L.map Ent.key).Nodup) (hp : L.Perm L') (k : Int × Int) : entOf L k = entOf L' k := by
  apply Option.ext
  intro e
  rw [find_key hk, find_key ((hp.map _).nodup_iff.1 hk), hp.mem_iff]
theorem entOf_cons (e : Ent) (L : List Ent) (k : Int × Int) : entOf (e :: L) k = if k = e.key then some e else entOf L k := by
  unfold entOf
  rw [List.find?_cons]
  by_cases h : e.key = k
  · rw [if_pos h.symm]; simp [h]
  · rw [if_neg (fun h2 => h h2.symm)]; simp [h]
theorem look_none {α : Type} [DecidableEq α] {l : List (α × Value)} {a : α} (h : look l a = none) : a ∉ l.map (·.1) := by
  intro hm
  obtain ⟨p, hp, rfl⟩ := List.mem_map.1 hm
  unfold look at h
  rw [Option.map_eq_none_iff, List.find?_eq_none] at h
  exact absurd (h p hp) (by simp)
theorem Stands.put {f : Int × Int → List Nat} {L : List Ent} {g : Ent → Int × Int} (h : Stands f L g) (e : Ent) : Stands (upd f (g e) (f (g e) ++ [e.blk])) (e :: L) g := fun q => by
  unfold upd
  rw [List.filter_cons]
  by_cases hq : q = g e
  · subst hq
    rw [if_pos rfl, if_pos (by simp)]
    rw [List.map_cons]
    exact (List.perm_append_singleton _ _).trans ((h (g e)).cons _)
  · rw [if_neg hq, if_neg (by simpa using fun h => hq h.symm)]
    exact h q
theorem Stands.perm {f : Int × Int → List Nat} {L L' : List Ent} {g : Ent → Int × Int} (h : Stands f L g) (hp : L.Perm L') : Stands f L' g := fun q => (h q).trans ((hp.filter _).map _)
/-- Without one. -/
def withoutE (k : Int × Int) (L : List Ent) : List Ent := L.filter fun e => decide (e.key ≠ k)
theorem Stands.cancel {f : Int × Int → List Nat} {L : List Ent} {g : Ent → Int × Int} (h : Stands f L g) {e : Ent} (he : e ∈ L) (hk : (L.map Ent.key).Nodup) (hb : (L.map (·.blk)).Nodup) : Stands (upd f (g e) (keptP e.blk (f (g e)))) (withoutE e.key L) g := fun q => by
  have hbk : ∀ x ∈ L, x.blk = e.blk ↔ x.key = e.key := fun x hx => by
    obtain ⟨i, hi, rfl⟩ := List.getElem_of_mem he
    obtain ⟨j, hj, rfl⟩ := List.getElem_of_mem hx
    constructor
    · intro h1
      have : (L.map (·.blk))[j]'(by simpa using hj) = (L.map (·.blk))[i]'(by simpa using hi) := by simp [h1]
      have := (List.getElem_inj (h₀ := by simpa using hj) (h₁ := by simpa using hi) hb).1 this
      subst this; rfl
    · intro h1
      have : (L.map Ent.key)[j]'(by simpa using hj) = (L.map Ent.key)[i]'(by simpa using hi) := by simp [h1]
      have := (List.getElem_inj (h₀ := by simpa using hj) (h₁ := by simpa using hi) hk).1 this
      subst this; rfl
  have key : ∀ q, (withoutE e.key L).filter (fun x => decide (g x = q)) = (L.filter (fun x => decide (g x = q))).filter (fun x => decide (x.blk ≠ e.blk)) := fun q => by
    unfold withoutE
    rw [List.filter_filter, List.filter_filter]
    apply List.filter_congr
    intro x hx
    have := hbk x hx
    by_cases h1 : x.key = e.key
    · simp [h1, this.2 h1]
    · have h2 : ¬ x.blk = e.blk := fun h2 => h1 (this.1 h2)
      simp [h1, h2]
  rw [key]
  have hmf : ((L.filter (fun x => decide (g x = q))).filter (fun x => decide (x.blk ≠ e.blk))).map (·.blk) = keptP e.blk ((L.filter (fun x => decide (g x = q))).map (·.blk)) := by
    unfold keptP
    rw [List.filter_map]
    rfl
  rw [hmf]
  unfold upd
  by_cases hq : q = g e
  · rw [if_pos hq, hq]
    exact (h (g e)).filter _
  · rw [if_neg hq]
    have : keptP e.blk ((L.filter (fun x => decide (g x = q))).map (·.blk)) = (L.filter (fun x => decide (g x = q))).map (·.blk) := by
      unfold keptP
      rw [List.filter_eq_self]
      intro y hy
      obtain ⟨x, hx, rfl⟩ := List.mem_map.1 hy
      obtain ⟨hx1, hx2⟩ := List.mem_filter.1 hx
      refine decide_eq_true (fun h1 => hq ?_)
      have hxe : x = e := by
        have h2 := (hbk x hx1).1 h1
        have e1 := (find_key hk e.key x).2 ⟨hx1, h2⟩
        have e2 := (find_key hk e.key e).2 ⟨he, rfl⟩
        rw [e1] at e2
        exact Option.some.inj e2
      rw [← of_decide_eq_true hx2, hxe]
    rw [this]
    exact h q
end Go.Proofs.Ytibnhfnidgfenaa
