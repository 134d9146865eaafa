/-
  What moves: the plain side.
-/
import Derived.Test.YtibnhfnidgfenaaWheel12
namespace Go.Proofs.Ytibnhfnidgfenaa
open Go.RowKit

variable {w : World} {b m1 m2 : Nat} {fp : List Nat} {now seq : Nat} {L : List Ent} {la : List ((Int × Int) × Value)} {f : Int × Int → List Nat}

/-- The time is set. -/
theorem Core.setNow (h : Core w b m1 m2 fp now seq L la f) (to : Nat) : Core (w.setCell ⟨b, 0, none⟩ (.int .u64 to)) b m1 m2 fp to seq L la f := by
  have hF : Fr [b] w (w.setCell ⟨b, 0, none⟩ (.int .u64 to)) := (Fr.refl _ _).setCell (.inl (by simp)) _
  have hd := h.dist
  have h1 : m1 ≠ b := by simp [ownW] at hd; exact fun e => hd.1.1 e.symm
  have h2 : m2 ≠ b := by simp [ownW] at hd; exact fun e => hd.1.2.1 e.symm
  have h3 : ∀ e ∈ L, e.blk ≠ b := fun e he e2 => by
    simp [ownW] at hd
    exact hd.1.2.2 e he e2
  obtain ⟨lb, q1, q2, q3, q4⟩ := h.rows
  refine ⟨?_, h.all.fr hF (by simpa using h1), fun e he => hF.keep (h.ents e he) (by simpa using h3 e he), ⟨lb, q1.fr hF (by simpa using h2), fun p => (q2 p).fr hF (fun g hg hm => ?_), q3, q4⟩, h.dist, h.foot, fun x hx => Nat.lt_of_lt_of_le (h.lt x hx) hF.size⟩
  · rw [block_setCell h.blk 0]
    rfl
  · have : g = b := by simpa using hm
    exact (q4 p g hg).2 (by simp [ownW, this])
/-- A slot is struck from the map: its row is the wheel's no more. -/
theorem Core.drop {w9 : World} {lb : List ((Int × Int) × Value)} (h : Core w b m1 m2 fp now seq L la f) (hR : ∀ p, Row w (rowAt lb p) (f p)) (hs : ∀ p q k, (rowAt lb p).ownBlock = some k → (rowAt lb q).ownBlock = some k → p = q)
    (hk : ∀ p k, (rowAt lb p).ownBlock = some k → k ∈ fp ∧ k ∉ ownW b m1 m2 L) {p : Int × Int} (hM : MapB enc2 w9 m2 (del lb p)) (hF : Fr [m2] w w9) :
    Core w9 b m1 m2 (fp.filter fun k => decide ((rowAt lb p).ownBlock ≠ some k)) now seq L la (upd f p []) := by
  have hm2 : m2 ∈ ownW b m1 m2 L := by simp [ownW]
  have hd := h.dist
  have hb : b ≠ m2 := by simp [ownW] at hd; exact fun e => hd.1.2.1 e
  have hm1 : m1 ≠ m2 := by simp [ownW] at hd; exact fun e => hd.2.1.1 e
  have he : ∀ e ∈ L, e.blk ≠ m2 := fun e he e2 => by
    simp [ownW] at hd
    exact hd.2.2.1 e he e2
  refine ⟨hF.keep h.blk (by simpa using hb), h.all.fr hF (by simpa using hm1), fun e hE => hF.keep (h.ents e hE) (by simpa using he e hE), ⟨del lb p, hM, fun q => ?_, fun q q' k h1 h2 => ?_, fun q k h1 => ?_⟩, h.dist, fun y hy => List.mem_filter.2 ⟨h.foot y hy, decide_eq_true (fun h1 => (hk p y h1).2 hy)⟩, fun y hy => Nat.lt_of_lt_of_le (h.lt y (List.mem_filter.1 hy).1) hF.size⟩
  · rw [rowAt_del]
    unfold upd
    by_cases hq : q = p
    · rw [if_pos hq, if_pos hq]; exact World.ownsRow_nil _ _ _ _
    · rw [if_neg hq, if_neg hq]
      exact (hR q).fr hF (fun g hg hm => (hk q g hg).2 (by rw [show g = m2 by simpa using hm]; exact hm2))
  · rw [rowAt_del] at h1 h2
    by_cases hq : q = p
    · rw [if_pos hq] at h1; simp [Value.ownBlock] at h1
    · rw [if_neg hq] at h1
      by_cases hq' : q' = p
      · rw [if_pos hq'] at h2; simp [Value.ownBlock] at h2
      · rw [if_neg hq'] at h2
        exact hs q q' k h1 h2
  · rw [rowAt_del] at h1
    by_cases hq : q = p
    · rw [if_pos hq] at h1; simp [Value.ownBlock] at h1
    · rw [if_neg hq] at h1
      refine ⟨List.mem_filter.2 ⟨(hk q k h1).1, decide_eq_true (fun h2 => hq (hs q p k h1 h2))⟩, (hk q k h1).2⟩

theorem perm_split {α : Type} (P Q1 Q2 R : α → Bool) : ∀ L : List α, (∀ e ∈ L, R e = if P e then Q1 e else Q2 e) → (L.filter R).Perm ((L.filter fun e => !P e && Q2 e) ++ (L.filter fun e => P e && Q1 e))
  | [], _ => .refl _
  | e :: L, h => by
    have ih := perm_split P Q1 Q2 R L (fun x hx => h x (by simp [hx]))
    have he := h e (by simp)
    cases hp : P e with
    | true =>
      rw [hp, if_pos rfl] at he
      cases hq : Q1 e with
      | true =>
        rw [hq] at he
        simp only [List.filter_cons, he, hp, hq, if_true, Bool.not_true, Bool.false_and, Bool.and_self, Bool.false_eq_true, if_false]
        exact (ih.cons e).trans List.perm_middle.symm
      | false =>
        rw [hq] at he
        simp only [List.filter_cons, he, hp, hq, Bool.not_true, Bool.false_and, Bool.and_false, Bool.false_eq_true, if_false]
        exact ih
    | false =>
      rw [hp] at he
      simp only [Bool.false_eq_true, if_false] at he
      cases hq : Q2 e with
      | true =>
        rw [hq] at he
        simp only [List.filter_cons, he, hp, hq, if_true, Bool.not_false, Bool.true_and, Bool.false_and, Bool.false_eq_true, if_false, List.cons_append]
        exact ih.cons e
      | false =>
        rw [hq] at he
        simp only [List.filter_cons, he, hp, hq, Bool.not_false, Bool.and_false, Bool.false_and, Bool.false_eq_true, if_false]
        exact ih

/-- Where a timer stands, when the levels above n are done, as the map's key. -/
def spotAtI (was to n due : Nat) : Int × Int := (((spotAt was to n due).1 : Int), ((spotAt was to n due).2 : Int))
theorem pair_inj {a b : Nat × Nat} : ((a.1 : Int), (a.2 : Int)) = ((b.1 : Int), (b.2 : Int)) ↔ a = b := by
  constructor
  · intro h
    simp only [Prod.mk.injEq] at h
    exact Prod.ext (by omega) (by omega)
  · intro h; rw [h]
/-- The slots hold who stands there. -/
def Stands (f : Int × Int → List Nat) (L : List Ent) (g : Ent → Int × Int) : Prop := ∀ p, (f p).Perm ((L.filter fun e => decide (g e = p)).map (·.blk))
theorem Stands.congr {f : Int × Int → List Nat} {L : List Ent} {g g' : Ent → Int × Int} (h : Stands f L g) (he : ∀ e ∈ L, g e = g' e) : Stands f L g' := fun p => by
  have : L.filter (fun e => decide (g e = p)) = L.filter (fun e => decide (g' e = p)) := List.filter_congr (fun e h => by rw [he e h])
  rw [← this]
  exact h p
theorem Stands.len {f : Int × Int → List Nat} {L : List Ent} {g : Ent → Int × Int} (h : Stands f L g) (p : Int × Int) : (f p).length ≤ L.length := by
  rw [(h p).length_eq, List.length_map]
  exact List.length_filter_le _ _
/-- While a slot's timers are laid anew: k of them are. -/
def Laying (f : Int × Int → List Nat) (L es : List Ent) (g g2 : Ent → Int × Int) (p : Int × Int) (k : Nat) : Prop :=
  ∀ q, (f q).Perm (((L.filter fun e => !decide (g e = p) && decide (g e = q)).map (·.blk)) ++ ((es.take k).filter fun e => decide (g2 e = q)).map (·.blk))
theorem Laying.start {f : Int × Int → List Nat} {L es : List Ent} {g g2 : Ent → Int × Int} {p : Int × Int} (h : Stands f L g) : Laying (upd f p []) L es g g2 p 0 := fun q => by
  unfold upd
  by_cases hq : q = p
  · rw [if_pos hq, hq]
    have : L.filter (fun e => !decide (g e = p) && decide (g e = p)) = [] := List.filter_eq_nil_iff.2 (fun e _ => by cases decide (g e = p) <;> simp)
    rw [this]
    exact .refl _
  · rw [if_neg hq]
    have : L.filter (fun e => !decide (g e = p) && decide (g e = q)) = L.filter (fun e => decide (g e = q)) := List.filter_congr (fun e _ => by
      by_cases h1 : g e = q
      · have h2 : ¬ g e = p := fun h2 => hq (h1.symm.trans h2)
        simp [h1, hq]
      · simp [h1])
    rw [this]
    simpa using h q
theorem take_snoc_e {l : List Ent} {i : Nat} (h : i < l.length) : l.take (i + 1) = l.take i ++ [l.getD i default] := by
  rw [List.take_succ_eq_append_getElem h]
  simp [List.getD, h]
theorem Laying.step {f : Int × Int → List Nat} {L es : List Ent} {g g2 : Ent → Int × Int} {p : Int × Int} {k : Nat} (h : Laying f L es g g2 p k) (hk : k < es.length) : Laying (upd f (g2 (es.getD k default)) (f (g2 (es.getD k default)) ++ [(es.getD k default).blk])) L es g g2 p (k + 1) := fun q => by
  rw [take_snoc_e hk, List.filter_append, List.map_append, ← List.append_assoc]
  generalize es.getD k default = e
  unfold upd
  by_cases hq : q = g2 e
  · rw [if_pos hq]
    subst hq
    simpa using (h (g2 e)).append_right [e.blk]
  · rw [if_neg hq]
    have : ¬ g2 e = q := fun h => hq h.symm
    simpa [this] using h q
theorem Laying.len {f : Int × Int → List Nat} {L es : List Ent} {g g2 : Ent → Int × Int} {p : Int × Int} {k : Nat} (h : Laying f L es g g2 p k) (q : Int × Int) : (f q).length ≤ L.length + es.length := by
  rw [(h q).length_eq, List.length_append, List.length_map, List.length_map]
  have h1 := List.length_filter_le (fun e => !decide (g e = p) && decide (g e = q)) L
  have h2 := List.length_filter_le (fun e => decide (g2 e = q)) (es.take k)
  have h3 := List.length_take_le k es
  have h4 : (es.take k).length ≤ es.length := by rw [List.length_take]; omega
  omega
theorem Laying.done {f : Int × Int → List Nat} {L es : List Ent} {g g2 g3 : Ent → Int × Int} {p : Int × Int} (h : Laying f L es g g2 p es.length) (hes : es.Perm (L.filter fun e => decide (g e = p))) (h3 : ∀ e ∈ L, g3 e = if g e = p then g2 e else g e) : Stands f L g3 := fun q => by
  refine (h q).trans ?_
  rw [List.take_of_length_le (Nat.le_refl _), ← List.map_append]
  refine List.Perm.map _ ?_
  refine List.Perm.symm ((perm_split (fun e => decide (g e = p)) (fun e => decide (g2 e = q)) (fun e => decide (g e = q)) (fun e => decide (g3 e = q)) L (fun e he => ?_)).trans (List.Perm.append_left _ ?_))
  · rw [h3 e he]
    by_cases hp : g e = p <;> simp [hp]
  · rw [← List.filter_filter]
    have := (hes.filter (fun e => decide (g2 e = q))).symm
    rw [List.filter_filter] at this ⊢
    have e1 : (L.filter fun e => decide (g e = p) && decide (g2 e = q)) = L.filter fun e => decide (g2 e = q) && decide (g e = p) := List.filter_congr (fun e _ => Bool.and_comm _ _)
    rw [e1]
    exact this
end Go.Proofs.Ytibnhfnidgfenaa
