/-
  lay.
-/
import Derived.Test.YtibnhfnidgfenaaWheel2
namespace Go.Proofs.Ytibnhfnidgfenaa
open Go.RowKit

variable {w : World} {b m1 m2 : Nat} {fp : List Nat} {now seq : Nat} {L : List Ent} {la : List ((Int × Int) × Value)} {f : Int × Int → List Nat}

theorem info_parts1 {P : Program} {t : TypeId} {z : Value} {a b : Nat} (h : (P.info? t).map (fun i => (i.zero, i.size, i.bytes)) = some (some z, a, b)) : ∃ i, P.info? t = some i ∧ i.zero = some z ∧ i.size = a ∧ i.bytes = b := by
  cases hi : P.info? t with
  | none => rw [hi] at h; cases h
  | some i =>
    rw [hi] at h
    simp only [Option.map_some, Option.some.injEq, Prod.mk.injEq] at h
    exact ⟨i, rfl, h.1, h.2.1, h.2.2⟩
theorem Fr.grown1 {S : List Nat} {a w w' : World} {row : Option Nat} (h : Fr S a w) (hg : w.grownBy w' row) (hr : ∀ k, row = some k → k ∈ S ∨ a.heap.size ≤ k) : Fr S a w' :=
  ⟨hg.os.trans h.os, hg.tape.trans h.tape, hg.output.trans h.output, Nat.le_trans h.size hg.size, fun i hi hn =>
    (hg.block i (Nat.lt_of_lt_of_le hi h.size) (fun e => by rcases hr i e.symm with h1 | h1; exact hn h1; omega)).trans (h.block i hi hn)⟩

/-- Behind lay's last statement. -/
theorem Core.laid' {wx w9 : World} {lb : List ((Int × Int) × Value)} (h : Core w b m1 m2 fp now seq L la f) (hR : ∀ p, Row w (rowAt lb p) (f p)) (hs : ∀ p q k, (rowAt lb p).ownBlock = some k → (rowAt lb q).ownBlock = some k → p = q)
    (hk : ∀ p k, (rowAt lb p).ownBlock = some k → k ∈ fp ∧ k ∉ ownW b m1 m2 L) {p : Int × Int} {x : Nat} {v8 : Value} (hM : MapB enc2 w9 m2 (put lb p v8)) (hO : Row w9 v8 (f p ++ [x]))
    (hv : ∀ k, v8.ownBlock = some k → (rowAt lb p).ownBlock = some k ∨ w.heap.size ≤ k) (hF : Fr (m2 :: (rowAt lb p).ownBlock.toList) w w9) (hwx : wx = w9) :
    ∃ fp', Core wx b m1 m2 fp' now seq L la (upd f p (f p ++ [x])) ∧ Sub fp' fp w ∧ Fr fp w wx := by
  subst hwx
  have hm2 : m2 ∈ ownW b m1 m2 L := by simp [ownW]
  have hd := h.dist
  have hrow : ∀ k, (rowAt lb p).ownBlock = some k → k ∈ fp ∧ k ∉ ownW b m1 m2 L := hk p
  have hS : ∀ y ∈ ownW b m1 m2 L, y ≠ m2 → y ∉ m2 :: (rowAt lb p).ownBlock.toList := fun y hy hne hm => by
    rcases List.mem_cons.1 hm with h1 | h1
    · exact hne h1
    · exact (hrow y (by simpa using h1)).2 hy
  have hb : b ≠ m2 := by simp [ownW] at hd; exact fun e => hd.1.2.1 e
  have hm1 : m1 ≠ m2 := by simp [ownW] at hd; exact fun e => hd.2.1.1 e
  have he : ∀ e ∈ L, e.blk ≠ m2 := fun e he e2 => by
    simp [ownW] at hd
    exact hd.2.2.1 e he e2
  refine ⟨fp ++ v8.ownBlock.toList, ⟨hF.keep h.blk (hS b (by simp [ownW]) hb), h.all.fr hF (hS m1 (by simp [ownW]) hm1), fun e hE => hF.keep (h.ents e hE) (hS _ (by simp only [ownW, List.mem_cons, List.mem_map]; exact .inr (.inr (.inr ⟨e, hE, rfl⟩))) (he e hE)), ⟨put lb p v8, hM, fun q => ?_, fun q q' k h1 h2 => ?_, fun q k h1 => ?_⟩, h.dist, fun y hy => List.mem_append_left _ (h.foot y hy), fun y hy => ?_⟩, fun y hy => ?_, hF.mono (fun y hy => .inl ?_)⟩
  · rw [rowAt_put]
    unfold upd
    by_cases hq : q = p
    · rw [if_pos hq, if_pos hq]; exact hO
    · rw [if_neg hq, if_neg hq]
      refine (hR q).fr hF (fun g hg hm => ?_)
      rcases List.mem_cons.1 hm with h1 | h1
      · exact (hk q g hg).2 (h1 ▸ hm2)
      · exact hq (hs q p g hg (by simpa using h1))
  · rw [rowAt_put] at h1 h2
    by_cases hq : q = p
    · by_cases hq' : q' = p
      · rw [hq, hq']
      · rw [if_pos hq] at h1
        rw [if_neg hq'] at h2
        rcases hv k h1 with h3 | h3
        · rw [hq]; exact hs p q' k h3 h2
        · have := h.lt k (hk q' k h2).1; omega
    · rw [if_neg hq] at h1
      by_cases hq' : q' = p
      · rw [if_pos hq'] at h2
        rcases hv k h2 with h3 | h3
        · rw [hq']; exact hs q p k h1 h3
        · have := h.lt k (hk q k h1).1; omega
      · rw [if_neg hq'] at h2
        exact hs q q' k h1 h2
  · rw [rowAt_put] at h1
    by_cases hq : q = p
    · rw [if_pos hq] at h1
      refine ⟨List.mem_append_right _ (by simp [h1]), fun hm => ?_⟩
      rcases hv k h1 with h3 | h3
      · exact (hk p k h3).2 hm
      · have := h.lt k (h.foot k hm); omega
    · rw [if_neg hq] at h1
      exact ⟨List.mem_append_left _ (hk q k h1).1, (hk q k h1).2⟩
  · rcases List.mem_append.1 hy with h1 | h1
    · exact Nat.lt_of_lt_of_le (h.lt y h1) hF.size
    · exact (hO.lt y (by simpa using h1)).2
  · rcases List.mem_append.1 hy with h1 | h1
    · exact .inl h1
    · rcases hv y (by simpa using h1) with h3 | h3
      · exact .inl (hk p y h3).1
      · exact .inr h3
  · rcases List.mem_cons.1 hy with h1 | h1
    · exact h1 ▸ h.foot m2 hm2
    · exact (hk p y (by simpa using h1)).1
end Go.Proofs.Ytibnhfnidgfenaa
