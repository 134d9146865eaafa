/-
  lift.
-/
import Derived.Test.YtibnhfnidgfenaaWheel5
namespace Go.Proofs.Ytibnhfnidgfenaa
open Go.RowKit

variable {w : World} {b m1 m2 : Nat} {fp : List Nat} {now seq : Nat} {L : List Ent} {la : List ((Int × Int) × Value)} {f : Int × Int → List Nat}

theorem Row.parts {w : World} {v : Value} {xs : List Nat} (h : Row w v xs) (hne : xs ≠ []) : ∃ g cap, v = .slice (some ⟨g, 0, none⟩) xs.length cap ∧ PBlk w g xs ∧ Shape w g cap ∧ xs.length ≤ cap ∧ cap ≤ maxLen ∧ g < w.heap.size := by
  obtain ⟨h1, h2⟩ := h
  rcases h2 with ⟨_, h0⟩ | ⟨g, cap, cur, rfl, _, hh, hc, hm, hs, ht⟩
  · exact absurd (List.eq_nil_of_length_eq_zero h0) hne
  · refine ⟨g, cap, rfl, ⟨fun t ht' => ?_, free_of_block hh⟩, ⟨cur, hh, by omega⟩, hc, hm, lt_of_block hh⟩
    rw [cell_of_block hh]
    have : (cur.toList.take (xs.length * 1))[t]? = some (ptr (xs.getD t 0)) := by
      rw [ht, List.getElem?_map]
      simp [List.getD, ht']
    rw [List.getElem?_take, if_pos (by omega)] at this
    simpa [ptr] using this
theorem Row.mk' {w : World} {g cap : Nat} {xs : List Nat} (hsh : Shape w g cap) (hc : ∀ t, t < xs.length → w.cell? ⟨g, t, none⟩ = some (.pointer (some ⟨xs.getD t 0, 0, none⟩))) (hl : xs.length ≤ cap) (hm : cap ≤ maxLen) : Row w (.slice (some ⟨g, 0, none⟩) xs.length cap) xs := by
  obtain ⟨arr, h1, h2⟩ := hsh
  refine ⟨by simp, .inr ⟨g, cap, arr, rfl, Nat.zero_le _, h1, hl, hm, by omega, ?_⟩⟩
  apply List.ext_getElem?
  intro t
  rw [List.getElem?_take, List.getElem?_map]
  by_cases ht : t < xs.length
  · rw [if_pos (by omega)]
    have := hc t ht
    rw [cell_of_block h1] at this
    rw [Array.getElem?_toList, this]
    simp [List.getD, ht, ptr]
  · rw [if_neg (by omega), List.getElem?_eq_none (by omega)]
    rfl

/-- Behind a store into the map: slot p holds v8, which reads as ys. -/
theorem Core.put' {w9 : World} {lb : List ((Int × Int) × Value)} (h : Core w b m1 m2 fp now seq L la f) (hR : ∀ p, Row w (rowAt lb p) (f p)) (hs : ∀ p q k, (rowAt lb p).ownBlock = some k → (rowAt lb q).ownBlock = some k → p = q)
    (hk : ∀ p k, (rowAt lb p).ownBlock = some k → k ∈ fp ∧ k ∉ ownW b m1 m2 L) {p : Int × Int} {ys : List Nat} {v8 : Value} (hM : MapB enc2 w9 m2 (put lb p v8)) (hO : Row w9 v8 ys)
    (hv : v8.ownBlock = (rowAt lb p).ownBlock) (hF : Fr (m2 :: (rowAt lb p).ownBlock.toList) w w9) :
    Core w9 b m1 m2 fp now seq L la (upd f p ys) ∧ Fr fp w w9 := by
  have hm2 : m2 ∈ ownW b m1 m2 L := by simp [ownW]
  have hd := h.dist
  have hrow : ∀ k, (rowAt lb p).ownBlock = some k → k ∈ fp ∧ k ∉ ownW b m1 m2 L := hk p
  have hS : ∀ y ∈ ownW b m1 m2 L, y ≠ m2 → y ∉ m2 :: (rowAt lb p).ownBlock.toList := fun y hy hne hm => by
    rcases List.mem_cons.1 hm with h1 | h1
    · exact hne h1
    · exact (hrow y (by simpa using h1)).2 hy
  have hb : b ≠ m2 := by simp [ownW] at hd; exact fun e => hd.1.2.1 e
  have hm1 : m1 ≠ m2 := by simp [ownW] at hd; exact fun e => hd.2.1.1 e
  have he : ∀ e ∈ L, e.blk ≠ m2 := fun e he e2 => by
    simp [ownW] at hd
    exact hd.2.2.1 e he e2
  refine ⟨⟨hF.keep h.blk (hS b (by simp [ownW]) hb), h.all.fr hF (hS m1 (by simp [ownW]) hm1), fun e hE => hF.keep (h.ents e hE) (hS _ (by simp only [ownW, List.mem_cons, List.mem_map]; exact .inr (.inr (.inr ⟨e, hE, rfl⟩))) (he e hE)), ⟨put lb p v8, hM, fun q => ?_, fun q q' k h1 h2 => ?_, fun q k h1 => ?_⟩, h.dist, h.foot, fun y hy => Nat.lt_of_lt_of_le (h.lt y hy) hF.size⟩, hF.mono (fun y hy => .inl ?_)⟩
  · rw [rowAt_put]
    unfold upd
    by_cases hq : q = p
    · rw [if_pos hq, if_pos hq]; exact hO
    · rw [if_neg hq, if_neg hq]
      refine (hR q).fr hF (fun g hg hm => ?_)
      rcases List.mem_cons.1 hm with h1 | h1
      · exact (hk q g hg).2 (h1 ▸ hm2)
      · exact hq (hs q p g hg (by simpa using h1))
  · have key : ∀ q, (rowAt (put lb p v8) q).ownBlock = (rowAt lb q).ownBlock := fun q => by
      rw [rowAt_put]
      by_cases hq : q = p
      · rw [if_pos hq, hv, hq]
      · rw [if_neg hq]
    rw [key] at h1 h2
    exact hs q q' k h1 h2
  · rw [rowAt_put] at h1
    by_cases hq : q = p
    · rw [if_pos hq, hv] at h1
      exact hk p k h1
    · rw [if_neg hq] at h1
      exact hk q k h1
  · rcases List.mem_cons.1 hy with h1 | h1
    · exact h1 ▸ h.foot m2 hm2
    · exact (hk p y (by simpa using h1)).1
end Go.Proofs.Ytibnhfnidgfenaa
