/-
  Plain: the blocks of a time, at which level of blocks two times meet, and what moves when time goes on.
-/
import Derived.Test.YtibnhfnidgfenaaBase
namespace Go.Proofs.Ytibnhfnidgfenaa

/-- A time without its lowest 6n bits. -/
def blk (t n : Nat) : Nat := t / 64 ^ n
theorem blk_zero (t : Nat) : blk t 0 = t := by simp [blk]
theorem blk_succ (t n : Nat) : blk t (n + 1) = blk t n / 64 := by simp [blk, Nat.pow_succ, Nat.div_div_eq_div_mul]
theorem blk_mono {a b : Nat} (h : a ≤ b) (n : Nat) : blk a n ≤ blk b n := Nat.div_le_div_right h
theorem blk_up {a b n m : Nat} (h : blk a n = blk b n) (hm : n ≤ m) : blk a m = blk b m := by
  obtain ⟨k, rfl⟩ := Nat.exists_eq_add_of_le hm
  induction k with
  | zero => exact h
  | succ k ih => rw [← Nat.add_assoc, blk_succ, blk_succ, ih (by omega)]
theorem lt_of_blk {a b n : Nat} (h : blk a n < blk b n) : a < b := by
  rcases Nat.lt_or_ge a b with h1 | h1
  · exact h1
  · have := blk_mono h1 n; omega
theorem blk_mid {a b c n : Nat} (h1 : a ≤ b) (h2 : b ≤ c) (h : blk a n = blk c n) : blk a n = blk b n := by
  have := blk_mono h1 n
  have := blk_mono h2 n
  omega
/-- The lowest six bits of that. -/
def slot (t n : Nat) : Nat := blk t n % 64
theorem slot_lt (t n : Nat) : slot t n < 64 := Nat.mod_lt _ (by decide)
theorem blk_of_slot {a b n : Nat} (h1 : blk a (n + 1) = blk b (n + 1)) (h2 : slot a n = slot b n) : blk a n = blk b n := by
  rw [blk_succ, blk_succ] at h1
  unfold slot at h2
  omega
/-- The level at which two times meet. -/
def lvl (now due : Nat) : Nat := if blk now 1 = blk due 1 then 0 else if blk now 2 = blk due 2 then 1 else if blk now 3 = blk due 3 then 2 else if blk now 4 = blk due 4 then 3 else 4
theorem lvl_le (now due : Nat) : lvl now due ≤ 4 := by unfold lvl; (repeat' split) <;> omega
theorem lvl_eq {now due n : Nat} (h : lvl now due = n) : (n < 4 → blk now (n + 1) = blk due (n + 1)) ∧ (0 < n → blk now n ≠ blk due n) := by
  unfold lvl at h
  split at h
  · subst h; exact ⟨fun _ => by assumption, fun h => absurd h (by omega)⟩
  split at h
  · subst h; exact ⟨fun _ => by assumption, fun _ => by assumption⟩
  split at h
  · subst h; exact ⟨fun _ => by assumption, fun _ => by assumption⟩
  split at h
  · subst h; exact ⟨fun _ => by assumption, fun _ => by assumption⟩
  · subst h; exact ⟨fun h => absurd h (by omega), fun _ => by assumption⟩
theorem lvl_of {now due n : Nat} (hn : n ≤ 4) (h1 : n < 4 → blk now (n + 1) = blk due (n + 1)) (h2 : 0 < n → blk now n ≠ blk due n) : lvl now due = n := by
  have a := lvl_eq (rfl : lvl now due = lvl now due)
  have b := lvl_le now due
  rcases Nat.lt_trichotomy (lvl now due) n with h | h | h
  · exact absurd (blk_up (a.1 (by omega)) h) (h2 (by omega))
  · exact h
  · exact absurd (blk_up (h1 (by omega)) h) (a.2 (by omega))
/-- Where a timer stands. -/
def spot (now due : Nat) : Nat × Nat := if lvl now due = 4 then (4, 0) else (lvl now due, slot due (lvl now due))
theorem spot_fst (now due : Nat) : (spot now due).1 = lvl now due := by unfold spot; split <;> simp [*]
theorem spot_snd (now due : Nat) (h : lvl now due < 4) : (spot now due).2 = slot due (lvl now due) := by unfold spot; rw [if_neg (by omega)]
theorem spot_eq {now due n i : Nat} (hn : n < 4) : spot now due = (n, i) ↔ lvl now due = n ∧ slot due n = i := by
  unfold spot
  split
  · constructor
    · intro h; simp only [Prod.mk.injEq] at h; omega
    · intro h; omega
  · rw [Prod.mk.injEq]
    constructor
    · rintro ⟨rfl, rfl⟩; exact ⟨rfl, rfl⟩
    · rintro ⟨rfl, rfl⟩; exact ⟨rfl, rfl⟩
theorem spot_far {now due : Nat} : spot now due = (4, 0) ↔ lvl now due = 4 := by
  unfold spot
  split
  · simp [*]
  · simp [*]

/-- What stands at a lower level is due ahead. -/
theorem due_lt_level {now d d' : Nat} (h' : now ≤ d') (h : lvl now d < lvl now d') : d < d' := by
  have a := lvl_eq (rfl : lvl now d = lvl now d)
  have b := lvl_eq (rfl : lvl now d' = lvl now d')
  have c := lvl_le now d'
  have e := blk_up (a.1 (by omega)) h
  have f := b.2 (by omega)
  have g := blk_mono h' (lvl now d')
  exact lt_of_blk (n := lvl now d') (by omega)
/-- .. and in a lower slot of a level. -/
theorem due_lt_slot {now d d' n : Nat} (hn : n < 4) (h1 : lvl now d = n) (h2 : lvl now d' = n) (h : slot d n < slot d' n) : d < d' := by
  have a := (lvl_eq h1).1 hn
  have b := (lvl_eq h2).1 hn
  rw [blk_succ, blk_succ] at a b
  unfold slot at h
  exact lt_of_blk (n := n) (by omega)
/-- No slot behind the time's own one holds any. -/
theorem slot_ge {now d n : Nat} (hd : now ≤ d) (hn : n < 4) (h : lvl now d = n) : slot now n ≤ slot d n := by
  have a := (lvl_eq h).1 hn
  have b := blk_mono hd n
  rw [blk_succ, blk_succ] at a
  unfold slot
  omega

section
variable {was to due : Nat}
/-- A level whose block stays: so does who stands in it. -/
theorem spot_stays (h1 : was ≤ to) (h2 : to ≤ due) (n : Nat) (hl : lvl was due = n) (hb : 0 < n → blk was n = blk to n) : spot to due = spot was due := by
  have a := lvl_eq hl
  have hle := lvl_le was due
  have hl2 : lvl to due = n := by
    refine lvl_of (by omega) (fun h => ?_) (fun h => ?_)
    · have := a.1 h
      exact (blk_mid h1 h2 this).symm.trans this
    · rw [← hb h]; exact a.2 h
  unfold spot
  rw [hl, hl2]
/-- A level whose block turns: who isn't in the slot that is come to stays. -/
theorem spot_other (h1 : was ≤ to) (h2 : to ≤ due) (n : Nat) (hn : n < 4) (hl : lvl was due = n) (hs : slot due n ≠ slot to n) : spot to due = spot was due := by
  have a := lvl_eq hl
  have hl2 : lvl to due = n := by
    refine lvl_of (by omega) (fun h => ?_) (fun _ h => hs ?_)
    · have := a.1 h
      exact (blk_mid h1 h2 this).symm.trans this
    · unfold slot; rw [h]
  unfold spot
  rw [hl, hl2]
/-- Nobody stands in the time's own slot of a level above the lowest. -/
theorem spot_not {n : Nat} (hn : n < 4) (h0 : 0 < n) : spot to due ≠ (n, slot to n) := by
  intro h
  obtain ⟨hl, hs⟩ := (spot_eq hn).1 h
  have a := lvl_eq hl
  exact a.2 h0 (blk_of_slot (a.1 hn) hs.symm)
/-- Where it stands, when the levels above n are done. -/
def spotAt (was to n due : Nat) : Nat × Nat := if n < lvl was due then spot to due else spot was due
theorem spotAt_start : spotAt was to 4 due = spot was due := by unfold spotAt; rw [if_neg (by have := lvl_le was due; omega)]
theorem spotAt_end (h1 : was ≤ to) (h2 : to ≤ due) : spotAt was to 0 due = spot to due := by
  unfold spotAt
  split
  · rfl
  · exact (spot_stays h1 h2 0 (by omega) (by omega)).symm
theorem spotAt_skip (h1 : was ≤ to) (h2 : to ≤ due) {n : Nat} (hb : blk was (n + 1) = blk to (n + 1)) : spotAt was to n due = spotAt was to (n + 1) due := by
  unfold spotAt
  by_cases h : lvl was due = n + 1
  · rw [if_pos (by omega), if_neg (by omega)]
    exact spot_stays h1 h2 (n + 1) h (fun _ => hb)
  · by_cases h3 : n + 1 < lvl was due
    · rw [if_pos (by omega), if_pos h3]
    · rw [if_neg (by omega), if_neg h3]
/-- The slot that is come to. -/
def comes (to n : Nat) : Nat × Nat := if n = 4 then (4, 0) else (n, slot to n)
theorem spotAt_in {n : Nat} (hn : n + 1 ≤ 4) (h : spotAt was to (n + 1) due = comes to (n + 1)) : lvl was due = n + 1 := by
  unfold spotAt comes at h
  have hle := lvl_le was due
  split at h
  · rw [if_neg (by omega)] at h
    exact absurd h (spot_not (by omega) (by omega))
  · split at h
    · rw [spot_far] at h; omega
    · exact ((spot_eq (by omega)).1 h).1
theorem spotAt_moved {n : Nat} (hn : n + 1 ≤ 4) (h : spotAt was to (n + 1) due = comes to (n + 1)) : spotAt was to n due = spot to due := by
  have := spotAt_in hn h
  unfold spotAt
  rw [if_pos (by omega)]
theorem spotAt_left (h1 : was ≤ to) (h2 : to ≤ due) {n : Nat} (hn : n + 1 ≤ 4) (h : spotAt was to (n + 1) due ≠ comes to (n + 1)) : spotAt was to n due = spotAt was to (n + 1) due := by
  by_cases hl : lvl was due = n + 1
  · unfold spotAt at h ⊢
    rw [if_neg (by omega)] at h
    rw [if_pos (by omega), if_neg (by omega)]
    unfold comes at h
    split at h
    · exact absurd (spot_far.2 (by omega)) h
    · exact spot_other h1 h2 (n + 1) (by omega) hl (fun e => h ((spot_eq (by omega)).2 ⟨hl, e⟩))
  · unfold spotAt
    by_cases h3 : n + 1 < lvl was due
    · rw [if_pos (by omega), if_pos h3]
    · rw [if_neg (by omega), if_neg h3]
end
end Go.Proofs.Ytibnhfnidgfenaa
