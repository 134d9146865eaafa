/-
  next.
-/
import Derived.Test.YtibnhfnidgfenaaWheel10
namespace Go.Proofs.Ytibnhfnidgfenaa
open Go.RowKit

variable {w : World} {b m1 m2 : Nat} {fp : List Nat} {now seq : Nat} {L : List Ent} {la : List ((Int × Int) × Value)} {f : Int × Int → List Nat}

/-- Nobody stands at a level below n, nor in a slot of it below i. -/
def Seen (now : Nat) (L : List Ent) (n i : Nat) : Prop := ∀ c ∈ L, n ≤ lvl now c.due ∧ (lvl now c.due = n → i ≤ slot c.due n)
theorem Seen.start : Seen now L 0 0 := fun _ _ => ⟨Nat.zero_le _, fun _ => Nat.zero_le _⟩
theorem Seen.enter {n : Nat} (h : Seen now L n 0) (hn : n < 4) (hd : ∀ e ∈ L, now ≤ e.due ∧ e.due < 18446744073709551616) : Seen now L n (slot now n) := fun c hc => ⟨(h c hc).1, fun hl => slot_ge (hd c hc).1 hn hl⟩
/-- The timers of a place. -/
def inPlace (now : Nat) (L : List Ent) (p : Int × Int) : List Ent := L.filter fun e => decide (spotI now e.due = p)
theorem spotI_at {now due n i : Nat} (hn : n < 4) : spotI now due = ((n : Int), (i : Int)) ↔ lvl now due = n ∧ slot due n = i := by
  rw [← spot_eq hn]
  unfold spotI
  constructor
  · intro h
    simp only [Prod.mk.injEq] at h
    exact Prod.ext (by simp; omega) (by simp; omega)
  · intro h; rw [h]
theorem spotI_top {now due : Nat} : spotI now due = (4, 0) ↔ lvl now due = 4 := by
  rw [← spot_far]
  unfold spotI
  constructor
  · intro h
    simp only [Prod.mk.injEq] at h
    exact Prod.ext (by simp; omega) (by simp; omega)
  · intro h; rw [h]; rfl
theorem Seen.step {n i : Nat} (h : Seen now L n i) (hn : n < 4) (he : inPlace now L ((n : Int), (i : Int)) = []) : Seen now L n (i + 1) := fun c hc => ⟨(h c hc).1, fun hl => by
  have h1 := (h c hc).2 hl
  have h2 : slot c.due n ≠ i := fun hs => by
    have : c ∈ inPlace now L ((n : Int), (i : Int)) := List.mem_filter.2 ⟨hc, decide_eq_true ((spotI_at hn).2 ⟨hl, hs⟩)⟩
    rw [he] at this
    cases this
  omega⟩
theorem Seen.leave {n : Nat} (h : Seen now L n 64) : Seen now L (n + 1) 0 := fun c hc => ⟨by
  have h1 := h c hc
  have h2 := slot_lt c.due n
  by_cases hl : lvl now c.due = n
  · have := h1.2 hl; omega
  · omega, fun _ => Nat.zero_le _⟩

/-- The first of L. -/
theorem head_of {e : Ent} (he : e ∈ L) (hs : L.Pairwise Ahead) (hno : ∀ c ∈ L, ¬ Ahead c e) : L.head? = some e := by
  cases L with
  | nil => cases he
  | cons h t =>
    rcases List.mem_cons.1 he with h1 | h1
    · rw [h1]; rfl
    · exact absurd ((List.pairwise_cons.1 hs).1 e h1) (hno h (by simp))
theorem head_found {n i : Nat} (hn : n < 4) (h : Seen now L n i) (hd : ∀ e ∈ L, now ≤ e.due ∧ e.due < 18446744073709551616) (hs : L.Pairwise Ahead) {e : Ent} (he : e ∈ inPlace now L ((n : Int), (i : Int))) (hmin : ∀ c ∈ inPlace now L ((n : Int), (i : Int)), ¬ Ahead c e) : L.head? = some e := by
  obtain ⟨he1, he2⟩ := List.mem_filter.1 he
  obtain ⟨q1, q2⟩ := (spotI_at hn).1 (of_decide_eq_true he2)
  refine head_of he1 hs (fun c hc ha => ?_)
  have hle : c.due ≤ e.due := by unfold Ahead at ha; omega
  obtain ⟨h1, h2⟩ := h c hc
  by_cases hl : lvl now c.due = n
  · have h3 := h2 hl
    by_cases hsl : slot c.due n = i
    · exact hmin c (List.mem_filter.2 ⟨hc, decide_eq_true ((spotI_at hn).2 ⟨hl, hsl⟩)⟩) ha
    · have := due_lt_slot hn q1 hl (show slot e.due n < slot c.due n by omega)
      omega
  · have := due_lt_level (hd c hc).1 (show lvl now e.due < lvl now c.due by omega)
    omega
theorem head_far (h : Seen now L 4 0) (hs : L.Pairwise Ahead) {e : Ent} (he : e ∈ inPlace now L (4, 0)) (hmin : ∀ c ∈ inPlace now L (4, 0), ¬ Ahead c e) : L.head? = some e := by
  refine head_of (List.mem_filter.1 he).1 hs (fun c hc ha => hmin c (List.mem_filter.2 ⟨hc, decide_eq_true (spotI_top.2 ?_)⟩) ha)
  have := (h c hc).1
  have := lvl_le now c.due
  omega
theorem head_none (h : Seen now L 4 0) (he : inPlace now L (4, 0) = []) : L = [] := by
  apply List.eq_nil_iff_forall_not_mem.2
  intro c hc
  have : c ∈ inPlace now L (4, 0) := List.mem_filter.2 ⟨hc, decide_eq_true (spotI_top.2 (by have := (h c hc).1; have := lvl_le now c.due; omega))⟩
  rw [he] at this
  cases this
end Go.Proofs.Ytibnhfnidgfenaa
