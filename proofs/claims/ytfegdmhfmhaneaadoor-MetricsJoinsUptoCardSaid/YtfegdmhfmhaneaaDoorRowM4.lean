/-
  What the second form's bound gives of a slice of outcomes.
-/
import Derived.Test.YtfegdmhfmhaneaaDoorRowM3
namespace Go.Proofs.YtfegdmhfmhaneaaDoor
open Go Go.ChangeShapes Go.WideShapes Go.RowKit Go.Deep

namespace bulks
theorem one_le {H : Type} (d : DataW H) : 1 ≤ Rows.uptoBulk d := by
  cases d with
  | lit l => cases l <;> simp [Rows.uptoBulk]
  | nil => simp [Rows.uptoBulk]
  | ptr d => simp [Rows.uptoBulk]
  | slice elems spare => simp [Rows.uptoBulk]
  | agg parts => simp [Rows.uptoBulk]
  | iface t d => simp [Rows.uptoBulk]
  | map entries => simp [Rows.uptoBulk]
  | held h => simp [Rows.uptoBulk]
theorem length_le {H : Type} (l : List (DataW H)) : l.length ≤ Rows.uptoBulkAll l := by
  induction l with
  | nil => simp [Rows.uptoBulkAll]
  | cons x r ih => have := one_le x; simp only [Rows.uptoBulkAll, List.length_cons]; omega
end bulks
theorem ous_bulk {H : Type} {enc : TypeId × Value → H} {w w' : World} {base base' : Nat} {spare : Nat → Bool} {held : Bool} {v : Value} {l : List Ou} {d : DataW H} {p : List MemPlace}
    (D : Ous w' base' v l) (h : DataW.Trod enc Tryd.prog w base spare held 33 v d p) : l.length ≤ Rows.uptoBulk d := by
  obtain ⟨ao, cap, rfl, _⟩ := D
  rcases slice_read Tryd.underlying33 h with h0 | ⟨elems, sp, rfl, hl⟩
  · omega
  · rw [← hl]
    have := bulks.length_le elems
    simp only [Rows.uptoBulk]; omega
end Go.Proofs.YtfegdmhfmhaneaaDoor
