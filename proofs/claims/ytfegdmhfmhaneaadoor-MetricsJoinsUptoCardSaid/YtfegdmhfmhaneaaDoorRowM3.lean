/-
  What the form's reach, and the bound of the second form, give of a slice of outcomes.
-/
import Derived.Test.YtfegdmhfmhaneaaDoorRowM2
import Derived.SizedLaws
namespace Go.Proofs.YtfegdmhfmhaneaaDoor
open Go Go.ChangeShapes Go.WideShapes Go.RowKit Go.Deep

section
variable {H : Type} {enc : TypeId × Value → H} {P : Program} {w : World} {base : Nat} {spare : Nat → Bool} {held : Bool}
/-- A slice that was read: what it reads as. -/
theorem slice_read {t e : TypeId} {ao : Option Addr} {n cap : Nat} {d : DataW H} {p : List MemPlace} (hu : P.underlying t = some (.slice e)) (h : DataW.Trod enc P w base spare held t (.slice ao n cap) d p) :
    n = 0 ∨ ∃ elems spare', d = .slice elems spare' ∧ elems.length = n := by
  obtain ⟨fuel, hf⟩ := h
  rcases open_slice hu hf with ⟨hcs, hx⟩ | ⟨a, len, cap', m, k, D, Pl, hcs, hb, hl, hm, hmm, hx, _⟩
  · simp only [Value.cells, List.cons.injEq, Value.slice.injEq, and_true] at hcs
    exact .inl hcs.2.1
  · simp only [Value.cells, List.cons.injEq, Value.slice.injEq, and_true] at hcs
    obtain ⟨_, rfl, _⟩ := hcs
    exact .inr ⟨_, _, (Prod.mk.inj hx).1, by simp⟩
theorem slice_weight {ts : List TypeId} {ds : List (DataW H)} (hs : (DataW.weightsEach P ts ds).all (· ≤ reachBytes) = true) {j : Nat} {t e : TypeId} {ao : Option Addr} {n cap : Nat} {d : DataW H} {p : List MemPlace} (htj : ts[j]? = some t) (hdj : ds[j]? = some d)
    (hu : P.underlying t = some (.slice e)) (h : DataW.Trod enc P w base spare held t (.slice ao n cap) d p) : n * P.bytesOf e ≤ reachBytes := by
  rcases slice_read hu h with rfl | ⟨elems, sp, rfl, rfl⟩
  · simp
  · have := sized_slice hs htj hdj hu
    exact Nat.le_trans (Nat.mul_le_mul_right _ (Nat.le_add_right _ _)) this
end
section
variable {H : Type} {enc : TypeId × Value → H} {w w' : World} {base base' : Nat} {spare : Nat → Bool} {held : Bool}
theorem ous_weight {ts : List TypeId} {ds : List (DataW H)} (hs : (DataW.weightsEach Tryd.prog ts ds).all (· ≤ reachBytes) = true) {j : Nat} {v : Value} {l : List Ou} {d : DataW H} {p : List MemPlace} (htj : ts[j]? = some 33) (hdj : ds[j]? = some d)
    (D : Ous w' base' v l) (h : DataW.Trod enc Tryd.prog w base spare held 33 v d p) : l.length * 40 ≤ 140737488351232 := by
  obtain ⟨ao, cap, rfl, _⟩ := D
  have := slice_weight hs htj hdj Tryd.underlying33 h
  rw [show Tryd.prog.bytesOf 35 = 40 by kernel_rfl] at this
  exact this
end
end Go.Proofs.YtfegdmhfmhaneaaDoor
