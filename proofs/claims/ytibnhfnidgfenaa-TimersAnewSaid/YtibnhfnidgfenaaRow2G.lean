/-
  Openings of a law's arguments: arrays of numbers, and a configuration.
-/
import Derived.Test.YtibnhfnidgfenaaRowG
namespace Go.Proofs.Ytibnhfnidgfenaa
open Go.ChangeShapes Go.WideShapes Go.ChangeAt Go.RowKit Go.Deep

section
variable {H : Type} {enc : TypeId × Value → H} {P : Program} {w : World} {base : Nat} {spare : Nat → Bool} {held : Bool}

theorem okWide_arr {t e : TypeId} {n : Nat} {v : Value} {r : Reach} {b0 : Nat} (ht : P.underlying t = some (.array n e)) (h : Value.okWide P w r b0 t v) : ∃ cs, v = .agg cs ∧ cs.size = P.cellsOf t := by
  simp only [Value.okWide, ht] at h
  obtain ⟨cs, h1, h2, _⟩ := h
  exact ⟨cs, h1, h2⟩

theorem field_int {t : TypeId} {k : IntKind} {n i : Nat} {cs : List Value} {o : Option (DataW H × List MemPlace)} (hi : P.underlying t = some (.int k)) (hc : P.cellsOf t = 1)
    (h : DataW.trod enc P w base spare held n t ((cs.drop i).take (P.cellsOf t)) = o) (ho : o ≠ none) : ∃ x, cs[i]? = some (.int k x) ∧ (Lit.int k x).wf = true := by
  rw [hc] at h
  cases o with
  | none => exact absurd rfl ho
  | some y =>
    obtain ⟨x, e, _, hw⟩ := DataW.trod_int hi h
    refine ⟨x, ?_, hw⟩
    have := congrArg (fun l => l[0]?) e
    simpa using this

/-- An array of two numbers. -/
theorem open_arr2 {t e : TypeId} {k : IntKind} {v : Value} {d : DataW H} {p : List MemPlace} (ht : P.underlying t = some (.array 2 e)) (he : P.underlying e = some (.int k)) (hc : P.cellsOf e = 1) (hC : P.cellsOf t = 2) {r : Reach} {b0 : Nat} (hv : Value.okWide P w r b0 t v)
    (h : DataW.Trod enc P w base spare held t v d p) : ∃ a b, v = .agg #[.int k a, .int k b] ∧ (Lit.int k a).wf = true ∧ (Lit.int k b).wf = true := by
  obtain ⟨cs, rfl, hsz⟩ := okWide_arr ht hv
  obtain ⟨fuel, hf⟩ := h
  obtain ⟨xs, m, _, _, _, hxl, hx⟩ := DataW.trod_array ht hf
  obtain ⟨a, h0, w0⟩ := field_int (i := 0 * P.cellsOf e) he hc (hx 0 (by omega)) (by simp [hxl])
  obtain ⟨b, h1, w1⟩ := field_int (i := 1 * P.cellsOf e) he hc (hx 1 (by omega)) (by simp [hxl])
  rw [hc] at h0 h1
  rw [hC] at hsz
  obtain ⟨l⟩ := cs
  match l, hsz with
  | [c0, c1], _ =>
    simp only [Value.cells, Nat.zero_mul, Nat.one_mul, List.getElem?_cons_zero, List.getElem?_cons_succ, Option.some.injEq] at h0 h1
    subst h0 h1
    exact ⟨a, b, rfl, w0, w1⟩

/-- An array of three numbers. -/
theorem open_arr3 {t e : TypeId} {k : IntKind} {v : Value} {d : DataW H} {p : List MemPlace} (ht : P.underlying t = some (.array 3 e)) (he : P.underlying e = some (.int k)) (hc : P.cellsOf e = 1) (hC : P.cellsOf t = 3) {r : Reach} {b0 : Nat} (hv : Value.okWide P w r b0 t v)
    (h : DataW.Trod enc P w base spare held t v d p) : ∃ a b c, v = .agg #[.int k a, .int k b, .int k c] ∧ (Lit.int k a).wf = true ∧ (Lit.int k b).wf = true ∧ (Lit.int k c).wf = true := by
  obtain ⟨cs, rfl, hsz⟩ := okWide_arr ht hv
  obtain ⟨fuel, hf⟩ := h
  obtain ⟨xs, m, _, _, _, hxl, hx⟩ := DataW.trod_array ht hf
  obtain ⟨a, h0, w0⟩ := field_int (i := 0 * P.cellsOf e) he hc (hx 0 (by omega)) (by simp [hxl])
  obtain ⟨b, h1, w1⟩ := field_int (i := 1 * P.cellsOf e) he hc (hx 1 (by omega)) (by simp [hxl])
  obtain ⟨c, h2, w2⟩ := field_int (i := 2 * P.cellsOf e) he hc (hx 2 (by omega)) (by simp [hxl])
  rw [hc] at h0 h1 h2
  rw [hC] at hsz
  obtain ⟨l⟩ := cs
  match l, hsz with
  | [c0, c1, c2], _ =>
    simp only [Value.cells, Nat.mul_one, List.getElem?_cons_zero, List.getElem?_cons_succ, Option.some.injEq] at h0 h1 h2
    subst h0 h1 h2
    exact ⟨a, b, c, rfl, w0, w1, w2⟩
end

section
variable {H : Type} {enc : TypeId × Value → H} {w : World} {base : Nat} {spare : Nat → Bool} {held : Bool}
theorem u8_bounds {n : Int} (h : (Lit.int .u8 n).wf = true) : ∃ k : Nat, n = k ∧ k < 256 := by
  simp [Lit.wf, IntKind.min, IntKind.max, IntKind.signed, IntKind.bits] at h
  exact ⟨n.toNat, by omega, by omega⟩
end
end Go.Proofs.Ytibnhfnidgfenaa
