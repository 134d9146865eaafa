/-
  Openings of a law's arguments: arrays of numbers, and a configuration.
-/
import Derived.Test.YthbhkmhmiplikaaRow
import Derived.Test.YthbhkmhmiplikaaRef10
namespace Go.Proofs.Ythbhkmhmiplikaa
open Go.ChangeShapes Go.WideShapes Go.ChangeAt Go.RowKit Go.Deep

section
variable {H : Type} {enc : TypeId × Value → H} {P : Program} {w : World} {base : Nat} {spare : Nat → Bool} {held : Bool}

theorem okWide_arr {t e : TypeId} {n : Nat} {v : Value} {r : Reach} {b0 : Nat} (ht : P.underlying t = some (.array n e)) (h : Value.okWide P w r b0 t v) : ∃ cs, v = .agg cs ∧ cs.size = P.cellsOf t := by
  simp only [Value.okWide, ht] at h
  obtain ⟨cs, h1, h2, _⟩ := h
  exact ⟨cs, h1, h2⟩

theorem field_int {t : TypeId} {k : IntKind} {n i : Nat} {cs : List Value} {o : Option (DataW H × List MemPlace)} (hi : P.underlying t = some (.int k)) (hc : P.cellsOf t = 1)
    (h : DataW.trod enc P w base spare held n t ((cs.drop i).take (P.cellsOf t)) = o) (ho : o ≠ none) : ∃ x, cs[i]? = some (.int k x) ∧ (Lit.int k x).wf = true := by
  rw [hc] at h
  cases o with
  | none => exact absurd rfl ho
  | some y =>
    obtain ⟨x, e, _, hw⟩ := DataW.trod_int hi h
    refine ⟨x, ?_, hw⟩
    have := congrArg (fun l => l[0]?) e
    simpa using this

/-- An array of two numbers. -/
theorem open_arr2 {t e : TypeId} {k : IntKind} {v : Value} {d : DataW H} {p : List MemPlace} (ht : P.underlying t = some (.array 2 e)) (he : P.underlying e = some (.int k)) (hc : P.cellsOf e = 1) (hC : P.cellsOf t = 2) {r : Reach} {b0 : Nat} (hv : Value.okWide P w r b0 t v)
    (h : DataW.Trod enc P w base spare held t v d p) : ∃ a b, v = .agg #[.int k a, .int k b] ∧ (Lit.int k a).wf = true ∧ (Lit.int k b).wf = true := by
  obtain ⟨cs, rfl, hsz⟩ := okWide_arr ht hv
  obtain ⟨fuel, hf⟩ := h
  obtain ⟨xs, m, _, _, _, hxl, hx⟩ := DataW.trod_array ht hf
  obtain ⟨a, h0, w0⟩ := field_int (i := 0 * P.cellsOf e) he hc (hx 0 (by omega)) (by simp [hxl])
  obtain ⟨b, h1, w1⟩ := field_int (i := 1 * P.cellsOf e) he hc (hx 1 (by omega)) (by simp [hxl])
  rw [hc] at h0 h1
  rw [hC] at hsz
  obtain ⟨l⟩ := cs
  match l, hsz with
  | [c0, c1], _ =>
    simp only [Value.cells, Nat.zero_mul, Nat.one_mul, List.getElem?_cons_zero, List.getElem?_cons_succ, Option.some.injEq] at h0 h1
    subst h0 h1
    exact ⟨a, b, rfl, w0, w1⟩

/-- An array of three numbers. -/
theorem open_arr3 {t e : TypeId} {k : IntKind} {v : Value} {d : DataW H} {p : List MemPlace} (ht : P.underlying t = some (.array 3 e)) (he : P.underlying e = some (.int k)) (hc : P.cellsOf e = 1) (hC : P.cellsOf t = 3) {r : Reach} {b0 : Nat} (hv : Value.okWide P w r b0 t v)
    (h : DataW.Trod enc P w base spare held t v d p) : ∃ a b c, v = .agg #[.int k a, .int k b, .int k c] ∧ (Lit.int k a).wf = true ∧ (Lit.int k b).wf = true ∧ (Lit.int k c).wf = true := by
  obtain ⟨cs, rfl, hsz⟩ := okWide_arr ht hv
  obtain ⟨fuel, hf⟩ := h
  obtain ⟨xs, m, _, _, _, hxl, hx⟩ := DataW.trod_array ht hf
  obtain ⟨a, h0, w0⟩ := field_int (i := 0 * P.cellsOf e) he hc (hx 0 (by omega)) (by simp [hxl])
  obtain ⟨b, h1, w1⟩ := field_int (i := 1 * P.cellsOf e) he hc (hx 1 (by omega)) (by simp [hxl])
  obtain ⟨c, h2, w2⟩ := field_int (i := 2 * P.cellsOf e) he hc (hx 2 (by omega)) (by simp [hxl])
  rw [hc] at h0 h1 h2
  rw [hC] at hsz
  obtain ⟨l⟩ := cs
  match l, hsz with
  | [c0, c1, c2], _ =>
    simp only [Value.cells, Nat.mul_one, List.getElem?_cons_zero, List.getElem?_cons_succ, Option.some.injEq] at h0 h1 h2
    subst h0 h1 h2
    exact ⟨a, b, c, rfl, w0, w1, w2⟩
end

section
variable {H : Type} {enc : TypeId × Value → H} {w : World} {base : Nat} {spare : Nat → Bool} {held : Bool}
theorem u8_bounds {n : Int} (h : (Lit.int .u8 n).wf = true) : ∃ k : Nat, n = k ∧ k < 256 := by
  simp [Lit.wf, IntKind.min, IntKind.max, IntKind.signed, IntKind.bits] at h
  exact ⟨n.toNat, by omega, by omega⟩

/-- A configuration. -/
theorem open_conf {v : Value} {d : DataW H} {p : List MemPlace} {r : Reach} {b0 : Nat} (hv : Value.okWide Try.prog w r b0 44 v) (h : DataW.Trod enc Try.prog w base spare held 44 v d p) : ∃ c : CF, v = c.val := by
  obtain ⟨cs, rfl, hsz⟩ := okWide_struct Try.underlying44 hv
  rw [show Try.prog.cellsOf 44 = 16 by kernel_rfl] at hsz
  obtain ⟨fuel, hf⟩ := h
  obtain ⟨xs, m, _, _, _, hxl, hx⟩ := DataW.trod_struct Try.underlying44 hf
  have hxl' : xs.length = 16 := hxl
  obtain ⟨mode, h0, _⟩ := field_int (i := 0) Try.underlying3 (by kernel_rfl) (hx 0 _ rfl) (by simp [hxl'])
  obtain ⟨pool, h1, _⟩ := field_int (i := 1) Try.underlying3 (by kernel_rfl) (hx 1 _ rfl) (by simp [hxl'])
  obtain ⟨queue, h2, _⟩ := field_int (i := 2) Try.underlying3 (by kernel_rfl) (hx 2 _ rfl) (by simp [hxl'])
  obtain ⟨sem, h3, _⟩ := field_int (i := 3) Try.underlying3 (by kernel_rfl) (hx 3 _ rfl) (by simp [hxl'])
  obtain ⟨fb, h4, _⟩ := field_int (i := 4) Try.underlying3 (by kernel_rfl) (hx 4 _ rfl) (by simp [hxl'])
  obtain ⟨ch, h5, _⟩ := field_int (i := 5) Try.underlying3 (by kernel_rfl) (hx 5 _ rfl) (by simp [hxl'])
  obtain ⟨t, h6, _⟩ := field_int (i := 6) Try.underlying42 (by kernel_rfl) (hx 6 _ rfl) (by simp [hxl'])
  obtain ⟨ft, h7, _⟩ := field_int (i := 7) Try.underlying42 (by kernel_rfl) (hx 7 _ rfl) (by simp [hxl'])
  obtain ⟨vo, h8, _⟩ := field_int (i := 8) Try.underlying3 (by kernel_rfl) (hx 8 _ rfl) (by simp [hxl'])
  obtain ⟨pe, h9, _⟩ := field_int (i := 9) Try.underlying3 (by kernel_rfl) (hx 9 _ rfl) (by simp [hxl'])
  obtain ⟨sl, h10, _⟩ := field_int (i := 10) Try.underlying42 (by kernel_rfl) (hx 10 _ rfl) (by simp [hxl'])
  obtain ⟨bu, h11, _⟩ := field_int (i := 11) Try.underlying3 (by kernel_rfl) (hx 11 _ rfl) (by simp [hxl'])
  obtain ⟨wi, h12, _⟩ := field_int (i := 12) Try.underlying42 (by kernel_rfl) (hx 12 _ rfl) (by simp [hxl'])
  obtain ⟨wd, h13, _⟩ := field_int (i := 13) Try.underlying42 (by kernel_rfl) (hx 13 _ rfl) (by simp [hxl'])
  obtain ⟨ba, h14, _⟩ := field_int (i := 14) Try.underlying3 (by kernel_rfl) (hx 14 _ rfl) (by simp [hxl'])
  obtain ⟨fo, h15, _⟩ := field_int (i := 15) Try.underlying3 (by kernel_rfl) (hx 15 _ rfl) (by simp [hxl'])
  obtain ⟨l⟩ := cs
  match l, hsz with
  | [c0, c1, c2, c3, c4, c5, c6, c7, c8, c9, c10, c11, c12, c13, c14, c15], _ =>
    simp only [Value.cells, List.getElem?_cons_zero, List.getElem?_cons_succ, Option.some.injEq] at h0 h1 h2 h3 h4 h5 h6 h7 h8 h9 h10 h11 h12 h13 h14 h15
    subst h0 h1 h2 h3 h4 h5 h6 h7 h8 h9 h10 h11 h12 h13 h14 h15
    exact ⟨⟨mode, pool, queue, sem, fb, ch, t, ft, vo, pe, sl, bu, wi, wd, ba, fo⟩, rfl⟩
end
end Go.Proofs.Ythbhkmhmiplikaa
