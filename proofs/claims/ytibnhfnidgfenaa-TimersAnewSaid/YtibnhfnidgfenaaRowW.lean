/-
  Openings of a law's arguments: a timer, numbers, slices of numbers, deeds.
-/
import Derived.Test.YtibnhfnidgfenaaRow2G
namespace Go.Proofs.Ytibnhfnidgfenaa
open Go.ChangeShapes Go.WideShapes Go.ChangeAt Go.RowKit Go.Deep

section
variable {H : Type} {enc : TypeId × Value → H} {P : Program} {w : World} {base : Nat} {spare : Nat → Bool} {held : Bool}
theorem u64_bounds {n : Int} (h : (Lit.int .u64 n).wf = true) : ∃ k : Nat, n = k ∧ k < 18446744073709551616 := by
  have h2 : 0 ≤ n ∧ n ≤ 18446744073709551615 := by simpa [Lit.wf, IntKind.min, IntKind.max, IntKind.signed, IntKind.bits] using h
  obtain ⟨k, rfl⟩ := Int.eq_ofNat_of_zero_le h2.1
  refine ⟨k, rfl, ?_⟩
  omega
theorem u16_bounds {n : Int} (h : (Lit.int .u16 n).wf = true) : ∃ k : Nat, n = k ∧ k < 65536 := by
  simp [Lit.wf, IntKind.min, IntKind.max, IntKind.signed, IntKind.bits] at h
  exact ⟨n.toNat, by omega, by omega⟩
set_option maxRecDepth 100000 in
theorem open_timer {v : Value} {d : DataW H} {p : List MemPlace} {r : Reach} {b0 : Nat} (hv : Value.okWide Try.prog w r b0 31 v) (h : DataW.Trod enc Try.prog w base spare held 31 v d p) : ∃ a b, v = .agg #[.int .i64 a, .int .i64 b] := by
  obtain ⟨cs, rfl, hsz⟩ := okWide_struct Try.underlying31 hv
  rw [show Try.prog.cellsOf 31 = 2 by kernel_rfl] at hsz
  obtain ⟨fuel, hf⟩ := h
  obtain ⟨xs, m, _, _, _, hxl, hx⟩ := DataW.trod_struct Try.underlying31 hf
  have hxl' : xs.length = 2 := hxl
  obtain ⟨a, h0, _⟩ := field_int (i := 0) Try.underlying3 (by kernel_rfl) (hx 0 _ rfl) (by simp [hxl'])
  obtain ⟨b, h1, _⟩ := field_int (i := 1) Try.underlying3 (by kernel_rfl) (hx 1 _ rfl) (by simp [hxl'])
  obtain ⟨l⟩ := cs
  match l, hsz with
  | [c0, c1], _ =>
    simp only [Value.cells, List.getElem?_cons_zero, List.getElem?_cons_succ, Option.some.injEq] at h0 h1
    subst h0 h1
    exact ⟨a, b, rfl⟩

/-- v is a slice that reads as the numbers xs. -/
def U64s (w : World) (v : Value) (xs : List Nat) : Prop :=
  ∃ ao cap, v = .slice ao xs.length cap ∧ xs.length ≤ 9223372036854775807 ∧ (∀ x ∈ xs, x < 18446744073709551616) ∧ ∀ j, j < xs.length → ∃ b o, ao = some ⟨b, o, none⟩ ∧ w.cell? ⟨b, o + j, none⟩ = some (.int .u64 (xs.getD j 0 : Nat))
theorem open_u64s {t e : TypeId} {v : Value} {d : DataW H} {p : List MemPlace} (ht : P.underlying t = some (.slice e)) (he : P.underlying e = some (.int .u64)) (hc : P.cellsOf e = 1) {r : Reach} {b0 : Nat} (hv : Value.okWide P w r b0 t v)
    (h : DataW.Trod enc P w base spare held t v d p) : ∃ xs, U64s w v xs := by
  obtain ⟨a0, len, cap, rfl⟩ := okWide_slice ht hv
  obtain ⟨fuel, hf⟩ := h
  rcases open_slice1 ht hc hf with ⟨hcs, _⟩ | ⟨a, len', cap', m, n, V, D, Pl, hcs, hb, hl, hm, hmm, _, hx⟩
  · simp only [Value.cells, List.cons.injEq, Value.slice.injEq, and_true] at hcs
    obtain ⟨rfl, rfl, rfl⟩ := hcs
    exact ⟨[], none, 0, rfl, by simp, by simp, fun j hj => by simp at hj⟩
  · simp only [Value.cells, List.cons.injEq, Value.slice.injEq, and_true] at hcs
    obtain ⟨rfl, rfl, rfl⟩ := hcs
    have key : ∀ j, j < len → ∃ x : Nat, (∃ b o, a = ⟨b, o, none⟩ ∧ w.cell? ⟨b, o + j, none⟩ = some (.int .u64 x)) ∧ x < 18446744073709551616 := by
      intro j hj
      have hsp := cell_spot (a := a) (hx 0 (by rw [hmm]; split <;> omega)).1
      obtain ⟨h1, h2⟩ := hx j (by rw [hmm]; split <;> omega)
      obtain ⟨y, e, _, hw⟩ := DataW.trod_int he h2
      simp only [List.cons.injEq, and_true] at e
      obtain ⟨x, rfl, hx64⟩ := u64_bounds hw
      obtain ⟨b, o, sp⟩ := a
      have hs0 : sp = none := hsp
      subst hs0
      rw [Addr.add_lit] at h1
      exact ⟨x, ⟨b, o, rfl, by rw [h1, e]⟩, hx64⟩
    obtain ⟨F, hF⟩ := choose_lt key
    have hg : ∀ j, j < len → ((List.range len).map F).getD j 0 = F j := by
      intro j hj
      simp [List.getD, hj]
    refine ⟨(List.range len).map F, some a, cap, by simp, by simp; unfold maxLen at hm; omega, fun x hx => ?_, fun j hj => ?_⟩
    · simp only [List.mem_map, List.mem_range] at hx
      obtain ⟨j, hj, rfl⟩ := hx
      exact (hF j hj).2
    · simp only [List.length_map, List.length_range] at hj
      obtain ⟨⟨b, o, ha, h2⟩, _⟩ := hF j hj
      rw [hg j hj]
      exact ⟨b, o, by rw [ha], h2⟩
end
end Go.Proofs.Ytibnhfnidgfenaa
