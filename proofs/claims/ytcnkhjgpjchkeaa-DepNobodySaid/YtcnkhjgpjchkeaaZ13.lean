/-
  Words, and contracts of functions of the program and of the document, for this seat's claims: each is a lemma on the way; conditions stand in each lemma.
-/
import Derived.Test.YtcnkhjgpjchkeaaZ12
namespace Go.Proofs.Ytcnkhjgpjchkeaa
open Go.ChangeShapes Go.WideShapes Go.ChangeAt Go.RowKit Go.Deep

section
variable {H : Type} {enc : TypeId × Value → H} {P : Program} {w : World} {base : Nat} {spare : Nat → Bool} {held : Bool}

theorem okWide_arr {t e : TypeId} {n : Nat} {v : Value} {r : Reach} {b0 : Nat} (ht : P.underlying t = some (.array n e)) (h : Value.okWide P w r b0 t v) : ∃ cs, v = .agg cs ∧ cs.size = P.cellsOf t := by
  simp only [Value.okWide, ht] at h
  obtain ⟨cs, h1, h2, _⟩ := h
  exact ⟨cs, h1, h2⟩

theorem field_int {t : TypeId} {k : IntKind} {n i : Nat} {cs : List Value} {o : Option (DataW H × List MemPlace)} (hi : P.underlying t = some (.int k)) (hc : P.cellsOf t = 1)
    (h : DataW.trod enc P w base spare held n t ((cs.drop i).take (P.cellsOf t)) = o) (ho : o ≠ none) : ∃ x, cs[i]? = some (.int k x) ∧ (Lit.int k x).wf = true := by
  rw [hc] at h
  cases o with
  | none => exact absurd rfl ho
  | some y =>
    obtain ⟨x, e, _, hw⟩ := DataW.trod_int hi h
    refine ⟨x, ?_, hw⟩
    have := congrArg (fun l => l[0]?) e
    simpa using this

/-- An array of two numbers. -/
theorem open_arr2 {t e : TypeId} {k : IntKind} {v : Value} {d : DataW H} {p : List MemPlace} (ht : P.underlying t = some (.array 2 e)) (he : P.underlying e = some (.int k)) (hc : P.cellsOf e = 1) (hC : P.cellsOf t = 2) {r : Reach} {b0 : Nat} (hv : Value.okWide P w r b0 t v)
    (h : DataW.Trod enc P w base spare held t v d p) : ∃ a b, v = .agg #[.int k a, .int k b] ∧ (Lit.int k a).wf = true ∧ (Lit.int k b).wf = true := by
  obtain ⟨cs, rfl, hsz⟩ := okWide_arr ht hv
  obtain ⟨fuel, hf⟩ := h
  obtain ⟨xs, m, _, _, _, hxl, hx⟩ := DataW.trod_array ht hf
  obtain ⟨a, h0, w0⟩ := field_int (i := 0 * P.cellsOf e) he hc (hx 0 (by omega)) (by simp [hxl])
  obtain ⟨b, h1, w1⟩ := field_int (i := 1 * P.cellsOf e) he hc (hx 1 (by omega)) (by simp [hxl])
  rw [hc] at h0 h1
  rw [hC] at hsz
  obtain ⟨l⟩ := cs
  match l, hsz with
  | [c0, c1], _ =>
    simp only [Value.cells, Nat.zero_mul, Nat.one_mul, List.getElem?_cons_zero, List.getElem?_cons_succ, Option.some.injEq] at h0 h1
    subst h0 h1
    exact ⟨a, b, rfl, w0, w1⟩

/-- An array of three numbers. -/
theorem open_arr3 {t e : TypeId} {k : IntKind} {v : Value} {d : DataW H} {p : List MemPlace} (ht : P.underlying t = some (.array 3 e)) (he : P.underlying e = some (.int k)) (hc : P.cellsOf e = 1) (hC : P.cellsOf t = 3) {r : Reach} {b0 : Nat} (hv : Value.okWide P w r b0 t v)
    (h : DataW.Trod enc P w base spare held t v d p) : ∃ a b c, v = .agg #[.int k a, .int k b, .int k c] ∧ (Lit.int k a).wf = true ∧ (Lit.int k b).wf = true ∧ (Lit.int k c).wf = true := by
  obtain ⟨cs, rfl, hsz⟩ := okWide_arr ht hv
  obtain ⟨fuel, hf⟩ := h
  obtain ⟨xs, m, _, _, _, hxl, hx⟩ := DataW.trod_array ht hf
  obtain ⟨a, h0, w0⟩ := field_int (i := 0 * P.cellsOf e) he hc (hx 0 (by omega)) (by simp [hxl])
  obtain ⟨b, h1, w1⟩ := field_int (i := 1 * P.cellsOf e) he hc (hx 1 (by omega)) (by simp [hxl])
  obtain ⟨c, h2, w2⟩ := field_int (i := 2 * P.cellsOf e) he hc (hx 2 (by omega)) (by simp [hxl])
  rw [hc] at h0 h1 h2
  rw [hC] at hsz
  obtain ⟨l⟩ := cs
  match l, hsz with
  | [c0, c1, c2], _ =>
    simp only [Value.cells, Nat.mul_one, List.getElem?_cons_zero, List.getElem?_cons_succ, Option.some.injEq] at h0 h1 h2
    subst h0 h1 h2
    exact ⟨a, b, c, rfl, w0, w1, w2⟩
end

section
variable {H : Type} {enc : TypeId × Value → H} {w : World} {base : Nat} {spare : Nat → Bool} {held : Bool}
theorem u8_bounds {n : Int} (h : (Lit.int .u8 n).wf = true) : ∃ k : Nat, n = k ∧ k < 256 := by
  simp [Lit.wf, IntKind.min, IntKind.max, IntKind.signed, IntKind.bits] at h
  exact ⟨n.toNat, by omega, by omega⟩
end
end Go.Proofs.Ytcnkhjgpjchkeaa

namespace Go.Proofs.Ytcnkhjgpjchkeaa
open Go.ChangeShapes Go.WideShapes Go.ChangeAt Go.RowKit Go.Deep

/-- The numbers of a configuration are numbers of Go's. -/
def CF.Ran64 (k : CF) : Prop := I64 k.mode ∧ I64 k.pool ∧ I64 k.queue ∧ I64 k.sem ∧ I64 k.fb ∧ I64 k.ch ∧ I64 k.vo ∧ I64 k.pe ∧ I64 k.bu ∧ I64 k.ba ∧ I64 k.fo
theorem ranU {n : Int} (h : (Lit.int .u64 n).wf = true) : 0 ≤ n ∧ n < 18446744073709551616 := by
  simp [Lit.wf, IntKind.min, IntKind.max, IntKind.signed, IntKind.bits] at h
  omega
theorem u64_bd {n : Int} (h : (Lit.int .u64 n).wf = true) : ∃ k : Nat, n = k ∧ k < 18446744073709551616 := by
  obtain ⟨h1, h2⟩ := ranU h
  exact ⟨n.toNat, by omega, by omega⟩
theorem ranI {n : Int} (h : (Lit.int .i64 n).wf = true) : I64 n := by
  simp [Lit.wf, IntKind.min, IntKind.max, IntKind.signed, IntKind.bits] at h
  unfold I64; omega
section
variable {H : Type} {enc : TypeId × Value → H} {w : World} {base : Nat} {spare : Nat → Bool} {held : Bool}
set_option maxRecDepth 20000 in
/-- A configuration. -/
theorem open_confR {v : Value} {d : DataW H} {p : List MemPlace} {r : Reach} {b0 : Nat} (hv : Value.okWide Try.prog w r b0 24 v) (h : DataW.Trod enc Try.prog w base spare held 24 v d p) : ∃ c : CF, v = c.val ∧ c.Ran ∧ c.Ran64 := by
  obtain ⟨cs, rfl, hsz⟩ := okWide_struct Try.underlying24 hv
  rw [show Try.prog.cellsOf 24 = 16 by kernel_rfl] at hsz
  obtain ⟨fuel, hf⟩ := h
  obtain ⟨xs, m, _, _, _, hxl, hx⟩ := DataW.trod_struct Try.underlying24 hf
  have hxl' : xs.length = 16 := hxl
  obtain ⟨mode, h0, e0⟩ := field_int (i := 0) Try.underlying3 (by kernel_rfl) (hx 0 _ rfl) (by simp [hxl'])
  obtain ⟨pool, h1, e1⟩ := field_int (i := 1) Try.underlying3 (by kernel_rfl) (hx 1 _ rfl) (by simp [hxl'])
  obtain ⟨queue, h2, e2⟩ := field_int (i := 2) Try.underlying3 (by kernel_rfl) (hx 2 _ rfl) (by simp [hxl'])
  obtain ⟨sem, h3, e3⟩ := field_int (i := 3) Try.underlying3 (by kernel_rfl) (hx 3 _ rfl) (by simp [hxl'])
  obtain ⟨fb, h4, e4⟩ := field_int (i := 4) Try.underlying3 (by kernel_rfl) (hx 4 _ rfl) (by simp [hxl'])
  obtain ⟨ch, h5, e5⟩ := field_int (i := 5) Try.underlying3 (by kernel_rfl) (hx 5 _ rfl) (by simp [hxl'])
  obtain ⟨t, h6, e6⟩ := field_int (i := 6) Try.underlying22 (by kernel_rfl) (hx 6 _ rfl) (by simp [hxl'])
  obtain ⟨ft, h7, e7⟩ := field_int (i := 7) Try.underlying22 (by kernel_rfl) (hx 7 _ rfl) (by simp [hxl'])
  obtain ⟨vo, h8, e8⟩ := field_int (i := 8) Try.underlying3 (by kernel_rfl) (hx 8 _ rfl) (by simp [hxl'])
  obtain ⟨pe, h9, e9⟩ := field_int (i := 9) Try.underlying3 (by kernel_rfl) (hx 9 _ rfl) (by simp [hxl'])
  obtain ⟨sl, h10, e10⟩ := field_int (i := 10) Try.underlying22 (by kernel_rfl) (hx 10 _ rfl) (by simp [hxl'])
  obtain ⟨bu, h11, e11⟩ := field_int (i := 11) Try.underlying3 (by kernel_rfl) (hx 11 _ rfl) (by simp [hxl'])
  obtain ⟨wi, h12, e12⟩ := field_int (i := 12) Try.underlying22 (by kernel_rfl) (hx 12 _ rfl) (by simp [hxl'])
  obtain ⟨wd, h13, e13⟩ := field_int (i := 13) Try.underlying22 (by kernel_rfl) (hx 13 _ rfl) (by simp [hxl'])
  obtain ⟨ba, h14, e14⟩ := field_int (i := 14) Try.underlying3 (by kernel_rfl) (hx 14 _ rfl) (by simp [hxl'])
  obtain ⟨fo, h15, e15⟩ := field_int (i := 15) Try.underlying3 (by kernel_rfl) (hx 15 _ rfl) (by simp [hxl'])
  obtain ⟨l⟩ := cs
  match l, hsz with
  | [c0, c1, c2, c3, c4, c5, c6, c7, c8, c9, c10, c11, c12, c13, c14, c15], _ =>
    simp only [Value.cells, List.getElem?_cons_zero, List.getElem?_cons_succ, Option.some.injEq] at h0 h1 h2 h3 h4 h5 h6 h7 h8 h9 h10 h11 h12 h13 h14 h15
    subst h0 h1 h2 h3 h4 h5 h6 h7 h8 h9 h10 h11 h12 h13 h14 h15
    exact ⟨⟨mode, pool, queue, sem, fb, ch, t, ft, vo, pe, sl, bu, wi, wd, ba, fo⟩, rfl, ⟨ranU e6, ranU e7, ranU e10, ranU e12, ranU e13⟩, ⟨ranI e0, ranI e1, ranI e2, ranI e3, ranI e4, ranI e5, ranI e8, ranI e9, ranI e11, ranI e14, ranI e15⟩⟩
end
end Go.Proofs.Ytcnkhjgpjchkeaa

namespace Go.Proofs.Ytcnkhjgpjchkeaa
open Go.ChangeShapes Go.WideShapes Go.ChangeAt Go.RowKit Go.Deep

section
variable {H : Type} {enc : TypeId × Value → H} {P : Program} {w : World} {base : Nat} {spare : Nat → Bool} {held : Bool}
theorem take_oneD {cs : List Value} {i : Nat} {v : Value} (h : (cs.drop i).take 1 = [v]) : cs[i]? = some v := by
  have := congrArg (fun l => l[0]?) h
  simpa using this
theorem ints_ofD {sl i : TypeId} {cs : List Value} {fuel : Nat} {x : DataW H × List MemPlace} (ht : P.underlying sl = some (.slice i)) (hi : P.underlying i = some (.int .i64)) (hc : P.cellsOf i = 1)
    (h : DataW.trod enc P w base spare held fuel sl cs = some x) : ∃ v xs, cs = [v] ∧ RdInts w v xs := by
  rcases open_slice1 ht hc h with ⟨rfl, _⟩ | ⟨a, len, cap, m, n, V, D, Pl, rfl, hb, hl, hm, hmm, _, hx⟩
  · exact ⟨_, [], rfl, none, 0, rfl, Nat.le_refl _, fun _ => rfl, fun j hj => by simp at hj⟩
  · have key : ∀ k, k < len → ∃ y : Int, ∃ b o, a = ⟨b, o, none⟩ ∧ w.cell? ⟨b, o + k, none⟩ = some (.int .i64 y) := by
      intro k hk
      obtain ⟨h1, h2⟩ := hx k (by rw [hmm]; split <;> omega)
      obtain ⟨y, e, _, _⟩ := DataW.trod_int hi h2
      simp only [List.cons.injEq, and_true] at e
      have hsp := cell_spot (a := a) (hx 0 (by rw [hmm]; split <;> omega)).1
      obtain ⟨b, o, sp⟩ := a
      have hs0 : sp = none := hsp
      subst hs0
      rw [Addr.add_lit] at h1
      exact ⟨y, b, o, rfl, by rw [h1, e]⟩
    obtain ⟨F, hF⟩ := choose_lt key
    refine ⟨_, (List.range len).map F, rfl, some a, cap, by simp, by simpa using hl, fun h => (by cases h), fun j hj => ?_⟩
    simp only [List.length_map, List.length_range] at hj
    obtain ⟨b, o, ha, h2⟩ := hF j hj
    refine ⟨b, o, by rw [ha], ?_⟩
    rw [h2]; simp [el, hj]
theorem pairs_ofD {sl e i : TypeId} {f0 f1 : Field} {cs : List Value} {fuel : Nat} {x : DataW H × List MemPlace} (ht : P.underlying sl = some (.slice e)) (he : P.underlying e = some (.struct #[f0, f1])) (h0 : f0.type = i ∧ f1.type = i ∧ f0.offset = 0 ∧ f1.offset = 1)
    (hi : P.underlying i = some (.int .i64)) (hc : P.cellsOf i = 1) (hC : P.cellsOf e = 2)
    (h : DataW.trod enc P w base spare held fuel sl cs = some x) : ∃ v ms, cs = [v] ∧ Rd2 w v ms := by
  obtain ⟨t0, t1, o0, o1⟩ := h0
  rcases open_slice ht h with ⟨hcs, hx⟩ | ⟨a, len, cap, m, n, D, Pl, hcs, hb, hl, hm, hmm, hx, hi'⟩
  · exact ⟨_, [], hcs, none, 0, rfl, fun j hj => by simp at hj⟩
  · have hspot : 0 < len → a.spot = none := by
      intro h0
      obtain ⟨cs', hc', _⟩ := hi' 0 (by rw [hmm]; split <;> omega)
      rw [hC] at hc'
      obtain ⟨_, hcl, hat⟩ := World.cells?_some hc'
      have h1 := hat 0 (by omega)
      rw [List.getElem?_eq_getElem (by omega), Nat.zero_mul] at h1
      exact cell_spot (a := a) h1
    have key : ∀ j, j < len → ∃ p : Int × Int, ∃ b o, a = ⟨b, o, none⟩ ∧ w.cell? ⟨b, o + j * 2, none⟩ = some (.int .i64 p.1) ∧ w.cell? ⟨b, o + j * 2 + 1, none⟩ = some (.int .i64 p.2) := by
      intro j hj
      obtain ⟨cs', hc', ht'⟩ := hi' j (by rw [hmm]; split <;> omega)
      rw [hC] at hc'
      obtain ⟨ys, n', hn', hy, hlen, hyl, hfl⟩ := DataW.trod_struct he ht'
      obtain ⟨_, hcl, hat⟩ := World.cells?_some hc'
      have fld : ∀ (q : Nat) (f : Field), #[f0, f1][q]? = some f → ∃ yq, DataW.trod enc P w base spare held n' f.type ((cs'.drop f.offset).take (P.cellsOf f.type)) = some yq := by
        intro q f hq
        have g := hfl q f hq
        have hq9 : q < 2 := (Array.getElem?_eq_some_iff.1 hq).1
        rw [List.getElem?_eq_getElem (by rw [hyl]; exact hq9)] at g
        exact ⟨_, g⟩
      obtain ⟨y0, q0⟩ := fld 0 f0 rfl
      rw [o0, t0, hc] at q0
      obtain ⟨x0, e0, _, _⟩ := DataW.trod_int hi q0
      obtain ⟨y1, q1⟩ := fld 1 f1 rfl
      rw [o1, t1, hc] at q1
      obtain ⟨x1, e1, _, _⟩ := DataW.trod_int hi q1
      have spot0 : a.spot = none := hspot (by omega)
      obtain ⟨b, o, sp⟩ := a
      have hs0 : sp = none := spot0
      subst hs0
      have at' : ∀ q u, q < 2 → cs'[q]? = some u → w.cell? ⟨b, o + j * 2 + q, none⟩ = some u := by
        intro q u hq hu'
        have h1 := hat q hq
        rw [hu', Addr.add_lit, Addr.add_lit] at h1
        exact h1
      exact ⟨(x0, x1), b, o, rfl, at' 0 _ (by omega) (take_oneD e0), at' 1 _ (by omega) (take_oneD e1)⟩
    obtain ⟨F, hF⟩ := choose_lt key
    refine ⟨_, (List.range len).map F, hcs, some a, cap, by simp, fun j hj => ?_⟩
    simp only [List.length_map, List.length_range] at hj
    obtain ⟨b, o, ha, h2, h3⟩ := hF j hj
    refine ⟨b, o, by rw [ha], ?_, ?_⟩
    · rw [h2]; simp [List.getD, hj]
    · rw [h3]; simp [List.getD, hj]
end

section
variable {H : Type} {enc : TypeId × Value → H} {w : World} {base : Nat} {spare : Nat → Bool} {held : Bool}
set_option maxRecDepth 20000 in
theorem open_dds {v : Value} {d : DataW H} {p : List MemPlace} {r : Reach} {b0 : Nat} (hv : Value.okWide Try.prog w r b0 25 v) (h : DataW.Trod enc Try.prog w base spare held 25 v d p) : ∃ l, Dds w v l := by
  have hC : Try.prog.cellsOf 54 = 8 := by kernel_rfl
  have hci : Try.prog.cellsOf 3 = 1 := by kernel_rfl
  have hcu : Try.prog.cellsOf 22 = 1 := by kernel_rfl
  have hcb : Try.prog.cellsOf 4 = 1 := by kernel_rfl
  have hcs1 : Try.prog.cellsOf 29 = 1 := by kernel_rfl
  have hcs2 : Try.prog.cellsOf 50 = 1 := by kernel_rfl
  have hcB : Try.prog.cellsOf 52 = 2 := by kernel_rfl
  have hcM : Try.prog.cellsOf 162 = 2 := by kernel_rfl
  obtain ⟨a0, len, cap, rfl⟩ := okWide_slice Try.underlying25 hv
  obtain ⟨fuel, hf⟩ := h
  rcases open_slice Try.underlying25 hf with ⟨hcs, hx⟩ | ⟨a, len', cap', m, n, D, Pl, hcs, hb, hl, hm, hmm, hx, hi'⟩
  · simp only [Value.cells, List.cons.injEq, Value.slice.injEq, and_true] at hcs
    obtain ⟨rfl, rfl, rfl⟩ := hcs
    exact ⟨[], none, 0, rfl, by simp, by simp, fun j hj => by simp at hj⟩
  · simp only [Value.cells, List.cons.injEq, Value.slice.injEq, and_true] at hcs
    obtain ⟨rfl, rfl, rfl⟩ := hcs
    have hspot : 0 < len → a.spot = none := by
      intro h0
      obtain ⟨cs', hc, _⟩ := hi' 0 (by rw [hmm]; split <;> omega)
      rw [hC] at hc
      obtain ⟨_, hcl, hat⟩ := World.cells?_some hc
      have h1 := hat 0 (by omega)
      rw [List.getElem?_eq_getElem (by omega), Nat.zero_mul] at h1
      exact cell_spot (a := a) h1
    have key : ∀ j, j < len → ∃ x : Dd, (∃ b o, a = ⟨b, o, none⟩ ∧ ∃ vv va vm, At8 w b (o + j * 8) x vv va vm ∧ DdV w vv va vm x) ∧ x.t < 18446744073709551616 := by
      intro j hj
      obtain ⟨cs', hc, ht'⟩ := hi' j (by rw [hmm]; split <;> omega)
      rw [hC] at hc
      obtain ⟨ys, n', hn', hy, hlen, hyl, hfl⟩ := DataW.trod_struct Try.underlying54 ht'
      obtain ⟨_, hcl, hat⟩ := World.cells?_some hc
      have hyl7 : ys.length = 7 := hyl
      have fld : ∀ (q : Nat) (o : Nat) (t : TypeId) (c : Nat), q < 7 → (ys[q]? = DataW.trod enc Try.prog w base spare held n' t ((cs'.drop o).take (Try.prog.cellsOf t)) ∨ DataW.trod enc Try.prog w base spare held n' t ((cs'.drop o).take (Try.prog.cellsOf t)) = ys[q]?) → Try.prog.cellsOf t = c → ∃ yq, DataW.trod enc Try.prog w base spare held n' t ((cs'.drop o).take c) = some yq := by
        intro q o t c hq hh hc'
        subst hc'
        have : ys[q]? = some (ys[q]'(by omega)) := List.getElem?_eq_getElem (by omega)
        rcases hh with hh | hh
        · exact ⟨_, hh.symm.trans this⟩
        · exact ⟨_, hh.trans this⟩
      obtain ⟨y0, q0⟩ := fld 0 0 3 1 (by omega) (by first | exact .inl (hfl 0 _ rfl) | exact .inr (hfl 0 _ rfl)) hci
      obtain ⟨x0, e0, _, _⟩ := DataW.trod_int Try.underlying3 q0
      obtain ⟨y1, q1⟩ := fld 1 1 3 1 (by omega) (by first | exact .inl (hfl 1 _ rfl) | exact .inr (hfl 1 _ rfl)) hci
      obtain ⟨x1, e1, _, _⟩ := DataW.trod_int Try.underlying3 q1
      obtain ⟨y2, q2⟩ := fld 2 2 3 1 (by omega) (by first | exact .inl (hfl 2 _ rfl) | exact .inr (hfl 2 _ rfl)) hci
      obtain ⟨x2, e2, _, _⟩ := DataW.trod_int Try.underlying3 q2
      obtain ⟨y3, q3⟩ := fld 3 3 22 1 (by omega) (by first | exact .inl (hfl 3 _ rfl) | exact .inr (hfl 3 _ rfl)) hcu
      obtain ⟨x3, e3, _, w3⟩ := DataW.trod_int Try.underlying22 q3
      obtain ⟨t3, rfl, ht3⟩ := u64_bd w3
      obtain ⟨y4, q4⟩ := fld 4 4 4 1 (by omega) (by first | exact .inl (hfl 4 _ rfl) | exact .inr (hfl 4 _ rfl)) hcb
      obtain ⟨x4, e4, _⟩ := DataW.trod_bool Try.underlying4 q4
      obtain ⟨y5, q5⟩ := fld 5 5 29 1 (by omega) (by first | exact .inl (hfl 5 _ rfl) | exact .inr (hfl 5 _ rfl)) hcs1
      obtain ⟨vv, vals, e5, hvv⟩ := ints_ofD Try.underlying29 Try.underlying3 hci q5
      obtain ⟨y6, q6⟩ := fld 6 6 52 2 (by omega) (by first | exact .inl (hfl 6 _ rfl) | exact .inr (hfl 6 _ rfl)) hcB
      obtain ⟨ys1, n1, _, _, _, hyl1, hfl1⟩ := DataW.trod_struct Try.underlying52 q6
      have hyl2 : ys1.length = 2 := hyl1
      have fld1 : ∀ (q : Nat) (o : Nat) (t : TypeId) (c : Nat), q < 2 → (ys1[q]? = DataW.trod enc Try.prog w base spare held n1 t ((((cs'.drop 6).take 2).drop o).take (Try.prog.cellsOf t)) ∨ DataW.trod enc Try.prog w base spare held n1 t ((((cs'.drop 6).take 2).drop o).take (Try.prog.cellsOf t)) = ys1[q]?) → Try.prog.cellsOf t = c → ∃ yq, DataW.trod enc Try.prog w base spare held n1 t ((((cs'.drop 6).take 2).drop o).take c) = some yq := by
        intro q o t c hq hh hc'
        subst hc'
        have : ys1[q]? = some (ys1[q]'(by omega)) := List.getElem?_eq_getElem (by omega)
        rcases hh with hh | hh
        · exact ⟨_, hh.symm.trans this⟩
        · exact ⟨_, hh.trans this⟩
      obtain ⟨z0, s0⟩ := fld1 0 0 29 1 (by omega) (by first | exact .inl (hfl1 0 _ rfl) | exact .inr (hfl1 0 _ rfl)) hcs1
      obtain ⟨va, args, e6, hva⟩ := ints_ofD Try.underlying29 Try.underlying3 hci s0
      obtain ⟨z1, s1⟩ := fld1 1 1 50 1 (by omega) (by first | exact .inl (hfl1 1 _ rfl) | exact .inr (hfl1 1 _ rfl)) hcs2
      obtain ⟨vm, ms, e7, hvm⟩ := pairs_ofD Try.underlying50 Try.underlying162 ⟨rfl, rfl, rfl, rfl⟩ Try.underlying3 hci hcM s1
      have k6' := take_oneD e6
      have k7' := take_oneD e7
      have k6 : cs'[6]? = some va := by simpa using k6'
      have k7 : cs'[7]? = some vm := by simpa using k7'
      have spot0 : a.spot = none := hspot (by omega)
      obtain ⟨b, o, sp⟩ := a
      have hs0 : sp = none := spot0
      subst hs0
      have at' : ∀ q u, q < 8 → cs'[q]? = some u → w.cell? ⟨b, o + j * 8 + q, none⟩ = some u := by
        intro q u hq hu'
        have h1 := hat q hq
        rw [hu', Addr.add_lit, Addr.add_lit] at h1
        exact h1
      exact ⟨⟨x0, x1, x2, t3, x4, vals, args, ms⟩, ⟨b, o, rfl, vv, va, vm, ⟨at' 0 _ (by omega) (take_oneD e0), at' 1 _ (by omega) (take_oneD e1), at' 2 _ (by omega) (take_oneD e2), at' 3 _ (by omega) (take_oneD e3), at' 4 _ (by omega) (take_oneD e4), at' 5 _ (by omega) (take_oneD e5), at' 6 _ (by omega) k6, at' 7 _ (by omega) k7⟩, ⟨hvv, hva, hvm⟩⟩, ht3⟩
    obtain ⟨F, hF⟩ := choose_lt key
    have hg : ∀ j, j < len → ((List.range len).map F).getD j default = F j := by
      intro j hj
      simp [List.getD, hj]
    refine ⟨(List.range len).map F, some a, cap, by simp, by simp; unfold maxLen at hm; omega, fun x hx => ?_, fun j hj => ?_⟩
    · simp only [List.mem_map, List.mem_range] at hx
      obtain ⟨j, hj, rfl⟩ := hx
      exact (hF j hj).2
    · simp only [List.length_map, List.length_range] at hj
      obtain ⟨⟨b, o, ha, vv, va, vm, h1, h2⟩, _⟩ := hF j hj
      rw [hg j hj]
      exact ⟨b, o, by rw [ha], vv, va, vm, h1, h2⟩
end
end Go.Proofs.Ytcnkhjgpjchkeaa
