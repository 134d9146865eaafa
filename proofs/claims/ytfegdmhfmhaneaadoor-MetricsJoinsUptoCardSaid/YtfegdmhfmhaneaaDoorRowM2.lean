/-
  Openings of a law's arguments: how a dependency stands; a sum; outcomes.
-/
import Derived.Test.YtfegdmhfmhaneaaDoorRowM
import Derived.Test.YtfegdmhfmhaneaaDoorMet7
namespace Go.Proofs.YtfegdmhfmhaneaaDoor
open Go.ChangeShapes Go.WideShapes Go.ChangeAt Go.RowKit Go.Deep

section
variable {H : Type} {enc : TypeId × Value → H} {P : Program} {w : World} {base : Nat} {spare : Nat → Bool} {held : Bool}

theorem okWide_arr {t e : TypeId} {n : Nat} {v : Value} {r : Reach} {b0 : Nat} (ht : P.underlying t = some (.array n e)) (h : Value.okWide P w r b0 t v) : ∃ cs, v = .agg cs ∧ cs.size = P.cellsOf t := by
  simp only [Value.okWide, ht] at h
  obtain ⟨cs, h1, h2, _⟩ := h
  exact ⟨cs, h1, h2⟩

theorem field_int {t : TypeId} {k : IntKind} {n i : Nat} {cs : List Value} {o : Option (DataW H × List MemPlace)} (hi : P.underlying t = some (.int k)) (hc : P.cellsOf t = 1)
    (h : DataW.trod enc P w base spare held n t ((cs.drop i).take (P.cellsOf t)) = o) (ho : o ≠ none) : ∃ x, cs[i]? = some (.int k x) ∧ (Lit.int k x).wf = true := by
  rw [hc] at h
  cases o with
  | none => exact absurd rfl ho
  | some y =>
    obtain ⟨x, e, _, hw⟩ := DataW.trod_int hi h
    refine ⟨x, ?_, hw⟩
    have := congrArg (fun l => l[0]?) e
    simpa using this

/-- An array of two numbers. -/
theorem open_arr2 {t e : TypeId} {k : IntKind} {v : Value} {d : DataW H} {p : List MemPlace} (ht : P.underlying t = some (.array 2 e)) (he : P.underlying e = some (.int k)) (hc : P.cellsOf e = 1) (hC : P.cellsOf t = 2) {r : Reach} {b0 : Nat} (hv : Value.okWide P w r b0 t v)
    (h : DataW.Trod enc P w base spare held t v d p) : ∃ a b, v = .agg #[.int k a, .int k b] ∧ (Lit.int k a).wf = true ∧ (Lit.int k b).wf = true := by
  obtain ⟨cs, rfl, hsz⟩ := okWide_arr ht hv
  obtain ⟨fuel, hf⟩ := h
  obtain ⟨xs, m, _, _, _, hxl, hx⟩ := DataW.trod_array ht hf
  obtain ⟨a, h0, w0⟩ := field_int (i := 0 * P.cellsOf e) he hc (hx 0 (by omega)) (by simp [hxl])
  obtain ⟨b, h1, w1⟩ := field_int (i := 1 * P.cellsOf e) he hc (hx 1 (by omega)) (by simp [hxl])
  rw [hc] at h0 h1
  rw [hC] at hsz
  obtain ⟨l⟩ := cs
  match l, hsz with
  | [c0, c1], _ =>
    simp only [Value.cells, Nat.zero_mul, Nat.one_mul, List.getElem?_cons_zero, List.getElem?_cons_succ, Option.some.injEq] at h0 h1
    subst h0 h1
    exact ⟨a, b, rfl, w0, w1⟩

/-- An array of three numbers. -/
theorem open_arr3 {t e : TypeId} {k : IntKind} {v : Value} {d : DataW H} {p : List MemPlace} (ht : P.underlying t = some (.array 3 e)) (he : P.underlying e = some (.int k)) (hc : P.cellsOf e = 1) (hC : P.cellsOf t = 3) {r : Reach} {b0 : Nat} (hv : Value.okWide P w r b0 t v)
    (h : DataW.Trod enc P w base spare held t v d p) : ∃ a b c, v = .agg #[.int k a, .int k b, .int k c] ∧ (Lit.int k a).wf = true ∧ (Lit.int k b).wf = true ∧ (Lit.int k c).wf = true := by
  obtain ⟨cs, rfl, hsz⟩ := okWide_arr ht hv
  obtain ⟨fuel, hf⟩ := h
  obtain ⟨xs, m, _, _, _, hxl, hx⟩ := DataW.trod_array ht hf
  obtain ⟨a, h0, w0⟩ := field_int (i := 0 * P.cellsOf e) he hc (hx 0 (by omega)) (by simp [hxl])
  obtain ⟨b, h1, w1⟩ := field_int (i := 1 * P.cellsOf e) he hc (hx 1 (by omega)) (by simp [hxl])
  obtain ⟨c, h2, w2⟩ := field_int (i := 2 * P.cellsOf e) he hc (hx 2 (by omega)) (by simp [hxl])
  rw [hc] at h0 h1 h2
  rw [hC] at hsz
  obtain ⟨l⟩ := cs
  match l, hsz with
  | [c0, c1, c2], _ =>
    simp only [Value.cells, Nat.mul_one, List.getElem?_cons_zero, List.getElem?_cons_succ, Option.some.injEq] at h0 h1 h2
    subst h0 h1 h2
    exact ⟨a, b, c, rfl, w0, w1, w2⟩
end

section
variable {H : Type} {enc : TypeId × Value → H} {w : World} {base : Nat} {spare : Nat → Bool} {held : Bool}
theorem u8_bounds {n : Int} (h : (Lit.int .u8 n).wf = true) : ∃ k : Nat, n = k ∧ k < 256 := by
  simp [Lit.wf, IntKind.min, IntKind.max, IntKind.signed, IntKind.bits] at h
  exact ⟨n.toNat, by omega, by omega⟩
section
variable {H : Type} {enc : TypeId × Value → H} {P : Program} {w : World} {base : Nat} {spare : Nat → Bool} {held : Bool}

theorem u64_bounds {n : Int} (h : (Lit.int .u64 n).wf = true) : ∃ k : Nat, n = k ∧ k < 18446744073709551616 := by
  have h2 : 0 ≤ n ∧ n ≤ 18446744073709551615 := by simpa [Lit.wf, IntKind.min, IntKind.max, IntKind.signed, IntKind.bits] using h
  obtain ⟨k, rfl⟩ := Int.eq_ofNat_of_zero_le h2.1
  refine ⟨k, rfl, ?_⟩
  omega
theorem take_one {cs : List Value} {i : Nat} {v : Value} (h : (cs.drop i).take 1 = [v]) : cs[i]? = some v := by
  have := congrArg (fun l => l[0]?) h
  simpa using this


/-- The values of an event. -/
theorem open_ous {t e i u : TypeId} {f0 f1 f2 f3 f4 : Field} {v : Value} {d : DataW H} {p : List MemPlace} (ht : P.underlying t = some (.slice e)) (he : P.underlying e = some (.struct #[f0, f1, f2, f3, f4]))
    (h0 : f0.type = i ∧ f1.type = i ∧ f2.type = i ∧ f3.type = i ∧ f4.type = u) (hi : P.underlying i = some (.int .i64)) (hu : P.underlying u = some (.int .u64))
    (hone : oneCellFields P #[f0, f1, f2, f3, f4] = true) (hC : P.cellsOf e = 5) {r : Reach} {b0 : Nat} (hv : Value.okWide P w r b0 t v)
    (h : DataW.Trod enc P w base spare held t v d p) : ∃ l, Ous w 0 v l ∧ (∀ x ∈ l, (Lit.int .u64 x.tm).wf = true) ∧ l.length ≤ 9223372036854775807 := by
  obtain ⟨t0, t1, t2, t3, t4⟩ := h0
  obtain ⟨a0, len, cap, rfl⟩ := okWide_slice ht hv
  obtain ⟨fuel, hf⟩ := h
  rcases open_slice ht hf with ⟨hcs, hx⟩ | ⟨a, len', cap', m, n, D, Pl, hcs, hb, hl, hm, hmm, hx, hi'⟩
  · simp only [Value.cells, List.cons.injEq, Value.slice.injEq, and_true] at hcs
    obtain ⟨rfl, rfl, rfl⟩ := hcs
    exact ⟨[], ⟨none, 0, rfl, by simp, fun _ => rfl, fun j hj => by simp at hj⟩, fun e he => by simp at he, by simp⟩
  · simp only [Value.cells, List.cons.injEq, Value.slice.injEq, and_true] at hcs
    obtain ⟨rfl, rfl, rfl⟩ := hcs
    have hspot : 0 < len → a.spot = none := by
      intro h0
      obtain ⟨cs', hc, _⟩ := hi' 0 (by rw [hmm]; split <;> omega)
      rw [hC] at hc
      obtain ⟨_, hcl, hat⟩ := World.cells?_some hc
      have h1 := hat 0 (by omega)
      rw [List.getElem?_eq_getElem (by omega), Nat.zero_mul] at h1
      exact cell_spot (a := a) h1
    have key : ∀ j, j < len → ∃ x : Ou, (∃ b o, a = ⟨b, o, none⟩ ∧ At5 w b (o + j * 5) x) ∧ (Lit.int .u64 x.tm).wf = true := by
      intro j hj
      obtain ⟨cs', hc, ht'⟩ := hi' j (by rw [hmm]; split <;> omega)
      rw [hC] at hc
      obtain ⟨ys, n', hn', hy, hlen, hyl, hfl⟩ := DataW.trod_struct he ht'
      obtain ⟨_, hcl, hat⟩ := World.cells?_some hc
      have fld : ∀ (q : Nat) (f : Field), #[f0, f1, f2, f3, f4][q]? = some f → ∃ yq, DataW.trod enc P w base spare held n' f.type ((cs'.drop q).take 1) = some yq := by
        intro q f hq
        obtain ⟨oq, kq⟩ := hone_of hone q f hq
        have g := hfl q f hq
        rw [oq, kq] at g
        have hq9 : q < 5 := (Array.getElem?_eq_some_iff.1 hq).1
        rw [List.getElem?_eq_getElem (by rw [hyl]; exact hq9)] at g
        exact ⟨_, g⟩
      have inty : ∀ (q : Nat) (f : Field), #[f0, f1, f2, f3, f4][q]? = some f → f.type = i → ∃ x, cs'[q]? = some (.int .i64 x) := by
        intro q f hq hty
        obtain ⟨yq, g⟩ := fld q f hq
        obtain ⟨x, e1, _, _⟩ := DataW.trod_int (hty ▸ hi) g
        exact ⟨x, take_one e1⟩
      obtain ⟨x0, e0⟩ := inty 0 f0 rfl t0
      obtain ⟨x1, e1⟩ := inty 1 f1 rfl t1
      obtain ⟨x2, e2⟩ := inty 2 f2 rfl t2
      obtain ⟨x3, e3⟩ := inty 3 f3 rfl t3
      obtain ⟨y4, g4⟩ := fld 4 f4 rfl
      obtain ⟨x4, e4, _, w4⟩ := DataW.trod_int (t4 ▸ hu) g4
      have spot0 : a.spot = none := hspot (by omega)
      obtain ⟨b, o, sp⟩ := a
      have hs0 : sp = none := spot0
      subst hs0
      have at' : ∀ q u, q < 5 → cs'[q]? = some u → w.cell? ⟨b, o + j * 5 + q, none⟩ = some u := by
        intro q u hq hu'
        have h1 := hat q hq
        rw [hu', Addr.add_lit, Addr.add_lit] at h1
        exact h1
      exact ⟨⟨x0, x1, x2, x3, x4⟩, ⟨b, o, rfl, at' 0 _ (by omega) e0, at' 1 _ (by omega) e1, at' 2 _ (by omega) e2, at' 3 _ (by omega) e3, at' 4 _ (by omega) (take_one e4)⟩, w4⟩
    obtain ⟨F, hF⟩ := choose_lt key
    have hg : ∀ j, j < len → ((List.range len).map F).getD j default = F j := by
      intro j hj
      simp [List.getD, hj]
    refine ⟨(List.range len).map F, ⟨some a, cap, by simp, by simpa using hl, fun h => (by cases h), fun j hj => ?_⟩, fun x hx => ?_, by simp; unfold maxLen at hm; omega⟩
    · simp only [List.length_map, List.length_range] at hj
      obtain ⟨⟨b, o, ha, h2⟩, _⟩ := hF j hj
      rw [hg j hj]
      exact ⟨b, o, by rw [ha], Nat.zero_le _, h2⟩
    · simp only [List.mem_map, List.mem_range] at hx
      obtain ⟨j, hj, rfl⟩ := hx
      exact (hF j hj).2
theorem wf_i64 {n : Int} (h : (Lit.int .i64 n).wf = true) : I64 n := by
  have h2 : -9223372036854775808 ≤ n ∧ n ≤ 9223372036854775807 := by simpa [Lit.wf, IntKind.min, IntKind.max, IntKind.signed, IntKind.bits] using h
  unfold I64
  omega
theorem open_snap {v : Value} {d : DataW H} {p : List MemPlace} {r : Reach} {b0 : Nat} (hv : Value.okWide Tryd.prog w r b0 25 v) (h : DataW.Trod enc Tryd.prog w base spare held 25 v d p) : ∃ s : Sn, v = .agg s.vals ∧ s.ok := by
  obtain ⟨cs, rfl, hsz⟩ := okWide_struct Tryd.underlying25 hv
  rw [show Tryd.prog.cellsOf 25 = 12 by kernel_rfl] at hsz
  obtain ⟨fuel, hf⟩ := h
  obtain ⟨xs, m, _, _, _, hxl, hx⟩ := DataW.trod_struct Tryd.underlying25 hf
  have hxl' : xs.length = 8 := hxl
  obtain ⟨x0, h0, w0⟩ := field_int (i := 0) Tryd.underlying3 (by kernel_rfl) (hx 0 _ rfl) (by simp [hxl'])
  obtain ⟨x1, h1, w1⟩ := field_int (i := 1) Tryd.underlying3 (by kernel_rfl) (hx 1 _ rfl) (by simp [hxl'])
  obtain ⟨x2, h2, w2⟩ := field_int (i := 2) Tryd.underlying3 (by kernel_rfl) (hx 2 _ rfl) (by simp [hxl'])
  obtain ⟨x3, h3, w3⟩ := field_int (i := 3) Tryd.underlying3 (by kernel_rfl) (hx 3 _ rfl) (by simp [hxl'])
  obtain ⟨x4, h4, w4⟩ := field_int (i := 4) Tryd.underlying3 (by kernel_rfl) (hx 4 _ rfl) (by simp [hxl'])
  obtain ⟨y, hy⟩ : ∃ y, xs[5]? = some y := ⟨xs[5], by simp [hxl']⟩
  have hz : DataW.trod enc Tryd.prog w base spare held m 23 (((Value.agg cs).cells.toList.drop 5).take (Tryd.prog.cellsOf 23)) = xs[5]? := hx 5 _ rfl
  rw [hy] at hz
  obtain ⟨zs, m2, _, _, _, hzl, hzx⟩ := DataW.trod_array Tryd.underlying23 hz
  obtain ⟨y0, g0, v0⟩ := field_int (i := 0 * Tryd.prog.cellsOf 22) Tryd.underlying22 (by kernel_rfl) (hzx 0 (by decide)) (by simp [hzl])
  obtain ⟨y1, g1, v1⟩ := field_int (i := 1 * Tryd.prog.cellsOf 22) Tryd.underlying22 (by kernel_rfl) (hzx 1 (by decide)) (by simp [hzl])
  obtain ⟨y2, g2, v2⟩ := field_int (i := 2 * Tryd.prog.cellsOf 22) Tryd.underlying22 (by kernel_rfl) (hzx 2 (by decide)) (by simp [hzl])
  obtain ⟨y3, g3, v3⟩ := field_int (i := 3 * Tryd.prog.cellsOf 22) Tryd.underlying22 (by kernel_rfl) (hzx 3 (by decide)) (by simp [hzl])
  obtain ⟨y4, g4, v4⟩ := field_int (i := 4 * Tryd.prog.cellsOf 22) Tryd.underlying22 (by kernel_rfl) (hzx 4 (by decide)) (by simp [hzl])
  obtain ⟨x6, h6, w6⟩ := field_int (i := 10) Tryd.underlying22 (by kernel_rfl) (hx 6 _ rfl) (by simp [hxl'])
  obtain ⟨x7, h7, w7⟩ := field_int (i := 11) Tryd.underlying22 (by kernel_rfl) (hx 7 _ rfl) (by simp [hxl'])
  rw [show Tryd.prog.cellsOf 22 = 1 by kernel_rfl, show Tryd.prog.cellsOf 23 = 5 by kernel_rfl] at g0 g1 g2 g3 g4
  obtain ⟨l⟩ := cs
  match l, hsz with
  | [c0, c1, c2, c3, c4, c5, c6, c7, c8, c9, c10, c11], _ =>
    simp [Value.cells] at h0 h1 h2 h3 h4 h6 h7 g0 g1 g2 g3 g4
    subst h0 h1 h2 h3 h4 h6 h7 g0 g1 g2 g3 g4
    obtain ⟨n0, rfl, b0⟩ := u64_bounds v0
    obtain ⟨n1, rfl, b1⟩ := u64_bounds v1
    obtain ⟨n2, rfl, b2⟩ := u64_bounds v2
    obtain ⟨n3, rfl, b3⟩ := u64_bounds v3
    obtain ⟨n4, rfl, b4⟩ := u64_bounds v4
    obtain ⟨n6, rfl, b6⟩ := u64_bounds w6
    obtain ⟨n7, rfl, b7⟩ := u64_bounds w7
    exact ⟨⟨x0, x1, x2, x3, x4, n0, n1, n2, n3, n4, n6, n7⟩, rfl, wf_i64 w0, wf_i64 w1, wf_i64 w2, wf_i64 w3, wf_i64 w4, b0, b1, b2, b3, b4, b6, b7⟩
theorem open_sum {v : Value} {d : DataW H} {p : List MemPlace} {r : Reach} {b0 : Nat} (hv : Value.okWide Tryd.prog w r b0 41 v) (h : DataW.Trod enc Tryd.prog w base spare held 41 v d p) : ∃ s : Su, v = .agg s.vals ∧ s.ok ∧ 0 ≤ s.l := by
  obtain ⟨cs, rfl, hsz⟩ := okWide_struct Tryd.underlying41 hv
  rw [show Tryd.prog.cellsOf 41 = 11 by kernel_rfl] at hsz
  obtain ⟨fuel, hf⟩ := h
  obtain ⟨xs, m, _, _, _, hxl, hx⟩ := DataW.trod_struct Tryd.underlying41 hf
  have hxl' : xs.length = 3 := hxl
  obtain ⟨y, hy⟩ : ∃ y, xs[0]? = some y := ⟨xs[0], by simp [hxl']⟩
  have hz : DataW.trod enc Tryd.prog w base spare held m 23 (((Value.agg cs).cells.toList.drop 0).take (Tryd.prog.cellsOf 23)) = xs[0]? := hx 0 _ rfl
  rw [hy] at hz
  obtain ⟨zs, m2, _, _, _, hzl, hzx⟩ := DataW.trod_array Tryd.underlying23 hz
  obtain ⟨y0, g0, v0⟩ := field_int (i := 0 * Tryd.prog.cellsOf 22) Tryd.underlying22 (by kernel_rfl) (hzx 0 (by decide)) (by simp [hzl])
  obtain ⟨y1, g1, v1⟩ := field_int (i := 1 * Tryd.prog.cellsOf 22) Tryd.underlying22 (by kernel_rfl) (hzx 1 (by decide)) (by simp [hzl])
  obtain ⟨y2, g2, v2⟩ := field_int (i := 2 * Tryd.prog.cellsOf 22) Tryd.underlying22 (by kernel_rfl) (hzx 2 (by decide)) (by simp [hzl])
  obtain ⟨y3, g3, v3⟩ := field_int (i := 3 * Tryd.prog.cellsOf 22) Tryd.underlying22 (by kernel_rfl) (hzx 3 (by decide)) (by simp [hzl])
  obtain ⟨y4, g4, v4⟩ := field_int (i := 4 * Tryd.prog.cellsOf 22) Tryd.underlying22 (by kernel_rfl) (hzx 4 (by decide)) (by simp [hzl])
  obtain ⟨y', hy'⟩ : ∃ y, xs[1]? = some y := ⟨xs[1], by simp [hxl']⟩
  have hz' : DataW.trod enc Tryd.prog w base spare held m 23 (((Value.agg cs).cells.toList.drop 5).take (Tryd.prog.cellsOf 23)) = xs[1]? := hx 1 _ rfl
  rw [hy'] at hz'
  obtain ⟨zs', m3, _, _, _, hzl', hzx'⟩ := DataW.trod_array Tryd.underlying23 hz'
  obtain ⟨x0, h0, w0⟩ := field_int (i := 0 * Tryd.prog.cellsOf 22) Tryd.underlying22 (by kernel_rfl) (hzx' 0 (by decide)) (by simp [hzl'])
  obtain ⟨x1, h1, w1⟩ := field_int (i := 1 * Tryd.prog.cellsOf 22) Tryd.underlying22 (by kernel_rfl) (hzx' 1 (by decide)) (by simp [hzl'])
  obtain ⟨x2, h2, w2⟩ := field_int (i := 2 * Tryd.prog.cellsOf 22) Tryd.underlying22 (by kernel_rfl) (hzx' 2 (by decide)) (by simp [hzl'])
  obtain ⟨x3, h3, w3⟩ := field_int (i := 3 * Tryd.prog.cellsOf 22) Tryd.underlying22 (by kernel_rfl) (hzx' 3 (by decide)) (by simp [hzl'])
  obtain ⟨x4, h4, w4⟩ := field_int (i := 4 * Tryd.prog.cellsOf 22) Tryd.underlying22 (by kernel_rfl) (hzx' 4 (by decide)) (by simp [hzl'])
  obtain ⟨x7, h7, w7⟩ := field_int (i := 10) Tryd.underlying22 (by kernel_rfl) (hx 2 _ rfl) (by simp [hxl'])
  rw [show Tryd.prog.cellsOf 22 = 1 by kernel_rfl, show Tryd.prog.cellsOf 23 = 5 by kernel_rfl] at g0 g1 g2 g3 g4 h0 h1 h2 h3 h4
  obtain ⟨l⟩ := cs
  match l, hsz with
  | [c0, c1, c2, c3, c4, c5, c6, c7, c8, c9, c10], _ =>
    simp [Value.cells] at h0 h1 h2 h3 h4 h7 g0 g1 g2 g3 g4
    subst h0 h1 h2 h3 h4 h7 g0 g1 g2 g3 g4
    obtain ⟨n0, rfl, b0⟩ := u64_bounds v0
    obtain ⟨m0, rfl, d0⟩ := u64_bounds w0
    obtain ⟨n1, rfl, b1⟩ := u64_bounds v1
    obtain ⟨m1, rfl, d1⟩ := u64_bounds w1
    obtain ⟨n2, rfl, b2⟩ := u64_bounds v2
    obtain ⟨m2, rfl, d2⟩ := u64_bounds w2
    obtain ⟨n3, rfl, b3⟩ := u64_bounds v3
    obtain ⟨m3, rfl, d3⟩ := u64_bounds w3
    obtain ⟨n4, rfl, b4⟩ := u64_bounds v4
    obtain ⟨m4, rfl, d4⟩ := u64_bounds w4
    obtain ⟨n7, rfl, d7⟩ := u64_bounds w7
    exact ⟨⟨n0, n1, n2, n3, n4, m0, m1, m2, m3, m4, n7⟩, rfl, ⟨b0, b1, b2, b3, b4, d0, d1, d2, d3, d4⟩, by show (0 : Int) ≤ (n7 : Int); omega⟩
end
end
end Go.Proofs.YtfegdmhfmhaneaaDoor
