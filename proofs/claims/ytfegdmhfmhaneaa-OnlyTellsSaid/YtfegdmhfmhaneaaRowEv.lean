/-
  Openings of a law's arguments: slices of events, and of outcomes.
-/
import Derived.Test.YtfegdmhfmhaneaaRowG
import Derived.Test.YtfegdmhfmhaneaaEv9
namespace Go.Proofs.Ytfegdmhfmhaneaa
open Go.ChangeShapes Go.WideShapes Go.ChangeAt Go.RowKit Go.Deep

section
variable {H : Type} {enc : TypeId × Value → H} {P : Program} {w : World} {base : Nat} {spare : Nat → Bool} {held : Bool}
theorem take_one {cs : List Value} {i : Nat} {v : Value} (h : (cs.drop i).take 1 = [v]) : cs[i]? = some v := by
  have := congrArg (fun l => l[0]?) h
  simpa using this


/-- The values of an event. -/
theorem vals_of {sl i : TypeId} {cs : List Value} {fuel : Nat} {x : DataW H × List MemPlace} (ht : P.underlying sl = some (.slice i)) (hi : P.underlying i = some (.int .i64)) (hc : P.cellsOf i = 1)
    (h : DataW.trod enc P w base spare held fuel sl cs = some x) : ∃ va vn vc, cs = [.slice va vn vc] ∧ vn ≤ 9223372036854775807 ∧ ∀ k, k < vn → ∃ b o y, va = some ⟨b, o, none⟩ ∧ w.cell? ⟨b, o + k, none⟩ = some (.int .i64 y) := by
  rcases open_slice1 ht hc h with ⟨rfl, _⟩ | ⟨a, len, cap, m, n, V, D, Pl, rfl, hb, hl, hm, hmm, _, hx⟩
  · exact ⟨none, 0, 0, rfl, by omega, fun k hk => by omega⟩
  · refine ⟨some a, len, cap, rfl, by unfold maxLen at hm; omega, fun k hk => ?_⟩
    obtain ⟨h1, h2⟩ := hx k (by rw [hmm]; split <;> omega)
    obtain ⟨y, e, _, _⟩ := DataW.trod_int hi h2
    simp only [List.cons.injEq, and_true] at e
    have hsp := cell_spot (a := a) (hx 0 (by rw [hmm]; split <;> omega)).1
    obtain ⟨b, o, sp⟩ := a
    have hs0 : sp = none := hsp
    subst hs0
    rw [Addr.add_lit] at h1
    exact ⟨b, o, y, rfl, by rw [h1, e]⟩

theorem open_evs {t e i u bo sl : TypeId} {f0 f1 f2 f3 f4 f5 f6 f7 f8 : Field} {v : Value} {d : DataW H} {p : List MemPlace} (ht : P.underlying t = some (.slice e)) (he : P.underlying e = some (.struct #[f0, f1, f2, f3, f4, f5, f6, f7, f8]))
    (h0 : f0.type = i ∧ f1.type = i ∧ f2.type = i ∧ f3.type = i ∧ f4.type = i ∧ f5.type = i ∧ f6.type = u ∧ f7.type = bo ∧ f8.type = sl) (hi : P.underlying i = some (.int .i64)) (hu : P.underlying u = some (.int .u64)) (hbo : P.underlying bo = some .bool) (hsl : P.underlying sl = some (.slice i)) (hci : P.cellsOf i = 1)
    (hone : oneCellFields P #[f0, f1, f2, f3, f4, f5, f6, f7, f8] = true) (hC : P.cellsOf e = 9) {r : Reach} {b0 : Nat} (hv : Value.okWide P w r b0 t v)
    (h : DataW.Trod enc P w base spare held t v d p) : ∃ l, Evs w 0 v l ∧ EvVals w l ∧ l.length ≤ 9223372036854775807 := by
  obtain ⟨t0, t1, t2, t3, t4, t5, t6, t7, t8⟩ := h0
  obtain ⟨a0, len, cap, rfl⟩ := okWide_slice ht hv
  obtain ⟨fuel, hf⟩ := h
  rcases open_slice ht hf with ⟨hcs, hx⟩ | ⟨a, len', cap', m, n, D, Pl, hcs, hb, hl, hm, hmm, hx, hi'⟩
  · simp only [Value.cells, List.cons.injEq, Value.slice.injEq, and_true] at hcs
    obtain ⟨rfl, rfl, rfl⟩ := hcs
    exact ⟨[], ⟨none, 0, rfl, by simp, fun _ => rfl, fun j hj => by simp at hj⟩, fun e he => by simp at he, by simp⟩
  · simp only [Value.cells, List.cons.injEq, Value.slice.injEq, and_true] at hcs
    obtain ⟨rfl, rfl, rfl⟩ := hcs
    have hspot : 0 < len → a.spot = none := by
      intro h0
      obtain ⟨cs', hc, _⟩ := hi' 0 (by rw [hmm]; split <;> omega)
      rw [hC] at hc
      obtain ⟨_, hcl, hat⟩ := World.cells?_some hc
      have h1 := hat 0 (by omega)
      rw [List.getElem?_eq_getElem (by omega), Nat.zero_mul] at h1
      exact cell_spot (a := a) h1
    have key : ∀ j, j < len → ∃ x : Ev, (∃ b o, a = ⟨b, o, none⟩ ∧ At9 w b (o + j * 9) x) ∧ x.vn ≤ 9223372036854775807 ∧ ∀ k, k < x.vn → ∃ b o y, x.va = some ⟨b, o, none⟩ ∧ w.cell? ⟨b, o + k, none⟩ = some (.int .i64 y) := by
      intro j hj
      obtain ⟨cs', hc, ht'⟩ := hi' j (by rw [hmm]; split <;> omega)
      rw [hC] at hc
      obtain ⟨ys, n', hn', hy, hlen, hyl, hfl⟩ := DataW.trod_struct he ht'
      obtain ⟨_, hcl, hat⟩ := World.cells?_some hc
      have fld : ∀ (q : Nat) (f : Field), #[f0, f1, f2, f3, f4, f5, f6, f7, f8][q]? = some f → ∃ yq, DataW.trod enc P w base spare held n' f.type ((cs'.drop q).take 1) = some yq := by
        intro q f hq
        obtain ⟨oq, kq⟩ := hone_of hone q f hq
        have g := hfl q f hq
        rw [oq, kq] at g
        have hq9 : q < 9 := (Array.getElem?_eq_some_iff.1 hq).1
        rw [List.getElem?_eq_getElem (by rw [hyl]; exact hq9)] at g
        exact ⟨_, g⟩
      have inty : ∀ (q : Nat) (f : Field), #[f0, f1, f2, f3, f4, f5, f6, f7, f8][q]? = some f → f.type = i → ∃ x, cs'[q]? = some (.int .i64 x) := by
        intro q f hq hty
        obtain ⟨yq, g⟩ := fld q f hq
        obtain ⟨x, e1, _, _⟩ := DataW.trod_int (hty ▸ hi) g
        exact ⟨x, take_one e1⟩
      obtain ⟨x0, e0⟩ := inty 0 f0 rfl t0
      obtain ⟨x1, e1⟩ := inty 1 f1 rfl t1
      obtain ⟨x2, e2⟩ := inty 2 f2 rfl t2
      obtain ⟨x3, e3⟩ := inty 3 f3 rfl t3
      obtain ⟨x4, e4⟩ := inty 4 f4 rfl t4
      obtain ⟨x5, e5⟩ := inty 5 f5 rfl t5
      obtain ⟨y6, g6⟩ := fld 6 f6 rfl
      obtain ⟨x6, e6, _, _⟩ := DataW.trod_int (t6 ▸ hu) g6
      obtain ⟨y7, g7⟩ := fld 7 f7 rfl
      obtain ⟨x7, e7, _⟩ := DataW.trod_bool (t7 ▸ hbo) g7
      obtain ⟨y8, g8⟩ := fld 8 f8 rfl
      rw [t8] at g8
      obtain ⟨va, vn, vc, e8, hvn, hvals⟩ := vals_of hsl hi hci g8
      have spot0 : a.spot = none := hspot (by omega)
      obtain ⟨b, o, sp⟩ := a
      have hs0 : sp = none := spot0
      subst hs0
      have at' : ∀ q u, q < 9 → cs'[q]? = some u → w.cell? ⟨b, o + j * 9 + q, none⟩ = some u := by
        intro q u hq hu'
        have h1 := hat q hq
        rw [hu', Addr.add_lit, Addr.add_lit] at h1
        exact h1
      exact ⟨⟨x0, x1, x2, x3, x4, x5, x6, x7, va, vn, vc⟩, ⟨b, o, rfl, at' 0 _ (by omega) e0, at' 1 _ (by omega) e1, at' 2 _ (by omega) e2, at' 3 _ (by omega) e3, at' 4 _ (by omega) e4, at' 5 _ (by omega) e5, at' 6 _ (by omega) (take_one e6), at' 7 _ (by omega) (take_one e7), at' 8 _ (by omega) (take_one e8)⟩, hvn, hvals⟩
    obtain ⟨F, hF⟩ := choose_lt key
    have hg : ∀ j, j < len → ((List.range len).map F).getD j default = F j := by
      intro j hj
      simp [List.getD, hj]
    refine ⟨(List.range len).map F, ⟨some a, cap, by simp, by simpa using hl, fun h => (by cases h), fun j hj => ?_⟩, fun x hx => ?_, by simp; unfold maxLen at hm; omega⟩
    · simp only [List.length_map, List.length_range] at hj
      obtain ⟨⟨b, o, ha, h2⟩, _⟩ := hF j hj
      rw [hg j hj]
      exact ⟨b, o, by rw [ha], Nat.zero_le _, h2⟩
    · simp only [List.mem_map, List.mem_range] at hx
      obtain ⟨j, hj, rfl⟩ := hx
      exact (hF j hj).2

theorem open_ous {t e i u : TypeId} {f0 f1 f2 f3 f4 : Field} {v : Value} {d : DataW H} {p : List MemPlace} (ht : P.underlying t = some (.slice e)) (he : P.underlying e = some (.struct #[f0, f1, f2, f3, f4]))
    (h0 : f0.type = i ∧ f1.type = i ∧ f2.type = i ∧ f3.type = i ∧ f4.type = u) (hi : P.underlying i = some (.int .i64)) (hu : P.underlying u = some (.int .u64))
    (hone : oneCellFields P #[f0, f1, f2, f3, f4] = true) (hC : P.cellsOf e = 5) {r : Reach} {b0 : Nat} (hv : Value.okWide P w r b0 t v)
    (h : DataW.Trod enc P w base spare held t v d p) : ∃ l, Ous w 0 v l ∧ (∀ x ∈ l, (Lit.int .u64 x.tm).wf = true) ∧ l.length ≤ 9223372036854775807 := by
  obtain ⟨t0, t1, t2, t3, t4⟩ := h0
  obtain ⟨a0, len, cap, rfl⟩ := okWide_slice ht hv
  obtain ⟨fuel, hf⟩ := h
  rcases open_slice ht hf with ⟨hcs, hx⟩ | ⟨a, len', cap', m, n, D, Pl, hcs, hb, hl, hm, hmm, hx, hi'⟩
  · simp only [Value.cells, List.cons.injEq, Value.slice.injEq, and_true] at hcs
    obtain ⟨rfl, rfl, rfl⟩ := hcs
    exact ⟨[], ⟨none, 0, rfl, by simp, fun _ => rfl, fun j hj => by simp at hj⟩, fun e he => by simp at he, by simp⟩
  · simp only [Value.cells, List.cons.injEq, Value.slice.injEq, and_true] at hcs
    obtain ⟨rfl, rfl, rfl⟩ := hcs
    have hspot : 0 < len → a.spot = none := by
      intro h0
      obtain ⟨cs', hc, _⟩ := hi' 0 (by rw [hmm]; split <;> omega)
      rw [hC] at hc
      obtain ⟨_, hcl, hat⟩ := World.cells?_some hc
      have h1 := hat 0 (by omega)
      rw [List.getElem?_eq_getElem (by omega), Nat.zero_mul] at h1
      exact cell_spot (a := a) h1
    have key : ∀ j, j < len → ∃ x : Ou, (∃ b o, a = ⟨b, o, none⟩ ∧ At5 w b (o + j * 5) x) ∧ (Lit.int .u64 x.tm).wf = true := by
      intro j hj
      obtain ⟨cs', hc, ht'⟩ := hi' j (by rw [hmm]; split <;> omega)
      rw [hC] at hc
      obtain ⟨ys, n', hn', hy, hlen, hyl, hfl⟩ := DataW.trod_struct he ht'
      obtain ⟨_, hcl, hat⟩ := World.cells?_some hc
      have fld : ∀ (q : Nat) (f : Field), #[f0, f1, f2, f3, f4][q]? = some f → ∃ yq, DataW.trod enc P w base spare held n' f.type ((cs'.drop q).take 1) = some yq := by
        intro q f hq
        obtain ⟨oq, kq⟩ := hone_of hone q f hq
        have g := hfl q f hq
        rw [oq, kq] at g
        have hq9 : q < 5 := (Array.getElem?_eq_some_iff.1 hq).1
        rw [List.getElem?_eq_getElem (by rw [hyl]; exact hq9)] at g
        exact ⟨_, g⟩
      have inty : ∀ (q : Nat) (f : Field), #[f0, f1, f2, f3, f4][q]? = some f → f.type = i → ∃ x, cs'[q]? = some (.int .i64 x) := by
        intro q f hq hty
        obtain ⟨yq, g⟩ := fld q f hq
        obtain ⟨x, e1, _, _⟩ := DataW.trod_int (hty ▸ hi) g
        exact ⟨x, take_one e1⟩
      obtain ⟨x0, e0⟩ := inty 0 f0 rfl t0
      obtain ⟨x1, e1⟩ := inty 1 f1 rfl t1
      obtain ⟨x2, e2⟩ := inty 2 f2 rfl t2
      obtain ⟨x3, e3⟩ := inty 3 f3 rfl t3
      obtain ⟨y4, g4⟩ := fld 4 f4 rfl
      obtain ⟨x4, e4, _, w4⟩ := DataW.trod_int (t4 ▸ hu) g4
      have spot0 : a.spot = none := hspot (by omega)
      obtain ⟨b, o, sp⟩ := a
      have hs0 : sp = none := spot0
      subst hs0
      have at' : ∀ q u, q < 5 → cs'[q]? = some u → w.cell? ⟨b, o + j * 5 + q, none⟩ = some u := by
        intro q u hq hu'
        have h1 := hat q hq
        rw [hu', Addr.add_lit, Addr.add_lit] at h1
        exact h1
      exact ⟨⟨x0, x1, x2, x3, x4⟩, ⟨b, o, rfl, at' 0 _ (by omega) e0, at' 1 _ (by omega) e1, at' 2 _ (by omega) e2, at' 3 _ (by omega) e3, at' 4 _ (by omega) (take_one e4)⟩, w4⟩
    obtain ⟨F, hF⟩ := choose_lt key
    have hg : ∀ j, j < len → ((List.range len).map F).getD j default = F j := by
      intro j hj
      simp [List.getD, hj]
    refine ⟨(List.range len).map F, ⟨some a, cap, by simp, by simpa using hl, fun h => (by cases h), fun j hj => ?_⟩, fun x hx => ?_, by simp; unfold maxLen at hm; omega⟩
    · simp only [List.length_map, List.length_range] at hj
      obtain ⟨⟨b, o, ha, h2⟩, _⟩ := hF j hj
      rw [hg j hj]
      exact ⟨b, o, by rw [ha], Nat.zero_le _, h2⟩
    · simp only [List.mem_map, List.mem_range] at hx
      obtain ⟨j, hj, rfl⟩ := hx
      exact (hF j hj).2
end
end Go.Proofs.Ytfegdmhfmhaneaa
