/-
  Openings of a law's arguments: slices of deeds of four cells, one of which is a struct.
-/
import Derived.Test.YtibnhfnidgfenaaRowW
import Derived.Test.YtibnhfnidgfenaaDe
namespace Go.Proofs.Ytibnhfnidgfenaa
open Go.ChangeShapes Go.WideShapes Go.ChangeAt Go.RowKit Go.Deep

section
variable {H : Type} {enc : TypeId × Value → H} {P : Program} {w : World} {base : Nat} {spare : Nat → Bool} {held : Bool}
theorem take_one4 {cs : List Value} {i : Nat} {v : Value} (h : (cs.drop i).take 1 = [v]) : cs[i]? = some v := by
  have := congrArg (fun l => l[0]?) h
  simpa using this
theorem open_de4s {t e k i u : TypeId} {f0 f1 f2 g0 g1 : Field} {v : Value} {d : DataW H} {p : List MemPlace} (ht : P.underlying t = some (.slice e)) (he : P.underlying e = some (.struct #[f0, f1, f2])) (hk : P.underlying k = some (.struct #[g0, g1]))
    (h0 : f0.type = i ∧ f1.type = k ∧ f2.type = u ∧ g0.type = i ∧ g1.type = i) (ho : f0.offset = 0 ∧ f1.offset = 1 ∧ f2.offset = 3 ∧ g0.offset = 0 ∧ g1.offset = 1) (hi : P.underlying i = some (.int .i64)) (hu : P.underlying u = some (.int .u64))
    (hci : P.cellsOf i = 1) (hck : P.cellsOf k = 2) (hcu : P.cellsOf u = 1) (hC : P.cellsOf e = 4) {r : Reach} {b0 : Nat} (hv : Value.okWide P w r b0 t v)
    (h : DataW.Trod enc P w base spare held t v d p) : ∃ l, De4s w v l := by
  obtain ⟨t0, t1, t2, t3, t4⟩ := h0
  obtain ⟨o0, o1, o2, o3, o4⟩ := ho
  obtain ⟨a0, len, cap, rfl⟩ := okWide_slice ht hv
  obtain ⟨fuel, hf⟩ := h
  rcases open_slice ht hf with ⟨hcs, hx⟩ | ⟨a, len', cap', m, n, D, Pl, hcs, hb, hl, hm, hmm, hx, hi'⟩
  · simp only [Value.cells, List.cons.injEq, Value.slice.injEq, and_true] at hcs
    obtain ⟨rfl, rfl, rfl⟩ := hcs
    exact ⟨[], none, 0, rfl, by simp, by simp, fun j hj => by simp at hj⟩
  · simp only [Value.cells, List.cons.injEq, Value.slice.injEq, and_true] at hcs
    obtain ⟨rfl, rfl, rfl⟩ := hcs
    have hspot : 0 < len → a.spot = none := by
      intro h0
      obtain ⟨cs', hc, _⟩ := hi' 0 (by rw [hmm]; split <;> omega)
      rw [hC] at hc
      obtain ⟨_, hcl, hat⟩ := World.cells?_some hc
      have h1 := hat 0 (by omega)
      rw [List.getElem?_eq_getElem (by omega), Nat.zero_mul] at h1
      exact cell_spot (a := a) h1
    have key : ∀ j, j < len → ∃ x : De, (∃ b o, a = ⟨b, o, none⟩ ∧ At4 w b (o + j * 4) x) ∧ x.t < 18446744073709551616 := by
      intro j hj
      obtain ⟨cs', hc, ht'⟩ := hi' j (by rw [hmm]; split <;> omega)
      rw [hC] at hc
      obtain ⟨ys, n', hn', hy, hlen, hyl, hfl⟩ := DataW.trod_struct he ht'
      obtain ⟨_, hcl, hat⟩ := World.cells?_some hc
      have fld : ∀ (q : Nat) (f : Field), #[f0, f1, f2][q]? = some f → ∃ yq, DataW.trod enc P w base spare held n' f.type ((cs'.drop f.offset).take (P.cellsOf f.type)) = some yq := by
        intro q f hq
        have g := hfl q f hq
        have hq9 : q < 3 := (Array.getElem?_eq_some_iff.1 hq).1
        rw [List.getElem?_eq_getElem (by rw [hyl]; exact hq9)] at g
        exact ⟨_, g⟩
      obtain ⟨y0, q0⟩ := fld 0 f0 rfl
      rw [o0, t0, hci] at q0
      obtain ⟨x0, e0, _, _⟩ := DataW.trod_int hi q0
      obtain ⟨y1, q1⟩ := fld 1 f1 rfl
      rw [o1, t1, hck] at q1
      obtain ⟨ys1, n1, _, _, _, hyl1, hfl1⟩ := DataW.trod_struct hk q1
      have fld1 : ∀ (q : Nat) (f : Field), #[g0, g1][q]? = some f → ∃ yq, DataW.trod enc P w base spare held n1 f.type ((((cs'.drop 1).take 2).drop f.offset).take (P.cellsOf f.type)) = some yq := by
        intro q f hq
        have g := hfl1 q f hq
        have hq9 : q < 2 := (Array.getElem?_eq_some_iff.1 hq).1
        rw [List.getElem?_eq_getElem (by rw [hyl1]; exact hq9)] at g
        exact ⟨_, g⟩
      obtain ⟨z0, s0⟩ := fld1 0 g0 rfl
      rw [o3, t3, hci] at s0
      obtain ⟨x1, e1, _, _⟩ := DataW.trod_int hi s0
      obtain ⟨z1, s1⟩ := fld1 1 g1 rfl
      rw [o4, t4, hci] at s1
      obtain ⟨x2, e2, _, _⟩ := DataW.trod_int hi s1
      obtain ⟨y2, q2⟩ := fld 2 f2 rfl
      rw [o2, t2, hcu] at q2
      obtain ⟨x3, e3, _, w3⟩ := DataW.trod_int hu q2
      obtain ⟨m3, rfl, hm3⟩ := u64_bounds w3
      have c0 := take_one4 e0
      have c1' := take_one4 e1
      have c2' := take_one4 e2
      have c3 := take_one4 e3
      have c1 : cs'[1]? = some (.int .i64 x1) := by simpa using c1'
      have c2 : cs'[2]? = some (.int .i64 x2) := by simpa using c2'
      have spot0 : a.spot = none := hspot (by omega)
      obtain ⟨b, o, sp⟩ := a
      have hs0 : sp = none := spot0
      subst hs0
      have at' : ∀ q u, q < 4 → cs'[q]? = some u → w.cell? ⟨b, o + j * 4 + q, none⟩ = some u := by
        intro q u hq hu'
        have h1 := hat q hq
        rw [hu', Addr.add_lit, Addr.add_lit] at h1
        exact h1
      exact ⟨⟨x0, x1, x2, m3⟩, ⟨b, o, rfl, at' 0 _ (by omega) c0, at' 1 _ (by omega) c1, at' 2 _ (by omega) c2, at' 3 _ (by omega) c3⟩, hm3⟩
    obtain ⟨F, hF⟩ := choose_lt key
    have hg : ∀ j, j < len → ((List.range len).map F).getD j default = F j := by
      intro j hj
      simp [List.getD, hj]
    refine ⟨(List.range len).map F, some a, cap, by simp, by simp; unfold maxLen at hm; omega, fun x hx => ?_, fun j hj => ?_⟩
    · simp only [List.mem_map, List.mem_range] at hx
      obtain ⟨j, hj, rfl⟩ := hx
      exact (hF j hj).2
    · simp only [List.length_map, List.length_range] at hj
      obtain ⟨⟨b, o, ha, h2⟩, _⟩ := hF j hj
      rw [hg j hj]
      exact ⟨b, o, by rw [ha], h2⟩
end
end Go.Proofs.Ytibnhfnidgfenaa
