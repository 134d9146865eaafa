/-
  From a law's contract ('it answers true, and what was there stays') to its row: whatever the arguments' types, they read behind the call as before it.
-/
import Derived.Test.YthbhkmhmiplikaaRows
import Derived.Test.YthbhkmhmiplikaaLaw04
import Derived.ProofKit
import Derived.OpenShut
import Derived.Deep.Slices
import Derived.Deep.Fields
import Derived.ChangeSame
namespace Go.Proofs.Ythbhkmhmiplikaa
open Go.ChangeShapes Go.WideShapes Go.ChangeAt Go.RowKit Go.Deep

theorem own : ownKnob Try.prog.godebug = none := by kernel_rfl
theorem laid : laidOutB Try.prog = true := by kernel_rfl

theorem trodAll_below {H : Type} {enc : TypeId × Value → H} {W W' : World} (hb : Below W.heap.size W W') : ∀ (ts : List TypeId) (vs : List Value) (ds : List (DataW H)) (ps : List MemPlace),
    (ts.all fun t => Try.prog.readableRec t && decide (t < Try.prog.types.size)) = true → DataW.TrodAll enc Try.prog W 0 (fun _ => true) true ts vs ds ps → (∀ x ∈ ps, x.block < W.heap.size) →
    DataW.TrodAll enc Try.prog W' 0 (fun b => decide (b < W.heap.size)) true ts vs ds ps := by
  intro ts
  induction ts with
  | nil =>
    intro vs ds ps _ h _
    match vs, ds, h with
    | [], [], h => exact h
  | cons t ts ih =>
    intro vs ds ps ht h hp
    obtain ⟨v, vs', d, ds', p, q, rfl, rfl, rfl, h1, h2⟩ := trodAll_cons h
    rw [List.all_cons, Bool.and_eq_true, Bool.and_eq_true] at ht
    exact trodAll_cons_mk (Below.trod laid ht.1.1 (of_decide_eq_true ht.1.2) h1 hb (fun x hx => hp x (List.mem_append_left _ hx))) (ih vs' ds' q ht.2 h2 (fun x hx => hp x (List.mem_append_right _ hx)))

/-- The post of a law. -/
theorem law_post {H : Type} {enc : TypeId × Value → H} {f : Func} {s : ChangeSpec} {W W' : World} {args : Array Value} {ds gs : List (DataW H)} {before : List MemPlace}
    (hW : DataW.Whole enc Try.prog f.params.toList s.vars false W args.toList ds gs before) (hb : Below W.heap.size W W')
    (hv : s.vars = []) (hr : f.resultTypes = #[4]) (hp : (f.params.toList.all fun t => Try.prog.readableRec t && decide (t < Try.prog.types.size)) = true)
    (hres : (s.fn H (ds ++ gs)).results = [.lit (.bool true)]) (harg : (s.fn H (ds ++ gs)).args = ds) (hvar : (s.fn H (ds ++ gs)).vars = []) :
    s.post enc Try.prog f false true false false W args (.bool true) W' := by
  have hlt := hW.lt
  obtain ⟨p, q, hA, hV, rfl, hfz, hnd⟩ := hW
  refine ⟨ds, gs, p ++ q, [], p, [], ⟨p, q, hA, hV, rfl, hfz, hnd⟩, ?_, ?_, ?_, hb.frame _, fun h => by cases h⟩
  · rw [hr, hres]
    exact trodAll_cons_mk (shut_bool Try.underlying4 _) trodAll_mk0
  · rw [harg]
    exact trodAll_below hb _ _ _ _ hp hA (fun x hx => hlt x (by simp [hx]))
  · rw [hv, hvar]
    rfl

theorem cell_spot {w : World} {a : Addr} {v : Value} (h : w.cell? a = some v) : a.spot = none := by
  unfold World.cell? at h
  split at h
  · cases hs : a.spot with
    | none => rfl
    | some _ => simp [hs] at h
  · cases h

section
variable {H : Type} {enc : TypeId × Value → H} {P : Program} {w : World} {base : Nat} {spare : Nat → Bool} {held : Bool}
/-- A slice of structs of two ints. -/
theorem open_deeds {t e i : TypeId} {f0 f1 : Field} {v : Value} {d : DataW H} {p : List MemPlace} (ht : P.underlying t = some (.slice e)) (he : P.underlying e = some (.struct #[f0, f1]))
    (h0 : f0.type = i) (h1 : f1.type = i) (hi : P.underlying i = some (.int .i64)) (hone : oneCellFields P #[f0, f1] = true) (hC : P.cellsOf e = 2) {r : Reach} {b0 : Nat} (hv : Value.okWide P w r b0 t v)
    (h : DataW.Trod enc P w base spare held t v d p) : ∃ ds, Deeds w v ds ∧ ∀ x ∈ ds, (Lit.int .i64 x.1).wf = true ∧ (Lit.int .i64 x.2).wf = true := by
  subst h0
  obtain ⟨a0, len, cap, rfl⟩ := okWide_slice ht hv
  obtain ⟨fuel, hf⟩ := h
  rcases open_slice ht hf with ⟨hcs, hx⟩ | ⟨a, len', cap', m, n, D, Pl, hcs, hb, hl, hm, hmm, hx, hi'⟩
  · simp only [Value.cells, List.cons.injEq, Value.slice.injEq, and_true] at hcs
    obtain ⟨rfl, rfl, rfl⟩ := hcs
    exact ⟨[], ⟨none, 0, rfl, by simp, fun j hj => by simp at hj⟩, by simp⟩
  · simp only [Value.cells, List.cons.injEq, Value.slice.injEq, and_true] at hcs
    obtain ⟨rfl, rfl, rfl⟩ := hcs
    have hspot : 0 < len → a.spot = none := by
      intro h0
      obtain ⟨cs', hc, _⟩ := hi' 0 (by rw [hmm]; split <;> omega)
      rw [hC] at hc
      obtain ⟨_, hcl, hat⟩ := World.cells?_some hc
      have h1 := hat 0 (by omega)
      rw [List.getElem?_eq_getElem (by omega), Nat.zero_mul] at h1
      exact cell_spot (a := a) h1
    have key : ∀ j, j < len → ∃ x : Int × Int, (∃ b o, a = ⟨b, o, none⟩ ∧ w.cell? ⟨b, o + j * 2, none⟩ = some (.int .i64 x.1) ∧ w.cell? ⟨b, o + j * 2 + 1, none⟩ = some (.int .i64 x.2)) ∧ (Lit.int .i64 x.1).wf = true ∧ (Lit.int .i64 x.2).wf = true := by
      intro j hj
      obtain ⟨b, o, sp⟩ := a
      obtain rfl : sp = none := hspot (by omega)
      obtain ⟨cs', hc, ht'⟩ := hi' j (by rw [hmm]; split <;> omega)
      rw [hC] at hc
      obtain ⟨ys, n', hn', hy, hlen, hyl, hfl⟩ := DataW.trod_struct he ht'
      obtain ⟨_, hcl, hat⟩ := World.cells?_some hc
      obtain ⟨o0, k0⟩ := hone_of hone 0 f0 rfl
      obtain ⟨o1, k1⟩ := hone_of hone 1 f1 rfl
      match cs', hcl with
      | [c0, c1], _ =>
        have g0 := hfl 0 f0 rfl
        have g1 := hfl 1 f1 rfl
        rw [o0, k0] at g0
        rw [o1, k1] at g1
        have hc0 := hat 0 (by omega)
        have hc1 := hat 1 (by omega)
        simp only [List.drop_zero, List.take_succ_cons, List.take_zero, List.drop_succ_cons] at g0 g1
        match ys, hyl with
        | [y0, y1], _ =>
          obtain ⟨x0, e0, _, w0⟩ := DataW.trod_int hi g0
          obtain ⟨x1, e1, _, w1⟩ := DataW.trod_int (h1 ▸ hi) g1
          simp only [List.cons.injEq, and_true] at e0 e1
          subst e0
          subst e1
          rw [Addr.add_lit, Addr.add_lit] at hc0 hc1
          exact ⟨(x0, x1), ⟨b, o, rfl, hc0, hc1⟩, w0, w1⟩
    obtain ⟨F, hF⟩ := choose_lt key
    have hg : ∀ j, j < len → ((List.range len).map F).getD j (0, 0) = F j := by
      intro j hj
      simp [List.getD, hj]
    refine ⟨(List.range len).map F, ⟨some a, cap, by simp, by simp; unfold maxLen at hm; omega, fun j hj => ?_⟩, fun x hx => ?_⟩
    · simp only [List.length_map, List.length_range] at hj
      obtain ⟨⟨b, o, ha, h2, h3⟩, _⟩ := hF j hj
      rw [hg j hj]
      exact ⟨b, o, by rw [ha], h2, h3⟩
    · simp only [List.mem_map, List.mem_range] at hx
      obtain ⟨j, hj, rfl⟩ := hx
      exact (hF j hj).2
end
end Go.Proofs.Ythbhkmhmiplikaa
