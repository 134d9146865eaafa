/-
  do of porpoiselaw10: a deed, of both: the answers are the same.
-/
import Derived.Test.YthbhkmhmiplikaaLaw10
namespace Go.Proofs.Ythbhkmhmiplikaa
open Go.RowKit

/-- What a deed does to who runs, and who waits. -/
def deedB (m q : Nat) (p : List Int × List Int) (k x : Int) : List Int × List Int :=
  if k = 1 then ((admitM m q p.1 p.2 x).1, (admitM m q p.1 p.2 x).2.1) else
  if k = 2 then (if p.1.length < m ∧ p.2 ≠ [] then (p.1 ++ [el p.2 0], p.2.tail) else p) else
  if k = 3 then (p.1, rem x p.2) else (rem x p.1, p.2)

/-- What do tells. -/
def DoB (w : World) (b s r g m q : Nat) (hs ws : List Int) (vr vw : Value) (p : List Int × List Int) (e : Ending) (w' : World) : Prop :=
  ∃ vr' vw', e = .returned (.tuple #[.agg #[.int .i64 m, .int .i64 q, vr', vw'], .bool true]) ∧ IsBulk w' b s r g p.1 p.2 m q ∧ ON w w' vr hs vr' p.1 ∧ ON w w' vw ws vw' p.2 ∧ Fr [r, g] w w'

theorem IsBulk.lts {w : World} {b s r g : Nat} {hs ws : List Int} {m q : Nat} (h : IsBulk w b s r g hs ws m q) : b < w.heap.size ∧ s < w.heap.size ∧ r < w.heap.size ∧ g < w.heap.size := by
  obtain ⟨c, hc⟩ := h.ring.obj
  obtain ⟨es, c', hm⟩ := h.set.2.1.obj
  exact ⟨lt_of_block h.blk, lt_of_block h.set.1, lt_of_block hm, lt_of_block hc⟩

theorem ON.step {w0 w w' wF : World} {v v' : Value} {xs xs' : List Int} (h : ON w w' v xs v' xs') {S : List Nat} (F : Fr S w' wF) (hS : ∀ x ∈ S, x < w.heap.size) (hb : w0.heap.size ≤ w.heap.size) : ON w0 wF v xs v' xs' :=
  h.imp id fun k => (k.fr F hS).mono hb
theorem DoB.mk {w W3 w1 w2 wF : World} {b s r g m q : Nat} {hs ws hs' ws' : List Int} {vr vw vr' vw' : Value} (F3 : Fr [] w W3) (F1 : Fr [r, g] W3 w1) (F2 : Fr [] w1 w2) (F : Fr [w.heap.size + 1 + 1] w2 wF) (hsz : W3.heap.size = w.heap.size + 1 + 1 + 1)
    (hlt : b < w.heap.size ∧ s < w.heap.size ∧ r < w.heap.size ∧ g < w.heap.size) 
    (hB : IsBulk w2 b s r g hs' ws' m q) (h1 : ON w1 w2 vr hs vr' hs') (h2 : ON w1 w2 vw ws vw' ws') : DoB w b s r g m q hs ws vr vw (hs', ws') (.returned (.tuple #[.agg #[.int .i64 m, .int .i64 q, vr', vw'], .bool true])) wF := by
  have hs1 := F1.size
  have F0 : Fr [r, g] w wF := ((((F3.mono (S' := [r, g]) (by simp)).trans F1).trans' F2 (by simp)).trans' F (fun x hx => .inr (by simp at hx; omega)))
  exact ⟨_, _, rfl, hB.fr F (by simp; omega), h1.step F (by simp; omega) (by omega), h2.step F (by simp; omega) (by omega), F0⟩

section
variable {w : World} {base b s r g m q : Nat} {hs ws : List Int} {vr vw : Value}

set_option maxHeartbeats 4000000 in
theorem doB_admit (hB : IsBulk w b s r g hs ws m q) (hr : Lst w base vr hs) (hw : Lst w base vw ws) (hbk : r < base ∧ g < base ∧ base ≤ w.heap.size) (x : Int) :
    Calls Try.prog 30 #[.pointer (some ⟨b, 0, none⟩), .agg #[.int .i64 m, .int .i64 q, vr, vw], .agg #[.int .i64 1, .int .i64 x]] w (DoB w b s r g m q hs ws vr vw (deedB m q (hs, ws) 1 x)) := by
  obtain ⟨ar, cr, hvr, _, _, _⟩ := id hr.1
  obtain ⟨aw, cw, hvw, _, _, _⟩ := id hw.1
  obtain ⟨W3, hW3⟩ : ∃ W3, W3 = ((w.alloc (boxB m q vr vw)).alloc (.cells #[.int .i64 1, .int .i64 x] 54)).alloc zeroB := ⟨_, rfl⟩
  have F3 : Fr [] w W3 := by rw [hW3]; exact (((Fr.refl _ _).alloc _).alloc _).alloc _
  have s3 : W3.heap.size = w.heap.size + 1 + 1 + 1 := by rw [hW3]; simp
  have X3 : W3.heap[w.heap.size]? = some (boxB m q vr vw) := by rw [hW3]; exact block_alloc (block_alloc (block_alloc_new _ _) _) _
  have D3 : W3.heap[w.heap.size + 1]? = some (.cells #[.int .i64 1, .int .i64 x] 54) := by
    rw [hW3]; refine block_alloc ?_ _; have := block_alloc_new (w.alloc (boxB m q vr vw)) (.cells #[.int .i64 1, .int .i64 x] 54); simpa using this
  have Z3 : W3.heap[w.heap.size + 1 + 1]? = some zeroB := by
    rw [hW3]; have := block_alloc_new ((w.alloc (boxB m q vr vw)).alloc (.cells #[.int .i64 1, .int .i64 x] 54)) zeroB; simpa using this
  have hl := hB.lens
  have hlt := hB.lts
  have HA := Lib.hid ((hB.fr0 F3).admitM x)
  have HR := Lib.hid (hr.fr F3 (by simp))
  have HW := Lib.hid (hw.fr F3 (by simp))
  have HF3 := Lib.hid F3
  have HR0 := Lib.hid hr
  have HW0 := Lib.hid hw
  have HX := Lib.hid X3
  have HD := Lib.hid D3
  have HZ := Lib.hid Z3
  have d0 : W3.cell? ⟨w.heap.size + 1, 0, none⟩ = some (.int .i64 1) := by rw [cell_of_block D3]; rfl
  have d1 : W3.cell? ⟨w.heap.size + 1, 1, none⟩ = some (.int .i64 x) := by rw [cell_of_block D3]; rfl
  have HW3 := Lib.hid hW3
  unfold boxB zeroB at HW3
  clear hW3 F3 X3 D3 Z3 hr hw hB
  subst hvr hvw
  go_enter Try.func30, Try.ntmps30
  go_wp2_with fail
  rw [← HW3.out]
  refine (HA.out).mono ?_
  rintro e w1 ⟨v1, rfl, V1, B1, F1⟩
  obtain ⟨x0, x1, x2, x3, xf⟩ := four (F1.keep HX.out (by simp; omega))
  have d1' := (F1.cell (p := ⟨w.heap.size + 1, 1, none⟩) (by simp; omega) (by simp; omega)).trans d1
  have hs1 := F1.size
  have HV1 := Lib.hid V1
  have HB1 := Lib.hid B1
  have HF1 := Lib.hid F1
  clear V1 B1 F1
  obtain ⟨a1, c1, hv1, _⟩ := HV1.out.1
  subst hv1
  go_wp2_with fail
  refine (ref10_admit (HR.out.fr HF1.out (by simp; omega)) (HW.out.fr HF1.out (by simp; omega)) (by omega) x).mono ?_
  rintro e w2 ⟨vr2, vw2, v2, rfl, R2, W2, V2, F2⟩
  generalize hRR : admitM m q hs ws x = RR at *
  obtain ⟨hs', ws', code, l'⟩ := RR
  have HE : deedB m q (hs, ws) 1 x = (hs', ws') := by simp [deedB, hRR]
  rw [HE]
  have HON1 := Lib.hid R2
  have HON2 := Lib.hid W2
  have HV2 := Lib.hid V2
  have HF2 := Lib.hid F2
  have HB2 := Lib.hid (HB1.out.fr0 F2)
  have Z2 := F2.keep (HF1.out.keep HZ.out (by simp; omega)) (by simp)
  obtain ⟨ar2, cr2, hvr2, _, _, _⟩ := id (R2.lst (HR.out.fr HF1.out (by simp; omega)) F2 (by simp) (Fr.refl [] _) (by simp) (by omega)).1
  obtain ⟨aw2, cw2, hvw2, _, _, _⟩ := id (W2.lst (HW.out.fr HF1.out (by simp; omega)) F2 (by simp) (Fr.refl [] _) (by simp) (by omega)).1
  obtain ⟨a2, c2, hv2, _, _, _⟩ := id V2.1
  have hs2 := F2.size
  clear R2 W2 V2 F2
  subst hvr2 hvw2 hv2
  have F4 : Fr [] w2 (w2.alloc (boxB m q (.slice ar2 hs'.length cr2) (.slice aw2 ws'.length cw2))) := (Fr.refl _ _).alloc _
  have hll : l'.length ≤ 1000000 := by
    have := congrArg (fun t => t.2.2.2.length) hRR
    simp only at this
    rw [← this]
    unfold Proofs.Ythbhkmhmiplikaa.admitM
    repeat' split
    all_goals simp
  have HS := Lib.hid (fun (wx : World) (F : Fr [] (w2.alloc (.cells #[.int .i64 m, .int .i64 q, .slice ar2 hs'.length cr2, .slice aw2 ws'.length cw2] 49)) wx) => same_spec ((HV1.out.fr (HF2.out.trans (F4.trans F)) (by simp)).1) ((HV2.out.fr (F4.trans F) (by simp)).1) hll)
  obtain ⟨z0, z1, z2, z3, zf⟩ := four (F4.keep Z2 (by simp))
  have FIN := Lib.hid (fun (wF : World) (F : Fr [w.heap.size + 1 + 1] (w2.alloc (boxB m q (.slice ar2 hs'.length cr2) (.slice aw2 ws'.length cw2))) wF) => DoB.mk HF3.out HF1.out HF2.out (F4.mono (S' := [w.heap.size + 1 + 1]) (by simp) |>.trans F) (by omega) hlt HB2.out HON1.out HON2.out)
  clear F4
  unfold boxB at FIN
  unfold boxB at z0 z1 z2 z3 zf
  go_wp2_with fail
  go_region_with (first
    | (go_at_call 18; refine (HS.out _ (by first | exact (Fr.refl _ _).drew | assumption)).mono ?_; rintro e w5 ⟨rfl, q5, rfl⟩))
  all_goals go_wp2_with fail
  all_goals refine bodyPost_ret (v := .tuple #[.agg #[.int .i64 m, .int .i64 q, .slice ar2 hs'.length cr2, .slice aw2 ws'.length cw2], .bool true]) (by simp [results, Try.results30, go_sem, z0, z1, z2, z3, same]) rfl ?_
  all_goals rw [HE]
  all_goals exact FIN.out _ (by repeat (first | exact Fr.refl _ _ | refine Fr.setCell ?_ (.inl (by simp)) _ | refine Fr.drewN ?_ _ | refine Fr.drew ?_))
end
end Go.Proofs.Ythbhkmhmiplikaa
