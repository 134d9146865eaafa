/-
  do of porpoiselaw10: Pick, Drop, Free.
-/
import Derived.Test.YthbhkmhmiplikaaLaw10b
namespace Go.Proofs.Ythbhkmhmiplikaa
open Go.RowKit
set_option linter.unusedVariables false

theorem boxes3 (w : World) (m q : Nat) (vr vw : Value) (k x : Int) : ∃ W3, W3 = ((w.alloc (boxB m q vr vw)).alloc (.cells #[.int .i64 k, .int .i64 x] 54)).alloc zeroB ∧ Fr [] w W3 ∧ W3.heap.size = w.heap.size + 1 + 1 + 1 ∧
    W3.heap[w.heap.size]? = some (boxB m q vr vw) ∧ W3.heap[w.heap.size + 1]? = some (.cells #[.int .i64 k, .int .i64 x] 54) ∧ W3.heap[w.heap.size + 1 + 1]? = some zeroB := by
  refine ⟨_, rfl, (((Fr.refl _ _).alloc _).alloc _).alloc _, by simp, block_alloc (block_alloc (block_alloc_new _ _) _) _, block_alloc ?_ _, ?_⟩
  · have := block_alloc_new (w.alloc (boxB m q vr vw)) (.cells #[.int .i64 k, .int .i64 x] 54); simpa using this
  · have := block_alloc_new ((w.alloc (boxB m q vr vw)).alloc (.cells #[.int .i64 k, .int .i64 x] 54)) zeroB; simpa using this

section
variable {w : World} {base b s r g m q : Nat} {hs ws : List Int} {vr vw : Value}

set_option maxHeartbeats 4000000 in
theorem doB_drop (hB : IsBulk w b s r g hs ws m q) (hr : Lst w base vr hs) (hw : Lst w base vw ws) (hbk : r < base ∧ g < base ∧ base ≤ w.heap.size) (x : Int) :
    Calls Try.prog 30 #[.pointer (some ⟨b, 0, none⟩), .agg #[.int .i64 m, .int .i64 q, vr, vw], .agg #[.int .i64 3, .int .i64 x]] w (DoB w b s r g m q hs ws vr vw (deedB m q (hs, ws) 3 x)) := by
  obtain ⟨ar, cr, hvr, _, _, _⟩ := id hr.1
  obtain ⟨aw, cw, hvw, _, _, _⟩ := id hw.1
  obtain ⟨W3, hW3, F3, s3, X3, D3, Z3⟩ := boxes3 w m q vr vw 3 x
  have hl := hB.lens
  have hlt := hB.lts
  have HE : deedB m q (hs, ws) 3 x = (hs, rem x ws) := by simp [deedB]
  rw [HE]
  have HA := Lib.hid ((hB.fr0 F3).drop x)
  have HR := Lib.hid (hr.fr F3 (by simp))
  have HW := Lib.hid (hw.fr F3 (by simp))
  have HF3 := Lib.hid F3
  have HR0 := Lib.hid hr
  have HW0 := Lib.hid hw
  have HX := Lib.hid X3
  have HD := Lib.hid D3
  have HZ := Lib.hid Z3
  have d0 : W3.cell? ⟨w.heap.size + 1, 0, none⟩ = some (.int .i64 3) := by rw [cell_of_block D3]; rfl
  have d1 : W3.cell? ⟨w.heap.size + 1, 1, none⟩ = some (.int .i64 x) := by rw [cell_of_block D3]; rfl
  have HW3 := Lib.hid hW3
  unfold boxB zeroB at HW3
  clear hW3 F3 X3 D3 Z3 hr hw hB HE
  subst hvr hvw
  go_enter Try.func30, Try.ntmps30
  go_wp2_with fail
  rw [← HW3.out]
  refine (HA.out).mono ?_
  rintro e w1 ⟨rfl, B1, F1⟩
  obtain ⟨x0, x1, x2, x3, xf⟩ := four (F1.keep HX.out (by simp; omega))
  have d1' := (F1.cell (p := ⟨w.heap.size + 1, 1, none⟩) (by simp; omega) (by simp; omega)).trans d1
  have hs1 := F1.size
  have HB1 := Lib.hid B1
  have HF1 := Lib.hid F1
  clear B1 F1
  go_wp2_with fail
  refine (ref10_Drop (m := m) (q := q) (HW.out.fr HF1.out (by simp; omega)).1 ar hs.length cr (by omega) x).mono ?_
  rintro e w2 ⟨vw2, rfl, W2, F2⟩
  have HW2 := Lib.hid W2
  obtain ⟨aw2, cw2, hvw2, _, _, _⟩ := id W2.1
  clear W2
  subst hvw2
  have HB2 := Lib.hid (HB1.out.fr0 F2)
  have hs2 := F2.size
  have F4 := fun X => F2.alloc (.cells X 49)
  have F5 : ∀ X, Fr [] w2 (w2.alloc (.cells X 49)) := fun X => (Fr.refl [] w2).alloc _
  have Z4 := fun X => (F5 X).keep (F2.keep (HF1.out.keep HZ.out (by simp; omega)) (by simp)) (by simp)
  obtain ⟨z0, z1, z2, z3, zf⟩ := four (Z4 #[.int .i64 m, .int .i64 q, .slice ar hs.length cr, .slice aw2 (rem x ws).length cw2])
  have FIN := Lib.hid (fun (wF : World) (F : Fr [w.heap.size + 1 + 1] w2 wF) => DoB.mk (hs := hs) (ws := ws) (vr := .slice ar hs.length cr) (vw := .slice aw ws.length cw) HF3.out HF1.out F2 F (by omega) hlt HB2.out (.inl ⟨rfl, rfl⟩) (.inr HW2.out))
  have F6 := fun X => (F5 X).mono (S' := [w.heap.size + 1 + 1]) (by simp)
  have HF6 := Lib.hid F6
  clear F2 F4 F5 F6 Z4
  go_wp2_with fail
  refine bodyPost_ret (v := .tuple #[.agg #[.int .i64 m, .int .i64 q, .slice ar hs.length cr, .slice aw2 (rem x ws).length cw2], .bool true]) (by simp [results, Try.results30, go_sem, z0, z1, z2, z3]) rfl ?_
  exact FIN.out _ ((HF6.out _).trans (fr_four _ _ _ _))

set_option maxHeartbeats 4000000 in
theorem doB_free (hB : IsBulk w b s r g hs ws m q) (hr : Lst w base vr hs) (hw : Lst w base vw ws) (hbk : r < base ∧ g < base ∧ base ≤ w.heap.size) {k : Int} (hk : k ≠ 1 ∧ k ≠ 2 ∧ k ≠ 3) (x : Int) :
    Calls Try.prog 30 #[.pointer (some ⟨b, 0, none⟩), .agg #[.int .i64 m, .int .i64 q, vr, vw], .agg #[.int .i64 k, .int .i64 x]] w (DoB w b s r g m q hs ws vr vw (deedB m q (hs, ws) k x)) := by
  obtain ⟨ar, cr, hvr, _, _, _⟩ := id hr.1
  obtain ⟨aw, cw, hvw, _, _, _⟩ := id hw.1
  obtain ⟨W3, hW3, F3, s3, X3, D3, Z3⟩ := boxes3 w m q vr vw k x
  have hl := hB.lens
  have hlt := hB.lts
  have HE : deedB m q (hs, ws) k x = (rem x hs, ws) := by simp [deedB, hk.1, hk.2.1, hk.2.2]
  rw [HE]
  have HA := Lib.hid ((hB.fr0 F3).free x)
  have HR := Lib.hid (hr.fr F3 (by simp))
  have HW := Lib.hid (hw.fr F3 (by simp))
  have HF3 := Lib.hid F3
  have HR0 := Lib.hid hr
  have HW0 := Lib.hid hw
  have HX := Lib.hid X3
  have HD := Lib.hid D3
  have HZ := Lib.hid Z3
  have d0 : W3.cell? ⟨w.heap.size + 1, 0, none⟩ = some (.int .i64 k) := by rw [cell_of_block D3]; rfl
  have d1 : W3.cell? ⟨w.heap.size + 1, 1, none⟩ = some (.int .i64 x) := by rw [cell_of_block D3]; rfl
  have k1 : (k == 1) = false := by simpa using hk.1
  have k2 : (k == 2) = false := by simpa using hk.2.1
  have k3 : (k == 3) = false := by simpa using hk.2.2
  have HW3 := Lib.hid hW3
  unfold boxB zeroB at HW3
  clear hW3 F3 X3 D3 Z3 hr hw hB HE
  subst hvr hvw
  clear hk
  go_enter Try.func30, Try.ntmps30
  go_wp2_with fail
  rw [← HW3.out]
  refine (HA.out).mono ?_
  rintro e w1 ⟨rfl, B1, F1⟩
  obtain ⟨x0, x1, x2, x3, xf⟩ := four (F1.keep HX.out (by simp; omega))
  have d1' := (F1.cell (p := ⟨w.heap.size + 1, 1, none⟩) (by simp; omega) (by simp; omega)).trans d1
  have hs1 := F1.size
  have HB1 := Lib.hid B1
  have HF1 := Lib.hid F1
  clear B1 F1
  go_wp2_with fail
  refine (ref10_Free (m := m) (q := q) (HR.out.fr HF1.out (by simp; omega)).1 aw ws.length cw (by omega) x).mono ?_
  rintro e w2 ⟨vr2, rfl, R2, F2⟩
  have HR2 := Lib.hid R2
  obtain ⟨ar2, cr2, hvr2, _, _, _⟩ := id R2.1
  clear R2
  subst hvr2
  have HB2 := Lib.hid (HB1.out.fr0 F2)
  have hs2 := F2.size
  have F4 := fun X => F2.alloc (.cells X 49)
  have F5 : ∀ X, Fr [] w2 (w2.alloc (.cells X 49)) := fun X => (Fr.refl [] w2).alloc _
  have Z4 := fun X => (F5 X).keep (F2.keep (HF1.out.keep HZ.out (by simp; omega)) (by simp)) (by simp)
  obtain ⟨z0, z1, z2, z3, zf⟩ := four (Z4 #[.int .i64 m, .int .i64 q, .slice ar2 (rem x hs).length cr2, .slice aw ws.length cw])
  have FIN := Lib.hid (fun (wF : World) (F : Fr [w.heap.size + 1 + 1] w2 wF) => DoB.mk (hs := hs) (ws := ws) (vr := .slice ar hs.length cr) (vw := .slice aw ws.length cw) HF3.out HF1.out F2 F (by omega) hlt HB2.out (.inr HR2.out) (.inl ⟨rfl, rfl⟩))
  have F6 := fun X => (F5 X).mono (S' := [w.heap.size + 1 + 1]) (by simp)
  have HF6 := Lib.hid F6
  clear F2 F4 F5 F6 Z4
  go_wp2_with fail
  refine bodyPost_ret (v := .tuple #[.agg #[.int .i64 m, .int .i64 q, .slice ar2 (rem x hs).length cr2, .slice aw ws.length cw], .bool true]) (by simp [results, Try.results30, go_sem, z0, z1, z2, z3]) rfl ?_
  exact FIN.out _ ((HF6.out _).trans (fr_four _ _ _ _))

set_option maxHeartbeats 4000000 in
theorem doB_pick_no (hB : IsBulk w b s r g hs ws m q) (hr : Lst w base vr hs) (hw : Lst w base vw ws) (hbk : r < base ∧ g < base ∧ base ≤ w.heap.size) (hno : hs.length = m ∨ ws = []) (x : Int) :
    Calls Try.prog 30 #[.pointer (some ⟨b, 0, none⟩), .agg #[.int .i64 m, .int .i64 q, vr, vw], .agg #[.int .i64 2, .int .i64 x]] w (DoB w b s r g m q hs ws vr vw (deedB m q (hs, ws) 2 x)) := by
  obtain ⟨ar, cr, hvr, _, _, _⟩ := id hr.1
  obtain ⟨aw, cw, hvw, _, _, _⟩ := id hw.1
  obtain ⟨W3, hW3, F3, s3, X3, D3, Z3⟩ := boxes3 w m q vr vw 2 x
  have hl := hB.lens
  have hlt := hB.lts
  have HE : deedB m q (hs, ws) 2 x = (hs, ws) := by simp only [deedB]; rw [if_neg (by omega), if_pos trivial, if_neg (fun e => hno.elim (fun h => by omega) e.2)]
  rw [HE]
  have HA := Lib.hid ((hB.fr0 F3).pick_no hno)
  have HR := Lib.hid (hr.fr F3 (by simp))
  have HW := Lib.hid (hw.fr F3 (by simp))
  have HF3 := Lib.hid F3
  have HR0 := Lib.hid hr
  have HW0 := Lib.hid hw
  have HX := Lib.hid X3
  have HD := Lib.hid D3
  have HZ := Lib.hid Z3
  have d0 : W3.cell? ⟨w.heap.size + 1, 0, none⟩ = some (.int .i64 2) := by rw [cell_of_block D3]; rfl
  have d1 : W3.cell? ⟨w.heap.size + 1, 1, none⟩ = some (.int .i64 x) := by rw [cell_of_block D3]; rfl
  have HW3 := Lib.hid hW3
  unfold boxB zeroB at HW3
  clear hW3 F3 X3 D3 Z3 hr hw hB HE
  subst hvr hvw
  have HN := Lib.hid (show hs.length = m ∨ ws.length = 0 from hno.imp id (fun h => by rw [h]; rfl))
  clear hno
  go_enter Try.func30, Try.ntmps30
  go_wp2_with fail
  rw [← HW3.out]
  refine (HA.out).mono ?_
  rintro e w1 ⟨rfl, B1, F1⟩
  obtain ⟨x0, x1, x2, x3, xf⟩ := four (F1.keep HX.out (by simp; omega))
  have d1' := (F1.cell (p := ⟨w.heap.size + 1, 1, none⟩) (by simp; omega) (by simp; omega)).trans d1
  have hs1 := F1.size
  have HB1 := Lib.hid B1
  have HF1 := Lib.hid F1
  clear B1 F1
  go_wp2_with fail
  refine (ref10_pick_no (q := q) (a1 := ar) (c1 := cr) (a2 := aw) (c2 := cw) hl.1 (HN.out)).mono ?_
  rintro e w2 ⟨rfl, F2⟩
  have HB2 := Lib.hid (HB1.out.fr0 F2)
  have hs2 := F2.size
  have F4 := fun X => F2.alloc (.cells X 49)
  have F5 : ∀ X, Fr [] w2 (w2.alloc (.cells X 49)) := fun X => (Fr.refl [] w2).alloc _
  have Z4 := fun X => (F5 X).keep (F2.keep (HF1.out.keep HZ.out (by simp; omega)) (by simp)) (by simp)
  obtain ⟨z0, z1, z2, z3, zf⟩ := four (Z4 #[.int .i64 m, .int .i64 q, .slice ar hs.length cr, .slice aw ws.length cw])
  have FIN := Lib.hid (fun (wF : World) (F : Fr [w.heap.size + 1 + 1] w2 wF) => DoB.mk (hs := hs) (ws := ws) (vr := .slice ar hs.length cr) (vw := .slice aw ws.length cw) HF3.out HF1.out F2 F (by omega) hlt HB2.out (.inl ⟨rfl, rfl⟩) (.inl ⟨rfl, rfl⟩))
  have F6 := fun X => (F5 X).mono (S' := [w.heap.size + 1 + 1]) (by simp)
  have HF6 := Lib.hid F6
  clear F2 F4 F5 F6 Z4
  go_wp2_with fail
  refine bodyPost_ret (v := .tuple #[.agg #[.int .i64 m, .int .i64 q, .slice ar hs.length cr, .slice aw ws.length cw], .bool true]) (by simp [results, Try.results30, go_sem, z0, z1, z2, z3]) rfl ?_
  exact FIN.out _ ((HF6.out _).trans (fr_four _ _ _ _))

set_option maxHeartbeats 4000000 in
theorem doB_pick_yes (hB : IsBulk w b s r g hs ws m q) (hr : Lst w base vr hs) (hw : Lst w base vw ws) (hbk : r < base ∧ g < base ∧ base ≤ w.heap.size) {y : Int} {wt : List Int} (hwt : ws = y :: wt) (hm : hs.length < m) (x : Int) :
    Calls Try.prog 30 #[.pointer (some ⟨b, 0, none⟩), .agg #[.int .i64 m, .int .i64 q, vr, vw], .agg #[.int .i64 2, .int .i64 x]] w (DoB w b s r g m q hs ws vr vw (deedB m q (hs, ws) 2 x)) := by
  obtain ⟨ar, cr, hvr, _, _, _⟩ := id hr.1
  obtain ⟨aw, cw, hvw, _, _, _⟩ := id hw.1
  obtain ⟨W3, hW3, F3, s3, X3, D3, Z3⟩ := boxes3 w m q vr vw 2 x
  have hl := hB.lens
  have hlt := hB.lts
  have HE : deedB m q (hs, ws) 2 x = (hs ++ [y], wt) := by subst hwt; simp [deedB, hm, el]
  rw [HE]
  have HA := Lib.hid (((hwt ▸ hB : IsBulk w b s r g hs (y :: wt) m q).fr0 F3).pick_yes hm)
  have HR := Lib.hid (hr.fr F3 (by simp))
  have HW := Lib.hid (hw.fr F3 (by simp))
  have HF3 := Lib.hid F3
  have HR0 := Lib.hid hr
  have HW0 := Lib.hid hw
  have HX := Lib.hid X3
  have HD := Lib.hid D3
  have HZ := Lib.hid Z3
  have d0 : W3.cell? ⟨w.heap.size + 1, 0, none⟩ = some (.int .i64 2) := by rw [cell_of_block D3]; rfl
  have d1 : W3.cell? ⟨w.heap.size + 1, 1, none⟩ = some (.int .i64 x) := by rw [cell_of_block D3]; rfl
  have HW3 := Lib.hid hW3
  unfold boxB zeroB at HW3
  clear hW3 F3 X3 D3 Z3 hr hw hB HE
  subst hvr hvw
  have HM := Lib.hid hm
  clear hm
  subst hwt
  simp only [List.length_cons] at *
  go_enter Try.func30, Try.ntmps30
  go_wp2_with fail
  rw [← HW3.out]
  refine (HA.out).mono ?_
  rintro e w1 ⟨rfl, B1, F1⟩
  obtain ⟨x0, x1, x2, x3, xf⟩ := four (F1.keep HX.out (by simp; omega))
  have d1' := (F1.cell (p := ⟨w.heap.size + 1, 1, none⟩) (by simp; omega) (by simp; omega)).trans d1
  have hs1 := F1.size
  have HB1 := Lib.hid B1
  have HF1 := Lib.hid F1
  clear B1 F1
  go_wp2_with fail
  refine (ref10_pick_yes (q := q) (HR.out.fr HF1.out (by simp; omega)).1 (HW.out.fr HF1.out (by simp; omega)).1 (HM.out) (by omega)).mono ?_
  rintro e w2 ⟨vr2, vw2, rfl, R2, W2, F2⟩
  have HR2 := Lib.hid R2
  obtain ⟨ar2, cr2, hvr2, _, _, _⟩ := id R2.1
  clear R2
  subst hvr2
  have HW2 := Lib.hid W2
  obtain ⟨aw2, cw2, hvw2, _, _, _⟩ := id W2.1
  clear W2
  subst hvw2
  have HB2 := Lib.hid (HB1.out.fr0 F2)
  have hs2 := F2.size
  have F4 := fun X => F2.alloc (.cells X 49)
  have F5 : ∀ X, Fr [] w2 (w2.alloc (.cells X 49)) := fun X => (Fr.refl [] w2).alloc _
  have Z4 := fun X => (F5 X).keep (F2.keep (HF1.out.keep HZ.out (by simp; omega)) (by simp)) (by simp)
  obtain ⟨z0, z1, z2, z3, zf⟩ := four (Z4 #[.int .i64 m, .int .i64 q, .slice ar2 (hs.length + 1) cr2, .slice aw2 wt.length cw2])
  have FIN := Lib.hid (fun (wF : World) (F : Fr [w.heap.size + 1 + 1] w2 wF) => DoB.mk (hs := hs) (ws := (y :: wt)) (vr := .slice ar hs.length cr) (vw := .slice aw (wt.length + 1) cw) HF3.out HF1.out F2 F (by omega) hlt HB2.out (.inr HR2.out) (.inr HW2.out))
  have F6 := fun X => (F5 X).mono (S' := [w.heap.size + 1 + 1]) (by simp)
  have HF6 := Lib.hid F6
  clear F2 F4 F5 F6 Z4
  go_wp2_with fail
  refine bodyPost_ret (v := .tuple #[.agg #[.int .i64 m, .int .i64 q, .slice ar2 (hs ++ [y]).length cr2, .slice aw2 wt.length cw2], .bool true]) (by simp [results, Try.results30, go_sem, z0, z1, z2, z3]) rfl ?_
  exact FIN.out _ ((HF6.out _).trans (fr_four _ _ _ _))
end

/-- do, whatever the deed. -/
theorem doB {w : World} {base b s r g m q : Nat} {hs ws : List Int} {vr vw : Value} (hB : IsBulk w b s r g hs ws m q) (hr : Lst w base vr hs) (hw : Lst w base vw ws) (hbk : r < base ∧ g < base ∧ base ≤ w.heap.size) (k x : Int) :
    Calls Try.prog 30 #[.pointer (some ⟨b, 0, none⟩), .agg #[.int .i64 m, .int .i64 q, vr, vw], .agg #[.int .i64 k, .int .i64 x]] w (DoB w b s r g m q hs ws vr vw (deedB m q (hs, ws) k x)) := by
  by_cases h1 : k = 1
  · subst h1; exact doB_admit hB hr hw hbk x
  · by_cases h2 : k = 2
    · subst h2
      by_cases hno : hs.length = m ∨ ws = []
      · exact doB_pick_no hB hr hw hbk hno x
      · cases hws : ws with
        | nil => exact absurd (Or.inr hws) hno
        | cons y wt =>
          rw [← hws]
          exact doB_pick_yes hB hr hw hbk hws (by have := hB.lens; omega) x
    · by_cases h3 : k = 3
      · subst h3; exact doB_drop hB hr hw hbk x
      · exact doB_free hB hr hw hbk ⟨h1, h2, h3⟩ x
end Go.Proofs.Ythbhkmhmiplikaa
