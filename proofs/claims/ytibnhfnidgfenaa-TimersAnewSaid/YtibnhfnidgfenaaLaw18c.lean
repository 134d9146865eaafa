/-
  awake of porpoiselaw18; TimersNobody.
-/
import Derived.Test.YtibnhfnidgfenaaLaw18b
namespace Go.Proofs.Ytibnhfnidgfenaa
open Go.RowKit

abbrev tbox (a b : Int) : Obj := .cells #[.int .i64 a, .int .i64 b] 31
theorem C1.box2 {w0 w : World} {c : Nat} {s : Cs} {n : Nat} {K : List (Nat × Obj)} (h : C1 w0 w c s n K) (o o' : Obj) : C1 w0 ((w.alloc o).alloc o') c s n ((w.heap.size + 1, o') :: (w.heap.size, o) :: K) := by
  have := (h.box o).box o'
  rwa [show (w.alloc o).heap.size = w.heap.size + 1 by simp] at this

set_option maxHeartbeats 4000000 in
set_option maxRecDepth 20000 in
theorem awake18 (w : World) : Calls Try.prog 29 #[] w fun e w' => e = .returned (.bool true) ∧ Fr [] w w' := by
  go_enter Try.func29, Try.ntmps29
  go_wp2_with fail
  refine (clockNew w).mono ?_
  rintro r w1 ⟨c, rfl, h1⟩
  have H2 := Lib.hid (h1.box2 (tbox 1 1) (tbox 1 2))
  obtain ⟨A, hA⟩ : ∃ A, A = w1.heap.size := ⟨_, rfl⟩
  obtain ⟨B, hB⟩ : ∃ B, B = w1.heap.size + 1 := ⟨_, rfl⟩
  rw [← hB, ← hA] at H2
  obtain ⟨w2, hw2⟩ : ∃ w2, w2 = (w1.alloc (tbox 1 1)).alloc (tbox 1 2) := ⟨_, rfl⟩
  rw [← hw2] at H2
  obtain ⟨a0, a1⟩ := two_cells' (H2.out.read (p := A) (o := tbox 1 1) (by simp))
  rw [hA, hw2] at a0 a1
  simp only [tbox] at a0 a1
  go_wp2_with fail
  rw [← hB, ← hA, ← hw2]
  clear hA hB hw2 h1 a0 a1
  refine (H2.out.call (fun fp h => h.set (by omega) 1 1 3 (by omega))).mono ?_
  rintro r w3 ⟨rfl, h3⟩
  have H3 := Lib.hid (show C1 w w3 c ⟨0, [⟨1, 1, 3⟩], 0⟩ 1 [(B, tbox 1 2), (A, tbox 1 1)] from h3)
  clear h3
  go_wp2_with fail
  refine (H3.out.call (fun fp h => h.go 10)).mono ?_
  rintro r w4 ⟨rfl, h4⟩
  have H4 := Lib.hid (show C1 w w4 c ⟨0, [⟨1, 1, 3⟩], 10⟩ 1 [(B, tbox 1 2), (A, tbox 1 1)] from h4)
  clear h4
  go_wp2_with fail
  refine (H4.out.call (fun fp h => h.next (by omega))).mono ?_
  rintro r w5 ⟨rfl, h5⟩
  have H5 := Lib.hid ((show C1 w w5 c ⟨3, [], 10⟩ 1 [(B, tbox 1 2), (A, tbox 1 1)] from h5).box (tbox 1 1))
  rw [show keyV (Cs.comes ⟨0, [⟨1, 1, 3⟩], 10⟩) = .agg #[.int .i64 1, .int .i64 1] from rfl, show (Cs.comes ⟨0, [⟨1, 1, 3⟩], 10⟩).isSome = true from rfl]
  obtain ⟨X, hX⟩ : ∃ A, A = w5.heap.size := ⟨_, rfl⟩
  obtain ⟨w6, hw6⟩ : ∃ w2, w2 = w5.alloc (tbox 1 1) := ⟨_, rfl⟩
  rw [← hw6, ← hX] at H5
  go_wp2_with fail
  rw [← hw6, ← hX]
  clear hX hw6 h5
  refine (H5.out.ask (fun fp h => h.nowOf)).mono ?_
  rintro r w7 ⟨rfl, hw⟩
  subst hw
  obtain ⟨a0, a1⟩ := two_cells' (H5.out.read (p := B) (o := tbox 1 2) (by simp))
  go_wp2_with fail
  refine (H5.out.call (fun fp h => h.set (by omega) 1 2 5 (by omega))).mono ?_
  rintro r w8 ⟨rfl, h8⟩
  have H8 := Lib.hid (show C1 w w8 c ⟨3, [⟨1, 2, 5⟩], 10⟩ 2 [(X, tbox 1 1), (B, tbox 1 2), (A, tbox 1 1)] from h8)
  clear h8 a0 a1
  go_wp2_with fail
  refine (H8.out.call (fun fp h => h.next (by omega))).mono ?_
  rintro r w9 ⟨rfl, h9⟩
  have H9 := Lib.hid ((show C1 w w9 c ⟨5, [], 10⟩ 2 [(X, tbox 1 1), (B, tbox 1 2), (A, tbox 1 1)] from h9).box (tbox 1 2))
  rw [show keyV (Cs.comes ⟨3, [⟨1, 2, 5⟩], 10⟩) = .agg #[.int .i64 1, .int .i64 2] from rfl, show (Cs.comes ⟨3, [⟨1, 2, 5⟩], 10⟩).isSome = true from rfl]
  obtain ⟨Y, hY⟩ : ∃ A, A = w9.heap.size := ⟨_, rfl⟩
  obtain ⟨w10, hw10⟩ : ∃ w2, w2 = w9.alloc (tbox 1 2) := ⟨_, rfl⟩
  rw [← hw10, ← hY] at H9
  go_wp2_with fail
  rw [← hw10, ← hY]
  clear hY hw10 h9
  refine (H9.out.call (fun fp h => h.next (by omega))).mono ?_
  rintro r w11 ⟨rfl, h11⟩
  have H11 := Lib.hid ((show C1 w w11 c ⟨10, [], 10⟩ 2 [(Y, tbox 1 2), (X, tbox 1 1), (B, tbox 1 2), (A, tbox 1 1)] from h11).box (tbox 0 0))
  rw [show keyV (Cs.comes ⟨5, [], 10⟩) = .agg #[.int .i64 0, .int .i64 0] from rfl, show (Cs.comes ⟨5, [], 10⟩).isSome = false from rfl]
  obtain ⟨w12, hw12⟩ : ∃ w2, w2 = w11.alloc (tbox 0 0) := ⟨_, rfl⟩
  rw [← hw12] at H11
  obtain ⟨a0, a1⟩ := two_cells' (H11.out.read (p := A) (o := tbox 1 1) (by simp))
  obtain ⟨b0, b1⟩ := two_cells' (H11.out.read (p := B) (o := tbox 1 2) (by simp))
  obtain ⟨x0, x1⟩ := two_cells' (H11.out.read (p := X) (o := tbox 1 1) (by simp))
  obtain ⟨y0, y1⟩ := two_cells' (H11.out.read (p := Y) (o := tbox 1 2) (by simp))
  have HN := Lib.hid (H11.out.ask (fun fp h => h.nowOf))
  have HG := Lib.hid (H11.out.ask (fun fp h => h.goalOf))
  have HL := Lib.hid (H11.out.ask (fun fp h => h.lenOf))
  rw [hw12] at a0 a1 b0 b1 x0 x1 y0 y1 HN HG HL
  simp only [tbox] at a0 a1 b0 b1 x0 x1 y0 y1 HN HG HL
  go_wp2_with (first
    | (go_at_call 32; refine HN.out.mono ?_; rintro r wz ⟨rfl, hwz⟩; subst hwz)
    | (go_at_call 33; refine HG.out.mono ?_; rintro r wz ⟨rfl, hwz⟩; subst hwz)
    | (go_at_call 34; refine HL.out.mono ?_; rintro r wz ⟨rfl, hwz⟩; subst hwz))
  go_ret
  exact ⟨by first | rfl | simp, hw12 ▸ H11.out.frame⟩
set_option maxHeartbeats 4000000 in
set_option maxRecDepth 20000 in
theorem timersNobody_spec (w : World) (k1 k2 : Int) (n : Nat) :
    Calls Try.prog 14 #[.agg #[.int .i64 k1, .int .i64 k2], .int .u64 n] w fun e w' => e = .returned (.bool true) ∧ Fr [] w w' := by
  have HK := Lib.hid (block_alloc_new w (tbox k1 k2))
  have HF0 := Lib.hid ((Fr.refl [] w).alloc (tbox k1 k2))
  go_enter Try.func14, Try.ntmps14
  go_wp2_with fail
  refine (awake18 _).mono ?_
  rintro r w1 ⟨rfl, F⟩
  have HK := Lib.hid (F.keep HK.out (by simp))
  have HF := Lib.hid (HF0.out.trans F)
  obtain ⟨a0, a1⟩ := two_cells' HK.out
  clear F
  go_wp2_with fail
  refine (tset_nil _ _ _ _).mono ?_
  rintro r w2 ⟨rfl, F⟩
  have HK := Lib.hid (F.keep HK.out (by simp))
  have HF := Lib.hid (HF.out.trans F)
  clear F a0 a1
  go_wp2_with fail
  refine (tgo_nil _ _).mono ?_
  rintro r w3 ⟨rfl, hw⟩
  subst hw
  go_wp2_with fail
  refine (tnext_nil _).mono ?_
  rintro r w4 ⟨rfl, F⟩
  have F4 := F.trans ((Fr.refl [] w4).alloc (tbox 0 0))
  have HK := Lib.hid (F4.keep HK.out (by simp))
  have HF := Lib.hid (HF.out.trans F4)
  clear F F4
  go_wp2_with fail
  refine (clockNew _).mono ?_
  rintro r w5 ⟨c, rfl, h5⟩
  have F5 := h5.frame
  have HK5 := Lib.hid (F5.keep HK.out (by simp))
  have H5 := Lib.hid (h5.base (K := [(w.heap.size, tbox k1 k2)]) HF.out (by simpa using HK.out))
  clear F5 h5
  go_wp2_with fail
  refine (H5.out.call (fun fp h => h.next (by omega))).mono ?_
  rintro r w6 ⟨rfl, h6⟩
  rw [show keyV (Cs.comes ⟨0, [], 0⟩) = .agg #[.int .i64 0, .int .i64 0] from rfl, show (Cs.comes ⟨0, [], 0⟩).isSome = false from rfl]
  have h7 := (show C1 w w6 c ⟨0, [], 0⟩ 0 [(w.heap.size, tbox k1 k2)] from h6).fr0 ((Fr.refl [] w6).alloc (tbox 0 0))
  have HK7 := Lib.hid (h7.read (p := w.heap.size) (o := tbox k1 k2) (by simp))
  obtain ⟨a0, a1⟩ := two_cells' HK7.out
  simp only [tbox] at a0 a1
  have H7 := Lib.hid h7
  clear h6 h7
  go_wp2_with fail
  refine (tstop_nil _ _ _).mono ?_
  rintro r w8 ⟨rfl, F⟩
  have H8 := Lib.hid (H7.out.fr0 F)
  obtain ⟨b0, b1⟩ := two_cells' (H8.out.read (p := w.heap.size) (o := tbox k1 k2) (by simp))
  clear F a0 a1
  go_wp2_with (first
    | (go_at_call 32; refine (tnow_nil _).mono ?_; rintro r wz ⟨rfl, hwz⟩; subst hwz)
    | (go_at_call 33; refine (tgoal_nil _).mono ?_; rintro r wz ⟨rfl, hwz⟩; subst hwz)
    | (go_at_call 34; refine (tlen_nil _).mono ?_; rintro r wz ⟨rfl, hwz⟩; subst hwz))
  refine (H8.out.ask (fun fp h => h.nowOf)).mono ?_
  rintro r wz ⟨rfl, hwz⟩
  subst hwz
  go_wp2_with fail
  refine (H8.out.call (fun fp h => h.stop (by omega) k1 k2)).mono ?_
  rintro r w9 ⟨rfl, h9⟩
  go_wp2_with fail
  go_ret
  exact ⟨by first | rfl | simp [onOf], h9.frame⟩
/-- Behind a step the time has not gone back, and is the goal at most. -/
theorem CsOk.next_some {s : Cs} {n : Nat} (h : CsOk s n) {e : On} (hc : s.comes = some e) : s.next = ⟨e.due, s.l.tail, s.goal⟩ ∧ s.now ≤ e.due ∧ e.due ≤ s.goal ∧ s.l.tail.length + 1 = s.l.length := by
  obtain ⟨q1, q2⟩ := Cs.comes_some hc
  refine ⟨by unfold Cs.next; rw [hc], (h.due e (by rw [q1]; simp)).1, q2, ?_⟩
  have := congrArg List.length q1
  simpa using this.symm
theorem CsOk.next_none {s : Cs} {n : Nat} (h : CsOk s n) (hc : s.comes = none) : s.next = ⟨s.goal, s.l, s.goal⟩ := by
  unfold Cs.next
  rw [hc]
  have := h.le
  simp only
  rw [show max s.now s.goal = s.goal by omega]
set_option maxHeartbeats 4000000 in
set_option maxRecDepth 20000 in
theorem timersGoal_spec {w : World} {dv : Value} {ds : List De} (hd : De4s w dv ds) (n : Nat) :
    Calls Try.prog 10 #[dv, .int .u64 n] w fun e w' => e = .returned (.bool true) ∧ Fr [] w w' := by
  have HD := Lib.hid hd
  obtain ⟨ao, cap, rfl, hlen, -⟩ := hd
  go_enter Try.func10, Try.ntmps10
  go_wp2_with fail
  refine (awake18 _).mono ?_
  rintro r w1 ⟨rfl, F⟩
  have HF := Lib.hid F
  clear F
  go_wp2_with fail
  refine (ran18_spec (HD.out.fr HF.out)).mono ?_
  rintro r w2 ⟨c, rfl, h2⟩
  generalize clkTo ds (min ds.length 100) = s0 at *
  have H2 := Lib.hid (h2.base (K := []) HF.out (by simp))
  clear h2
  go_wp2_with fail
  refine (H2.out.call (fun fp h => h.go n)).mono ?_
  rintro r w3 ⟨rfl, h3⟩
  generalize s0.go n = s1 at *
  have H3 := Lib.hid h3
  clear h3 H2
  go_wp2_with fail
  refine (H3.out.ask (fun fp h => h.nowOf)).mono ?_
  rintro r w4 ⟨rfl, hw⟩
  subst hw
  go_wp2_with fail
  go_loopw [7, 8] (fun vn vi wr => ∃ (i : Nat) (s : Cs), vi = .int .i64 i ∧ vn = .int .u64 s.now ∧ s.l.length + i ≤ 100 ∧ Hid (C1 w wr c s 100 [])) (fun _ vi _ => 101 - (intOf vi).toNat)
  case atStart => exact ⟨0, s1, by go_num, rfl, by have := H3.out.ok.len; omega, H3⟩
  case round =>
    clear H3
    obtain ⟨i, s, rfl, rfl, hi, H⟩ := hrel
    have hi101 : i < 101 := by omega
    have hok := Lib.hid H.out.ok
    have HN := Lib.hid (H.out.call (fun fp h => h.next (by omega)))
    cases hc : s.comes with
    | none =>
      have HNe := Lib.hid (hok.out.next_none hc)
      rw [hc, HNe.out] at HN
      simp only [keyV, Option.map_none, Option.getD_none, Option.isSome_none] at HN
      have hle := hok.out.le
      have t1 : decide (s.goal < s.now) = false := decide_eq_false (by omega)
      clear hc
      go_wp2_with fail
      refine HN.out.mono ?_
      rintro r w5 ⟨rfl, h5⟩
      have H5 := Lib.hid (h5.fr0 ((Fr.refl [] w5).alloc (tbox 0 0)))
      have HN1 := Lib.hid (H5.out.ask (fun fp h => h.nowOf))
      have HN2 := Lib.hid (H5.out.ask (fun fp h => h.goalOf))
      clear h5 HN
      go_wp2_with (first
        | (go_at_call 32; refine HN1.out.mono ?_; rintro r wz ⟨rfl, hwz⟩; subst hwz)
        | (go_at_call 33; refine HN2.out.mono ?_; rintro r wz ⟨rfl, hwz⟩; subst hwz))
      go_ret
      exact ⟨by first | rfl | simp, H5.out.frame⟩
    | some e =>
      obtain ⟨q1, q2, q3, q4⟩ := hok.out.next_some hc
      rw [hc, q1] at HN
      simp only [keyV, Option.map_some, Option.getD_some, Option.isSome_some] at HN
      have t1 : decide (e.due < s.now) = false := decide_eq_false (by omega)
      have t2 : decide (s.goal < e.due) = false := decide_eq_false (by omega)
      have hi' : s.l.tail.length + (i + 1) ≤ 100 := by omega
      generalize s.l.tail = tl at *
      clear hc q1 q4
      go_wp2_with fail
      refine HN.out.mono ?_
      rintro r w5 ⟨rfl, h5⟩
      have H5 := Lib.hid (h5.fr0 ((Fr.refl [] w5).alloc (tbox e.kind e.id)))
      have HN1 := Lib.hid (H5.out.ask (fun fp h => h.nowOf))
      have HN2 := Lib.hid (H5.out.ask (fun fp h => h.goalOf))
      clear h5 HN
      go_wp2_with (first
        | (go_at_call 32; refine HN1.out.mono ?_; rintro r wz ⟨rfl, hwz⟩; subst hwz)
        | (go_at_call 33; refine HN2.out.mono ?_; rintro r wz ⟨rfl, hwz⟩; subst hwz))
      go_roundw
      case rel => exact ⟨i + 1, ⟨e.due, tl, s.goal⟩, by go_num, rfl, hi', H5⟩
      case measure => simp [intOf]; omega
end Go.Proofs.Ytibnhfnidgfenaa
