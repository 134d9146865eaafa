/-
  TimersPlays, as a contract of its function.
-/
import Derived.Test.YtibnhfnidgfenaaLaw18c
namespace Go.Proofs.Ytibnhfnidgfenaa
open Go.RowKit

set_option maxHeartbeats 4000000 in
set_option maxRecDepth 20000 in
theorem timersPlays_spec {w : World} {dv : Value} {ds : List De} (hd : De4s w dv ds) :
    Calls Try.prog 9 #[dv] w fun e w' => e = .returned (.bool true) ∧ Fr [] w w' := by
  have HD := Lib.hid hd
  obtain ⟨ao, cap, rfl, hlen, -⟩ := hd
  go_enter Try.func9, Try.ntmps9
  go_wp2_with fail
  refine (awake18 w).mono ?_
  rintro r w1 ⟨rfl, F1⟩
  have HF1 := Lib.hid F1
  clear F1
  go_wp2_with fail
  refine (clockNew w1).mono ?_
  rintro r w2 ⟨c, rfl, fp, hW, hfp, F, -⟩
  have HW2 := Lib.hid hW
  have HFp := Lib.hid (fun x hx => ⟨Nat.le_trans HF1.out.size (hfp x hx), hW.lt x hx⟩ : ∀ x ∈ fp, w.heap.size ≤ x ∧ x < w2.heap.size)
  have hs1 : w.heap.size ≤ w2.heap.size := Nat.le_trans HF1.out.size F.size
  have HF2 := Lib.hid (HF1.out.trans F)
  clear F hW hfp
  go_wp2_with fail
  obtain ⟨X, hX⟩ : ∃ X, X = w2.heap.size := ⟨_, rfl⟩
  have HXB := Lib.hid (block_alloc_new w2 (cbox 0 (.slice none 0 0) 0))
  have FX := (Fr.refl [] w2).alloc (cbox 0 (.slice none 0 0) 0)
  have HW2 := Lib.hid (⟨HW2.out.fr FX (by simp), Ons.nil _, fun g hg => by simp [Value.ownBlock] at hg⟩ : CRV (w2.alloc (cbox 0 (.slice none 0 0) 0)) c fp ⟨0, [], 0⟩ 0 (.slice none 0 0))
  have HF2 := Lib.hid (HF2.out.trans FX)
  have HFp := Lib.hid (fun x hx => ⟨(HFp.out x hx).1, fun e => by have := (HFp.out x hx).2; omega⟩ : ∀ x ∈ fp, w.heap.size ≤ x ∧ x ≠ X)
  rw [← hX] at HXB hs1 ⊢
  clear hX
  go_loopw [6] (fun vi wr => ∃ (i : Nat) (fp : List Nat) (v : Value), vi = .int .i64 i ∧ i ≤ ds.length ∧ i ≤ 100 ∧ Hid (CRV wr c fp (clkTo ds i) i v) ∧ Hid (wr.heap[X]? = some (cbox (clkTo ds i).now v (clkTo ds i).goal)) ∧ Hid (v.ownBlock ≠ some X) ∧ Hid (∀ x ∈ fp, w.heap.size ≤ x ∧ x ≠ X) ∧ Hid (Fr [] w wr)) (fun vi _ => ds.length - (intOf vi).toNat)
  case atStart => exact ⟨0, fp, .slice none 0 0, by go_num, Nat.zero_le _, by omega, HW2, HXB, Lib.hid (by simp [Value.ownBlock]), HFp, HF2⟩
  case round =>
    clear HW2 HXB HFp HF2 FX
    obtain ⟨i, fp, v, rfl, hi, hi2, HW, HXB, HvX, HFp, HF⟩ := hrel
    obtain ⟨va, vc, rfl⟩ := HW.out.form
    by_cases hlt : i < ds.length
    · by_cases hlt2 : i < 100
      · obtain ⟨b1, o1, e, rfl, h4, ht, heq⟩ := (HD.out.fr HF.out).at hlt
        have HSu : Hid (clkTo ds (i + 1) = (clkTo ds i).do e) := Lib.hid (by rw [clkTo_succ ds hlt, heq])
        clear heq
        generalize clkTo ds i = s at *
        have H4 := Lib.hid h4
        obtain ⟨x0, x1, x2⟩ := three_cells HXB.out
        obtain ⟨d0, d1, d2, d3⟩ := h4
        have HDo := Lib.hid (fun (wx : World) (F : Fr [] wr wx) => do18_spec (HW.out.fr0 F) (by omega) e ht)
        have d100 : decide ((i : Int) < 100) = true := decide_eq_true (by omega)
        have hfl := HW.out.1.lt
        have hvl := HW.out.2.2
        have HB := Lib.hid (fun (wx w5 : World) (F : Fr [] (wr.alloc (cbox 0 (.slice none 0 0) 0)) wx) v' s' n' => afterD_b (v' := v') (s' := s') (n' := n') (wx := wx) (w5 := w5) (c := c) (fp := fp) (v := .slice va s.l.length vc) hfl (fun g hg => (hvl g hg).2) F)
        have FA : Fr [] wr (wr.alloc (.cells #[.int .u64 0, .slice none 0 0, .int .u64 0] 61)) := (Fr.refl _ _).alloc _
        obtain ⟨x0a, x1a, x2a⟩ := three_cells (FA.keep HXB.out (by simp))
        obtain ⟨d0a, d1a, d2a, d3a⟩ := H4.out.fr FA (by simp)
        obtain ⟨ek, e1, e2, et⟩ := e
        simp only at d0a d1a d2a d3a d0 d1 d2 d3 ht HDo
        clear FA hfl hvl H4
        go_wp2_with fail
        go_upto_region 7 with fail
        go_cut [7, 8] from 12 to 58 (fun s6 s7 wx => ∃ g5, s6 = .pointer (some ⟨g5, 0, none⟩) ∧ s7 = .bool true ∧ Hid (AfterD wr c fp (.slice va s.l.length vc) (s.do ⟨ek, e1, e2, et⟩) (i + 1) wx g5))
        case first =>
          go_region_with (first
            | (go_at_call 31; refine (HDo.out _ (Fr.refl _ _).drew).mono ?_; rintro e w5 ⟨v', rfl, h5⟩; obtain ⟨a5, c5, hv5⟩ := (id h5).choose_spec.1.form; subst hv5; have A1 := Lib.hid (afterD_a (Fr.refl _ _).drew h5); clear h5)
            | (go_at_call 31; refine (HDo.out _ (((Fr.refl _ _).alloc _).drew)).mono ?_; rintro e w5 ⟨v', rfl, h5⟩; obtain ⟨a5, c5, hv5⟩ := (id h5).choose_spec.1.form; subst hv5; have A0 := HB.out _ _ (Fr.refl _ _).drew _ _ _ h5; have A1 := Lib.hid A0.2; obtain ⟨z0, z1, z2⟩ := three_cells A0.1; have hzf := free_of_block A0.1; clear h5 A0))
          all_goals (
            go_wp2_with fail
            go_meet
            exact ⟨_, rfl, rfl, A1⟩)
        case rest =>
          obtain ⟨g5, rfl, rfl, A1⟩ := hcut
          rw [← HSu.out] at A1
          obtain ⟨v', fp', hy, h5, U5, F5, O5, hg1, hg2, hg3⟩ := A1.out
          obtain ⟨va', vc', rfl⟩ := h5.form
          obtain ⟨y0, y1, y2⟩ := three_cells hy
          obtain ⟨k1, k2, k3, k4, k5, k6, k7⟩ := afterD_x (lt_of_block HXB.out) (fun hm => (HFp.out X hm).2 rfl) HvX.out (fun x hx => (HFp.out x hx).1) hs1 h5 U5 F5 O5 ⟨_, _, _, HXB.out⟩
          have HXc := k1.trans HXB.out
          obtain ⟨z0, z1, z2⟩ := three_cells HXc
          have hzf := free_of_block HXc
          have HR := Lib.hid (And.intro k3 (And.intro k4 (And.intro k5 (And.intro k6 (k7 w (Nat.le_refl _) HF.out)))))
          clear A1 hy h5 U5 F5 O5 hg1 hg2 hg3 k1 k2 k3 k4 k5 k6 k7 HXc HW HXB HvX HFp HF d0 d1 d2 d3 d0a d1a d2a d3a x0 x1 x2 x0a x1a x2a HDo HB HSu
          generalize hss : clkTo ds (i + 1) = s' at *
          have HSs := Lib.hid hss
          clear hss
          obtain ⟨w7, hw7⟩ : ∃ w7, w7 = (((wc.setCell ⟨X, 0, none⟩ (.int .u64 s'.now)).setCell ⟨X, 1, none⟩ (.slice va' s'.l.length vc')).setCell ⟨X, 2, none⟩ (.int .u64 s'.goal)) := ⟨_, rfl⟩
          rw [← hw7] at HR
          go_upto_region 9 with fail
          rw [← hw7]
          clear hw7 y0 y1 y2 z0 z1 z2 hzf
          obtain ⟨x0, x1, x2⟩ := three_cells HR.out.2.2.2.1
          have HN1 := Lib.hid (fun (wx : World) (F : Fr [] w7 wx) => (HR.out.2.2.1.fr0 F).1.nowOf)
          have HN2 := Lib.hid (fun (wx : World) (F : Fr [] w7 wx) => (HR.out.2.2.1.fr0 F).1.goalOf)
          have HN3 := Lib.hid (fun (wx : World) (F : Fr [] w7 wx) => (HR.out.2.2.1.fr0 F).1.lenOf)
          go_quiet ((first
            | (go_at_call 32; exact Calls.quiet_of ((HN1.out _ ((Fr.refl _ _).drewN _)).mono (fun e w' h => ⟨h.1, 0, by rw [h.2]; rfl⟩)))
            | (go_at_call 33; exact Calls.quiet_of ((HN2.out _ ((Fr.refl _ _).drewN _)).mono (fun e w' h => ⟨h.1, 0, by rw [h.2]; rfl⟩)))
            | (go_at_call 34; exact Calls.quiet_of ((HN3.out _ ((Fr.refl _ _).drewN _)).mono (fun e w' h => ⟨h.1, 0, by rw [h.2]; rfl⟩)))))
          go_wp2_with fail
          go_roundw
          case rel => exact ⟨i + 1, fp', .slice va' s'.l.length vc', by go_num, by omega, by omega, by rw [HSs.out]; exact Lib.hid (HR.out.2.2.1.fr0 (Fr.of_drewN _ _)), by rw [HSs.out]; exact Lib.hid HR.out.2.2.2.1, Lib.hid HR.out.1, Lib.hid HR.out.2.1, Lib.hid (HR.out.2.2.2.2.drewN _)⟩
          case measure => simp [intOf]; omega
      · go_wp2_with fail
        go_ret
        exact ⟨by first | rfl | simp, HF.out⟩
    · go_wp2_with fail
      go_ret
      exact ⟨by first | rfl | simp, HF.out⟩
end Go.Proofs.Ytibnhfnidgfenaa
