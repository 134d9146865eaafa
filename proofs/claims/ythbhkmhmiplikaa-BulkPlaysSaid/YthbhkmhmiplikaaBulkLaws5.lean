/-
  BulkPlays, as a contract of its function: of a configuration that is one.
-/
import Derived.Test.YthbhkmhmiplikaaBulkLaws1
import Derived.Deep.RegionHeld3
namespace Go.Proofs.Ythbhkmhmiplikaa
open Go.RowKit

theorem CF.ok_parts {c : CF} (h : c.ok = true) : ∃ m q : Nat, c.most = m ∧ c.que = q ∧ (c.mode = 1 ∨ c.mode = 2) ∧ m ≤ 8 ∧ q ≤ 8 := by
  simp only [CF.ok, decide_eq_true_eq] at h
  exact ⟨c.most.toNat, c.que.toNat, by omega, by omega, by omega, by omega, by omega⟩

set_option maxHeartbeats 8000000 in
theorem bulkPlays_some {w : World} {v : Value} {ds : List (Int × Int)} (hd : Deeds w v ds) (c : CF) (x0 : Int) (hok : c.ok = true) :
    Calls Try.prog 9 #[c.val, v, .int .i64 x0] w fun e w' => e = .returned (.bool true) ∧ Fr [] w w' := by
  obtain ⟨m, q, hm, hq, hmo, hl⟩ := CF.ok_parts hok
  obtain ⟨ao, cap, rfl, hd2, hd3⟩ := hd
  have HD := Lib.hid hd3
  clear hd3
  have HN := Lib.hid (fun w => bulk_new_yes c w m q hm hq hmo hl)
  have HM := Lib.hid hm
  have HQ := Lib.hid hq
  have HN2 := Lib.hid (fun w => ref10_new c w)
  have HOK := Lib.hid hok
  clear hm hq hmo hok
  obtain ⟨mode, pool, queue, sem, fb, ch, t, ft, vo, pe, sl, bu, wi, wd, ba, fo⟩ := c
  simp only [CF.val] at *
  go_enter Try.func9, Try.ntmps9
  go_wp2_with fail
  refine (awake10 _).mono ?_
  rintro e w0 ⟨rfl, F⟩
  obtain ⟨c0, c1, c2, c3, c4, c5, c6, c7, c8, c9, c10, c11, c12, c13, c14, c15⟩ := sixteen (F.keep (block_alloc_new _ _) (by simp))
  have KX := Lib.hid (F.keep (block_alloc_new _ _) (by simp))
  have HF := Lib.hid (((Fr.refl [] w).alloc _).trans F)
  clear F
  go_wp2_with fail
  refine (HN.out _).mono ?_
  rintro e w1 ⟨b, s, r, g, rfl, B, hr, hg, hr2, hg2, F⟩
  obtain ⟨c0', c1', c2', c3', c4', c5', c6', c7', c8', c9', c10', c11', c12', c13', c14', c15'⟩ := sixteen (F.keep KX.out (by simp))
  have hrg : w.heap.size ≤ r ∧ w.heap.size ≤ g := by have := HF.out.size; omega
  have HF := Lib.hid (HF.out.trans F)
  have HB := Lib.hid B
  clear F B hr hg c0 c1 c2 c3 c4 c5 c6 c7 c8 c9 c10 c11 c12 c13 c14 c15 KX
  go_wp2_with fail
  refine (HN2.out _).mono ?_
  rintro e w2 ⟨rfl, F⟩
  rw [HM.out, HQ.out, HOK.out]
  have HF := Lib.hid (HF.out.trans F)
  have HB := Lib.hid (HB.out.fr0 F)
  have hlts := HB.out.lts
  clear F HM HQ HN HN2 c0' c1' c2' c3' c4' c5' c6' c7' c8' c9' c10' c11' c12' c13' c14' c15'
  have hszw := HF.out.size
  have HX : Hid (RBox (w2.alloc (.cells #[.int .i64 m, .int .i64 q, .slice none 0 0, .slice none 0 0] 49)) w2.heap.size m q ([], [])) := Lib.hid ⟨_, _, block_alloc_new _ _, Lst.nil _ _, Lst.nil _ _⟩
  have HB := Lib.hid (HB.out.fr0 ((Fr.refl [] w2).alloc (.cells #[.int .i64 m, .int .i64 q, .slice none 0 0, .slice none 0 0] 49)))
  have HF := Lib.hid (HF.out.alloc (.cells #[.int .i64 m, .int .i64 q, .slice none 0 0, .slice none 0 0] 49))
  generalize Value.agg #[.int .i64 mode, .int .i64 pool, .int .i64 queue, .int .i64 sem, .int .i64 fb, .int .i64 ch, .int .u64 t, .int .u64 ft, .int .i64 vo, .int .i64 pe, .int .u64 sl, .int .i64 bu, .int .u64 wi, .int .u64 wd, .int .i64 ba, .int .i64 fo] = cv at *
  go_wp2_with fail
  go_loopw [11] (fun v wr => ∃ i : Nat, i ≤ ds.length ∧ i ≤ 100 ∧ v = .int .i64 i ∧ Hid (IsBulk wr b s r g (afterB m q (ds.take i)).1 (afterB m q (ds.take i)).2 m q) ∧ Hid (RBox wr w2.heap.size m q (afterB m q (ds.take i))) ∧ Hid (Fr [] w wr) ∧ w2.heap.size < wr.heap.size) (fun v _ => ds.length - (intOf v).toNat)
  case atStart => exact ⟨0, Nat.zero_le _, by omega, rfl, Lib.hid (by simpa [afterB] using HB.out), Lib.hid (by simpa [afterB] using HX.out), HF, by simp⟩
  case round =>
    obtain ⟨i, hi, hi2, rfl, HBi, HXi, HFi, hsi⟩ := hrel
    by_cases hlt : i < ds.length
    · by_cases hlt2 : i < 100
      · obtain ⟨b1, o1, rfl, hc1, hc2⟩ := HD.out i hlt
        have hc1' := (HFi.out.cell (p := ⟨b1, o1 + i * 2, none⟩) (World.block_lt_of_cell? _ _ hc1) (by simp)).trans hc1
        have hc2' := (HFi.out.cell (p := ⟨b1, o1 + i * 2 + 1, none⟩) (World.block_lt_of_cell? _ _ hc2) (by simp)).trans hc2
        clear hc1 hc2
        have HA := Lib.hid (afterB_snoc m q ds i hlt)
        generalize (ds.getD i (0, 0)).1 = k at *
        generalize (ds.getD i (0, 0)).2 = x at *
        obtain ⟨vr, vw, hX, hVr, hVw⟩ := HXi.out
        obtain ⟨x0, x1, x2, x3, xf⟩ := four hX
        have HDo := Lib.hid (fun (wx : World) (F : Fr [] wr wx) => doB (HBi.out.fr0 F) (hVr.fr F (by simp)) (hVw.fr F (by simp)) (show r < w2.heap.size + 1 ∧ g < w2.heap.size + 1 ∧ w2.heap.size + 1 ≤ wx.heap.size from ⟨by omega, by omega, by have := F.size; omega⟩) k x)
        have hX' := Lib.hid hX
        have hVr' := Lib.hid hVr
        have hVw' := Lib.hid hVw
        have FA : Fr [] wr (wr.alloc (.cells #[.int .i64 0, .int .i64 0, .slice none 0 0, .slice none 0 0] 49)) := (Fr.refl _ _).alloc _
        have hc1a := (FA.cell (p := ⟨b1, o1 + i * 2, none⟩) (World.block_lt_of_cell? _ _ hc1') (by simp)).trans hc1'
        have hc2a := (FA.cell (p := ⟨b1, o1 + i * 2 + 1, none⟩) (World.block_lt_of_cell? _ _ hc2') (by simp)).trans hc2'
        obtain ⟨x0a, x1a, x2a, x3a, xfa⟩ := four (FA.keep hX (by simp))
        clear hVr hVw hX FA
        generalize deedB m q (afterB m q (List.take i ds)) k x = P' at *
        go_wp2_with fail
        go_region_with (first
          | (go_at_call 30; refine (HDo.out _ (Fr.refl _ _).drew).mono ?_; rintro e w5 ⟨vr5, vw5, rfl, B5, R5, W5, F5⟩; obtain ⟨ar5, cr5, hvr5⟩ := R5.form hVr'.out.1; obtain ⟨aw5, cw5, hvw5⟩ := W5.form hVw'.out.1; subst hvr5 hvw5; have FIN := Lib.hid (fun (w6 : World) (F6 : Fr [] w5 w6) => rel10 HFi.out (by omega) (round10 hX'.out hVr'.out hVw'.out (Fr.refl [] wr).drew B5 R5 W5 F5 F6 (by simp) hlts)); have Z5 := F5.keep (Fr.keep (Fr.refl [] wr).drew hX'.out (by simp)) (by simp; omega); obtain ⟨y0, y1, y2, y3, yf⟩ := four (((Fr.refl [] w5).alloc (.cells #[.int .i64 m, .int .i64 q, .slice ar5 P'.1.length cr5, .slice aw5 P'.2.length cw5] 49)).keep Z5 (by simp)); obtain ⟨w7, hw7, G1, G2, G3, G4⟩ : ∃ w7, w7 = (((((w5.alloc (.cells #[.int .i64 m, .int .i64 q, .slice ar5 P'.1.length cr5, .slice aw5 P'.2.length cw5] 49)).setCell ⟨w2.heap.size, 0, none⟩ (.int .i64 m)).setCell ⟨w2.heap.size, 1, none⟩ (.int .i64 q)).setCell ⟨w2.heap.size, 2, none⟩ (.slice ar5 P'.1.length cr5)).setCell ⟨w2.heap.size, 3, none⟩ (.slice aw5 P'.2.length cw5)) ∧ (Hid (IsBulk w7 b s r g P'.1 P'.2 m q) ∧ Hid (RBox w7 w2.heap.size m q P') ∧ Hid (Fr [] w w7) ∧ w2.heap.size < w7.heap.size) := ⟨_, rfl, FIN.out _ ((Fr.refl _ _).alloc _)⟩; clear FIN B5 R5 W5 F5 Z5)
          | (go_at_call 30; refine (HDo.out _ (((Fr.refl _ _).alloc _).drew)).mono ?_; rintro e w5 ⟨vr5, vw5, rfl, B5, R5, W5, F5⟩; obtain ⟨ar5, cr5, hvr5⟩ := R5.form hVr'.out.1; obtain ⟨aw5, cw5, hvw5⟩ := W5.form hVw'.out.1; subst hvr5 hvw5; have FIN := Lib.hid (fun (w6 : World) (F6 : Fr [wr.heap.size] w5 w6) => rel10 HFi.out (by omega) (round10 hX'.out hVr'.out hVw'.out (((Fr.refl [] wr).alloc zeroB).drew) B5 R5 W5 F5 F6 (by simp) hlts)); have Z5 := F5.keep (Fr.keep (((Fr.refl [] wr).alloc zeroB).drew) hX'.out (by simp)) (by simp; omega); obtain ⟨y0, y1, y2, y3, yf⟩ := four Z5; have Z6 := F5.keep (b := wr.heap.size) (o := zeroB) (block_alloc_new wr zeroB) (by simp; omega); obtain ⟨z0, z1, z2, z3, zf⟩ := four Z6; obtain ⟨w7, hw7, G1, G2, G3, G4⟩ : ∃ w7, w7 = ((((((((w5.setCell ⟨wr.heap.size, 0, none⟩ (.int .i64 m)).setCell ⟨wr.heap.size, 1, none⟩ (.int .i64 q)).setCell ⟨wr.heap.size, 2, none⟩ (.slice ar5 P'.1.length cr5)).setCell ⟨wr.heap.size, 3, none⟩ (.slice aw5 P'.2.length cw5)).setCell ⟨w2.heap.size, 0, none⟩ (.int .i64 m)).setCell ⟨w2.heap.size, 1, none⟩ (.int .i64 q)).setCell ⟨w2.heap.size, 2, none⟩ (.slice ar5 P'.1.length cr5)).setCell ⟨w2.heap.size, 3, none⟩ (.slice aw5 P'.2.length cw5)) ∧ (Hid (IsBulk w7 b s r g P'.1 P'.2 m q) ∧ Hid (RBox w7 w2.heap.size m q P') ∧ Hid (Fr [] w w7) ∧ w2.heap.size < w7.heap.size) := ⟨_, rfl, FIN.out _ (fr_four _ _ _ _)⟩; clear FIN B5 R5 W5 F5 Z5 Z6))
        all_goals clear hc1' hc2' hc1a hc2a x0 x1 x2 x3 xf x0a x1a x2a x3a xfa
        all_goals go_wp2_with fail
        all_goals rw [← hw7]
        all_goals clear hw7 y0 y1 y2 y3 yf
        all_goals (try clear z0 z1 z2 z3 zf)
        all_goals (
          obtain ⟨vr7, vw7, hX7, hVr7, hVw7⟩ := G2.out
          obtain ⟨ar7, cr7, rfl, -⟩ := hVr7.1
          obtain ⟨aw7, cw7, rfl, -⟩ := hVw7.1
          have hl7 := G1.out.lens
          obtain ⟨-, -, u2, u3, -⟩ := four hX7
          have HBu := Lib.hid (fun (wx : World) (F : Fr [] w7 wx) => (G1.out.fr0 F).busy)
          have HRu := Lib.hid (fun (wx : World) (F : Fr [] w7 wx) => (G1.out.fr0 F).runs x0)
          have HHa := Lib.hid (fun (wx : World) (F : Fr [] w7 wx) => has_spec (hVr7.1.fr F (by simp)) (by omega) x0)
          have HWa := Lib.hid (fun (wx : World) (F : Fr [] w7 wx) => (G1.out.fr0 F).waiting)
          have HSa : Hid (∀ (wx : World) (v : Value), RdInts wx v P'.2 → Fr [] w7 wx → Calls Try.prog 18 #[v, .slice aw7 P'.2.length cw7] wx fun e w' => e = .returned (.bool true) ∧ ∃ q, w' = wx.drewN q) := Lib.hid (fun wx v V F => by
            have := same_spec V (hVw7.1.fr F (by simp)) (by omega)
            rwa [show same P'.2 P'.2 = true by simp [same]] at this)
          clear hX7 hVr7 hVw7
          generalize decide (x0 ∈ P'.1) = bb at *
          have FX := Fr.refl [] w7
          have KS := Lib.hid (fun (w' : World) (F : Fr [] w7 w') => (⟨(F.cell (p := ⟨w2.heap.size, 2, none⟩) G4 (by simp)).trans u2, (F.cell (p := ⟨w2.heap.size, 3, none⟩) G4 (by simp)).trans u3⟩ : w'.cell? ⟨w2.heap.size, 2, none⟩ = some (.slice ar7 P'.1.length cr7) ∧ w'.cell? ⟨w2.heap.size, 3, none⟩ = some (.slice aw7 P'.2.length cw7)))
          clear u2 u3
          go_region_held3 (fun w' => w'.cell? ⟨w2.heap.size, 2, none⟩ = some (.slice ar7 P'.1.length cr7) ∧ w'.cell? ⟨w2.heap.size, 3, none⟩ = some (.slice aw7 P'.2.length cw7)) (exact KS.out _ (by repeat (first | exact FX | exact Fr.refl _ _ | apply Fr.drew | apply Fr.drewN | apply Fr.alloc))) (first
            | (go_at_call 31; refine (HBu.out _ (by repeat (first | exact FX | exact Fr.refl _ _ | apply Fr.drew | apply Fr.drewN | apply Fr.alloc))).mono ?_; rintro e w8 ⟨rfl, rfl⟩)
            | (go_at_call 32; refine (HRu.out _ (by repeat (first | exact FX | exact Fr.refl _ _ | apply Fr.drew | apply Fr.drewN | apply Fr.alloc))).mono ?_; rintro e w8 ⟨rfl, F⟩; have FX : Fr [] w7 w8 := Fr.trans (by repeat (first | exact FX | exact Fr.refl _ _ | apply Fr.drew | apply Fr.drewN | apply Fr.alloc)) F; clear F)
            | (go_at_call 24; refine (HHa.out _ (by repeat (first | exact FX | exact Fr.refl _ _ | apply Fr.drew | apply Fr.drewN | apply Fr.alloc))).mono ?_; rintro e w9 ⟨rfl, rfl⟩)
            | (go_at_call 33; refine (HWa.out _ (by repeat (first | exact FX | exact Fr.refl _ _ | apply Fr.drew | apply Fr.drewN | apply Fr.alloc))).mono ?_; rintro e w9 ⟨v9, rfl, V9, F⟩; have FX := FX.trans F; clear F)
            | (go_at_call 18; refine (HSa.out _ _ V9.1 FX).mono ?_; rintro e w10 ⟨rfl, q10, rfl⟩))
          all_goals go_wp2_with fail
          all_goals (
            go_roundw
            case rel => exact ⟨i + 1, by omega, by omega, by go_num, by rw [HA.out]; exact Lib.hid (G1.out.fr0 (FX.drewN q10)), by rw [HA.out]; obtain ⟨vr, vw, k1, k2, k3⟩ := G2.out; exact Lib.hid ⟨vr, vw, (FX.drewN q10).keep k1 (by simp), k2.fr (FX.drewN q10) (by simp), k3.fr (FX.drewN q10) (by simp)⟩, Lib.hid (G3.out.trans (FX.drewN q10)), by have := (FX.drewN q10).size; omega⟩
            case measure => simp [intOf]; omega))
      · go_wp2_with fail
        go_ret
        exact ⟨by trivial, HFi.out⟩
    · go_wp2_with fail
      go_ret
      exact ⟨by trivial, HFi.out⟩
end Go.Proofs.Ythbhkmhmiplikaa
