/-
  BulkBounds, as a contract of its function.
-/
import Derived.Test.YthbhkmhmiplikaaBulkLaws2
import Derived.Deep.RegionHeld3
import Derived.Deep.CutRange
namespace Go.Proofs.Ythbhkmhmiplikaa
open Go.RowKit

theorem box_zero {w : World} {p m q : Nat} (h : w.heap[p]? = some zeroB) (vr vw : Value) :
    ((((w.setCell ⟨p, 0, none⟩ (.int .i64 m)).setCell ⟨p, 1, none⟩ (.int .i64 q)).setCell ⟨p, 2, none⟩ vr).setCell ⟨p, 3, none⟩ vw).heap[p]? = some (boxB m q vr vw) := by
  rw [block_setCell (block_setCell (block_setCell (block_setCell h 0 _) 1 _) 2 _) 3 _]
  rfl
theorem RdInts.take {w : World} {ao : Option Addr} {cap : Nat} {xs : List Int} (h : RdInts w (.slice ao xs.length cap) xs) {k : Nat} (hk : k ≤ xs.length) : RdInts w (.slice ao k cap) (xs.take k) := by
  obtain ⟨a2, c2, he, h2, h3, h4⟩ := h
  simp only [Value.slice.injEq, true_and] at he
  obtain ⟨rfl, rfl⟩ := he
  have hl : (xs.take k).length = k := by rw [List.length_take]; omega
  refine ⟨ao, cap, by rw [hl], by omega, h3, fun j hj => ?_⟩
  rw [hl] at hj
  obtain ⟨b, o, h5, h6⟩ := h4 j (by omega)
  refine ⟨b, o, h5, ?_⟩
  rw [h6]
  simp [el, List.getD, hj]
theorem el_not_before {xs : List Int} (hn : xs.Nodup) {k : Nat} (hk : k < xs.length) : el xs k ∉ xs.take k := by
  intro h
  obtain ⟨j, hj, he⟩ := List.getElem_of_mem h
  rw [List.length_take] at hj
  rw [List.getElem_take] at he
  have e2 : el xs k = xs[k] := by simp [el, List.getD, hk]
  rw [e2] at he
  have := (List.getElem_inj (h₀ := by omega) (h₁ := hk) hn).1 he
  omega
theorem el_in {xs : List Int} {k : Nat} (hk : k < xs.length) : el xs k ∈ xs := by
  have e2 : el xs k = xs[k] := by simp [el, List.getD, hk]
  rw [e2]
  exact List.getElem_mem hk

set_option maxHeartbeats 8000000 in
set_option maxRecDepth 20000 in
theorem bulkBounds_spec {w : World} {v : Value} {ds : List (Int × Int)} (hd : Deeds w v ds) (pool : Bool) (n0 n1 : Nat) (h0 : n0 < 256) (h1 : n1 < 256) :
    Calls Try.prog 10 #[.agg #[.int .u8 n0, .int .u8 n1], .bool pool, v] w fun e w' => e = .returned (.bool true) ∧ Fr [] w w' := by
  obtain ⟨m, q, hm8, hq8, k1, k2, k3, k4⟩ := confOf_all pool n0 n1
  have HC := Lib.hid (fun w => conf_spec pool n0 n1 (by omega) (by omega) w)
  have HN := Lib.hid (fun w => bulk_new_yes (confOf pool n0 n1) w m q k1 k2 k3 ⟨hm8, hq8⟩)
  have HN2 := Lib.hid (fun w => ref10_new (confOf pool n0 n1) w)
  have HM := Lib.hid k1
  have HQ := Lib.hid k2
  generalize confOf pool (n0 : Int) (n1 : Int) = cf at *
  obtain ⟨mode, cpool, queue, sem, fb, ch, t, ft, vo, pe, sl, bu, wi, wd, ba, fo⟩ := cf
  obtain ⟨k5, k6⟩ := k4
  simp only at k5 k6
  subst k6
  clear k1 k2 k3
  obtain ⟨ao, cap, rfl, hd2, hd3⟩ := hd
  have HD := Lib.hid hd3
  clear hd3
  simp only [CF.val] at *
  go_enter Try.func10, Try.ntmps10
  go_wp2_with fail
  refine (awake10 _).mono ?_
  rintro e w1 ⟨rfl, F⟩
  have c0 := (F.cell (p := ⟨w.heap.size, 0, none⟩) (by simp) (by simp)).trans (World.cell?_alloc_new _ _ _ 0)
  have c1 := (F.cell (p := ⟨w.heap.size, 1, none⟩) (by simp) (by simp)).trans (World.cell?_alloc_new _ _ _ 1)
  have HF := Lib.hid (((Fr.refl [] w).alloc _).trans F)
  clear F
  go_wp2_with fail
  refine (HC.out _).mono ?_
  rintro e w2 ⟨rfl, F⟩
  have HF := Lib.hid (HF.out.trans F)
  clear F c0 c1
  go_wp2_with fail
  have HF' := Lib.hid (HF.out.alloc (.cells #[.int .i64 mode, .int .i64 cpool, .int .i64 q, .int .i64 sem, .int .i64 fb, .int .i64 ch, .int .u64 t, .int .u64 ft, .int .i64 vo, .int .i64 pe, .int .u64 sl, .int .i64 bu, .int .u64 wi, .int .u64 wd, .int .i64 ba, .int .i64 fo] 44))
  refine (HN.out _).mono ?_
  rintro e w3 ⟨b, s, r, g, rfl, B, hr, hg, hr2, hg2, F⟩
  have KB := F.keep (block_alloc_new _ _) (by simp)
  obtain ⟨c0', c1', c2', c3', c4', c5', c6', c7', c8', c9', c10', c11', c12', c13', c14', c15'⟩ := sixteen KB
  have hrg : w.heap.size ≤ r ∧ w.heap.size ≤ g := ⟨Nat.le_trans HF'.out.size hr, Nat.le_trans HF'.out.size hg⟩
  have hne : w2.heap.size < r ∧ w2.heap.size < g := by simp at hr hg; omega
  have HF := Lib.hid (HF'.out.trans F)
  have HB := Lib.hid B
  have KB := Lib.hid KB
  clear B F hr hg HF' HC HN
  go_wp2_with fail
  refine (HN2.out _).mono ?_
  rintro e w4 ⟨rfl, F⟩
  rw [HM.out, HQ.out]
  have KB := Lib.hid (F.keep KB.out (by simp))
  have hcb := lt_of_block KB.out
  have HF := Lib.hid (HF.out.trans F)
  have HB := Lib.hid (HB.out.fr0 F)
  have hlts := HB.out.lts
  clear F HM HQ HN2 c0' c1' c2' c3' c4' c5' c6' c7' c8' c9' c10' c11' c12' c13' c14' c15'
  generalize CF.ok _ = okv
  have hszw := HF.out.size
  have HX : Hid (RBox (w4.alloc (.cells #[.int .i64 m, .int .i64 q, .slice none 0 0, .slice none 0 0] 49)) w4.heap.size m q ([], [])) := Lib.hid ⟨_, _, block_alloc_new _ _, Lst.nil _ _, Lst.nil _ _⟩
  have HB := Lib.hid (HB.out.fr0 ((Fr.refl [] w4).alloc (.cells #[.int .i64 m, .int .i64 q, .slice none 0 0, .slice none 0 0] 49)))
  have HF := Lib.hid (HF.out.alloc (.cells #[.int .i64 m, .int .i64 q, .slice none 0 0, .slice none 0 0] 49))
  have KB := Lib.hid (((Fr.refl [] w4).alloc (.cells #[.int .i64 m, .int .i64 q, .slice none 0 0, .slice none 0 0] 49)).keep KB.out (by simp))
  obtain ⟨cobj, hcobj⟩ : ∃ o, o = (Obj.cells #[.int .i64 mode, .int .i64 cpool, .int .i64 q, .int .i64 sem, .int .i64 fb, .int .i64 ch, .int .u64 t, .int .u64 ft, .int .i64 vo, .int .i64 pe, .int .u64 sl, .int .i64 bu, .int .u64 wi, .int .u64 wd, .int .i64 ba, .int .i64 fo] 44) := ⟨_, rfl⟩
  rw [← hcobj] at KB
  have HCO := Lib.hid (fun (wx : World) (h : wx.heap[w2.heap.size]? = some cobj) => (by
    rw [hcobj] at h
    obtain ⟨-, q1, q2, q3, -⟩ := sixteen h
    exact ⟨q1, q2, q3⟩ : wx.cell? ⟨w2.heap.size, 1, none⟩ = some (.int .i64 cpool) ∧ wx.cell? ⟨w2.heap.size, 2, none⟩ = some (.int .i64 q) ∧ wx.cell? ⟨w2.heap.size, 3, none⟩ = some (.int .i64 sem)))
  clear hcobj
  generalize Value.agg #[.int .i64 mode, .int .i64 cpool, .int .i64 q, .int .i64 sem, .int .i64 fb, .int .i64 ch, .int .u64 t, .int .u64 ft, .int .i64 vo, .int .i64 pe, .int .u64 sl, .int .i64 bu, .int .u64 wi, .int .u64 wd, .int .i64 ba, .int .i64 fo] = cv at *
  go_wp2_with fail
  go_loopw [12] (fun v wr => ∃ i : Nat, i ≤ ds.length ∧ i ≤ 100 ∧ v = .int .i64 i ∧ Hid (IsBulk wr b s r g (afterB m q (ds.take i)).1 (afterB m q (ds.take i)).2 m q) ∧ Hid (RBox wr w4.heap.size m q (afterB m q (ds.take i))) ∧ Hid (Fr [] w wr) ∧ w4.heap.size < wr.heap.size ∧ Hid (wr.heap[w2.heap.size]? = some cobj)) (fun v _ => ds.length - (intOf v).toNat)
  case atStart => exact ⟨0, Nat.zero_le _, by omega, rfl, Lib.hid (by simpa [afterB] using HB.out), Lib.hid (by simpa [afterB] using HX.out), HF, by simp, KB⟩
  case round =>
    obtain ⟨i, hi, hi2, rfl, HBi, HXi, HFi, hsi, HCi⟩ := hrel
    by_cases hlt : i < ds.length
    · by_cases hlt2 : i < 100
      · obtain ⟨b1, o1, rfl, hc1, hc2⟩ := HD.out i hlt
        have hc1' := (HFi.out.cell (p := ⟨b1, o1 + i * 2, none⟩) (World.block_lt_of_cell? _ _ hc1) (by simp)).trans hc1
        have hc2' := (HFi.out.cell (p := ⟨b1, o1 + i * 2 + 1, none⟩) (World.block_lt_of_cell? _ _ hc2) (by simp)).trans hc2
        clear hc1 hc2
        have HA := Lib.hid (afterB_snoc m q ds i hlt)
        generalize (ds.getD i (0, 0)).1 = k at *
        generalize (ds.getD i (0, 0)).2 = x at *
        obtain ⟨vr, vw, hX, hVr, hVw⟩ := HXi.out
        obtain ⟨x0, x1, x2, x3, xf⟩ := four hX
        have HDo := Lib.hid (fun (wx : World) (F : Fr [] wr wx) => doB (HBi.out.fr0 F) (hVr.fr F (by simp)) (hVw.fr F (by simp)) (show r < w4.heap.size + 1 ∧ g < w4.heap.size + 1 ∧ w4.heap.size + 1 ≤ wx.heap.size from ⟨by omega, by omega, by have := F.size; omega⟩) k x)
        have hX' := Lib.hid hX
        have hVr' := Lib.hid hVr
        have hVw' := Lib.hid hVw
        have FA : Fr [] wr (wr.alloc (.cells #[.int .i64 0, .int .i64 0, .slice none 0 0, .slice none 0 0] 49)) := (Fr.refl _ _).alloc _
        have hc1a := (FA.cell (p := ⟨b1, o1 + i * 2, none⟩) (World.block_lt_of_cell? _ _ hc1') (by simp)).trans hc1'
        have hc2a := (FA.cell (p := ⟨b1, o1 + i * 2 + 1, none⟩) (World.block_lt_of_cell? _ _ hc2') (by simp)).trans hc2'
        obtain ⟨x0a, x1a, x2a, x3a, xfa⟩ := four (FA.keep hX (by simp))
        clear hVr hVw hX FA
        generalize deedB m q (afterB m q (List.take i ds)) k x = P' at *
        go_upto_region 8 with fail
        go_cut [13, 14] from 31 to 90 (fun s13 s14 wx => ∃ (g5 : Nat) (ar5 : Option Addr) (cr5 : Nat) (aw5 : Option Addr) (cw5 : Nat), s13 = .pointer (some ⟨g5, 0, none⟩) ∧ s14 = .bool true ∧ Hid (wx.heap[g5]? = some (boxB m q (.slice ar5 P'.1.length cr5) (.slice aw5 P'.2.length cw5))) ∧ Hid (wx.heap[w4.heap.size]? = some (boxB m q vr vw)) ∧ Hid (IsBulk ((((wx.setCell ⟨w4.heap.size, 0, none⟩ (.int .i64 m)).setCell ⟨w4.heap.size, 1, none⟩ (.int .i64 q)).setCell ⟨w4.heap.size, 2, none⟩ (.slice ar5 P'.1.length cr5)).setCell ⟨w4.heap.size, 3, none⟩ (.slice aw5 P'.2.length cw5)) b s r g P'.1 P'.2 m q) ∧ Hid (RBox ((((wx.setCell ⟨w4.heap.size, 0, none⟩ (.int .i64 m)).setCell ⟨w4.heap.size, 1, none⟩ (.int .i64 q)).setCell ⟨w4.heap.size, 2, none⟩ (.slice ar5 P'.1.length cr5)).setCell ⟨w4.heap.size, 3, none⟩ (.slice aw5 P'.2.length cw5)) w4.heap.size m q P') ∧ Hid (Fr [r, g, w4.heap.size] wr ((((wx.setCell ⟨w4.heap.size, 0, none⟩ (.int .i64 m)).setCell ⟨w4.heap.size, 1, none⟩ (.int .i64 q)).setCell ⟨w4.heap.size, 2, none⟩ (.slice ar5 P'.1.length cr5)).setCell ⟨w4.heap.size, 3, none⟩ (.slice aw5 P'.2.length cw5))))
        case first =>
          go_region_with (first
            | (go_at_call 30; refine (HDo.out _ (Fr.refl _ _).drew).mono ?_; rintro e w5 ⟨vr5, vw5, rfl, B5, R5, W5, F5⟩; obtain ⟨ar5, cr5, hvr5⟩ := R5.form hVr'.out.1; obtain ⟨aw5, cw5, hvw5⟩ := W5.form hVw'.out.1; subst hvr5 hvw5; have Z5 := F5.keep (Fr.keep (Fr.refl [] wr).drew hX'.out (by simp)) (by simp; omega); have FIN := round10 hX'.out hVr'.out hVw'.out (Fr.refl [] wr).drew B5 R5 W5 F5 ((Fr.refl [] w5).alloc (boxB m q (.slice ar5 P'.1.length cr5) (.slice aw5 P'.2.length cw5))) (by simp) hlts; have A1 := Lib.hid (block_alloc_new w5 (boxB m q (.slice ar5 P'.1.length cr5) (.slice aw5 P'.2.length cw5))); have A2 := Lib.hid (((Fr.refl [] w5).alloc (boxB m q (.slice ar5 P'.1.length cr5) (.slice aw5 P'.2.length cw5))).keep Z5 (by simp)); have A3 := Lib.hid FIN.1; have A4 := Lib.hid FIN.2.1; have A5 := Lib.hid FIN.2.2.1; clear FIN B5 R5 W5 F5 Z5)
            | (go_at_call 30; refine (HDo.out _ (((Fr.refl _ _).alloc _).drew)).mono ?_; rintro e w5 ⟨vr5, vw5, rfl, B5, R5, W5, F5⟩; obtain ⟨ar5, cr5, hvr5⟩ := R5.form hVr'.out.1; obtain ⟨aw5, cw5, hvw5⟩ := W5.form hVw'.out.1; subst hvr5 hvw5; have Z5 := F5.keep (Fr.keep (((Fr.refl [] wr).alloc zeroB).drew) hX'.out (by simp)) (by simp; omega); have Z6 := F5.keep (b := wr.heap.size) (o := zeroB) (block_alloc_new wr zeroB) (by simp; omega); obtain ⟨z0, z1, z2, z3, zf⟩ := four Z6; have FF := fr_four (w := w5) (b := wr.heap.size) (.int .i64 m) (.int .i64 q) (.slice ar5 P'.1.length cr5) (.slice aw5 P'.2.length cw5); have FIN := round10 hX'.out hVr'.out hVw'.out (((Fr.refl [] wr).alloc zeroB).drew) B5 R5 W5 F5 FF (by simp) hlts; have A1 := Lib.hid (box_zero (m := m) (q := q) Z6 (.slice ar5 P'.1.length cr5) (.slice aw5 P'.2.length cw5)); have A2 := Lib.hid (FF.keep Z5 (by simp; omega)); have A3 := Lib.hid FIN.1; have A4 := Lib.hid FIN.2.1; have A5 := Lib.hid FIN.2.2.1; clear FIN FF B5 R5 W5 F5 Z5 Z6))
          all_goals (
            go_wp2_with fail
            go_meet
            exact ⟨_, _, _, _, _, rfl, rfl, A1, A2, A3, A4, A5⟩)
        case rest =>
          obtain ⟨g5, ar5, cr5, aw5, cw5, rfl, rfl, A1, A2, A3, A4, A5⟩ := hcut
          obtain ⟨w7, hw7, G1, G2, G3⟩ : ∃ w7, w7 = ((((wc.setCell ⟨w4.heap.size, 0, none⟩ (.int .i64 m)).setCell ⟨w4.heap.size, 1, none⟩ (.int .i64 q)).setCell ⟨w4.heap.size, 2, none⟩ (.slice ar5 P'.1.length cr5)).setCell ⟨w4.heap.size, 3, none⟩ (.slice aw5 P'.2.length cw5)) ∧ (Hid (IsBulk w7 b s r g P'.1 P'.2 m q) ∧ Hid (RBox w7 w4.heap.size m q P') ∧ Hid (Fr [r, g, w4.heap.size] wr w7)) := ⟨_, rfl, A3, A4, A5⟩
          obtain ⟨z0, z1, z2, z3, zf⟩ := four A1.out
          obtain ⟨y0, y1, y2, y3, yf⟩ := four A2.out
          clear A1 A2 A3 A4 A5 hc1' hc2' hc1a hc2a x0 x1 x2 x3 xf x0a x1a x2a x3a xfa
          go_wp2_with fail
          rw [← hw7]
          clear hw7 y0 y1 y2 y3 yf z0 z1 z2 z3 zf
          have hl7 := G1.out.lens
          have HC7 := Lib.hid (G3.out.keep HCi.out (by simp; omega))
          have HF7 := Lib.hid (HFi.out.trans' G3.out (fun x hx => .inr (by simp at hx; omega)))
          have hs7 : w4.heap.size < w7.heap.size := by have := G3.out.size; omega
          have HND := Lib.hid G1.out.nodup
          go_wp2_with fail
          refine (G1.out.waiting).mono ?_
          rintro e w8 ⟨v8, rfl, V, F8⟩
          have HF8 := Lib.hid F8
          have HV := Lib.hid V.1
          obtain ⟨a8, c8, rfl, -⟩ := V.1
          clear V F8
          obtain ⟨y1, y2, y3⟩ := HCO.out _ (HF8.out.keep HC7.out (by simp))
          have HBu := Lib.hid (fun (wx : World) (F : Fr [] w8 wx) => (G1.out.fr0 (HF8.out.trans F)).busy)
          have hb1 : decide ((m : Int) < P'.1.length) = false := decide_eq_false (by omega)
          have hb2 : decide ((q : Int) < P'.2.length) = false := decide_eq_false (by omega)
          have hb4 : decide (IntKind.i64.wrap (cpool + sem) < P'.1.length) = false := by rw [k5, IntKind.wrap_i64]; exact decide_eq_false (by omega)
          have hb5 : decide (m < P'.1.length) = false := decide_eq_false (by omega)
          have hb6 : decide (q < P'.2.length) = false := decide_eq_false (by omega)
          clear k5
          go_wp2_with fail
          go_quiet ((go_at_call 31; exact Calls.quiet_of ((HBu.out _ ((Fr.refl _ _).drewN _)).mono (fun e w' h => ⟨h.1, 0, by rw [h.2]; rfl⟩))))
          go_wp2_with fail
          have hs8 := HF8.out.size
          have HF78 := Lib.hid (HF7.out.trans HF8.out)
          go_loopw [16] (fun v wk => ∃ kk : Nat, kk ≤ P'.2.length ∧ v = .int .i64 kk ∧ Hid (Fr [] w8 wk)) (fun v _ => P'.2.length - (intOf v).toNat)
          case atStart => exact ⟨0, Nat.zero_le _, rfl, Lib.hid (Fr.of_drewN _ _)⟩
          case round =>
            obtain ⟨kk, hkk, rfl, HFk⟩ := hrel
            by_cases hltk : kk < P'.2.length
            · have HRu := Lib.hid (fun (wx : World) (F : Fr [] w8 wx) => (G1.out.fr0 (HF8.out.trans F)).runs (el P'.2 kk))
              have HHa := Lib.hid (fun (wx : World) (F : Fr [] w8 wx) => has_spec ((HV.out.take hkk).fr F (by simp)) (by rw [List.length_take]; omega) (el P'.2 kk))
              have hno1 : decide (el P'.2 kk ∈ P'.1) = false := decide_eq_false (fun h => by
                have h2 := HND.out
                rw [List.nodup_append] at h2
                exact h2.2.2 _ h _ (el_in hltk) rfl)
              have hno2 : decide (el P'.2 kk ∈ P'.2.take kk) = false := decide_eq_false (el_not_before (by have h2 := HND.out; rw [List.nodup_append] at h2; exact h2.2.1) hltk)
              rw [hno1] at HRu
              rw [hno2] at HHa
              obtain ⟨a9, c9, he9, hc9le, -, h4⟩ := HV.out
              simp only [Value.slice.injEq, true_and] at he9
              obtain ⟨rfl, rfl⟩ := he9
              obtain ⟨b9, o9, rfl, hc9⟩ := h4 kk hltk
              clear h4 hno1 hno2
              generalize el P'.2 kk = y at *
              have FX := HFk.out
              have KS := Lib.hid (fun (w' : World) (F : Fr [] w8 w') => ((F.cell (World.block_lt_of_cell? _ _ hc9) (by simp)).trans hc9 : w'.cell? ⟨b9, o9 + kk, none⟩ = some (.int .i64 y)))
              clear hc9
              have t0 : (0 : Int) ≤ (kk : Int) := by omega
              have t1 : (kk : Int) < P'.2.length := by omega
              have t2 : (kk : Int) ≤ (c8 : Int) := by omega
              have t3 : kk ≤ c8 := by omega
              have hP8 : P'.2.length ≤ 8 := by have := hl7; omega
              clear HBi HXi HFi HCi HA HCO HC7 HF7 HND HF78 HF8 HV G1 G2 G3 hs8 hs7 hl7 hb1 hb2 hb4 y1 y2 y3 HBu HDo hX' hVr' hVw' HX HB HF KB HD hrg hne
              clear hb5 hb6
              generalize P'.2.length = n2 at *
              go_wp2_with fail
              go_region_held3 (fun w' => w'.cell? ⟨b9, o9 + kk, none⟩ = some (.int .i64 y)) (exact KS.out _ (by repeat (first | exact FX | exact Fr.refl _ _ | apply Fr.drew | apply Fr.drewN | apply Fr.alloc))) (first
                | (go_at_call 32; refine (HRu.out _ (by repeat (first | exact FX | exact Fr.refl _ _ | apply Fr.drew | apply Fr.drewN | apply Fr.alloc))).mono ?_; rintro e w9 ⟨rfl, F⟩; have FX : Fr [] w8 w9 := Fr.trans (by repeat (first | exact FX | exact Fr.refl _ _ | apply Fr.drew | apply Fr.drewN | apply Fr.alloc)) F;  clear F)
                | (go_at_call 24; refine (HHa.out _ (by repeat (first | exact FX | exact Fr.refl _ _ | apply Fr.drew | apply Fr.drewN | apply Fr.alloc))).mono ?_; rintro e w10 ⟨rfl, hw10⟩; subst hw10))
              all_goals (
                have HFX := Lib.hid FX
                clear FX KS HRu HHa
                go_wp2_with fail
                go_roundw
                case rel => exact ⟨kk + 1, by omega, by go_num, HFX⟩
                case measure => simp [intOf]; omega)
            · go_wp2_with fail
              go_roundw
              case rel => (first
                | exact ⟨i + 1, by omega, by omega, by go_num, by rw [HA.out]; exact Lib.hid (G1.out.fr0 (HF8.out.trans HFk.out)), by rw [HA.out]; obtain ⟨vr, vw, q1, q2, q3⟩ := G2.out; exact Lib.hid ⟨vr, vw, (HF8.out.trans HFk.out).keep q1 (by simp), q2.fr (HF8.out.trans HFk.out) (by simp), q3.fr (HF8.out.trans HFk.out) (by simp)⟩, Lib.hid (HF78.out.trans HFk.out), by have := HFk.out.size; omega, Lib.hid ((HF8.out.trans HFk.out).keep HC7.out (by simp))⟩
                | exact ⟨⟨i + 1, by omega, by omega, by go_num, by rw [HA.out]; exact Lib.hid (G1.out.fr0 (HF8.out.trans HFk.out)), by rw [HA.out]; obtain ⟨vr, vw, q1, q2, q3⟩ := G2.out; exact Lib.hid ⟨vr, vw, (HF8.out.trans HFk.out).keep q1 (by simp), q2.fr (HF8.out.trans HFk.out) (by simp), q3.fr (HF8.out.trans HFk.out) (by simp)⟩, Lib.hid (HF78.out.trans HFk.out), by have := HFk.out.size; omega, Lib.hid ((HF8.out.trans HFk.out).keep HC7.out (by simp))⟩, rfl⟩
                | exact ⟨_, ⟨i + 1, by omega, by omega, by go_num, by rw [HA.out]; exact Lib.hid (G1.out.fr0 (HF8.out.trans HFk.out)), by rw [HA.out]; obtain ⟨vr, vw, q1, q2, q3⟩ := G2.out; exact Lib.hid ⟨vr, vw, (HF8.out.trans HFk.out).keep q1 (by simp), q2.fr (HF8.out.trans HFk.out) (by simp), q3.fr (HF8.out.trans HFk.out) (by simp)⟩, Lib.hid (HF78.out.trans HFk.out), by have := HFk.out.size; omega, Lib.hid ((HF8.out.trans HFk.out).keep HC7.out (by simp))⟩, rfl⟩
                | (trace_state; fail))
              case measure => simp [intOf]; omega
      · go_wp2_with fail
        go_ret
        exact ⟨by trivial, HFi.out⟩
    · go_wp2_with fail
      go_ret
      exact ⟨by trivial, HFi.out⟩
end Go.Proofs.Ythbhkmhmiplikaa
