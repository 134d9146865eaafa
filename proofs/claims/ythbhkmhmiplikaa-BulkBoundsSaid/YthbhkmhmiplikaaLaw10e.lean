/-
  ran of porpoiselaw10.
-/
import Derived.Test.YthbhkmhmiplikaaLaw10d
import Derived.Test.YthbhkmhmiplikaaLaw04
namespace Go.Proofs.Ythbhkmhmiplikaa
open Go.RowKit

/-- Who runs, and who waits, behind deeds. -/
def afterB (m q : Nat) (ds : List (Int × Int)) : List Int × List Int := ds.foldl (fun p d => deedB m q p d.1 d.2) ([], [])
theorem afterB_snoc (m q : Nat) (ds : List (Int × Int)) (i : Nat) (h : i < ds.length) : afterB m q (ds.take (i + 1)) = deedB m q (afterB m q (ds.take i)) (ds.getD i (0, 0)).1 (ds.getD i (0, 0)).2 := by
  unfold afterB
  rw [List.take_succ_eq_append_getElem h, List.foldl_append]
  simp [List.getD, h]

/-- Block p holds the document's bulk. -/
def RBox (w : World) (p m q : Nat) (P : List Int × List Int) : Prop :=
  ∃ vr vw, w.heap[p]? = some (boxB m q vr vw) ∧ Lst w (p + 1) vr P.1 ∧ Lst w (p + 1) vw P.2

/-- A block of sixteen cells. -/
theorem sixteen {w : World} {b : Nat} {v0 v1 v2 v3 v4 v5 v6 v7 v8 v9 v10 v11 v12 v13 v14 v15 : Value} {E : TypeId} (h : w.heap[b]? = some (.cells #[v0, v1, v2, v3, v4, v5, v6, v7, v8, v9, v10, v11, v12, v13, v14, v15] E (0, 0))) :
    w.cell? ⟨b, 0, none⟩ = some v0 ∧ w.cell? ⟨b, 1, none⟩ = some v1 ∧ w.cell? ⟨b, 2, none⟩ = some v2 ∧ w.cell? ⟨b, 3, none⟩ = some v3 ∧ w.cell? ⟨b, 4, none⟩ = some v4 ∧ w.cell? ⟨b, 5, none⟩ = some v5 ∧ w.cell? ⟨b, 6, none⟩ = some v6 ∧ w.cell? ⟨b, 7, none⟩ = some v7 ∧ w.cell? ⟨b, 8, none⟩ = some v8 ∧ w.cell? ⟨b, 9, none⟩ = some v9 ∧ w.cell? ⟨b, 10, none⟩ = some v10 ∧ w.cell? ⟨b, 11, none⟩ = some v11 ∧ w.cell? ⟨b, 12, none⟩ = some v12 ∧ w.cell? ⟨b, 13, none⟩ = some v13 ∧ w.cell? ⟨b, 14, none⟩ = some v14 ∧ w.cell? ⟨b, 15, none⟩ = some v15 :=
  ⟨by rw [cell_of_block h]; rfl, by rw [cell_of_block h]; rfl, by rw [cell_of_block h]; rfl, by rw [cell_of_block h]; rfl, by rw [cell_of_block h]; rfl, by rw [cell_of_block h]; rfl, by rw [cell_of_block h]; rfl, by rw [cell_of_block h]; rfl, by rw [cell_of_block h]; rfl, by rw [cell_of_block h]; rfl, by rw [cell_of_block h]; rfl, by rw [cell_of_block h]; rfl, by rw [cell_of_block h]; rfl, by rw [cell_of_block h]; rfl, by rw [cell_of_block h]; rfl, by rw [cell_of_block h]; rfl⟩

/-- What ran tells. -/
def RanB (w : World) (m q : Nat) (P : List Int × List Int) (e : Ending) (w' : World) : Prop :=
  ∃ b s r g, e = .returned (.pointer (some ⟨b, 0, none⟩)) ∧ IsBulk w' b s r g P.1 P.2 m q ∧ w.heap.size ≤ r ∧ w.heap.size ≤ g ∧ r < w'.heap.size ∧ g < w'.heap.size ∧ Fr [] w w'

theorem box_four {w : World} {p m q : Nat} {vr0 vw0 : Value} (h : w.heap[p]? = some (boxB m q vr0 vw0)) (vr vw : Value) :
    ((((w.setCell ⟨p, 0, none⟩ (.int .i64 m)).setCell ⟨p, 1, none⟩ (.int .i64 q)).setCell ⟨p, 2, none⟩ vr).setCell ⟨p, 3, none⟩ vw).heap[p]? = some (boxB m q vr vw) := by
  rw [block_setCell (block_setCell (block_setCell (block_setCell h 0 _) 1 _) 2 _) 3 _]
  rfl

theorem ON.form {w w' w0 : World} {v v' : Value} {xs xs' : List Int} (h : ON w w' v xs v' xs') (h0 : RdInts w0 v xs) : ∃ a c, v' = .slice a xs'.length c := by
  rcases h with ⟨rfl, rfl⟩ | h
  · obtain ⟨a, c, h, _⟩ := h0.form
    exact ⟨a, c, h⟩
  · obtain ⟨a, c, h, _⟩ := h.1.form
    exact ⟨a, c, h⟩

/-- A round's end: the document's bulk is laid back into its box. -/
theorem round10 {wr wx w5 w6 : World} {p b s r g m q : Nat} {P P' : List Int × List Int} {vr vw vr5 vw5 : Value} {S : List Nat} (hX : wr.heap[p]? = some (boxB m q vr vw)) (hVr : Lst wr (p + 1) vr P.1) (hVw : Lst wr (p + 1) vw P.2)
    (Fx : Fr [] wr wx) (hB5 : IsBulk w5 b s r g P'.1 P'.2 m q) (h1 : ON wx w5 vr P.1 vr5 P'.1) (h2 : ON wx w5 vw P.2 vw5 P'.2) (F5 : Fr [r, g] wx w5) (F6 : Fr S w5 w6) (hS : ∀ x ∈ S, wr.heap.size ≤ x ∧ x < wx.heap.size) (hlt : b < p ∧ s < p ∧ r < p ∧ g < p) :
    IsBulk ((((w6.setCell ⟨p, 0, none⟩ (.int .i64 m)).setCell ⟨p, 1, none⟩ (.int .i64 q)).setCell ⟨p, 2, none⟩ vr5).setCell ⟨p, 3, none⟩ vw5) b s r g P'.1 P'.2 m q ∧
    RBox ((((w6.setCell ⟨p, 0, none⟩ (.int .i64 m)).setCell ⟨p, 1, none⟩ (.int .i64 q)).setCell ⟨p, 2, none⟩ vr5).setCell ⟨p, 3, none⟩ vw5) p m q P' ∧
    Fr [r, g, p] wr ((((w6.setCell ⟨p, 0, none⟩ (.int .i64 m)).setCell ⟨p, 1, none⟩ (.int .i64 q)).setCell ⟨p, 2, none⟩ vr5).setCell ⟨p, 3, none⟩ vw5) ∧
    p < w6.heap.size := by
  have hp : p < wr.heap.size := lt_of_block hX
  have s1 := Fx.size
  have s2 := F5.size
  have s3 := F6.size
  have hpS : p ∉ S := fun h => by have := hS _ h; omega
  have F7 : Fr [p] w6 _ := fr_four (w := w6) (b := p) (.int .i64 m) (.int .i64 q) vr5 vw5
  have F67 : Fr (p :: S) w5 ((((w6.setCell ⟨p, 0, none⟩ (.int .i64 m)).setCell ⟨p, 1, none⟩ (.int .i64 q)).setCell ⟨p, 2, none⟩ vr5).setCell ⟨p, 3, none⟩ vw5) := (F6.mono (S' := p :: S) (fun x hx => .inl (List.mem_cons_of_mem _ hx))).trans (F7.mono (fun x hx => .inl (by simp at hx; simp [hx])))
  have F0 : Fr [r, g, p] wr ((((w6.setCell ⟨p, 0, none⟩ (.int .i64 m)).setCell ⟨p, 1, none⟩ (.int .i64 q)).setCell ⟨p, 2, none⟩ vr5).setCell ⟨p, 3, none⟩ vw5) :=
    ((Fx.mono (S' := [r, g, p]) (by simp)).trans (F5.mono (fun x hx => .inl (by simp at hx ⊢; rcases hx with h | h <;> simp [h])))).trans' F67 (fun x hx => by
      rcases List.mem_cons.1 hx with h | h
      · exact .inl (by simp [h])
      · exact .inr (hS x h).1)
  have hn : ∀ x, x < p → x ∉ p :: S := fun x hx h => by
    rcases List.mem_cons.1 h with h | h
    · omega
    · have := hS _ h; omega
  have hX6 := F6.keep (F5.keep (Fx.keep hX (by simp)) (by simp; omega)) hpS
  refine ⟨hB5.fr F67 ⟨hn _ hlt.1, hn _ hlt.2.1, hn _ hlt.2.2.1, hn _ hlt.2.2.2⟩, ⟨vr5, vw5, box_four hX6 _ _, ?_, ?_⟩, F0, by omega⟩
  · exact h1.lst hVr F0 (by simp; omega) F67 (fun x hx => by rcases List.mem_cons.1 hx with h | h; omega; exact (hS x h).2) (by omega)
  · exact h2.lst hVw F0 (by simp; omega) F67 (fun x hx => by rcases List.mem_cons.1 hx with h | h; omega; exact (hS x h).2) (by omega)

/-- .. as the loop wants it. -/
theorem rel10 {w wr wF : World} {p b s r g m q : Nat} {P : List Int × List Int} {N : Prop} (hF : Fr [] w wr) (hrg : w.heap.size ≤ r ∧ w.heap.size ≤ g ∧ w.heap.size ≤ p ∧ p < wr.heap.size) (h : IsBulk wF b s r g P.1 P.2 m q ∧ RBox wF p m q P ∧ Fr [r, g, p] wr wF ∧ N) :
    Hid (IsBulk wF b s r g P.1 P.2 m q) ∧ Hid (RBox wF p m q P) ∧ Hid (Fr [] w wF) ∧ p < wF.heap.size :=
  ⟨Lib.hid h.1, Lib.hid h.2.1, Lib.hid (hF.trans' h.2.2.1 (fun x hx => .inr (by simp at hx; omega))), by have := h.2.2.1.size; omega⟩

set_option maxHeartbeats 4000000 in
theorem ran10 {w : World} {v : Value} {ds : List (Int × Int)} (hd : Deeds w v ds) (c : CF) (m q : Nat) (hm : c.most = m) (hq : c.que = q) (hmo : c.mode = 1 ∨ c.mode = 2) (hl : m ≤ 8 ∧ q ≤ 8) :
    Calls Try.prog 35 #[c.val, v] w (RanB w m q (afterB m q (ds.take 100))) := by
  obtain ⟨ao, cap, rfl, hd2, hd3⟩ := hd
  have HD := Lib.hid hd3
  clear hd3
  have HN := Lib.hid (fun w => bulk_new_yes c w m q hm hq hmo hl)
  have HM := Lib.hid hm
  have HQ := Lib.hid hq
  have HN2 := Lib.hid (fun w => ref10_new c w)
  clear hm hq hmo
  obtain ⟨mode, pool, queue, sem, fb, ch, t, ft, vo, pe, sl, bu, wi, wd, ba, fo⟩ := c
  simp only [CF.val] at *
  go_enter Try.func35, Try.ntmps35
  go_wp2_with fail
  refine (HN.out _).mono ?_
  rintro e w1 ⟨b, s, r, g, rfl, B, hr, hg, hr2, hg2, F⟩
  obtain ⟨c0, c1, c2, c3, c4, c5, c6, c7, c8, c9, c10, c11, c12, c13, c14, c15⟩ := sixteen (F.keep (block_alloc_new _ _) (by simp))
  have hrg : w.heap.size ≤ r ∧ w.heap.size ≤ g := by simp at hr hg; omega
  have HF := Lib.hid (((Fr.refl [] w).alloc _).trans F)
  have HB := Lib.hid B
  clear F B hr hg
  go_wp2_with fail
  refine (HN2.out _).mono ?_
  rintro e w2 ⟨rfl, F⟩
  rw [HM.out, HQ.out]
  have HF := Lib.hid (HF.out.trans F)
  have HB := Lib.hid (HB.out.fr0 F)
  have hlts := HB.out.lts
  have hs2 := F.size
  clear F HM HQ HN HN2 c0 c1 c2 c3 c4 c5 c6 c7 c8 c9 c10 c11 c12 c13 c14 c15
  generalize CF.ok _ = okv
  have hszw := HF.out.size
  have HX : Hid (RBox (w2.alloc (.cells #[.int .i64 m, .int .i64 q, .slice none 0 0, .slice none 0 0] 49)) w2.heap.size m q ([], [])) := Lib.hid ⟨_, _, block_alloc_new _ _, Lst.nil _ _, Lst.nil _ _⟩
  have HB := Lib.hid (HB.out.fr0 ((Fr.refl [] w2).alloc (.cells #[.int .i64 m, .int .i64 q, .slice none 0 0, .slice none 0 0] 49)))
  have HF := Lib.hid (HF.out.alloc (.cells #[.int .i64 m, .int .i64 q, .slice none 0 0, .slice none 0 0] 49))
  generalize Value.agg #[.int .i64 mode, .int .i64 pool, .int .i64 queue, .int .i64 sem, .int .i64 fb, .int .i64 ch, .int .u64 t, .int .u64 ft, .int .i64 vo, .int .i64 pe, .int .u64 sl, .int .i64 bu, .int .u64 wi, .int .u64 wd, .int .i64 ba, .int .i64 fo] = cv
  go_wp2_with fail
  go_loopw [8] (fun v wr => ∃ i : Nat, i ≤ ds.length ∧ i ≤ 100 ∧ v = .int .i64 i ∧ Hid (IsBulk wr b s r g (afterB m q (ds.take i)).1 (afterB m q (ds.take i)).2 m q) ∧ Hid (RBox wr w2.heap.size m q (afterB m q (ds.take i))) ∧ Hid (Fr [] w wr) ∧ w2.heap.size < wr.heap.size) (fun v _ => ds.length - (intOf v).toNat)
  case atStart => exact ⟨0, Nat.zero_le _, by omega, rfl, Lib.hid (by simpa [afterB] using HB.out), Lib.hid (by simpa [afterB] using HX.out), HF, by simp⟩
  case round =>
    obtain ⟨i, hi, hi2, rfl, HBi, HXi, HFi, hsi⟩ := hrel
    by_cases hlt : i < ds.length
    · by_cases hlt2 : i < 100
      · obtain ⟨b1, o1, rfl, hc1, hc2⟩ := HD.out i hlt
        have hc1' := (HFi.out.cell (p := ⟨b1, o1 + i * 2, none⟩) (World.block_lt_of_cell? _ _ hc1) (by simp)).trans hc1
        have hc2' := (HFi.out.cell (p := ⟨b1, o1 + i * 2 + 1, none⟩) (World.block_lt_of_cell? _ _ hc2) (by simp)).trans hc2
        clear hc1 hc2
        have HA := Lib.hid (afterB_snoc m q ds i hlt)
        generalize (ds.getD i (0, 0)).1 = k at *
        generalize (ds.getD i (0, 0)).2 = x at *
        obtain ⟨vr, vw, hX, hVr, hVw⟩ := HXi.out
        obtain ⟨x0, x1, x2, x3, xf⟩ := four hX
        have HDo := Lib.hid (fun (wx : World) (F : Fr [] wr wx) => doB (HBi.out.fr0 F) (hVr.fr F (by simp)) (hVw.fr F (by simp)) (show r < w2.heap.size + 1 ∧ g < w2.heap.size + 1 ∧ w2.heap.size + 1 ≤ wx.heap.size from ⟨by omega, by omega, by have := F.size; omega⟩) k x)
        have hX' := Lib.hid hX
        have hVr' := Lib.hid hVr
        have hVw' := Lib.hid hVw
        have FA : Fr [] wr (wr.alloc (.cells #[.int .i64 0, .int .i64 0, .slice none 0 0, .slice none 0 0] 49)) := (Fr.refl _ _).alloc _
        have hc1a := (FA.cell (p := ⟨b1, o1 + i * 2, none⟩) (World.block_lt_of_cell? _ _ hc1') (by simp)).trans hc1'
        have hc2a := (FA.cell (p := ⟨b1, o1 + i * 2 + 1, none⟩) (World.block_lt_of_cell? _ _ hc2') (by simp)).trans hc2'
        obtain ⟨x0a, x1a, x2a, x3a, xfa⟩ := four (FA.keep hX (by simp))
        clear hVr hVw hX FA
        generalize deedB m q (afterB m q (List.take i ds)) k x = P' at *
        go_wp2_with fail
        go_region_with (first
          | (go_at_call 30; refine (HDo.out _ (Fr.refl _ _).drew).mono ?_; rintro e w5 ⟨vr5, vw5, rfl, B5, R5, W5, F5⟩; obtain ⟨ar5, cr5, hvr5⟩ := R5.form hVr'.out.1; obtain ⟨aw5, cw5, hvw5⟩ := W5.form hVw'.out.1; subst hvr5 hvw5; have FIN := Lib.hid (fun (w6 : World) (F6 : Fr [] w5 w6) => rel10 HFi.out (by omega) (round10 hX'.out hVr'.out hVw'.out (Fr.refl [] wr).drew B5 R5 W5 F5 F6 (by simp) hlts)); have Z5 := F5.keep (Fr.keep (Fr.refl [] wr).drew hX'.out (by simp)) (by simp; omega); obtain ⟨y0, y1, y2, y3, yf⟩ := four (((Fr.refl [] w5).alloc (.cells #[.int .i64 m, .int .i64 q, .slice ar5 P'.1.length cr5, .slice aw5 P'.2.length cw5] 49)).keep Z5 (by simp)); clear B5 R5 W5 F5 Z5)
          | (go_at_call 30; refine (HDo.out _ (((Fr.refl _ _).alloc _).drew)).mono ?_; rintro e w5 ⟨vr5, vw5, rfl, B5, R5, W5, F5⟩; obtain ⟨ar5, cr5, hvr5⟩ := R5.form hVr'.out.1; obtain ⟨aw5, cw5, hvw5⟩ := W5.form hVw'.out.1; subst hvr5 hvw5; have FIN := Lib.hid (fun (w6 : World) (F6 : Fr [wr.heap.size] w5 w6) => rel10 HFi.out (by omega) (round10 hX'.out hVr'.out hVw'.out (((Fr.refl [] wr).alloc zeroB).drew) B5 R5 W5 F5 F6 (by simp) hlts)); have Z5 := F5.keep (Fr.keep (((Fr.refl [] wr).alloc zeroB).drew) hX'.out (by simp)) (by simp; omega); obtain ⟨y0, y1, y2, y3, yf⟩ := four Z5; have Z6 := F5.keep (b := wr.heap.size) (o := zeroB) (block_alloc_new wr zeroB) (by simp; omega); obtain ⟨z0, z1, z2, z3, zf⟩ := four Z6; clear B5 R5 W5 F5 Z5 Z6))
        all_goals go_wp2_with fail
        all_goals (
          go_roundw
          case rel =>
            refine ⟨i + 1, by omega, by omega, by go_num, ?_⟩
            rw [HA.out]
            exact FIN.out _ (by repeat (first | exact Fr.refl _ _ | refine Fr.setCell ?_ (.inl (by simp)) _ | refine Fr.alloc ?_ _ | refine Fr.drewN ?_ _ | refine Fr.drew ?_))
          case measure => simp [intOf]; omega)
      · go_wp2_with fail
        go_ret
        have : i = 100 := by omega
        subst this
        exact ⟨_, _, _, _, rfl, HBi.out, hrg.1, hrg.2, by omega, by omega, HFi.out⟩
    · go_wp2_with fail
      go_ret
      have : ds.take 100 = ds.take i := by rw [List.take_of_length_le (by omega), List.take_of_length_le (by omega)]
      rw [this]
      exact ⟨_, _, _, _, rfl, HBi.out, hrg.1, hrg.2, by omega, by omega, HFi.out⟩
end Go.Proofs.Ythbhkmhmiplikaa
