/-
  WheelTime, as a contract of its function.
-/
import Derived.Test.YtibnhfnidgfenaaWLaw9
namespace Go.Proofs.Ytibnhfnidgfenaa
open Go.RowKit

set_option maxHeartbeats 4000000 in
set_option maxRecDepth 20000 in
theorem wheelTime_spec {w : World} {dv : Value} {ds : List De} (hd : De4s w dv ds) (now : Nat) (hn : now < 18446744073709551616) :
    Calls Try.prog 6 #[.int .u64 now, dv] w fun e w' => e = .returned (.bool true) ∧ Fr [] w w' := by
  have HD := Lib.hid hd
  obtain ⟨ao, cap, rfl, hlen, -⟩ := hd
  go_enter Try.func6, Try.ntmps6
  go_wp2_with fail
  refine (awake03 _).mono ?_
  rintro r w1 ⟨rfl, F⟩
  have HF1 := Lib.hid F
  clear F
  go_wp2_with fail
  refine (wheel_new w1 now hn).mono ?_
  rintro r w2 ⟨b, fp, rfl, hW, hfp, F⟩
  have HW2 := Lib.hid hW
  have HFp := Lib.hid (fun x hx => ⟨hfp x hx, hW.lt x hx⟩ : ∀ x ∈ fp, w1.heap.size ≤ x ∧ x < w2.heap.size)
  have hs1 : w.heap.size ≤ w1.heap.size ∧ w1.heap.size ≤ w2.heap.size := ⟨HF1.out.size, F.size⟩
  have HF2 := Lib.hid (HF1.out.trans F)
  clear F hW hfp
  go_wp2_with fail
  obtain ⟨X, hX⟩ : ∃ X, X = w2.heap.size := ⟨_, rfl⟩
  have HXB := Lib.hid (block_alloc_new w2 (wbox now (.slice none 0 0)))
  have FX := (Fr.refl [] w2).alloc (wbox now (.slice none 0 0))
  have HW2 := Lib.hid (⟨HW2.out.fr0 FX, Ons.nil _, fun g hg => by simp [Value.ownBlock] at hg⟩ : WR (w2.alloc (wbox now (.slice none 0 0))) b fp now 0 [] (.slice none 0 0))
  have HF2 := Lib.hid (HF2.out.trans FX)
  have HFp := Lib.hid (fun x hx => ⟨(HFp.out x hx).1, fun e => by have := (HFp.out x hx).2; omega⟩ : ∀ x ∈ fp, w1.heap.size ≤ x ∧ x ≠ X)
  rw [← hX] at HXB hs1 ⊢
  clear hX
  go_loopw [8] (fun vi wr => ∃ (i : Nat) (fp : List Nat) (now seq : Nat) (L : List Ent) (v : Value), vi = .int .i64 i ∧ i ≤ ds.length ∧ i ≤ 100 ∧ seq ≤ i ∧ Hid (WR wr b fp now seq L v) ∧ Hid (wr.heap[X]? = some (wbox now v)) ∧ Hid (v.ownBlock ≠ some X) ∧ Hid (∀ x ∈ fp, w1.heap.size ≤ x ∧ x ≠ X) ∧ Hid (Fr [] w wr)) (fun vi _ => ds.length - (intOf vi).toNat)
  case atStart => exact ⟨0, fp, now, 0, [], .slice none 0 0, by go_num, Nat.zero_le _, by omega, Nat.le_refl _, HW2, HXB, Lib.hid (by simp [Value.ownBlock]), HFp, HF2⟩
  case round =>
    clear HW2 HXB HFp HF2 FX HF1
    obtain ⟨i, fp, now, seq, L, v, rfl, hi, hi2, hsq, HW, HXB, HvX, HFp, HF⟩ := hrel
    obtain ⟨va, vc, rfl⟩ := HW.out.form
    by_cases hlt : i < ds.length
    · by_cases hlt2 : i < 100
      · obtain ⟨b1, o1, e, rfl, h4, ht, heq⟩ := (HD.out.fr HF.out).at hlt
        obtain ⟨ek, e1, e2, et⟩ := e
        have HEq := Lib.hid heq
        clear heq
        have H4 := Lib.hid h4
        have HNo := Lib.hid (HW.out.1.nowOf)
        have HDu := Lib.hid (HW.out.1.dueOf e1 e2)
        have HNx := Lib.hid (fun (wx : World) (F : Fr [] wr wx) => (HW.out.1.fr0 F).nextOf (by omega))
        have HC : Hid (L.head?.isSome = true → now ≤ (L.head?.map (·.due)).getD 0) := Lib.hid (by
          cases L with
          | nil => intro h; simp at h
          | cons x t => intro _; have := (HW.out.1.few.2.2.2 x (by simp)).1; simpa using this)
        generalize (L.head?.map (·.due)).getD 0 = N1 at *
        generalize L.head?.isSome = M1 at *
        obtain ⟨D1, hD1⟩ : ∃ D, D = (Option.map (fun x : Ent => x.due) (entOf L (e1, e2))).getD 0 := ⟨_, rfl⟩
        obtain ⟨I1, hI1⟩ : ∃ I, I = (entOf L (e1, e2)).isSome := ⟨_, rfl⟩
        rw [← hD1, ← hI1] at HDu
        have HDI := Lib.hid (And.intro hD1 hI1)
        obtain ⟨d0, d1, d2, d3⟩ := h4
        simp only at d0 d1 d2 d3 ht
        have d100 : decide ((i : Int) < 100) = true := decide_eq_true (by omega)
        clear hD1 hI1
        go_wp2_with fail
        refine HNo.out.mono ?_
        rintro r wx ⟨rfl, hwx⟩
        subst hwx
        go_wp2_with fail
        refine HDu.out.mono ?_
        rintro r wa ⟨rfl, Fa⟩
        go_wp2_with fail
        refine (HNx.out _ Fa).mono ?_
        rintro r wb ⟨rfl, Fb⟩
        have Fab := Fa.trans Fb
        have HW := Lib.hid (HW.out.fr0 Fab)
        have HXB := Lib.hid (Fab.keep HXB.out (by simp))
        have HF := Lib.hid (HF.out.trans Fab)
        have H4 := Lib.hid (H4.out.fr Fab (by simp))
        clear HNo HDu HNx Fa Fb Fab d0 d1 d2 d3
        have HDo := Lib.hid (fun (wx : World) (F : Fr [] wb wx) => do03_spec (HW.out.fr0 F) (by omega) ek e1 e2 et ht)
        obtain ⟨x0, x1⟩ := two_cells' HXB.out
        obtain ⟨d0, d1, d2, d3⟩ := H4.out
        simp only at d0 d1 d2 d3
        have hfl := HW.out.1.lt
        have hvl := HW.out.2.2
        have HA := Lib.hid (fun (wx w5 : World) (F : Fr [] wb wx) v' now' seq' L' fp' => after_a (v' := v') (now' := now') (seq' := seq') (L' := L') (fp' := fp') (k := (e1, e2)) (kind := ek) (wx := wx) (w5 := w5) (b := b) (fp := fp) (now := now) (seq := seq) (L := L) (v := .slice va L.length vc) F)
        have HB := Lib.hid (fun (wx w5 : World) (F : Fr [] (wb.alloc (wbox 0 (.slice none 0 0))) wx) v' now' seq' L' fp' => after_b (v' := v') (now' := now') (seq' := seq') (L' := L') (fp' := fp') (k := (e1, e2)) (kind := ek) (wx := wx) (w5 := w5) (b := b) (fp := fp) (now := now) (seq := seq) (L := L) (v := .slice va L.length vc) hfl (fun g hg => (hvl g hg).2) F)
        have FA : Fr [] wb (wb.alloc (.cells #[.int .u64 0, .slice none 0 0] 44)) := (Fr.refl _ _).alloc _
        obtain ⟨x0a, x1a⟩ := two_cells' (FA.keep HXB.out (by simp))
        obtain ⟨d0a, d1a, d2a, d3a⟩ := H4.out.fr FA (by simp)
        simp only at d0a d1a d2a d3a
        clear FA hfl hvl
        go_wp2_with fail
        go_upto_region 11 with fail
        go_cut [14, 15] from 25 to 119 (fun s14 s15 wx => ∃ g5, s14 = .pointer (some ⟨g5, 0, none⟩) ∧ s15 = .bool true ∧ Hid (AfterDo wb b fp now seq L (.slice va L.length vc) (e1, e2) ek wx g5))
        case first =>
          go_region_with (first
            | (go_at_call 26; refine (HDo.out _ (Fr.refl _ _).drew).mono ?_; rintro e w5 ⟨v', now', seq', L', fp', rfl, h5⟩; obtain ⟨a5, c5, hv5⟩ := h5.1.form; subst hv5; have A1 := Lib.hid (HA.out _ _ (Fr.refl _ _).drew _ _ _ _ _ h5); clear h5)
            | (go_at_call 26; refine (HDo.out _ (((Fr.refl _ _).alloc _).drew)).mono ?_; rintro e w5 ⟨v', now', seq', L', fp', rfl, h5⟩; obtain ⟨a5, c5, hv5⟩ := h5.1.form; subst hv5; have A0 := HB.out _ _ (Fr.refl _ _).drew _ _ _ _ _ h5; have A1 := Lib.hid A0.2; obtain ⟨z0, z1⟩ := two_cells' A0.1; have hzf := free_of_block A0.1; clear h5 A0))
          all_goals (
            go_wp2_with fail
            go_meet
            exact ⟨_, rfl, rfl, A1⟩)
        case rest =>
          obtain ⟨g5, rfl, rfl, A1⟩ := hcut
          obtain ⟨now', seq', L', fp', v', hy, h5, hs5, U5, F5, O5, ⟨hg1, hg2, hg3⟩, hDd⟩ := A1.out
          obtain ⟨va', vc', rfl⟩ := h5.form
          obtain ⟨y0, y1⟩ := two_cells' hy
          have hXfp : X ∉ fp := fun hm => (HFp.out X hm).2 rfl
          have hXr := lt_of_block HXB.out
          have HXc := F5.keep HXB.out hXfp
          obtain ⟨z0, z1⟩ := two_cells' HXc
          have hzf := free_of_block HXc
          have FZ : Fr [X] wc ((wc.setCell ⟨X, 0, none⟩ (.int .u64 now')).setCell ⟨X, 1, none⟩ (.slice va' L'.length vc')) := Fr.setCell (Fr.setCell (Fr.refl _ _) (.inl (by simp)) _) (.inl (by simp)) _
          have hXfp' : X ∉ fp' := fun hm => by
            rcases U5 X hm with h | h
            · exact hXfp h
            · omega
          have hXv' : (Value.slice va' L'.length vc').ownBlock ≠ some X := fun he => by
            rcases O5 X he with h | h
            · exact HvX.out h
            · omega
          have HXn : Hid (((wc.setCell ⟨X, 0, none⟩ (.int .u64 now')).setCell ⟨X, 1, none⟩ (.slice va' L'.length vc')).heap[X]? = some (wbox now' (.slice va' L'.length vc'))) := Lib.hid (by
            rw [block_setCell (block_setCell HXc 0 _) 1 _]; rfl)
          have HWn := Lib.hid (h5.fr FZ (fun x hx => by simp at hx; subst hx; exact ⟨hXfp', hXv'⟩))
          have HFn := Lib.hid (HF.out.trans' ((F5.mono (S' := fp ++ [X]) (fun x hx => .inl (by simp [hx]))).trans (FZ.mono (fun x hx => .inl (by simp at hx; simp [hx])))) (fun x hx => .inr (by
            rcases List.mem_append.1 hx with h | h
            · have := (HFp.out x h).1; omega
            · simp at h; omega)))
          have HFpn : Hid (∀ x ∈ fp', w1.heap.size ≤ x ∧ x ≠ X) := Lib.hid (fun x hx => ⟨by
            rcases U5 x hx with h | h
            · exact (HFp.out x h).1
            · omega, fun e => hXfp' (e ▸ hx)⟩)
          have hXv2 := Lib.hid hXv'
          obtain ⟨w7, hw7⟩ : ∃ w7, w7 = (wc.setCell ⟨X, 0, none⟩ (.int .u64 now')).setCell ⟨X, 1, none⟩ (.slice va' L'.length vc') := ⟨_, rfl⟩
          rw [← hw7] at HXn HWn HFn
          have HNo := Lib.hid (fun (wx : World) (F : Fr [] w7 wx) => (HWn.out.1.fr0 F).nowOf)
          have HDu := Lib.hid (HWn.out.1.dueOf e1 e2)
          have HNx := Lib.hid (fun (wx : World) (F : Fr [] w7 wx) => (HWn.out.1.fr0 F).nextOf (by omega))
          have HC2 : Hid (L'.head?.isSome = true → now' ≤ (L'.head?.map (·.due)).getD 0) := Lib.hid (by
            cases L' with
            | nil => intro h; simp at h
            | cons x t => intro _; have := (HWn.out.1.few.2.2.2 x (by simp)).1; simpa using this)
          have HB2 : Hid (ek = 3 → I1 = true → (entOf L' (e1, e2)).isSome = false → now' = D1) := Lib.hid (fun h1 h2 h3 => by
            obtain ⟨q1, q2⟩ := HDI.out
            rw [q2] at h2
            obtain ⟨x, hx⟩ := Option.isSome_iff_exists.1 h2
            rw [hx] at q1
            rw [q1]
            exact hDd.2 h1 x hx (by simpa using h3))
          have hmono := hDd.1
          have H47 : Hid (At4 w7 b1 (o1 + i * 4) ⟨ek, e1, e2, et⟩) := Lib.hid (by
            obtain ⟨b9, o9, e9, he9, h9, -, h10⟩ := (HD.out.fr HFn.out).at hlt
            simp only [Option.some.injEq, Addr.mk.injEq, and_true] at he9
            obtain ⟨rfl, rfl⟩ := he9
            rwa [← h10, HEq.out] at h9)
          clear A1 hy h5 U5 F5 O5 hg1 hg2 hg3 hXfp HXc FZ hXfp' hXv' HW HXB HvX HFp HF HA HB HDo d0 d1 d2 d3 d0a d1a d2a d3a x0 x1 x0a x1a ht hDd H4
          generalize (L'.head?.map (·.due)).getD 0 = N2 at *
          generalize L'.head?.isSome = M2 at *
          generalize (Option.map (fun x : Ent => x.due) (entOf L' (e1, e2))).getD 0 = D2 at *
          generalize (entOf L' (e1, e2)).isSome = I2 at *
          go_upto_region 12 with fail
          rw [← hw7]
          clear hw7 y0 y1 z0 z1 hzf
          obtain ⟨d0, d1, d2, d3⟩ := H47.out
          simp only at d0 d1 d2 d3
          go_wp2_with fail
          refine HDu.out.mono ?_
          rintro r w8 ⟨rfl, F8⟩
          have HF8 := Lib.hid F8
          clear F8 HDu d0 d1 d2 d3
          go_wp2_with fail
          refine (HNx.out _ HF8.out).mono ?_
          rintro r w9 ⟨rfl, F9⟩
          have HF9 := Lib.hid (HF8.out.trans F9)
          clear F9 HNx
          obtain ⟨d0, d1, d2, d3⟩ := H47.out.fr HF9.out (by simp)
          simp only at d0 d1 d2 d3
          have HNo := Lib.hid (HNo.out _ HF9.out)
          have t1 : decide (now' < now) = false := decide_eq_false (by omega)
          have HB2' : ek = 3 → I1 = true → I2 = false → ((now' : Int) != (D1 : Int)) = false := fun h1 h2 h3 => by rw [HB2.out h1 h2 h3]; simp
          have HC' : M1 = true → decide (N1 < now) = false := fun h => decide_eq_false (by have := HC.out h; omega)
          have HC2' : M2 = true → decide (N2 < now') = false := fun h => decide_eq_false (by have := HC2.out h; omega)
          clear HB2 HC HC2
          have h3 : ek = 3 ∨ (ek == 3) = false := by by_cases h : ek = 3; exact .inl h; exact .inr (by simpa using h)
          rcases h3 with rfl | h3
          all_goals cases I1
          all_goals cases I2
          all_goals cases M1
          all_goals cases M2
          all_goals simp only [forall_const, false_implies, Bool.false_eq_true, Bool.true_eq_false] at HB2' HC' HC2'
          all_goals go_wp2_with (go_at_call 22; refine HNo.out.mono ?_; rintro r wz ⟨rfl, hwz⟩; subst hwz)
          all_goals (
            go_roundw
            case rel => exact ⟨i + 1, fp', now', seq', L', .slice va' L'.length vc', by go_num, by omega, by omega, by omega, Lib.hid (HWn.out.fr0 HF9.out), Lib.hid (HF9.out.keep HXn.out (by simp)), hXv2, HFpn, Lib.hid (HFn.out.trans HF9.out)⟩
            case measure => simp [intOf]; omega)
      · go_wp2_with fail
        go_ret
        exact ⟨by trivial, HF.out⟩
    · go_wp2_with fail
      go_ret
      exact ⟨by trivial, HF.out⟩
end Go.Proofs.Ytibnhfnidgfenaa
