/-
  WheelPlays and WheelTime, as contracts of their functions.
-/
import Derived.Test.YtibnhfnidgfenaaWLaw8
import Derived.Test.YtibnhfnidgfenaaDe
import Derived.Deep.RegionHeld3
import Derived.Deep.CutRange
import Derived.Deep.DeepMust
namespace Go.Proofs.Ytibnhfnidgfenaa
open Go.RowKit

variable {w : World} {b : Nat} {fp : List Nat} {now seq : Nat} {L : List Ent} {v : Value}

set_option maxHeartbeats 2000000 in
theorem same03 (h : WR w b fp now seq L v) (hs : seq ≤ 50000) :
    Calls Try.prog 28 #[.pointer (some ⟨b, 0, none⟩), .agg #[.int .u64 now, v]] w fun e w' => e = .returned (.bool true) ∧ Fr [] w w' := by
  have HNx := Lib.hid (fun (w' : World) (F : Fr [] w w') => (h.1.fr0 F).nextOf hs)
  have HNo := Lib.hid (fun (w' : World) (F : Fr [] w w') => (h.1.fr0 F).nowOf)
  have HLe := Lib.hid (fun (w' : World) (F : Fr [] w w') => (h.1.fr0 F).lenOf)
  have F0 : Fr [] w (w.alloc (.cells #[.int .u64 now, v] 44)) := (Fr.refl _ _).alloc _
  have HF0 := Lib.hid F0
  have hL := h.1.few.1
  obtain ⟨ao, cap, rfl, hc, h0, h4⟩ := h.2.1
  rw [List.length_map] at *
  have HX := Lib.hid (block_alloc_new w (.cells #[.int .u64 now, .slice ao L.length cap] 44))
  clear h
  cases L with
  | nil =>
    simp only [List.length_nil, List.head?_nil, Option.map_none, Option.getD_none, Option.isSome_none] at *
    clear F0 h4
    go_enter Try.func28, Try.ntmps28
    go_wp2_with fail
    refine (HNx.out _ HF0.out).mono ?_
    rintro r w1 ⟨rfl, F⟩
    have HF1 := Lib.hid (HF0.out.trans F)
    obtain ⟨x0, x1⟩ := two_cells' (F.keep HX.out (by simp))
    clear F
    go_wp2_with fail
    go_quiet ((first
      | (go_at_call 22; exact Calls.quiet_of ((HNo.out _ (HF1.out.drewN _)).mono (fun e w' h => ⟨h.1, 0, by rw [h.2]; rfl⟩)))
      | (go_at_call 23; exact Calls.quiet_of ((HLe.out _ (HF1.out.drewN _)).mono (fun e w' h => ⟨h.1, 0, by rw [h.2]; rfl⟩)))))
    go_wp2_with fail
    go_ret
    exact ⟨rfl, HF1.out.drewN _⟩
  | cons e t =>
    obtain ⟨b1, o1, rfl, h3⟩ := h4 0 (by simp)
    simp only [Nat.zero_mul, Nat.add_zero, List.map_cons, List.getD_cons_zero, List.head?_cons, Option.map_some, Option.getD_some, Option.isSome_some, List.length_cons] at *
    have H3 := Lib.hid h3
    have t0 : (0 : Int) < (t.length : Int) + 1 := by omega
    have t1 : decide ((0 : Int) < (t.length : Int) + 1) = true := decide_eq_true (by omega)
    clear F0 h4 h3
    go_enter Try.func28, Try.ntmps28
    go_wp2_with fail
    refine (HNx.out _ HF0.out).mono ?_
    rintro r w1 ⟨rfl, F⟩
    have HF1 := Lib.hid (HF0.out.trans F)
    obtain ⟨x0, x1⟩ := two_cells' (F.keep HX.out (by simp))
    obtain ⟨y0, y1, y2⟩ := H3.out.fr HF1.out (by simp)
    clear F
    go_wp2_with fail
    go_quiet ((first
      | (go_at_call 22; exact Calls.quiet_of ((HNo.out _ (HF1.out.drewN _)).mono (fun e w' h => ⟨h.1, 0, by rw [h.2]; rfl⟩)))
      | (go_at_call 23; exact Calls.quiet_of ((HLe.out _ (HF1.out.drewN _)).mono (fun e w' h => ⟨h.1, 0, by rw [h.2]; rfl⟩)))))
    go_wp2_with fail
    go_ret
    exact ⟨ret_bool (by simp [onE]), HF1.out.drewN _⟩

theorem WR.form (h : WR w b fp now seq L v) : ∃ a c, v = .slice a L.length c := by
  obtain ⟨a, c, h1, -⟩ := h.2.1
  rw [List.length_map] at h1
  exact ⟨a, c, h1⟩
abbrev wbox (now : Nat) (v : Value) : Obj := .cells #[.int .u64 now, v] 44
/-- Behind do, and when its wheel is boxed. -/
def AfterDo (wr : World) (b : Nat) (fp : List Nat) (now seq : Nat) (L : List Ent) (v : Value) (k : Int × Int) (kind : Int) (wx : World) (g5 : Nat) : Prop :=
  ∃ (now' seq' : Nat) (L' : List Ent) (fp' : List Nat) (v' : Value), wx.heap[g5]? = some (wbox now' v') ∧ WR wx b fp' now' seq' L' v' ∧ seq' ≤ seq + 1 ∧ Sub fp' fp wr ∧ Fr fp wr wx ∧ OwnOf wr wx v v' ∧ (wr.heap.size ≤ g5 ∧ g5 ∉ fp' ∧ v'.ownBlock ≠ some g5) ∧ DeedTo k kind now now' L L'
/-- do's parts. -/
def DoParts (wx : World) (b : Nat) (fp : List Nat) (now seq : Nat) (L : List Ent) (v : Value) (k : Int × Int) (kind : Int) (w5 : World) (v' : Value) (now' seq' : Nat) (L' : List Ent) (fp' : List Nat) : Prop :=
  WR w5 b fp' now' seq' L' v' ∧ seq' ≤ seq + 1 ∧ Sub fp' fp wx ∧ Fr fp wx w5 ∧ OwnOf wx w5 v v' ∧ DeedTo k kind now now' L L'
theorem after_a {wr wx w5 : World} {v' : Value} {now' seq' : Nat} {L' : List Ent} {fp' : List Nat} {k : Int × Int} {kind : Int} (F : Fr [] wr wx) (h : DoParts wx b fp now seq L v k kind w5 v' now' seq' L' fp') :
    AfterDo wr b fp now seq L v k kind (w5.alloc (wbox now' v')) w5.heap.size := by
  obtain ⟨h1, h2, h3, h4, h5, h6⟩ := h
  have sx := F.size
  have s5 := h4.size
  have F9 : Fr [] w5 (w5.alloc (wbox now' v')) := (Fr.refl _ _).alloc _
  refine ⟨now', seq', L', fp', v', block_alloc_new _ _, h1.fr0 F9, h2, h3.down sx, (F.mono (by simp)).trans (h4.trans (F9.mono (by simp))), fun g hg => (h5 g hg).imp id (fun h => by simp; omega), ⟨by omega, fun hm => ?_, fun he => ?_⟩, h6⟩
  · have := h1.1.lt _ hm; omega
  · have := (h1.2.2 _ he).2; omega
theorem after_b {wr wx w5 : World} {v' : Value} {now' seq' : Nat} {L' : List Ent} {fp' : List Nat} {k : Int × Int} {kind : Int} (hfp : ∀ x ∈ fp, x < wr.heap.size) (hv : ∀ g, v.ownBlock = some g → g < wr.heap.size) (F : Fr [] (wr.alloc (wbox 0 (.slice none 0 0))) wx) (h : DoParts wx b fp now seq L v k kind w5 v' now' seq' L' fp') :
    w5.heap[wr.heap.size]? = some (wbox 0 (.slice none 0 0)) ∧ AfterDo wr b fp now seq L v k kind ((w5.setCell ⟨wr.heap.size, 0, none⟩ (.int .u64 now')).setCell ⟨wr.heap.size, 1, none⟩ v') wr.heap.size := by
  obtain ⟨h1, h2, h3, h4, h5, h6⟩ := h
  have sx := F.size
  rw [show (wr.alloc (wbox 0 (.slice none 0 0))).heap.size = wr.heap.size + 1 by simp] at sx
  have s5 := h4.size
  have hn : wr.heap.size ∉ fp := fun hm => by have := hfp _ hm; omega
  have hn' : wr.heap.size ∉ fp' := fun hm => by
    rcases h3 _ hm with h | h
    · exact hn h
    · omega
  have hv' : v'.ownBlock ≠ some wr.heap.size := fun he => by
    rcases h5 _ he with h | h
    · have := hv _ h; omega
    · omega
  have hb : w5.heap[wr.heap.size]? = some (wbox 0 (.slice none 0 0)) := h4.keep (F.keep (block_alloc_new wr _) (by simp)) hn
  have F9 : Fr [wr.heap.size] w5 ((w5.setCell ⟨wr.heap.size, 0, none⟩ (.int .u64 now')).setCell ⟨wr.heap.size, 1, none⟩ v') := Fr.setCell (Fr.setCell (Fr.refl _ _) (.inl (by simp)) _) (.inl (by simp)) _
  have F1 : Fr fp wr w5 := ((((Fr.refl [] wr).alloc _).trans F).mono (by simp)).trans h4
  refine ⟨hb, now', seq', L', fp', v', ?_, h1.fr F9 (fun x hx => by simp at hx; subst hx; exact ⟨hn', hv'⟩), h2, h3.down (by omega), F1.trans' F9 (fun x hx => .inr (by simp at hx; omega)), fun g hg => (h5 g hg).imp id (fun h => by simp; omega), ⟨Nat.le_refl _, hn', hv'⟩, h6⟩
  rw [block_setCell (block_setCell hb 0 _) 1 _]
  rfl

set_option maxHeartbeats 4000000 in
set_option maxRecDepth 20000 in
theorem wheelPlays_spec {w : World} {dv : Value} {ds : List De} (hd : De4s w dv ds) (now : Nat) (hn : now < 18446744073709551616) (k1 k2 : Int) :
    Calls Try.prog 7 #[.int .u64 now, dv, .agg #[.int .i64 k1, .int .i64 k2]] w fun e w' => e = .returned (.bool true) ∧ Fr [] w w' := by
  have HD := Lib.hid hd
  obtain ⟨ao, cap, rfl, hlen, -⟩ := hd
  have HKB := Lib.hid (block_alloc_new w (.cells #[.int .i64 k1, .int .i64 k2] 31))
  have HF0 := Lib.hid ((Fr.refl [] w).alloc (.cells #[.int .i64 k1, .int .i64 k2] 31))
  go_enter Try.func7, Try.ntmps7
  go_wp2_with fail
  refine (awake03 _).mono ?_
  rintro r w1 ⟨rfl, F⟩
  have HKB := Lib.hid (F.keep HKB.out (by simp))
  have HF1 := Lib.hid (HF0.out.trans F)
  clear F
  go_wp2_with fail
  refine (wheel_new w1 now hn).mono ?_
  rintro r w2 ⟨b, fp, rfl, hW, hfp, F⟩
  have HW2 := Lib.hid hW
  have HFp := Lib.hid (fun x hx => ⟨hfp x hx, hW.lt x hx⟩ : ∀ x ∈ fp, w1.heap.size ≤ x ∧ x < w2.heap.size)
  have hs1 : w.heap.size < w1.heap.size ∧ w1.heap.size ≤ w2.heap.size := ⟨lt_of_block HKB.out, F.size⟩
  have HKB := Lib.hid (F.keep HKB.out (by simp))
  have HF2 := Lib.hid (HF1.out.trans F)
  clear F hW hfp
  go_wp2_with fail
  obtain ⟨X, hX⟩ : ∃ X, X = w2.heap.size := ⟨_, rfl⟩
  have HXB := Lib.hid (block_alloc_new w2 (wbox now (.slice none 0 0)))
  have FX := (Fr.refl [] w2).alloc (wbox now (.slice none 0 0))
  have HKB := Lib.hid (FX.keep HKB.out (by simp))
  have HW2 := Lib.hid (⟨HW2.out.fr0 FX, Ons.nil _, fun g hg => by simp [Value.ownBlock] at hg⟩ : WR (w2.alloc (wbox now (.slice none 0 0))) b fp now 0 [] (.slice none 0 0))
  have HF2 := Lib.hid (HF2.out.trans FX)
  have HFp := Lib.hid (fun x hx => ⟨(HFp.out x hx).1, fun e => by have := (HFp.out x hx).2; omega⟩ : ∀ x ∈ fp, w1.heap.size ≤ x ∧ x ≠ X)
  rw [← hX] at HXB hs1 ⊢
  clear hX
  go_loopw [10] (fun vi wr => ∃ (i : Nat) (fp : List Nat) (now seq : Nat) (L : List Ent) (v : Value), vi = .int .i64 i ∧ i ≤ ds.length ∧ i ≤ 100 ∧ seq ≤ i ∧ Hid (WR wr b fp now seq L v) ∧ Hid (wr.heap[X]? = some (wbox now v)) ∧ Hid (v.ownBlock ≠ some X) ∧ Hid (∀ x ∈ fp, w1.heap.size ≤ x ∧ x ≠ X) ∧ Hid (Fr [] w wr) ∧ Hid (wr.heap[w.heap.size]? = some (.cells #[.int .i64 k1, .int .i64 k2] 31))) (fun vi _ => ds.length - (intOf vi).toNat)
  case atStart => exact ⟨0, fp, now, 0, [], .slice none 0 0, by go_num, Nat.zero_le _, by omega, Nat.le_refl _, HW2, HXB, Lib.hid (by simp [Value.ownBlock]), HFp, HF2, HKB⟩
  case round =>
    clear HW2 HXB HFp HF2 FX HKB HF1 HF0
    obtain ⟨i, fp, now, seq, L, v, rfl, hi, hi2, hsq, HW, HXB, HvX, HFp, HF, HKB⟩ := hrel
    obtain ⟨va, vc, rfl⟩ := HW.out.form
    by_cases hlt : i < ds.length
    · by_cases hlt2 : i < 100
      · obtain ⟨b1, o1, e, rfl, h4, ht, -⟩ := (HD.out.fr HF.out).at hlt
        obtain ⟨x0, x1⟩ := two_cells' HXB.out
        obtain ⟨d0, d1, d2, d3⟩ := h4
        obtain ⟨ek, e1, e2, et⟩ := e
        simp only at d0 d1 d2 d3 ht
        have HDo := Lib.hid (fun (wx : World) (F : Fr [] wr wx) => do03_spec (HW.out.fr0 F) (by omega) ek e1 e2 et ht)
        have d100 : decide ((i : Int) < 100) = true := decide_eq_true (by omega)
        have hfl := HW.out.1.lt
        have hvl := HW.out.2.2
        have HA := Lib.hid (fun (wx w5 : World) (F : Fr [] wr wx) v' now' seq' L' fp' => after_a (v' := v') (now' := now') (seq' := seq') (L' := L') (fp' := fp') (k := (e1, e2)) (kind := ek) (wx := wx) (w5 := w5) (b := b) (fp := fp) (now := now) (seq := seq) (L := L) (v := .slice va L.length vc) F)
        have HB := Lib.hid (fun (wx w5 : World) (F : Fr [] (wr.alloc (wbox 0 (.slice none 0 0))) wx) v' now' seq' L' fp' => after_b (v' := v') (now' := now') (seq' := seq') (L' := L') (fp' := fp') (k := (e1, e2)) (kind := ek) (wx := wx) (w5 := w5) (b := b) (fp := fp) (now := now) (seq := seq) (L := L) (v := .slice va L.length vc) hfl (fun g hg => (hvl g hg).2) F)
        have FA : Fr [] wr (wr.alloc (.cells #[.int .u64 0, .slice none 0 0] 44)) := (Fr.refl _ _).alloc _
        obtain ⟨x0a, x1a⟩ := two_cells' (FA.keep HXB.out (by simp))
        obtain ⟨d0a, d1a, d2a, d3a⟩ := (show At4 wr b1 (o1 + i * 4) ⟨ek, e1, e2, et⟩ from ⟨d0, d1, d2, d3⟩).fr FA (by simp)
        simp only at d0a d1a d2a d3a
        clear FA hfl hvl
        go_wp2_with fail
        go_upto_region 8 with fail
        go_cut [11, 12] from 22 to 72 (fun s11 s12 wx => ∃ g5, s11 = .pointer (some ⟨g5, 0, none⟩) ∧ s12 = .bool true ∧ Hid (AfterDo wr b fp now seq L (.slice va L.length vc) (e1, e2) ek wx g5))
        case first =>
          go_region_with (first
            | (go_at_call 26; refine (HDo.out _ (Fr.refl _ _).drew).mono ?_; rintro e w5 ⟨v', now', seq', L', fp', rfl, h5⟩; obtain ⟨a5, c5, hv5⟩ := h5.1.form; subst hv5; have A1 := Lib.hid (HA.out _ _ (Fr.refl _ _).drew _ _ _ _ _ h5); clear h5)
            | (go_at_call 26; go_must (refine (HDo.out _ (((Fr.refl _ _).alloc _).drew)).mono ?_; rintro e w5 ⟨v', now', seq', L', fp', rfl, h5⟩; obtain ⟨a5, c5, hv5⟩ := h5.1.form; subst hv5; have A0 := HB.out _ _ (Fr.refl _ _).drew _ _ _ _ _ h5; have A1 := Lib.hid A0.2; obtain ⟨z0, z1⟩ := two_cells' A0.1; have hzf := free_of_block A0.1; clear h5 A0)))
          all_goals (
            go_wp2_with fail
            go_meet
            exact ⟨_, rfl, rfl, A1⟩)
        case rest =>
          obtain ⟨g5, rfl, rfl, A1⟩ := hcut
          obtain ⟨now', seq', L', fp', v', hy, h5, hs5, U5, F5, O5, ⟨hg1, hg2, hg3⟩, -⟩ := A1.out
          obtain ⟨va', vc', rfl⟩ := h5.form
          obtain ⟨y0, y1⟩ := two_cells' hy
          have hXfp : X ∉ fp := fun hm => (HFp.out X hm).2 rfl
          have hXr := lt_of_block HXB.out
          have HXc := F5.keep HXB.out hXfp
          obtain ⟨z0, z1⟩ := two_cells' HXc
          have hzf := free_of_block HXc
          have FZ : Fr [X] wc ((wc.setCell ⟨X, 0, none⟩ (.int .u64 now')).setCell ⟨X, 1, none⟩ (.slice va' L'.length vc')) := Fr.setCell (Fr.setCell (Fr.refl _ _) (.inl (by simp)) _) (.inl (by simp)) _
          have hXfp' : X ∉ fp' := fun hm => by
            rcases U5 X hm with h | h
            · exact hXfp h
            · omega
          have hXv' : (Value.slice va' L'.length vc').ownBlock ≠ some X := fun he => by
            rcases O5 X he with h | h
            · exact HvX.out h
            · omega
          have HXn : Hid (((wc.setCell ⟨X, 0, none⟩ (.int .u64 now')).setCell ⟨X, 1, none⟩ (.slice va' L'.length vc')).heap[X]? = some (wbox now' (.slice va' L'.length vc'))) := Lib.hid (by
            rw [block_setCell (block_setCell HXc 0 _) 1 _]; rfl)
          have hKfp : w.heap.size ∉ fp := fun hm => by have := (HFp.out _ hm).1; omega
          have HWn := Lib.hid (h5.fr FZ (fun x hx => by simp at hx; subst hx; exact ⟨hXfp', hXv'⟩))
          have HFn := Lib.hid (HF.out.trans' ((F5.mono (S' := fp ++ [X]) (fun x hx => .inl (by simp [hx]))).trans (FZ.mono (fun x hx => .inl (by simp at hx; simp [hx])))) (fun x hx => .inr (by
            rcases List.mem_append.1 hx with h | h
            · have := (HFp.out x h).1; omega
            · simp at h; omega)))
          have HKn := Lib.hid (FZ.keep (F5.keep HKB.out hKfp) (by simp; omega))
          have HFpn : Hid (∀ x ∈ fp', w1.heap.size ≤ x ∧ x ≠ X) := Lib.hid (fun x hx => ⟨by
            rcases U5 x hx with h | h
            · exact (HFp.out x h).1
            · omega, fun e => hXfp' (e ▸ hx)⟩)
          have hXv2 := Lib.hid hXv'
          obtain ⟨w7, hw7⟩ : ∃ w7, w7 = (wc.setCell ⟨X, 0, none⟩ (.int .u64 now')).setCell ⟨X, 1, none⟩ (.slice va' L'.length vc') := ⟨_, rfl⟩
          rw [← hw7] at HXn HWn HFn HKn
          obtain ⟨kk0, kk1⟩ := two_cells' HKn.out
          clear A1 hy h5 U5 F5 O5 hg1 hg2 hg3 hXfp HXc FZ hXfp' hXv' hKfp HW HXB HvX HFp HF HKB HA HB HDo d0 d1 d2 d3 d0a d1a d2a d3a x0 x1 x0a x1a ht
          have hlen' : (L'.map onE).length ≤ 60000 := by rw [List.length_map]; have := HWn.out.1.few.1; omega
          have HDu := Lib.hid (HWn.out.1.dueOf k1 k2)
          have HRd := Lib.hid (fun (wx : World) (F : Fr [] w7 wx) => refdue_spec (HWn.out.2.1.fr F) hlen' now' k1 k2)
          have HSa := Lib.hid (fun (wx : World) (F : Fr [] w7 wx) => same03 (HWn.out.fr0 F) (by omega))
          rw [onOf_map, Option.map_map, Option.isSome_map] at HRd
          rw [show ((fun x : On => x.due) ∘ onE) = (fun x : Ent => x.due) from rfl] at HRd
          generalize (Option.map (fun x : Ent => x.due) (entOf L' (k1, k2))).getD 0 = D at *
          generalize (entOf L' (k1, k2)).isSome = I at *
          clear hlen'
          go_upto_region 9 with fail
          rw [← hw7]
          clear hw7 y0 y1 z0 z1 hzf
          go_wp2_with fail
          refine HDu.out.mono ?_
          rintro r w8 ⟨rfl, F8⟩
          have HF8 := Lib.hid F8
          obtain ⟨z0, z1⟩ := two_cells' (F8.keep HXn.out (by simp))
          obtain ⟨k0, k1⟩ := two_cells' (F8.keep HKn.out (by simp))
          clear F8 HDu kk0 kk1
          go_wp2_with fail
          refine (HRd.out _ HF8.out).mono ?_
          rintro r w9 ⟨rfl, F9⟩
          have HF9 := Lib.hid (HF8.out.trans F9)
          obtain ⟨z0, z1⟩ := two_cells' (F9.keep (HF8.out.keep HXn.out (by simp)) (by simp))
          clear F9 HRd k0 k1
          go_wp2_with fail
          refine (HSa.out _ HF9.out).mono ?_
          rintro r w10 ⟨rfl, F10⟩
          have HF10 := Lib.hid (HF9.out.trans F10)
          clear F10 HSa z0 z1
          go_wp2_with fail
          go_roundw
          case rel => exact ⟨i + 1, fp', now', seq', L', .slice va' L'.length vc', by go_num, by omega, by omega, by omega, Lib.hid (HWn.out.fr0 HF10.out), Lib.hid (HF10.out.keep HXn.out (by simp)), hXv2, HFpn, Lib.hid (HFn.out.trans HF10.out), Lib.hid (HF10.out.keep HKn.out (by simp))⟩
          case measure => simp [intOf]; omega
      · go_wp2_with fail
        go_ret
        exact ⟨by trivial, HF.out⟩
    · go_wp2_with fail
      go_ret
      exact ⟨by trivial, HF.out⟩
end Go.Proofs.Ytibnhfnidgfenaa
