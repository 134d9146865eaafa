/-
  Outs of the document; two slices of outcomes that read alike are the same; likewise of events.
-/
import Derived.Test.YtfegdmhfmhaneaaEv8
namespace Go.Proofs.Ytfegdmhfmhaneaa
open Go.RowKit

theorem Src.one5 (w : World) (e : Ou) : Src (w.alloc e.obj) 5 (.slice (some ⟨w.heap.size, 0, none⟩) 1 1) 1 e.cells :=
  ⟨_, _, rfl, rfl, Nat.le_refl _, (fun h => by cases h), (fun _ hu => cellsO_one hu), (fun j u hj => ⟨w.heap.size, 0, rfl, (At5.box (block_alloc_new w e.obj)).get hj⟩)⟩

set_option maxHeartbeats 4000000 in
theorem refOuts_spec {w : World} {base : Nat} {v u : Value} {l : List Ev} {os : List Ou} (hl : Evs w base v l) (hn : l.length ≤ 1000) {base2 : Nat} (ho : Ous w base2 u os) (hn2 : os.length ≤ 1000) (deps d : Int) :
    Calls Try.prog 16 #[u, v, .int .i64 deps, .int .i64 d] w fun e w' => ∃ v', e = .returned v' ∧ Ous w' w.heap.size v' (outsOf os l deps d) ∧ Fr [] w w' := by
  obtain ⟨i0, hi, hz0, hz1, hz2⟩ := info_parts9 Try.info_ou
  have HPL := Lib.hid (fun w' (F : Fr [] w w') id => refOwner_spec (hl.fr0 F) hn deps id)
  obtain ⟨ao0, cap0, rfl, -⟩ := hl
  obtain ⟨ao, cap, rfl, hc, hnone, h4⟩ := ho
  have H4 := Lib.hid h4
  clear h4 hnone
  go_enter Try.func16, Try.ntmps16
  go_wp2_with fail
  go_loopw [9, 10] (fun rv x wr => ∃ (i : Nat) (k : List Ou), i ≤ os.length ∧ x = .int .i64 i ∧ k.length ≤ i ∧ Hid (keptOu l deps d (os.take i) = k) ∧ Hid (wr.ownsRow w.heap.size 41 5 rv k.length (k.flatMap Ou.cells)) ∧ Hid (Fr [] w wr)) (fun _ x _ => os.length - (intOf x).toNat)
  case atStart => exact ⟨0, [], Nat.zero_le _, rfl, Nat.le_refl _, Lib.hid rfl, Lib.hid (World.ownsRow_nil _ _ _ _), Lib.hid (Fr.refl _ _)⟩
  case round =>
    obtain ⟨i, k, hi2, rfl, hki, HK, HO, HF⟩ := hrel
    obtain ⟨ao2, cap2, hrv⟩ := ownsForm9 HO.out
    subst hrv
    by_cases hlt : i < os.length
    · obtain ⟨b, o, rfl, hb, h9⟩ := H4.out i hlt
      obtain ⟨k0, k1, k2, k3, k4⟩ := h9.fr HF.out (by simp)
      have HSN := Lib.hid (keptOu_snoc (l0 := l) (deps := deps) (d := d) hlt)
      have HP := Lib.hid (HPL.out wr HF.out (os.getD i default).id)
      have h9' := Lib.hid h9
      clear h9
      generalize hev : os.getD i default = ev at *
      clear hev
      obtain ⟨eid, kind, cause, val, tm⟩ := ev
      simp only at HP k0 k1 k2 k3 k4
      have HMI : Hid (mineB l deps d ⟨eid, kind, cause, val, tm⟩ = decide (ownerOf l deps eid = d)) := Lib.hid rfl
      generalize ownerOf l deps eid = own at *
      by_cases hp : own = d
      · subst hp
        have HK2 := Lib.hid (show keptOu l deps own (os.take (i + 1)) = k ++ [⟨eid, kind, cause, val, tm⟩] by rw [HSN.out, HK.out, HMI.out]; simp)
        clear HSN HMI
        go_wp2_with fail
        refine HP.out.mono ?_
        rintro e w1 ⟨rfl, F⟩
        obtain ⟨x0, x1, x2, x3, x4⟩ := (h9'.out.fr HF.out (by simp)).fr F (by simp)
        have HF1 := Lib.hid (HF.out.trans F)
        have HO1 := Lib.hid (ownsRow_fr HO.out F (by simp))
        have hs1 := HF1.out.size
        clear F k0 k1 k2 k3 k4
        go_wp2_with (at_builtin; refine wpList_app rfl (.tmp 27) (.tmp 32) 24 rfl w.heap.size 41 i0 _ 5 40 Try.underlying24 hi hz0 hz1 hz2 rfl (by decide) (.slice ao2 k.length cap2) k.length _ rfl (ownsRow_fr HO1.out ((Fr.refl [] _).alloc _) (by simp)) _ 1 _ rfl (Src.one5 w1 ⟨eid, kind, cause, val, tm⟩) (by unfold maxLen; omega) (by omega) (by simp; omega) ?_; intro v8 w8 hown hg)
        have HO8 := Lib.hid hown
        have HF8 := Lib.hid (Fr.of_grown9 (HF1.out.alloc (Ou.obj ⟨eid, kind, cause, val, tm⟩)) hg (fun q hq => .inr (World.ownsRow.lt HO1.out q hq).1))
        clear hown hg
        go_wp2_with fail
        go_roundw
        case rel => exact ⟨i + 1, k ++ [⟨eid, kind, cause, val, tm⟩], by omega, by go_num, by simp; omega, HK2, Lib.hid (by rw [List.flatMap_append, List.length_append]; simpa using HO8.out), HF8⟩
        case measure => simp [intOf]; omega
      · have HK2 := Lib.hid (show keptOu l deps d (os.take (i + 1)) = k by rw [HSN.out, HK.out, HMI.out]; simp [hp])
        have hp' : (own == d) = false := by simpa using hp
        clear HSN HMI hp
        go_wp2_with fail
        refine HP.out.mono ?_
        rintro e w1 ⟨rfl, F⟩
        have HF1 := Lib.hid (HF.out.trans F)
        have HO1 := Lib.hid (ownsRow_fr HO.out F (by simp))
        clear F
        go_wp2_with fail
        go_roundw
        case rel => exact ⟨i + 1, k, by omega, by go_num, by omega, HK2, HO1, HF1⟩
        case measure => simp [intOf]; omega
    · go_wp2_with fail
      go_ret
      have e : outsOf os l deps d = k := by
        have := HK.out
        rw [List.take_of_length_le (by omega)] at this
        exact this
      rw [e]
      exact ⟨_, rfl, Ous.of_owns HO.out, HF.out⟩

set_option maxHeartbeats 4000000 in
theorem same_ou {w : World} {base base2 : Nat} {v u : Value} {l : List Ou} (hl : Ous w base v l) (hu : Ous w base2 u l) (hn : l.length ≤ 1000) :
    Calls Try.prog 14 #[v, u] w fun e w' => e = .returned (.bool true) ∧ Fr [] w w' := by
  obtain ⟨ao, cap, rfl, hc, hnone, h4⟩ := hl
  obtain ⟨ao2, cap2, rfl, hc2, hnone2, h42⟩ := hu
  have H4 := Lib.hid h4
  have H42 := Lib.hid h42
  clear h4 hnone h42 hnone2
  go_enter Try.func14, Try.ntmps14
  go_wp2_with fail
  go_loopw [5] (fun x wr => ∃ (i : Nat), i ≤ l.length ∧ x = .int .i64 i ∧ Hid (Fr [] w wr)) (fun x _ => l.length - (intOf x).toNat)
  case atStart => exact ⟨0, Nat.zero_le _, rfl, Lib.hid (Fr.refl _ _)⟩
  case round =>
    obtain ⟨i, hi2, rfl, HF⟩ := hrel
    by_cases hlt : i < l.length
    · obtain ⟨b, o, rfl, hb, h9⟩ := H4.out i hlt
      obtain ⟨b2, o2, rfl, hb2, h92⟩ := H42.out i hlt
      obtain ⟨k0, k1, k2, k3, k4⟩ := h9.fr HF.out (by simp)
      obtain ⟨y0, y1, y2, y3, y4⟩ := h92.fr HF.out (by simp)
      clear h9 h92
      generalize hev : l.getD i default = ev at *
      clear hev
      obtain ⟨eid, kind, cause, val, tm⟩ := ev
      simp only at k0 k1 k2 k3 k4 y0 y1 y2 y3 y4
      go_wp2_with fail
      go_quiet (fail)
      go_wp2_with fail
      go_roundw
      case rel => exact ⟨i + 1, by omega, by go_num, Lib.hid (HF.out.drewN _)⟩
      case measure => simp [intOf]; omega
    · go_wp2_with fail
      go_ret
      exact ⟨rfl, HF.out⟩
end Go.Proofs.Ytfegdmhfmhaneaa
