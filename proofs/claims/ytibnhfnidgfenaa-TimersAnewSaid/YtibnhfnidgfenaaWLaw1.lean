/-
  awake of porpoiselaw03.
-/
import Derived.Test.YtibnhfnidgfenaaWheel19
namespace Go.Proofs.Ytibnhfnidgfenaa
open Go.RowKit

theorem Sub.out {fp' fp : List Nat} {w : World} (h : Sub fp' fp w) {p : Nat} (hp : p ∉ fp) (hlt : p < w.heap.size) : p ∉ fp' := fun hm => by
  rcases h p hm with h1 | h1
  · exact hp h1
  · omega
theorem Sub.ge {fp' fp : List Nat} {w w0 : World} (h : Sub fp' fp w) (hp : ∀ x ∈ fp, w0.heap.size ≤ x) (hw : w0.heap.size ≤ w.heap.size) : ∀ x ∈ fp', w0.heap.size ≤ x := fun x hx => by
  rcases h x hx with h1 | h1
  · exact hp x h1
  · omega
theorem Fr.ge {fp : List Nat} {w0 w w' : World} (h : Fr [] w0 w) (k : Fr fp w w') (hp : ∀ x ∈ fp, w0.heap.size ≤ x) : Fr [] w0 w' := h.trans' k (fun x hx => .inr (hp x hx))

theorem timer_spec (w : World) (n : Int) : Calls Try.prog 19 #[.int .i64 n] w fun e w' => e = .returned (.agg #[.int .i64 1, .int .i64 n]) ∧ Fr [] w w' := by
  go_enter Try.func19, Try.ntmps19
  go_wp2_with fail
  exact bodyPost_ret (v := .agg #[.int .i64 1, .int .i64 n]) (by simp [results, Try.results19, go_sem]) rfl ⟨rfl, (Fr.refl _ _).alloc _⟩

theorem awake_list {e1 e2 e3 : Ent} (h1 : e1.due = 70) (h2 : e2.due = 70) (h3 : e3.due = 5) : insE e3 (insE e2 (insE e1 [])) = [e3, e1, e2] := by
  have a : ¬ e2.due < e1.due := by omega
  have b : e3.due < e1.due := by omega
  simp [insE, a, b]

set_option maxHeartbeats 4000000 in
set_option maxRecDepth 20000 in
theorem awake03 (w : World) : Calls Try.prog 15 #[] w fun e w' => e = .returned (.bool true) ∧ Fr [] w w' := by
  go_enter Try.func15, Try.ntmps15
  go_wp2_with fail
  refine (wheel_new _ 0 (by decide)).mono ?_
  rintro r w1 ⟨b, fp1, rfl, h1, g1, F1⟩
  have HF1 := Lib.hid F1
  have HI1 := Lib.hid h1
  have HG1 := Lib.hid g1
  clear F1 h1 g1
  go_wp2_with fail
  refine (timer_spec _ 1).mono ?_
  rintro r w2 ⟨rfl, F⟩
  have HF2 := Lib.hid (HF1.out.trans F)
  have HP := Lib.hid ((HI1.out.fr0 F).put_new (k1 := 1) (k2 := 1) (due := 70) rfl (by decide) (by decide))
  clear F
  go_wp2_with fail
  refine HP.out.mono ?_
  rintro r w3 ⟨rfl, e1, fp3, hk1, hd1, hs1, h3, U3, F3⟩
  have HG3 := Lib.hid (U3.ge HG1.out HF2.out.size)
  have HF3 := Lib.hid (HF2.out.ge F3 HG1.out)
  have HI3 := Lib.hid h3
  clear F3 h3 U3 HP
  go_wp2_with fail
  refine (timer_spec _ 2).mono ?_
  rintro r w4 ⟨rfl, F⟩
  have HF4 := Lib.hid (HF3.out.trans F)
  have HP := Lib.hid ((HI3.out.fr0 F).put_new (k1 := 1) (k2 := 2) (due := 70) (by simp [insE, entOf, hk1]) (by decide) (by decide))
  clear F
  go_wp2_with fail
  refine HP.out.mono ?_
  rintro r w5 ⟨rfl, e2, fp5, hk2, hd2, hs2, h5, U5, F5⟩
  have HG5 := Lib.hid (U5.ge HG3.out HF4.out.size)
  have HF5 := Lib.hid (HF4.out.ge F5 HG3.out)
  have HI5 := Lib.hid h5
  clear F5 h5 U5 HP
  go_wp2_with fail
  refine (timer_spec _ 3).mono ?_
  rintro r w6 ⟨rfl, F⟩
  have HF6 := Lib.hid (HF5.out.trans F)
  have hL5 : insE e2 (insE e1 []) = [e1, e2] := by
    have : ¬ e2.due < e1.due := by omega
    simp [insE, this]
  have HP := Lib.hid ((HI5.out.fr0 F).put_new (k1 := 1) (k2 := 3) (due := 5) (by rw [hL5]; simp [entOf, hk1, hk2]) (by decide) (by decide))
  clear F
  go_wp2_with fail
  refine HP.out.mono ?_
  rintro r w7 ⟨rfl, e3, fp7, hk3, hd3, hs3, h7, U7, F7⟩
  have hl7 : insE e3 (insE e2 (insE e1 [])) = [e3, e1, e2] := awake_list (by omega) (by omega) (by omega)
  rw [hl7] at h7
  have HG7 := Lib.hid (U7.ge HG5.out HF6.out.size)
  have HF7 := Lib.hid (HF6.out.ge F7 HG5.out)
  have HS := Lib.hid (h7.step_yes (by decide) (to := 100) (by omega))
  obtain ⟨k31, k32⟩ : e3.kind = 1 ∧ e3.id = 3 := by simpa [Ent.key] using hk3
  obtain ⟨k11, k12⟩ : e1.kind = 1 ∧ e1.id = 1 := by simpa [Ent.key] using hk1
  obtain ⟨k21, k22⟩ : e2.kind = 1 ∧ e2.id = 2 := by simpa [Ent.key] using hk2
  rw [k31, k32] at HS
  have d1 : e1.due = 70 := by omega
  have d2 : e2.due = 70 := by omega
  have d3 : e3.due = 5 := by omega
  rw [d3] at HS
  clear F7 h7 U7 HP hl7 hL5 hk1 hk2 hk3 hd1 hd2 hd3 hs1 hs2 hs3
  go_wp2_with fail
  refine HS.out.mono ?_
  rintro r w8 ⟨rfl, fp8, h8, U8, F8⟩
  have HG8 := Lib.hid (U8.ge HG7.out HF7.out.size)
  have HF8 := Lib.hid (HF7.out.ge F8 HG7.out)
  have HW8 := Lib.hid (fun (w' : World) (F : Fr [] w8 w') => (h8.fr0 F).step_yes (by decide) (to := 100) (by omega))
  have hlt8 := h8.lt
  rw [k11, k12, d1] at HW8
  clear F8 h8 U8 HS
  -- the box of the first that came
  obtain ⟨wa, hwa⟩ : ∃ wa, wa = w8.alloc (.cells #[.int .i64 1, .int .i64 3] 31) := ⟨_, rfl⟩
  have hb8 : w8.heap.size ∉ fp8 := fun h => by have := hlt8 _ h; omega
  have y0 : wa.heap[w8.heap.size]? = some (.cells #[.int .i64 1, .int .i64 3] 31 (0, 0)) := by rw [hwa]; exact block_alloc_new _ _
  have Fa : Fr [] w8 wa := by rw [hwa]; exact (Fr.refl _ _).alloc _
  have HSa := Lib.hid (HW8.out wa Fa)
  go_wp2_with fail
  rw [← hwa]
  clear hwa
  refine HSa.out.mono ?_
  rintro r w9 ⟨rfl, fp9, h9, U9, F9⟩
  have y09 := F9.keep y0 hb8
  have hb89 := U9.out hb8 (lt_of_block y0)
  have HG9 := Lib.hid (U9.ge HG8.out (Nat.le_trans HF8.out.size Fa.size))
  have HF9 := Lib.hid ((HF8.out.trans Fa).ge F9 HG8.out)
  have HW9 := Lib.hid (fun (w' : World) (F : Fr [] w9 w') => (h9.fr0 F).step_yes (by decide) (to := 100) (by omega))
  have hlt9 := h9.lt
  rw [k21, k22, d2] at HW9
  clear F9 h9 U9 HSa HW8 y0 Fa
  obtain ⟨wb, hwb⟩ : ∃ wb, wb = w9.alloc (.cells #[.int .i64 1, .int .i64 1] 31) := ⟨_, rfl⟩
  have hb9 : w9.heap.size ∉ fp9 := fun h => by have := hlt9 _ h; omega
  have x0 : wb.heap[w9.heap.size]? = some (.cells #[.int .i64 1, .int .i64 1] 31 (0, 0)) := by rw [hwb]; exact block_alloc_new _ _
  have Fb : Fr [] w9 wb := by rw [hwb]; exact (Fr.refl _ _).alloc _
  have HSb := Lib.hid (HW9.out wb Fb)
  have y0b := Fb.keep y09 (by simp)
  go_wp2_with fail
  rw [← hwb]
  clear hwb
  refine HSb.out.mono ?_
  rintro r w10 ⟨rfl, fp10, h10, U10, F10⟩
  have x010 := F10.keep x0 hb9
  have y010 := F10.keep y0b hb89
  have hb910 := U10.out hb9 (lt_of_block x0)
  have hb810 := U10.out hb89 (lt_of_block y0b)
  have HG10 := Lib.hid (U10.ge HG9.out (Nat.le_trans HF9.out.size Fb.size))
  have HF10 := Lib.hid ((HF9.out.trans Fb).ge F10 HG9.out)
  have HW10 := Lib.hid (fun (w' : World) (F : Fr [] w10 w') => (h10.fr0 F).step_no (by decide) (to := 100) (by decide) (by simp))
  have hlt10 := h10.lt
  clear F10 h10 U10 HSb HW9 x0 y0b y09 Fb hb8 hb9 hb89
  obtain ⟨wc, hwc⟩ : ∃ wc, wc = w10.alloc (.cells #[.int .i64 1, .int .i64 2] 31) := ⟨_, rfl⟩
  have hb10 : w10.heap.size ∉ fp10 := fun h => by have := hlt10 _ h; omega
  have z0 : wc.heap[w10.heap.size]? = some (.cells #[.int .i64 1, .int .i64 2] 31 (0, 0)) := by rw [hwc]; exact block_alloc_new _ _
  have Fc : Fr [] w10 wc := by rw [hwc]; exact (Fr.refl _ _).alloc _
  have HSc := Lib.hid (HW10.out wc Fc)
  have y0c := Fc.keep y010 (by simp)
  have x0c := Fc.keep x010 (by simp)
  go_wp2_with fail
  rw [← hwc]
  clear hwc
  refine HSc.out.mono ?_
  rintro r w11 ⟨rfl, fp11, h11, U11, F11⟩
  have z011 := F11.keep z0 hb10
  have x011 := F11.keep x0c hb910
  have y011 := F11.keep y0c hb810
  have HF11 := Lib.hid ((HF10.out.trans Fc).ge F11 HG10.out)
  have HI11 := Lib.hid h11
  clear F11 h11 U11 HSc HW10 z0 x0c y0c x010 y010 Fc hb10 hb910 hb810 hlt8 hlt9 hlt10
  obtain ⟨wd, hwd⟩ : ∃ wd, wd = w11.alloc (.cells #[.int .i64 0, .int .i64 0] 31) := ⟨_, rfl⟩
  have Fd : Fr [] w11 wd := by rw [hwd]; exact (Fr.refl _ _).alloc _
  have HFd := Lib.hid (HF11.out.trans Fd)
  have HNow := Lib.hid (fun (w' : World) (F : Fr [] wd w') => ((HI11.out.fr0 Fd).fr0 F).nowOf)
  have zd := Fd.keep z011 (by simp)
  have xd := Fd.keep x011 (by simp)
  have yd := Fd.keep y011 (by simp)
  go_wp2_with fail
  rw [← hwd]
  clear hwd z011 x011 y011 Fd
  have KS := Lib.hid (fun (w' : World) (F : Fr [] wd w') => (⟨by rw [cell_of_block (F.keep yd (by simp))]; rfl, by rw [cell_of_block (F.keep yd (by simp))]; rfl, by rw [cell_of_block (F.keep xd (by simp))]; rfl, by rw [cell_of_block (F.keep xd (by simp))]; rfl, by rw [cell_of_block (F.keep zd (by simp))]; rfl, by rw [cell_of_block (F.keep zd (by simp))]; rfl⟩ :
    w'.cell? ⟨w8.heap.size, 0, none⟩ = some (.int .i64 1) ∧ w'.cell? ⟨w8.heap.size, 1, none⟩ = some (.int .i64 3) ∧ w'.cell? ⟨w9.heap.size, 0, none⟩ = some (.int .i64 1) ∧ w'.cell? ⟨w9.heap.size, 1, none⟩ = some (.int .i64 1) ∧ w'.cell? ⟨w10.heap.size, 0, none⟩ = some (.int .i64 1) ∧ w'.cell? ⟨w10.heap.size, 1, none⟩ = some (.int .i64 2)))
  clear zd xd yd
  have FX := Fr.refl [] wd
  go_region_held3 (fun w' => w'.cell? ⟨w8.heap.size, 0, none⟩ = some (.int .i64 1) ∧ w'.cell? ⟨w8.heap.size, 1, none⟩ = some (.int .i64 3) ∧ w'.cell? ⟨w9.heap.size, 0, none⟩ = some (.int .i64 1) ∧ w'.cell? ⟨w9.heap.size, 1, none⟩ = some (.int .i64 1) ∧ w'.cell? ⟨w10.heap.size, 0, none⟩ = some (.int .i64 1) ∧ w'.cell? ⟨w10.heap.size, 1, none⟩ = some (.int .i64 2))
    (exact KS.out _ (by repeat (first | exact FX | exact Fr.refl _ _ | apply Fr.drew | apply Fr.drewN | apply Fr.alloc)))
    (first
      | (go_at_call 19; refine (timer_spec _ _).mono ?_; rintro r w12 ⟨rfl, F⟩; have FX : Fr [] wd w12 := Fr.trans (by repeat (first | exact FX | exact Fr.refl _ _ | apply Fr.drew | apply Fr.drewN | apply Fr.alloc)) F; clear F)
      | (go_at_call 22; refine (HNow.out _ FX).mono ?_; rintro r w12 ⟨rfl, rfl⟩))
  all_goals go_wp2_with fail
  all_goals go_ret
  all_goals exact ⟨by first | rfl | simp, HFd.out.trans FX⟩
end Go.Proofs.Ytibnhfnidgfenaa
