/-
  WheelNobody, as a contract of its function.
-/
import Derived.Test.YtibnhfnidgfenaaWLaw1
namespace Go.Proofs.Ytibnhfnidgfenaa
open Go.RowKit

set_option maxHeartbeats 4000000 in
set_option maxRecDepth 20000 in
theorem wheelNobody_spec (w : World) (now due : Nat) (hn : now < 18446744073709551616) (hd : due < 18446744073709551616) (k1 k2 : Int) :
    Calls Try.prog 8 #[.int .u64 now, .int .u64 due, .agg #[.int .i64 k1, .int .i64 k2]] w fun e w' => e = .returned (.bool true) ∧ Fr [] w w' := by
  have HF0 := Lib.hid ((Fr.refl [] w).alloc (.cells #[.int .i64 k1, .int .i64 k2] 31))
  go_enter Try.func8, Try.ntmps8
  go_wp2_with fail
  refine (awake03 _).mono ?_
  rintro r w1 ⟨rfl, F⟩
  have KB := F.keep (block_alloc_new w (.cells #[.int .i64 k1, .int .i64 k2] 31)) (by simp)
  have HF1 := Lib.hid (HF0.out.trans F)
  have HK := Lib.hid (fun (w' : World) (F : Fr [] w1 w') => (⟨by rw [cell_of_block (F.keep KB (by simp))]; rfl, by rw [cell_of_block (F.keep KB (by simp))]; rfl⟩ : w'.cell? ⟨w.heap.size, 0, none⟩ = some (.int .i64 k1) ∧ w'.cell? ⟨w.heap.size, 1, none⟩ = some (.int .i64 k2)))
  have hbx : w.heap.size < w1.heap.size := lt_of_block KB
  have HKB := Lib.hid KB
  clear F KB
  obtain ⟨x0, x1⟩ := HK.out w1 (Fr.refl _ _)
  go_wp2_with fail
  refine (due_nil _ k1 k2).mono ?_
  rintro r w2 ⟨rfl, F⟩
  have HX2 := Lib.hid F
  obtain ⟨x02, x12⟩ := HK.out w2 F
  clear F x0 x1
  go_wp2_with fail
  refine (next_nil _).mono ?_
  rintro r w3 ⟨rfl, hw⟩
  subst hw
  go_wp2_with fail
  refine (step_nil _ due).mono ?_
  rintro r w4 ⟨rfl, F⟩
  have HX4 := Lib.hid (HX2.out.trans F)
  have HX5 := Lib.hid (HX4.out.alloc (.cells #[.int .i64 0, .int .i64 0] 31))
  obtain ⟨x04, x14⟩ := HK.out _ HX5.out
  clear F x02 x12
  go_wp2_with fail
  refine (put_nil _ k1 k2 due).mono ?_
  rintro r w5 ⟨rfl, F⟩
  have HX6 := Lib.hid (HX5.out.trans F)
  obtain ⟨x05, x15⟩ := HK.out _ HX6.out
  clear F x04 x14
  go_wp2_with fail
  refine (cancel_nil _ k1 k2).mono ?_
  rintro r w6 ⟨rfl, F⟩
  have HX7 := Lib.hid (HX6.out.trans F)
  clear F x05 x15
  go_wp2_with fail
  refine (now_nil _).mono ?_
  rintro r w7 ⟨rfl, hw⟩
  subst hw
  go_wp2_with fail
  refine (wlen_nil _).mono ?_
  rintro r w8 ⟨rfl, hw⟩
  subst hw
  go_wp2_with fail
  refine (wheel_new _ now hn).mono ?_
  rintro r w9 ⟨b, fp, rfl, h9, g9, F⟩
  have HX9 := Lib.hid (HX7.out.trans F)
  obtain ⟨x09, x19⟩ := HK.out _ HX9.out
  have hbf : w.heap.size ∉ fp := fun h => by have := g9 _ h; have := HX7.out.size; omega
  have HP := Lib.hid (h9.put_new (k1 := k1) (k2 := k2) (due := due) rfl hd (by decide))
  have hge : ∀ x ∈ fp, w.heap.size ≤ x := fun x hx => by have := g9 x hx; have := HX7.out.size; omega
  have HF9 := Lib.hid (HF1.out.trans HX9.out)
  have HKB9 := Lib.hid (HX9.out.keep HKB.out (by simp))
  clear F h9 g9
  go_wp2_with fail
  refine HP.out.mono ?_
  rintro r w10 ⟨rfl, e, fp', hk, hdu, hsq, h10, U10, F10⟩
  have HKB10 := Lib.hid (F10.keep HKB9.out hbf)
  have x010 : w10.cell? ⟨w.heap.size, 0, none⟩ = some (.int .i64 k1) := by rw [cell_of_block HKB10.out]; rfl
  have x110 : w10.cell? ⟨w.heap.size, 1, none⟩ = some (.int .i64 k2) := by rw [cell_of_block HKB10.out]; rfl
  have HF10 := Lib.hid (HF9.out.ge F10 hge)
  have HI10 := Lib.hid h10
  have hent : entOf (insE e []) (k1, k2) = some e := by simp [insE, entOf, hk]
  have HPT := Lib.hid (h10.put_there (k1 := k1) (k2 := k2) (by rw [hent]; simp) due)
  have HDue := Lib.hid (fun (w' : World) (F : Fr [] w10 w') => (h10.fr0 F).dueOf k1 k2)
  rw [hent] at HDue
  have HMx := Lib.hid hdu
  clear F10 h10 U10 hdu x09 x19 hent HP
  go_wp2_with fail
  refine HPT.out.mono ?_
  rintro r w11 ⟨rfl, F11⟩
  have HF11 := Lib.hid (HF10.out.trans F11)
  have HY11 := Lib.hid F11
  have x011 := F11.on x010 (by simp)
  have x111 := F11.on x110 (by simp)
  clear F11 x010 x110
  go_wp2_with fail
  refine (HDue.out _ HY11.out).mono ?_
  rintro r w12 ⟨rfl, F12⟩
  have HF12 := Lib.hid (HF11.out.trans F12)
  have HLen := Lib.hid ((HI10.out.fr0 (HY11.out.trans F12)).lenOf)
  simp only [Option.map_some, Option.getD_some, Option.isSome_some]
  rw [HMx.out]
  rw [show (insE e []).length = 1 from rfl] at HLen
  clear F12 x011 x111
  by_cases hmx : now < due
  all_goals
    first
      | rw [show max due now = due by omega]
      | rw [show max due now = now by omega]
    go_wp2_with fail
    all_goals (
      refine HLen.out.mono ?_
      rintro r w13 ⟨rfl, hw⟩
      subst hw
      go_wp2_with fail
      go_ret
      exact ⟨by first | rfl | simp, HF12.out⟩)
end Go.Proofs.Ytibnhfnidgfenaa
