/-
  BulkPlays, as a contract of its function.
-/
import Derived.Test.YthbhkmhmiplikaaBulkLaws1
namespace Go.Proofs.Ythbhkmhmiplikaa
open Go.RowKit

set_option maxHeartbeats 8000000 in
/-- A configuration that isn't one: nobody's bulk. -/
theorem bulkPlays_none {w : World} {v : Value} (c : CF) (x : Int) (hno : c.ok = false) :
    Calls Try.prog 9 #[c.val, v, .int .i64 x] w fun e w' => e = .returned (.bool true) ∧ Fr [] w w' := by
  have HN : Hid (∀ w, Calls Try.prog 28 #[c.val] w (fun e w' => e = .returned (.pointer none) ∧ Fr [] w w')) := Lib.hid (fun w => by
    by_cases h1 : c.mode = 1 ∨ c.mode = 2
    · exact bulk_new_no c w (fun h => by
        have : c.ok = true := by simp only [CF.ok]; exact decide_eq_true ⟨by omega, by omega, h⟩
        rw [this] at hno; cases hno)
    · exact bulk_new_mode c w (fun h => h1 (.inl h)) (fun h => h1 (.inr h)))
  have HN2 := Lib.hid (fun w => ref10_new c w)
  have HOK := Lib.hid hno
  clear hno
  obtain ⟨mode, pool, queue, sem, fb, ch, t, ft, vo, pe, sl, bu, wi, wd, ba, fo⟩ := c
  simp only [CF.val] at *
  go_enter Try.func9, Try.ntmps9
  go_wp2_with fail
  refine (awake10 _).mono ?_
  rintro e w1 ⟨rfl, F⟩
  obtain ⟨c0, c1, c2, c3, c4, c5, c6, c7, c8, c9, c10, c11, c12, c13, c14, c15⟩ := sixteen (F.keep (block_alloc_new _ _) (by simp))
  have HF := Lib.hid (((Fr.refl [] w).alloc _).trans F)
  have hlt : w.heap.size < w1.heap.size := by have := F.size; simp at this; omega
  clear F
  go_wp2_with fail
  refine (HN.out _).mono ?_
  rintro e w2 ⟨rfl, F⟩
  have HF := Lib.hid (HF.out.trans F)
  have d0 := (F.cell (p := ⟨w.heap.size, 0, none⟩) hlt (by simp)).trans c0
  have d1 := (F.cell (p := ⟨w.heap.size, 1, none⟩) hlt (by simp)).trans c1
  have d2 := (F.cell (p := ⟨w.heap.size, 2, none⟩) hlt (by simp)).trans c2
  have d3 := (F.cell (p := ⟨w.heap.size, 3, none⟩) hlt (by simp)).trans c3
  have d4 := (F.cell (p := ⟨w.heap.size, 4, none⟩) hlt (by simp)).trans c4
  have d5 := (F.cell (p := ⟨w.heap.size, 5, none⟩) hlt (by simp)).trans c5
  have d6 := (F.cell (p := ⟨w.heap.size, 6, none⟩) hlt (by simp)).trans c6
  have d7 := (F.cell (p := ⟨w.heap.size, 7, none⟩) hlt (by simp)).trans c7
  have d8 := (F.cell (p := ⟨w.heap.size, 8, none⟩) hlt (by simp)).trans c8
  have d9 := (F.cell (p := ⟨w.heap.size, 9, none⟩) hlt (by simp)).trans c9
  have d10 := (F.cell (p := ⟨w.heap.size, 10, none⟩) hlt (by simp)).trans c10
  have d11 := (F.cell (p := ⟨w.heap.size, 11, none⟩) hlt (by simp)).trans c11
  have d12 := (F.cell (p := ⟨w.heap.size, 12, none⟩) hlt (by simp)).trans c12
  have d13 := (F.cell (p := ⟨w.heap.size, 13, none⟩) hlt (by simp)).trans c13
  have d14 := (F.cell (p := ⟨w.heap.size, 14, none⟩) hlt (by simp)).trans c14
  have d15 := (F.cell (p := ⟨w.heap.size, 15, none⟩) hlt (by simp)).trans c15
  clear F c0 c1 c2 c3 c4 c5 c6 c7 c8 c9 c10 c11 c12 c13 c14 c15
  go_wp2_with fail
  refine (HN2.out _).mono ?_
  rintro e w3 ⟨rfl, F⟩
  have HF := Lib.hid (HF.out.trans F)
  rw [HOK.out]
  generalize CF.most _ = mm
  generalize CF.que _ = qq
  clear F d0 d1 d2 d3 d4 d5 d6 d7 d8 d9 d10 d11 d12 d13 d14 d15
  go_wp2_with fail
  go_ret
  exact ⟨rfl, HF.out.alloc _⟩
end Go.Proofs.Ythbhkmhmiplikaa
