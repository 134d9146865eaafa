/-
  Sums are compared; awake.
-/
import Derived.Test.YtfegdmhfmhaneaaDoorMet7
import Derived.Test.YtfegdmhfmhaneaaDoorMet3
import Derived.ChangeKeysEq
namespace Go.Proofs.YtfegdmhfmhaneaaDoor
open Go.RowKit

theorem cells_u64 : (Tryd.prog).cellsOf 22 = 1 := by kernel_rfl
theorem part_u64 (w : World) (cs : Array Value) (k : IntKind) (i : Nat) (x : Int) (h : cs[i]? = some (.int k x)) : (part 22 cs i).run Tryd.prog w = .ok (.int k x) w := by
  simp [part, h, go_sem]
theorem eq_arr (d : Nat) (x0 x1 x2 x3 x4 : Int) (w : World) :
    (Op.equalIn (d + 1 + 1) 23 (.agg #[.int .u64 x0, .int .u64 x1, .int .u64 x2, .int .u64 x3, .int .u64 x4]) (.agg #[.int .u64 x0, .int .u64 x1, .int .u64 x2, .int .u64 x3, .int .u64 x4])).run Tryd.prog w = .ok true w := by
  obtain ⟨i1, hj, hy0, hy1, hy2⟩ := info_partsM Tryd.info_u64
  rw [run_equalIn_array w (d + 1) _ _ Tryd.underlying23 hj]
  rw [cells_u64]
  simp [Op.eqItems, List.range, List.range.loop, go_sem]
theorem eq_arr9 (x0 x1 x2 x3 x4 : Int) (w : World) : (Op.equalIn 9999 23 (.agg #[.int .u64 x0, .int .u64 x1, .int .u64 x2, .int .u64 x3, .int .u64 x4]) (.agg #[.int .u64 x0, .int .u64 x1, .int .u64 x2, .int .u64 x3, .int .u64 x4])).run Tryd.prog w = .ok true w := eq_arr 9997 x0 x1 x2 x3 x4 w
theorem eq_arr10 (x0 x1 x2 x3 x4 : Int) (w : World) : (Op.equalIn 10000 23 (.agg #[.int .u64 x0, .int .u64 x1, .int .u64 x2, .int .u64 x3, .int .u64 x4]) (.agg #[.int .u64 x0, .int .u64 x1, .int .u64 x2, .int .u64 x3, .int .u64 x4])).run Tryd.prog w = .ok true w := eq_arr 9998 x0 x1 x2 x3 x4 w
theorem stood_r : (Tryd.prog).stoodInHeld 41 = false := by kernel_rfl
theorem stood_m : (Tryd.prog).stoodInHeld 37 = false := by kernel_rfl
set_option maxHeartbeats 2000000 in
theorem eq_sumR (s : Su) (w : World) : (Op.equalIn 10000 41 (.agg s.vals) (.agg s.vals)).run Tryd.prog w = .ok true w := by
  rw [run_equalIn_struct w 9999 _ _ _ Tryd.underlying41 stood_r]
  simp [Op.eqFields, Program.fieldsOf, Tryd.underlying41, go_sem, part, Su.vals, eq_arr9]
set_option maxHeartbeats 2000000 in
theorem eq_sumM (s : Su) (w : World) : (Op.equalIn 10000 37 (.agg s.vals) (.agg s.vals)).run Tryd.prog w = .ok true w := by
  rw [run_equalIn_struct w 9999 _ _ _ Tryd.underlying37 stood_m]
  simp [Op.eqFields, Program.fieldsOf, Tryd.underlying37, go_sem, part, Su.vals, eq_arr9]

def sn2 : Sn := ⟨2, 0, 0, 0, 0, 0, 0, 0, 0, 0, 0, 0⟩
theorem sn2_ok : sn2.ok := by unfold sn2 Sn.ok I64; simp
theorem sn2_line : bs sn2.line = ⟨#[50, 32, 48, 32, 48, 32, 48, 32, 48, 32, 48, 32, 48, 32, 48, 32, 48, 32, 48, 32, 48, 32, 48]⟩ := by
  have h2 : Lib.itoa 2 = [50] := by unfold Lib.itoa; rw [if_neg (by decide)]; exact dec_lt (by decide)
  have h0 : Lib.itoa 0 = [48] := by unfold Lib.itoa; rw [if_neg (by decide)]; exact dec_lt (by decide)
  have d0 : Lib.decDigits 0 = [48] := dec_lt (by decide)
  unfold Sn.line Sn.words sn2
  simp only [h2, h0, d0]
  rfl
theorem dec120 : bs (Lib.decDigits 120) = ⟨#[49, 50, 48]⟩ := by
  rw [dec_ge (by decide), dec_ge (by decide), dec_lt (by decide)]
  rfl
def ou1 : Ou := ⟨1, 1, 0, 0, 3⟩
def ou2 : Ou := ⟨2, 4, 2, 0, 9⟩
theorem sum_two : sumOf [ou1, ou2] = ⟨0, 1, 0, 0, 1, 1, 0, 1, 0, 0, 9⟩ := by rfl
set_option maxHeartbeats 4000000 in
set_option maxRecDepth 20000 in
theorem awake_spec (w : World) (ht : Tab w) :
    Calls Tryd.prog 9 #[] w fun e w' => e = .returned (.bool true) ∧ Fr [] w w' := by
  have HN := Lib.hid (fun (w' : World) (F : Fr [] w w') => num_spec 120 (by decide) w' (ht.fr F))
  have HL := Lib.hid (fun (w' : World) (F : Fr [] w w') => line_spec sn2 sn2_ok w' (ht.fr F))
  rw [dec120] at HN
  rw [sn2_line, show sn2.vals = #[.int .i64 2, .int .i64 0, .int .i64 0, .int .i64 0, .int .i64 0, .int .u64 0, .int .u64 0, .int .u64 0, .int .u64 0, .int .u64 0, .int .u64 0, .int .u64 0] from rfl] at HL
  have HO : Hid (∀ (w' : World), Ous w' 0 (.slice (some ⟨w.heap.size, 0, none⟩) 2 2) [ou1, ou2] → Calls Tryd.prog 15 #[.slice (some ⟨w.heap.size, 0, none⟩) 2 2] w' fun e w'' => e = .returned (.agg #[.int .u64 0, .int .u64 1, .int .u64 0, .int .u64 0, .int .u64 1, .int .u64 1, .int .u64 0, .int .u64 1, .int .u64 0, .int .u64 0, .int .u64 9]) ∧ Fr [] w' w'') :=
    Lib.hid (fun w' h => by have := of_spec h (by decide); rw [sum_two] at this; exact this)
  clear ht
  have hq1 := eq_arr10 0 1 0 0 1
  have hq2 := eq_arr10 1 0 1 0 0
  go_enter Tryd.func9, Tryd.ntmps9
  go_wp2_with fail
  obtain ⟨W, hW⟩ : ∃ W, W = w.alloc (.cells #[.int .i64 1, .int .i64 1, .int .i64 0, .int .i64 0, .int .u64 3, .int .i64 2, .int .i64 4, .int .i64 2, .int .i64 0, .int .u64 9] 35) := ⟨_, rfl⟩
  have HB : W.heap[w.heap.size]? = some (.cells #[.int .i64 1, .int .i64 1, .int .i64 0, .int .i64 0, .int .u64 3, .int .i64 2, .int .i64 4, .int .i64 2, .int .i64 0, .int .u64 9] 35) := by rw [hW]; exact block_alloc_new _ _
  have HF : Fr [] w W := by rw [hW]; exact (Fr.refl _ _).alloc _
  rw [← hW]
  clear hW
  have hous : Ous W 0 (.slice (some ⟨w.heap.size, 0, none⟩) 2 2) [ou1, ou2] := ⟨some ⟨w.heap.size, 0, none⟩, 2, rfl, Nat.le_refl _, (fun h => by cases h), fun i hi => ⟨w.heap.size, 0, rfl, Nat.zero_le _, by
    match i, hi with
    | 0, _ => exact ⟨by rw [cell_of_block HB]; rfl, by rw [cell_of_block HB]; rfl, by rw [cell_of_block HB]; rfl, by rw [cell_of_block HB]; rfl, by rw [cell_of_block HB]; rfl⟩
    | 1, _ => exact ⟨by rw [cell_of_block HB]; rfl, by rw [cell_of_block HB]; rfl, by rw [cell_of_block HB]; rfl, by rw [cell_of_block HB]; rfl, by rw [cell_of_block HB]; rfl⟩⟩⟩
  refine (HO.out _ hous).mono ?_
  rintro e w2 ⟨rfl, F⟩
  have HF2 := Lib.hid (HF.trans F)
  clear hous HB HF F
  go_wp2_with fail
  refine (HL.out _ (HF2.out.alloc _)).mono ?_
  rintro e w3 ⟨rfl, F⟩
  have HF3 := Lib.hid ((HF2.out.alloc _).trans F)
  clear F
  go_wp2_with fail
  refine (HN.out _ HF3.out).mono ?_
  rintro e w4 ⟨rfl, F⟩
  have HF4 := Lib.hid (HF3.out.trans F)
  clear F
  go_wp2_with fail
  go_ret
  exact ⟨rfl, HF4.out⟩

end Go.Proofs.YtfegdmhfmhaneaaDoor
