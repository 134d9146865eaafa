/-
  The statements of porpoiselaw04, each as a contract of its function: it answers true, and what was there stays.
-/
import Derived.Test.YthbhkmhmiplikaaLaw04
namespace Go.Proofs.Ythbhkmhmiplikaa
open Go.RowKit

set_option maxHeartbeats 4000000 in
theorem ringPlays_walk {w : World} {v : Value} {ds : List (Int × Int)} (hd : Deeds w v ds) (m : Nat) (hm : m ≤ 8) :
    Calls Try.prog 3 #[.int .i64 m, v] w fun e w' => e = .returned (.bool true) ∧ Fr [] w w' := by
  obtain ⟨ao, cap, rfl, hd2, hd3⟩ := hd
  have HD := Lib.hid hd3
  clear hd3
  have t1 : decide ((m : Int) < 0) = false := by simp
  have t2 : decide ((8 : Int) < (m : Int)) = false := by simp; omega
  go_enter Try.func3, Try.ntmps3
  go_wp2_with fail
  refine (awake_spec _).mono ?_
  rintro e w0 ⟨rfl, F⟩
  have HF0 := Lib.hid F
  have hs0 := F.size
  clear F
  go_wp2_with fail
  refine (new_ring m _ hm).mono ?_
  rintro e w1 ⟨rfl, R, hs, F⟩
  have HR := Lib.hid R
  have HF := Lib.hid (HF0.out.trans F)
  clear R F
  go_wp2_with fail
  go_loopw [7, 8] (fun s v wr => ∃ i : Nat, i ≤ ds.length ∧ i ≤ 100 ∧ v = .int .i64 i ∧ Hid (IsRing wr w0.heap.size (after m (ds.take i)) m) ∧ Hid (Lst wr (w0.heap.size + 1) s (after m (ds.take i))) ∧ Hid (Fr [] w wr) ∧ w0.heap.size < wr.heap.size) (fun _ v _ => ds.length - (intOf v).toNat)
  case atStart => exact ⟨0, Nat.zero_le _, by omega, rfl, Lib.hid (by simpa [after] using HR.out), Lib.hid (by simpa [after] using Lst.nil _ _), HF, by omega⟩
  case round =>
    obtain ⟨i, hi, hi2, rfl, HRi, HVi, HFi, hsi⟩ := hrel
    by_cases hlt : i < ds.length
    · by_cases hlt2 : i < 100
      · obtain ⟨b1, o1, rfl, hc1, hc2⟩ := HD.out i hlt
        have hc1' := (HFi.out.cell (p := ⟨b1, o1 + i * 2, none⟩) (World.block_lt_of_cell? _ _ hc1) (by simp)).trans hc1
        have hc2' := (HFi.out.cell (p := ⟨b1, o1 + i * 2 + 1, none⟩) (World.block_lt_of_cell? _ _ hc2) (by simp)).trans hc2
        clear hc1 hc2
        have HA := Lib.hid (after_snoc m ds i hlt)
        have HL := Lib.hid (after_len m (ds.take i))
        have HL2 := Lib.hid (after_len m (ds.take (i + 1)))
        generalize (ds.getD i (0, 0)).1 = k at *
        generalize (ds.getD i (0, 0)).2 = x at *
        go_wp2_with fail
        refine (do_spec (m := m) HRi.out HVi.out (Nat.lt_succ_self _) (by omega) (by omega) HL.out k x).mono ?_
        rintro e w2 ⟨v2, rfl, R, V, F⟩
        rw [← HA.out] at R V
        have HR2 := Lib.hid R
        have HV2 := Lib.hid V
        have HF2 := Lib.hid (HFi.out.own F (by omega))
        have hs2 := F.size
        clear R V F HA
        have hl2 := HL2.out
        generalize hxs : after m (ds.take (i + 1)) = xs at *
        have HXS := Lib.hid hxs
        clear hxs
        go_wp2_with fail
        refine (HR2.out.list).mono ?_
        rintro e w3 ⟨v3, rfl, O, F⟩
        have HR3 := Lib.hid (HR2.out.fr F (by simp))
        have HV3 := Lib.hid (HV2.out.fr F (by simp))
        have HF3 := Lib.hid (HF2.out.trans F)
        have HO3 := Lib.hid (Lst.of_owns O)
        have hs3 := F.size
        clear O F
        go_wp2_with fail
        refine (same_spec HO3.out.1 HV3.out.1 (by omega)).mono ?_
        rintro e w4 ⟨rfl, q, rfl⟩
        rw [show same xs xs = true by simp [same]]
        have HR4 := Lib.hid (HR3.out.drewN q)
        obtain ⟨ao, cap2, rfl, _⟩ := HV3.out.1
        go_wp2_with fail
        refine (HR4.out.len).mono ?_
        rintro e w5 ⟨rfl, rfl⟩
        go_wp2_with fail
        refine (HR4.out.full).mono ?_
        rintro e w5 ⟨rfl, q2, rfl⟩
        have hfl : (decide (xs.length = m) == ((xs.length : Int) == (m : Int))) = true := by
          by_cases hq : xs.length = m
          · simp [hq]
          · have : ((xs.length : Int) == (m : Int)) = false := by simp; omega
            simp [hq, this]
        go_wp2_with fail
        go_roundw
        case rel => exact ⟨i + 1, by omega, by omega, by go_num, Lib.hid (by rw [HXS.out]; exact HR4.out.drewN q2), Lib.hid (by rw [HXS.out]; exact HV3.out.mono (Nat.le_refl _)), Lib.hid (HF3.out.drewN _), by show w0.heap.size < w3.heap.size; omega⟩
        case measure => simp [intOf]; omega
      · go_wp2_with fail
        go_ret
        exact ⟨rfl, HFi.out⟩
    · go_wp2_with fail
      go_ret
      exact ⟨rfl, HFi.out⟩

theorem ringPlays_spec {w : World} {v : Value} {ds : List (Int × Int)} (hd : Deeds w v ds) (m : Int) :
    Calls Try.prog 3 #[.int .i64 m, v] w fun e w' => e = .returned (.bool true) ∧ Fr [] w w' := by
  by_cases h : 0 ≤ m ∧ m ≤ 8
  · obtain ⟨n, rfl⟩ := Int.eq_ofNat_of_zero_le h.1
    exact ringPlays_walk hd n (by omega)
  · by_cases h0 : m < 0
    · go_enter Try.func3, Try.ntmps3
      go_wp2_with fail
      refine (awake_spec _).mono ?_
      rintro e w0 ⟨rfl, F⟩
      have HF0 := Lib.hid F
      go_wp2_with fail
      refine (new_none m _ (Or.inl h0)).mono ?_
      rintro e w1 ⟨rfl, rfl⟩
      go_wp2_with fail
      go_ret
      exact ⟨rfl, HF0.out⟩
    · have h8 : 8 < m := by omega
      clear h
      go_enter Try.func3, Try.ntmps3
      go_wp2_with fail
      refine (awake_spec _).mono ?_
      rintro e w0 ⟨rfl, F⟩
      have HF0 := Lib.hid F
      go_wp2_with fail
      refine (new_none m _ (Or.inr h8)).mono ?_
      rintro e w1 ⟨rfl, rfl⟩
      go_wp2_with fail
      go_ret
      exact ⟨rfl, HF0.out⟩
end Go.Proofs.Ythbhkmhmiplikaa
