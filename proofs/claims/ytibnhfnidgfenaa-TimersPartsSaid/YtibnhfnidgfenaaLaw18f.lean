/-
  TimersParts, as a contract of its function.
-/
import Derived.Test.YtibnhfnidgfenaaLaw18c
namespace Go.Proofs.Ytibnhfnidgfenaa
open Go.RowKit

theorem sadd_assoc (g a b : Nat) : sadd (sadd g a) b = sadd g (sadd a b) := by unfold sadd; omega
theorem Cs.go_go (s : Cs) (a b : Nat) : (s.go a).go b = s.go (sadd a b) := by
  unfold Cs.go
  simp only
  rw [sadd_assoc]
set_option maxHeartbeats 4000000 in
set_option maxRecDepth 20000 in
theorem timersParts_spec {w : World} {dv : Value} {ds : List De} (hd : De4s w dv ds) (a b : Nat) (ha : a < 18446744073709551616) (hb : b < 18446744073709551616) :
    Calls Try.prog 12 #[dv, .int .u64 a, .int .u64 b] w fun e w' => e = .returned (.bool true) ∧ Fr [] w w' := by
  have HD := Lib.hid hd
  have HA := Lib.hid (fun wx => refadd_spec wx a b ha hb)
  obtain ⟨ao, cap, rfl, hlen, -⟩ := hd
  clear ha hb
  go_enter Try.func12, Try.ntmps12
  go_wp2_with fail
  refine (awake18 _).mono ?_
  rintro r w1 ⟨rfl, F⟩
  have HF := Lib.hid F
  clear F
  go_wp2_with fail
  refine (ran18_spec (HD.out.fr HF.out)).mono ?_
  rintro r w2 ⟨cx, rfl, h2⟩
  have H2 := Lib.hid (h2.base (K := []) HF.out (by simp))
  have HF2 := Lib.hid (HF.out.trans h2.frame)
  clear h2
  go_wp2_with fail
  refine (ran18_spec (HD.out.fr HF2.out)).mono ?_
  rintro r w3 ⟨cy, rfl, h3⟩
  generalize clkTo ds (min ds.length 100) = s0 at *
  have H3 := Lib.hid (C2.of H2.out h3)
  clear h3 H2
  go_wp2_with fail
  refine (H3.out.call (fun fp h => h.go a)).mono ?_
  rintro r w4 ⟨rfl, h4⟩
  have H4 := Lib.hid h4
  clear h4
  go_wp2_with fail
  refine (H4.out.call (fun fp h => h.go b)).mono ?_
  rintro r w5 ⟨rfl, h5⟩
  rw [Cs.go_go] at h5
  have H5 := Lib.hid h5.swap
  clear h5
  go_wp2_with fail
  refine (HA.out _).mono ?_
  rintro r w6 ⟨rfl, hw⟩
  subst hw
  have HG := Lib.hid (H5.out.call (fun fp h => h.go (sadd a b)))
  generalize s0.go (sadd a b) = s1 at *
  generalize sadd a b = ab at *
  go_wp2_with fail
  refine HG.out.mono ?_
  rintro r w7 ⟨rfl, h7⟩
  have H7 := Lib.hid h7.swap
  clear h7 HG H5 H4 H3
  go_wp2_with fail
  go_loopw [10] (fun vi wr => ∃ (i : Nat) (s : Cs), vi = .int .i64 i ∧ i ≤ 101 ∧ Hid (C2 w wr cx cy s s 100 100 [])) (fun vi _ => 101 - (intOf vi).toNat)
  case atStart => exact ⟨0, s1, by go_num, by omega, H7⟩
  case round =>
    clear H7
    obtain ⟨i, s, rfl, hi, H⟩ := hrel
    by_cases hlt : i < 101
    · have HN := Lib.hid (H.out.call (fun fp h => h.next (by omega)))
      obtain ⟨K1, hK1⟩ : ∃ K, K = (s.comes.map On.kind).getD 0 := ⟨_, rfl⟩
      obtain ⟨K2, hK2⟩ : ∃ K, K = (s.comes.map On.id).getD 0 := ⟨_, rfl⟩
      obtain ⟨I, hI⟩ : ∃ I, I = s.comes.isSome := ⟨_, rfl⟩
      rw [show keyV s.comes = .agg #[.int .i64 K1, .int .i64 K2] by rw [hK1, hK2]; rfl, ← hI] at HN
      have HE := Lib.hid (And.intro hK1 (And.intro hK2 hI))
      clear hK1 hK2 hI
      go_wp2_with fail
      refine HN.out.mono ?_
      rintro r w8 ⟨rfl, h8⟩
      have H8 := Lib.hid ((h8.box (tbox K1 K2)).swap)
      have HM := Lib.hid (H8.out.call (fun fp h => h.next (by omega)))
      rw [show keyV s.comes = .agg #[.int .i64 K1, .int .i64 K2] by rw [HE.out.1, HE.out.2.1]; rfl, ← HE.out.2.2] at HM
      obtain ⟨w9, hw9⟩ : ∃ w9, w9 = w8.alloc (tbox K1 K2) := ⟨_, rfl⟩
      rw [← hw9] at HM
      clear h8 HN
      go_wp2_with fail
      rw [← hw9]
      clear hw9
      refine HM.out.mono ?_
      rintro r w10 ⟨rfl, h10⟩
      have h11 := h10.box (tbox K1 K2)
      obtain ⟨b0, b1⟩ := two_cells' (h11.read (p := w8.heap.size) (o := tbox K1 K2) (by simp))
      obtain ⟨e0, e1⟩ := two_cells' (h11.read (p := w10.heap.size) (o := tbox K1 K2) (by simp))
      simp only [tbox] at b0 b1 e0 e1
      have H11 := Lib.hid (h11.swap.less (K' := []) (by simp))
      have HN1 := Lib.hid (H11.out.ask (fun fp h => h.nowOf))
      have HN2 := Lib.hid (H11.out.swap.ask (fun fp h => h.nowOf))
      clear h10 h11 HM H8 HE
      generalize s.next = s' at *
      go_wp2_with fail
      refine HN1.out.mono ?_
      rintro r wz ⟨rfl, hwz⟩
      subst hwz
      go_wp2_with fail
      refine HN2.out.mono ?_
      rintro r wz ⟨rfl, hwz⟩
      subst hwz
      go_wp2_with fail
      go_roundw
      case rel => exact ⟨i + 1, s', by go_num, by omega, H11⟩
      case measure => simp [intOf]; omega
    · have HN1 := Lib.hid (H.out.ask (fun fp h => h.goalOf))
      have HN2 := Lib.hid (H.out.swap.ask (fun fp h => h.goalOf))
      go_wp2_with fail
      refine HN1.out.mono ?_
      rintro r wz ⟨rfl, hwz⟩
      subst hwz
      go_wp2_with fail
      refine HN2.out.mono ?_
      rintro r wz ⟨rfl, hwz⟩
      subst hwz
      go_wp2_with fail
      go_ret
      exact ⟨by first | rfl | simp, H.out.frame⟩
end Go.Proofs.Ytibnhfnidgfenaa
