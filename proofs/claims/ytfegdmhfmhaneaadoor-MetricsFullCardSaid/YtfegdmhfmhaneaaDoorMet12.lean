/-
  MetricsFull, as a contract of its function (printed by gen_met12.py).
-/
import Derived.Test.YtfegdmhfmhaneaaDoorMet8
namespace Go.Proofs.YtfegdmhfmhaneaaDoor
open Go.RowKit

theorem sadd_zero (a : Nat) (h : a < 18446744073709551616) : sadd a 0 = a := by unfold sadd; omega
theorem sadd_most (a : Nat) : sadd a 18446744073709551615 = 18446744073709551615 := by unfold sadd; omega
theorem join_full (a : Su) (n : Nat) (ha : a.ok) (hl : 0 ≤ a.l) : (joinS a ⟨n, 0, 18446744073709551615, 0, 0, 0, 0, 0, 0, 0, 0⟩).vals = #[.int .u64 ((sadd a.k0 n : Nat) : Int), .int .u64 a.k1, .int .u64 18446744073709551615, .int .u64 a.k3, .int .u64 a.k4, .int .u64 a.c0, .int .u64 a.c1, .int .u64 a.c2, .int .u64 a.c3, .int .u64 a.c4, .int .u64 a.l] := by
  obtain ⟨hk0, hk1, hk2, hk3, hk4, hc0, hc1, hc2, hc3, hc4⟩ := ha
  unfold joinS Su.vals
  simp only [sadd_zero _ hk1, sadd_zero _ hk3, sadd_zero _ hk4, sadd_zero _ hc0, sadd_zero _ hc1, sadd_zero _ hc2, sadd_zero _ hc3, sadd_zero _ hc4, sadd_most, Int.max_eq_left hl]
  rfl

set_option maxHeartbeats 4000000 in
set_option maxRecDepth 20000 in
theorem metricsFull_spec (a : Su) (n : Nat) (ha : a.ok) (hl : 0 ≤ a.l) (hn : n < 18446744073709551616) (w : World) (ht : Tab w) :
    Calls Tryd.prog 8 #[.agg a.vals, .int .u64 n] w fun e w' => e = .returned (.bool true) ∧ Fr [] w w' := by
  have HA := Lib.hid (fun (w' : World) (F : Fr [] w w') => awake_spec w' (ht.fr F))
  have HJ : Hid (∀ w' : World, Calls Tryd.prog 18 #[.agg #[.int .u64 a.k0, .int .u64 a.k1, .int .u64 a.k2, .int .u64 a.k3, .int .u64 a.k4, .int .u64 a.c0, .int .u64 a.c1, .int .u64 a.c2, .int .u64 a.c3, .int .u64 a.c4, .int .u64 a.l], .agg #[.int .u64 n, .int .u64 0, .int .u64 18446744073709551615, .int .u64 0, .int .u64 0, .int .u64 0, .int .u64 0, .int .u64 0, .int .u64 0, .int .u64 0, .int .u64 0]] w' fun e w'' => e = .returned (.agg #[.int .u64 ((sadd a.k0 n : Nat) : Int), .int .u64 a.k1, .int .u64 18446744073709551615, .int .u64 a.k3, .int .u64 a.k4, .int .u64 a.c0, .int .u64 a.c1, .int .u64 a.c2, .int .u64 a.c3, .int .u64 a.c4, .int .u64 a.l]) ∧ Fr [] w' w'') := Lib.hid (fun w' => by rw [← join_full a n ha hl]; exact join_spec a ⟨n, 0, 18446744073709551615, 0, 0, 0, 0, 0, 0, 0, 0⟩ ha w')
  have HD := Lib.hid (fun w' : World => refadd_spec w' a.k0 n ha.1 hn)
  have q1 := eq_arr10 a.c0 a.c1 a.c2 a.c3 a.c4
  rw [show a.vals = #[.int .u64 a.k0, .int .u64 a.k1, .int .u64 a.k2, .int .u64 a.k3, .int .u64 a.k4, .int .u64 a.c0, .int .u64 a.c1, .int .u64 a.c2, .int .u64 a.c3, .int .u64 a.c4, .int .u64 a.l] from rfl]
  have HF := Lib.hid ((Fr.refl [] w).alloc (.cells #[.int .u64 a.k0, .int .u64 a.k1, .int .u64 a.k2, .int .u64 a.k3, .int .u64 a.k4, .int .u64 a.c0, .int .u64 a.c1, .int .u64 a.c2, .int .u64 a.c3, .int .u64 a.c4, .int .u64 a.l] 41))
  have HB := Lib.hid (block_alloc_new w (.cells #[.int .u64 a.k0, .int .u64 a.k1, .int .u64 a.k2, .int .u64 a.k3, .int .u64 a.k4, .int .u64 a.c0, .int .u64 a.c1, .int .u64 a.c2, .int .u64 a.c3, .int .u64 a.c4, .int .u64 a.l] 41))
  clear ha ht hn hl
  generalize sadd a.k0 n = s at *
  go_enter Tryd.func8, Tryd.ntmps8
  go_wp2_with fail
  refine (HA.out _ HF.out).mono ?_
  rintro e w2 ⟨rfl, F⟩
  have HF2 := Lib.hid (HF.out.trans F)
  have HC := Lib.hid (F.keep HB.out (by simp))
  obtain ⟨y0, y1, y2, y3, y4, y5, y6, y7, y8, y9, y10⟩ := eleven HC.out
  clear F HA HB HF
  go_wp2_with fail
  refine (HJ.out _).mono ?_
  rintro e w3 ⟨rfl, F⟩
  have HF3 := Lib.hid (((HF2.out.alloc (.cells #[.int .u64 a.k0, .int .u64 a.k1, .int .u64 a.k2, .int .u64 a.k3, .int .u64 a.k4, .int .u64 a.c0, .int .u64 a.c1, .int .u64 a.c2, .int .u64 a.c3, .int .u64 a.c4, .int .u64 a.l] 37)).alloc (.cells #[.int .u64 n, .int .u64 0, .int .u64 18446744073709551615, .int .u64 0, .int .u64 0, .int .u64 0, .int .u64 0, .int .u64 0, .int .u64 0, .int .u64 0, .int .u64 0] 37)).trans F)
  have HC3 := Lib.hid (F.keep (block_alloc (block_alloc HC.out (.cells #[.int .u64 a.k0, .int .u64 a.k1, .int .u64 a.k2, .int .u64 a.k3, .int .u64 a.k4, .int .u64 a.c0, .int .u64 a.c1, .int .u64 a.c2, .int .u64 a.c3, .int .u64 a.c4, .int .u64 a.l] 37)) (.cells #[.int .u64 n, .int .u64 0, .int .u64 18446744073709551615, .int .u64 0, .int .u64 0, .int .u64 0, .int .u64 0, .int .u64 0, .int .u64 0, .int .u64 0, .int .u64 0] 37)) (by simp))
  clear F HC HF2 y0 y1 y2 y3 y4 y5 y6 y7 y8 y9 y10
  have HZ := Lib.hid (block_alloc_new w3 (.cells #[.int .u64 (s : Int), .int .u64 a.k1, .int .u64 18446744073709551615, .int .u64 a.k3, .int .u64 a.k4, .int .u64 a.c0, .int .u64 a.c1, .int .u64 a.c2, .int .u64 a.c3, .int .u64 a.c4, .int .u64 a.l] 37))
  have HA4 := Lib.hid (block_alloc HC3.out (.cells #[.int .u64 (s : Int), .int .u64 a.k1, .int .u64 18446744073709551615, .int .u64 a.k3, .int .u64 a.k4, .int .u64 a.c0, .int .u64 a.c1, .int .u64 a.c2, .int .u64 a.c3, .int .u64 a.c4, .int .u64 a.l] 37))
  have HF4 := Lib.hid (HF3.out.alloc (.cells #[.int .u64 (s : Int), .int .u64 a.k1, .int .u64 18446744073709551615, .int .u64 a.k3, .int .u64 a.k4, .int .u64 a.c0, .int .u64 a.c1, .int .u64 a.c2, .int .u64 a.c3, .int .u64 a.c4, .int .u64 a.l] 37))
  go_wp2_with fail
  obtain ⟨w4, hw4⟩ : ∃ w4, w4 = w3.alloc (.cells #[.int .u64 (s : Int), .int .u64 a.k1, .int .u64 18446744073709551615, .int .u64 a.k3, .int .u64 a.k4, .int .u64 a.c0, .int .u64 a.c1, .int .u64 a.c2, .int .u64 a.c3, .int .u64 a.c4, .int .u64 a.l] 37) := ⟨_, rfl⟩
  rw [← hw4] at HZ HA4 HF4 ⊢
  clear hw4
  obtain ⟨y0, y1, y2, y3, y4, y5, y6, y7, y8, y9, y10⟩ := eleven HA4.out
  obtain ⟨z0, z1, z2, z3, z4, z5, z6, z7, z8, z9, z10⟩ := eleven HZ.out
  go_quiet ((go_at_call 20; exact Calls.quiet_of ((HD.out _).mono (fun e w' h => ⟨h.1, 0, by rw [h.2]; rfl⟩))))
  go_wp2_with fail
  go_ret
  exact ⟨rfl, HF4.out.drewN _⟩
end Go.Proofs.YtfegdmhfmhaneaaDoor
