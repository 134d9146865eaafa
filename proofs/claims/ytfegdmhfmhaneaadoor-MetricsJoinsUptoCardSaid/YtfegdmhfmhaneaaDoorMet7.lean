/-
  The document's two sums as one: porpoiseref20.Join; how a dependency stands, as the program has it: made (printed by gen_met7.py).
-/
import Derived.Test.YtfegdmhfmhaneaaDoorMet6
import Derived.Test.YtfegdmhfmhaneaaDoorMet2
namespace Go.Proofs.YtfegdmhfmhaneaaDoor
open Go.RowKit

set_option maxHeartbeats 4000000 in
set_option maxRecDepth 20000 in
theorem made_spec (s : Sn) (w : World) :
    Calls Tryd.prog 11 #[.agg s.vals] w fun e w' => e = .returned (.agg s.vals) ∧ Fr [] w w' := by
  go_enter Tryd.func11, Tryd.ntmps11
  go_wp2_with fail
  refine bodyPost_ret (v := .agg #[.int .i64 s.b, .int .i64 s.w, .int .i64 s.f, .int .i64 s.c, .int .i64 s.br, .int .u64 s.k0, .int .u64 s.k1, .int .u64 s.k2, .int .u64 s.k3, .int .u64 s.k4, .int .u64 s.ha, .int .u64 s.al]) (by simp [results, Tryd.results11, go_sem]) rfl ?_
  exact ⟨rfl, ((Fr.refl _ _).alloc _).alloc _⟩

set_option maxHeartbeats 4000000 in
set_option maxRecDepth 20000 in
theorem refjoin_spec (a b : Su) (ha : a.ok) (hb : b.ok) (w : World) :
    Calls Tryd.prog 19 #[.agg a.vals, .agg b.vals] w fun e w' => e = .returned (.agg (joinS a b).vals) ∧ Fr [] w w' := by
  have HOK := Lib.hid (And.intro ha hb)
  clear ha hb
  have HAdd := Lib.hid (fun (wx : World) (x y : Nat) (h1 : x < 18446744073709551616) (h2 : y < 18446744073709551616) => refadd_spec wx x y h1 h2)
  have HV : Hid ((joinS a b).vals = #[.int .u64 ((sadd a.k0 b.k0 : Nat) : Int), .int .u64 ((sadd a.k1 b.k1 : Nat) : Int), .int .u64 ((sadd a.k2 b.k2 : Nat) : Int), .int .u64 ((sadd a.k3 b.k3 : Nat) : Int), .int .u64 ((sadd a.k4 b.k4 : Nat) : Int), .int .u64 ((sadd a.c0 b.c0 : Nat) : Int), .int .u64 ((sadd a.c1 b.c1 : Nat) : Int), .int .u64 ((sadd a.c2 b.c2 : Nat) : Int), .int .u64 ((sadd a.c3 b.c3 : Nat) : Int), .int .u64 ((sadd a.c4 b.c4 : Nat) : Int), .int .u64 (max a.l b.l)]) := Lib.hid rfl
  rw [show a.vals = #[.int .u64 a.k0, .int .u64 a.k1, .int .u64 a.k2, .int .u64 a.k3, .int .u64 a.k4, .int .u64 a.c0, .int .u64 a.c1, .int .u64 a.c2, .int .u64 a.c3, .int .u64 a.c4, .int .u64 a.l] from rfl, show b.vals = #[.int .u64 b.k0, .int .u64 b.k1, .int .u64 b.k2, .int .u64 b.k3, .int .u64 b.k4, .int .u64 b.c0, .int .u64 b.c1, .int .u64 b.c2, .int .u64 b.c3, .int .u64 b.c4, .int .u64 b.l] from rfl]
  have HF := Lib.hid (((((Fr.refl [] w).alloc (.cells #[.int .u64 a.k0, .int .u64 a.k1, .int .u64 a.k2, .int .u64 a.k3, .int .u64 a.k4, .int .u64 a.c0, .int .u64 a.c1, .int .u64 a.c2, .int .u64 a.c3, .int .u64 a.c4, .int .u64 a.l] 41)).alloc (.cells #[.int .u64 b.k0, .int .u64 b.k1, .int .u64 b.k2, .int .u64 b.k3, .int .u64 b.k4, .int .u64 b.c0, .int .u64 b.c1, .int .u64 b.c2, .int .u64 b.c3, .int .u64 b.c4, .int .u64 b.l] 41)).alloc (.cells #[.int .u64 0, .int .u64 0, .int .u64 0, .int .u64 0, .int .u64 0, .int .u64 0, .int .u64 0, .int .u64 0, .int .u64 0, .int .u64 0, .int .u64 0] 41)).alloc (.cells #[.int .u64 0, .int .u64 0, .int .u64 0, .int .u64 0, .int .u64 0, .int .u64 0, .int .u64 0, .int .u64 0, .int .u64 0, .int .u64 0, .int .u64 (max a.l b.l)] 41))
  have HB := Lib.hid (block_alloc (block_alloc (block_alloc (block_alloc_new w (.cells #[.int .u64 a.k0, .int .u64 a.k1, .int .u64 a.k2, .int .u64 a.k3, .int .u64 a.k4, .int .u64 a.c0, .int .u64 a.c1, .int .u64 a.c2, .int .u64 a.c3, .int .u64 a.c4, .int .u64 a.l] 41)) (.cells #[.int .u64 b.k0, .int .u64 b.k1, .int .u64 b.k2, .int .u64 b.k3, .int .u64 b.k4, .int .u64 b.c0, .int .u64 b.c1, .int .u64 b.c2, .int .u64 b.c3, .int .u64 b.c4, .int .u64 b.l] 41)) (.cells #[.int .u64 0, .int .u64 0, .int .u64 0, .int .u64 0, .int .u64 0, .int .u64 0, .int .u64 0, .int .u64 0, .int .u64 0, .int .u64 0, .int .u64 0] 41)) (.cells #[.int .u64 0, .int .u64 0, .int .u64 0, .int .u64 0, .int .u64 0, .int .u64 0, .int .u64 0, .int .u64 0, .int .u64 0, .int .u64 0, .int .u64 (max a.l b.l)] 41))
  have HB2 := Lib.hid (block_alloc (block_alloc (block_alloc_new (w.alloc (.cells #[.int .u64 a.k0, .int .u64 a.k1, .int .u64 a.k2, .int .u64 a.k3, .int .u64 a.k4, .int .u64 a.c0, .int .u64 a.c1, .int .u64 a.c2, .int .u64 a.c3, .int .u64 a.c4, .int .u64 a.l] 41)) (.cells #[.int .u64 b.k0, .int .u64 b.k1, .int .u64 b.k2, .int .u64 b.k3, .int .u64 b.k4, .int .u64 b.c0, .int .u64 b.c1, .int .u64 b.c2, .int .u64 b.c3, .int .u64 b.c4, .int .u64 b.l] 41)) (.cells #[.int .u64 0, .int .u64 0, .int .u64 0, .int .u64 0, .int .u64 0, .int .u64 0, .int .u64 0, .int .u64 0, .int .u64 0, .int .u64 0, .int .u64 0] 41)) (.cells #[.int .u64 0, .int .u64 0, .int .u64 0, .int .u64 0, .int .u64 0, .int .u64 0, .int .u64 0, .int .u64 0, .int .u64 0, .int .u64 0, .int .u64 (max a.l b.l)] 41))
  have HZ := Lib.hid (block_alloc (block_alloc_new ((w.alloc (.cells #[.int .u64 a.k0, .int .u64 a.k1, .int .u64 a.k2, .int .u64 a.k3, .int .u64 a.k4, .int .u64 a.c0, .int .u64 a.c1, .int .u64 a.c2, .int .u64 a.c3, .int .u64 a.c4, .int .u64 a.l] 41)).alloc (.cells #[.int .u64 b.k0, .int .u64 b.k1, .int .u64 b.k2, .int .u64 b.k3, .int .u64 b.k4, .int .u64 b.c0, .int .u64 b.c1, .int .u64 b.c2, .int .u64 b.c3, .int .u64 b.c4, .int .u64 b.l] 41)) (.cells #[.int .u64 0, .int .u64 0, .int .u64 0, .int .u64 0, .int .u64 0, .int .u64 0, .int .u64 0, .int .u64 0, .int .u64 0, .int .u64 0, .int .u64 0] 41)) (.cells #[.int .u64 0, .int .u64 0, .int .u64 0, .int .u64 0, .int .u64 0, .int .u64 0, .int .u64 0, .int .u64 0, .int .u64 0, .int .u64 0, .int .u64 (max a.l b.l)] 41))
  have HX := Lib.hid (block_alloc_new (((w.alloc (.cells #[.int .u64 a.k0, .int .u64 a.k1, .int .u64 a.k2, .int .u64 a.k3, .int .u64 a.k4, .int .u64 a.c0, .int .u64 a.c1, .int .u64 a.c2, .int .u64 a.c3, .int .u64 a.c4, .int .u64 a.l] 41)).alloc (.cells #[.int .u64 b.k0, .int .u64 b.k1, .int .u64 b.k2, .int .u64 b.k3, .int .u64 b.k4, .int .u64 b.c0, .int .u64 b.c1, .int .u64 b.c2, .int .u64 b.c3, .int .u64 b.c4, .int .u64 b.l] 41)).alloc (.cells #[.int .u64 0, .int .u64 0, .int .u64 0, .int .u64 0, .int .u64 0, .int .u64 0, .int .u64 0, .int .u64 0, .int .u64 0, .int .u64 0, .int .u64 0] 41)) (.cells #[.int .u64 0, .int .u64 0, .int .u64 0, .int .u64 0, .int .u64 0, .int .u64 0, .int .u64 0, .int .u64 0, .int .u64 0, .int .u64 0, .int .u64 (max a.l b.l)] 41))
  obtain ⟨W, hW⟩ : ∃ W, W = (((w.alloc (.cells #[.int .u64 a.k0, .int .u64 a.k1, .int .u64 a.k2, .int .u64 a.k3, .int .u64 a.k4, .int .u64 a.c0, .int .u64 a.c1, .int .u64 a.c2, .int .u64 a.c3, .int .u64 a.c4, .int .u64 a.l] 41)).alloc (.cells #[.int .u64 b.k0, .int .u64 b.k1, .int .u64 b.k2, .int .u64 b.k3, .int .u64 b.k4, .int .u64 b.c0, .int .u64 b.c1, .int .u64 b.c2, .int .u64 b.c3, .int .u64 b.c4, .int .u64 b.l] 41)).alloc (.cells #[.int .u64 0, .int .u64 0, .int .u64 0, .int .u64 0, .int .u64 0, .int .u64 0, .int .u64 0, .int .u64 0, .int .u64 0, .int .u64 0, .int .u64 0] 41)).alloc (.cells #[.int .u64 0, .int .u64 0, .int .u64 0, .int .u64 0, .int .u64 0, .int .u64 0, .int .u64 0, .int .u64 0, .int .u64 0, .int .u64 0, .int .u64 (max a.l b.l)] 41) := ⟨_, rfl⟩
  rw [← hW] at HB HB2 HZ HX HF
  rw [World.size_alloc, World.size_alloc, World.size_alloc] at HX
  rw [World.size_alloc, World.size_alloc] at HZ
  rw [World.size_alloc] at HB2
  have HW := Lib.hid hW
  clear hW
  go_enter Tryd.func19, Tryd.ntmps19
  go_wp2_with fail
  rw [← HW.out]
  go_loopw [6] (fun x wr => ∃ k : Nat, k ≤ 5 ∧ x = .int .i64 k ∧ Hid (wr.heap[w.heap.size]? = some (.cells #[.int .u64 a.k0, .int .u64 a.k1, .int .u64 a.k2, .int .u64 a.k3, .int .u64 a.k4, .int .u64 a.c0, .int .u64 a.c1, .int .u64 a.c2, .int .u64 a.c3, .int .u64 a.c4, .int .u64 a.l] 41)) ∧ Hid (wr.heap[w.heap.size + 1]? = some (.cells #[.int .u64 b.k0, .int .u64 b.k1, .int .u64 b.k2, .int .u64 b.k3, .int .u64 b.k4, .int .u64 b.c0, .int .u64 b.c1, .int .u64 b.c2, .int .u64 b.c3, .int .u64 b.c4, .int .u64 b.l] 41)) ∧ Hid (wr.heap[w.heap.size + 1 + 1]? = some (.cells #[.int .u64 0, .int .u64 0, .int .u64 0, .int .u64 0, .int .u64 0, .int .u64 0, .int .u64 0, .int .u64 0, .int .u64 0, .int .u64 0, .int .u64 0] 41)) ∧ Hid (wr.heap[w.heap.size + 1 + 1 + 1]? = some (.cells #[.int .u64 ((if 0 < k then sadd a.k0 b.k0 else 0 : Nat) : Int), .int .u64 ((if 1 < k then sadd a.k1 b.k1 else 0 : Nat) : Int), .int .u64 ((if 2 < k then sadd a.k2 b.k2 else 0 : Nat) : Int), .int .u64 ((if 3 < k then sadd a.k3 b.k3 else 0 : Nat) : Int), .int .u64 ((if 4 < k then sadd a.k4 b.k4 else 0 : Nat) : Int), .int .u64 ((if 0 < k then sadd a.c0 b.c0 else 0 : Nat) : Int), .int .u64 ((if 1 < k then sadd a.c1 b.c1 else 0 : Nat) : Int), .int .u64 ((if 2 < k then sadd a.c2 b.c2 else 0 : Nat) : Int), .int .u64 ((if 3 < k then sadd a.c3 b.c3 else 0 : Nat) : Int), .int .u64 ((if 4 < k then sadd a.c4 b.c4 else 0 : Nat) : Int), .int .u64 (max a.l b.l)] 41)) ∧ Hid (Fr [] w wr)) (fun x _ => 5 - (Go.RowKit.intOf x).toNat)
  case atStart => exact ⟨0, by omega, rfl, HB, HB2, HZ, HX, HF⟩
  case round =>
    clear HB HB2 HZ HX HF
    obtain ⟨k, hk, rfl, HB, HB2, HZ, HX, HF⟩ := hrel
    have n0 : w.heap.size + 1 + 1 + 1 ≠ w.heap.size := by omega
    have n1 : w.heap.size + 1 + 1 + 1 ≠ w.heap.size + 1 := by omega
    have n2 : w.heap.size + 1 + 1 + 1 ≠ w.heap.size + 1 + 1 := by omega
    rcases (show k = 0 ∨ k = 1 ∨ k = 2 ∨ k = 3 ∨ k = 4 ∨ k = 5 by omega) with rfl | rfl | rfl | rfl | rfl | rfl
    · obtain ⟨q1, _, _, _, _, q2, _, _, _, _, _⟩ := eleven HB.out
      obtain ⟨r1, _, _, _, _, r2, _, _, _, _, _⟩ := eleven HB2.out
      obtain ⟨x1, _, _, _, _, x2, _, _, _, _, _⟩ := eleven HX.out
      have f1 := free_of_block HX.out 0
      have f2 := free_of_block HX.out 5
      have HA1 := Lib.hid (fun wx => HAdd.out wx a.k0 b.k0 (by have := HOK.out.1; unfold Su.ok at this; omega) (by have := HOK.out.2; unfold Su.ok at this; omega))
      have HA2 := Lib.hid (fun wx => HAdd.out wx a.c0 b.c0 (by have := HOK.out.1; unfold Su.ok at this; omega) (by have := HOK.out.2; unfold Su.ok at this; omega))
      have GB := Lib.hid (block_setCell_other (block_setCell_other HB.out (p := ⟨w.heap.size + 1 + 1 + 1, 0, none⟩) n0 (.int .u64 ((sadd a.k0 b.k0 : Nat) : Int))) (p := ⟨w.heap.size + 1 + 1 + 1, 5, none⟩) n0 (.int .u64 ((sadd a.c0 b.c0 : Nat) : Int)))
      have GB2 := Lib.hid (block_setCell_other (block_setCell_other HB2.out (p := ⟨w.heap.size + 1 + 1 + 1, 0, none⟩) n1 (.int .u64 ((sadd a.k0 b.k0 : Nat) : Int))) (p := ⟨w.heap.size + 1 + 1 + 1, 5, none⟩) n1 (.int .u64 ((sadd a.c0 b.c0 : Nat) : Int)))
      have GZ := Lib.hid (block_setCell_other (block_setCell_other HZ.out (p := ⟨w.heap.size + 1 + 1 + 1, 0, none⟩) n2 (.int .u64 ((sadd a.k0 b.k0 : Nat) : Int))) (p := ⟨w.heap.size + 1 + 1 + 1, 5, none⟩) n2 (.int .u64 ((sadd a.c0 b.c0 : Nat) : Int)))
      have GX := Lib.hid (block_setCell (block_setCell HX.out 0 (.int .u64 ((sadd a.k0 b.k0 : Nat) : Int))) 5 (.int .u64 ((sadd a.c0 b.c0 : Nat) : Int)))
      have GF := Lib.hid (Fr.setCell (Fr.setCell HF.out (p := ⟨w.heap.size + 1 + 1 + 1, 0, none⟩) (.inr (by show w.heap.size ≤ w.heap.size + 1 + 1 + 1; omega)) (.int .u64 ((sadd a.k0 b.k0 : Nat) : Int))) (p := ⟨w.heap.size + 1 + 1 + 1, 5, none⟩) (.inr (by show w.heap.size ≤ w.heap.size + 1 + 1 + 1; omega)) (.int .u64 ((sadd a.c0 b.c0 : Nat) : Int)))
      go_wp2_with fail
      go_region_with ((go_at_call 20; refine (HA1.out _).mono ?_; rintro e w8 ⟨rfl, h8⟩; subst h8))
      all_goals (
        go_wp2_with fail
        go_region_with ((go_at_call 20; refine (HA2.out _).mono ?_; rintro e w8 ⟨rfl, h8⟩; subst h8))
        all_goals (
          go_wp2_with fail
          go_roundw
          case rel => exact ⟨1, by omega, rfl, GB, GB2, GZ, GX, Lib.hid (GF.out.drewN 2)⟩
          case measure => simp [Go.RowKit.intOf]))
    · obtain ⟨_, q1, _, _, _, _, q2, _, _, _, _⟩ := eleven HB.out
      obtain ⟨_, r1, _, _, _, _, r2, _, _, _, _⟩ := eleven HB2.out
      obtain ⟨_, x1, _, _, _, _, x2, _, _, _, _⟩ := eleven HX.out
      have f1 := free_of_block HX.out 1
      have f2 := free_of_block HX.out 6
      have HA1 := Lib.hid (fun wx => HAdd.out wx a.k1 b.k1 (by have := HOK.out.1; unfold Su.ok at this; omega) (by have := HOK.out.2; unfold Su.ok at this; omega))
      have HA2 := Lib.hid (fun wx => HAdd.out wx a.c1 b.c1 (by have := HOK.out.1; unfold Su.ok at this; omega) (by have := HOK.out.2; unfold Su.ok at this; omega))
      have GB := Lib.hid (block_setCell_other (block_setCell_other HB.out (p := ⟨w.heap.size + 1 + 1 + 1, 1, none⟩) n0 (.int .u64 ((sadd a.k1 b.k1 : Nat) : Int))) (p := ⟨w.heap.size + 1 + 1 + 1, 6, none⟩) n0 (.int .u64 ((sadd a.c1 b.c1 : Nat) : Int)))
      have GB2 := Lib.hid (block_setCell_other (block_setCell_other HB2.out (p := ⟨w.heap.size + 1 + 1 + 1, 1, none⟩) n1 (.int .u64 ((sadd a.k1 b.k1 : Nat) : Int))) (p := ⟨w.heap.size + 1 + 1 + 1, 6, none⟩) n1 (.int .u64 ((sadd a.c1 b.c1 : Nat) : Int)))
      have GZ := Lib.hid (block_setCell_other (block_setCell_other HZ.out (p := ⟨w.heap.size + 1 + 1 + 1, 1, none⟩) n2 (.int .u64 ((sadd a.k1 b.k1 : Nat) : Int))) (p := ⟨w.heap.size + 1 + 1 + 1, 6, none⟩) n2 (.int .u64 ((sadd a.c1 b.c1 : Nat) : Int)))
      have GX := Lib.hid (block_setCell (block_setCell HX.out 1 (.int .u64 ((sadd a.k1 b.k1 : Nat) : Int))) 6 (.int .u64 ((sadd a.c1 b.c1 : Nat) : Int)))
      have GF := Lib.hid (Fr.setCell (Fr.setCell HF.out (p := ⟨w.heap.size + 1 + 1 + 1, 1, none⟩) (.inr (by show w.heap.size ≤ w.heap.size + 1 + 1 + 1; omega)) (.int .u64 ((sadd a.k1 b.k1 : Nat) : Int))) (p := ⟨w.heap.size + 1 + 1 + 1, 6, none⟩) (.inr (by show w.heap.size ≤ w.heap.size + 1 + 1 + 1; omega)) (.int .u64 ((sadd a.c1 b.c1 : Nat) : Int)))
      go_wp2_with fail
      go_region_with ((go_at_call 20; refine (HA1.out _).mono ?_; rintro e w8 ⟨rfl, h8⟩; subst h8))
      all_goals (
        go_wp2_with fail
        go_region_with ((go_at_call 20; refine (HA2.out _).mono ?_; rintro e w8 ⟨rfl, h8⟩; subst h8))
        all_goals (
          go_wp2_with fail
          go_roundw
          case rel => exact ⟨2, by omega, rfl, GB, GB2, GZ, GX, Lib.hid (GF.out.drewN 2)⟩
          case measure => simp [Go.RowKit.intOf]))
    · obtain ⟨_, _, q1, _, _, _, _, q2, _, _, _⟩ := eleven HB.out
      obtain ⟨_, _, r1, _, _, _, _, r2, _, _, _⟩ := eleven HB2.out
      obtain ⟨_, _, x1, _, _, _, _, x2, _, _, _⟩ := eleven HX.out
      have f1 := free_of_block HX.out 2
      have f2 := free_of_block HX.out 7
      have HA1 := Lib.hid (fun wx => HAdd.out wx a.k2 b.k2 (by have := HOK.out.1; unfold Su.ok at this; omega) (by have := HOK.out.2; unfold Su.ok at this; omega))
      have HA2 := Lib.hid (fun wx => HAdd.out wx a.c2 b.c2 (by have := HOK.out.1; unfold Su.ok at this; omega) (by have := HOK.out.2; unfold Su.ok at this; omega))
      have GB := Lib.hid (block_setCell_other (block_setCell_other HB.out (p := ⟨w.heap.size + 1 + 1 + 1, 2, none⟩) n0 (.int .u64 ((sadd a.k2 b.k2 : Nat) : Int))) (p := ⟨w.heap.size + 1 + 1 + 1, 7, none⟩) n0 (.int .u64 ((sadd a.c2 b.c2 : Nat) : Int)))
      have GB2 := Lib.hid (block_setCell_other (block_setCell_other HB2.out (p := ⟨w.heap.size + 1 + 1 + 1, 2, none⟩) n1 (.int .u64 ((sadd a.k2 b.k2 : Nat) : Int))) (p := ⟨w.heap.size + 1 + 1 + 1, 7, none⟩) n1 (.int .u64 ((sadd a.c2 b.c2 : Nat) : Int)))
      have GZ := Lib.hid (block_setCell_other (block_setCell_other HZ.out (p := ⟨w.heap.size + 1 + 1 + 1, 2, none⟩) n2 (.int .u64 ((sadd a.k2 b.k2 : Nat) : Int))) (p := ⟨w.heap.size + 1 + 1 + 1, 7, none⟩) n2 (.int .u64 ((sadd a.c2 b.c2 : Nat) : Int)))
      have GX := Lib.hid (block_setCell (block_setCell HX.out 2 (.int .u64 ((sadd a.k2 b.k2 : Nat) : Int))) 7 (.int .u64 ((sadd a.c2 b.c2 : Nat) : Int)))
      have GF := Lib.hid (Fr.setCell (Fr.setCell HF.out (p := ⟨w.heap.size + 1 + 1 + 1, 2, none⟩) (.inr (by show w.heap.size ≤ w.heap.size + 1 + 1 + 1; omega)) (.int .u64 ((sadd a.k2 b.k2 : Nat) : Int))) (p := ⟨w.heap.size + 1 + 1 + 1, 7, none⟩) (.inr (by show w.heap.size ≤ w.heap.size + 1 + 1 + 1; omega)) (.int .u64 ((sadd a.c2 b.c2 : Nat) : Int)))
      go_wp2_with fail
      go_region_with ((go_at_call 20; refine (HA1.out _).mono ?_; rintro e w8 ⟨rfl, h8⟩; subst h8))
      all_goals (
        go_wp2_with fail
        go_region_with ((go_at_call 20; refine (HA2.out _).mono ?_; rintro e w8 ⟨rfl, h8⟩; subst h8))
        all_goals (
          go_wp2_with fail
          go_roundw
          case rel => exact ⟨3, by omega, rfl, GB, GB2, GZ, GX, Lib.hid (GF.out.drewN 2)⟩
          case measure => simp [Go.RowKit.intOf]))
    · obtain ⟨_, _, _, q1, _, _, _, _, q2, _, _⟩ := eleven HB.out
      obtain ⟨_, _, _, r1, _, _, _, _, r2, _, _⟩ := eleven HB2.out
      obtain ⟨_, _, _, x1, _, _, _, _, x2, _, _⟩ := eleven HX.out
      have f1 := free_of_block HX.out 3
      have f2 := free_of_block HX.out 8
      have HA1 := Lib.hid (fun wx => HAdd.out wx a.k3 b.k3 (by have := HOK.out.1; unfold Su.ok at this; omega) (by have := HOK.out.2; unfold Su.ok at this; omega))
      have HA2 := Lib.hid (fun wx => HAdd.out wx a.c3 b.c3 (by have := HOK.out.1; unfold Su.ok at this; omega) (by have := HOK.out.2; unfold Su.ok at this; omega))
      have GB := Lib.hid (block_setCell_other (block_setCell_other HB.out (p := ⟨w.heap.size + 1 + 1 + 1, 3, none⟩) n0 (.int .u64 ((sadd a.k3 b.k3 : Nat) : Int))) (p := ⟨w.heap.size + 1 + 1 + 1, 8, none⟩) n0 (.int .u64 ((sadd a.c3 b.c3 : Nat) : Int)))
      have GB2 := Lib.hid (block_setCell_other (block_setCell_other HB2.out (p := ⟨w.heap.size + 1 + 1 + 1, 3, none⟩) n1 (.int .u64 ((sadd a.k3 b.k3 : Nat) : Int))) (p := ⟨w.heap.size + 1 + 1 + 1, 8, none⟩) n1 (.int .u64 ((sadd a.c3 b.c3 : Nat) : Int)))
      have GZ := Lib.hid (block_setCell_other (block_setCell_other HZ.out (p := ⟨w.heap.size + 1 + 1 + 1, 3, none⟩) n2 (.int .u64 ((sadd a.k3 b.k3 : Nat) : Int))) (p := ⟨w.heap.size + 1 + 1 + 1, 8, none⟩) n2 (.int .u64 ((sadd a.c3 b.c3 : Nat) : Int)))
      have GX := Lib.hid (block_setCell (block_setCell HX.out 3 (.int .u64 ((sadd a.k3 b.k3 : Nat) : Int))) 8 (.int .u64 ((sadd a.c3 b.c3 : Nat) : Int)))
      have GF := Lib.hid (Fr.setCell (Fr.setCell HF.out (p := ⟨w.heap.size + 1 + 1 + 1, 3, none⟩) (.inr (by show w.heap.size ≤ w.heap.size + 1 + 1 + 1; omega)) (.int .u64 ((sadd a.k3 b.k3 : Nat) : Int))) (p := ⟨w.heap.size + 1 + 1 + 1, 8, none⟩) (.inr (by show w.heap.size ≤ w.heap.size + 1 + 1 + 1; omega)) (.int .u64 ((sadd a.c3 b.c3 : Nat) : Int)))
      go_wp2_with fail
      go_region_with ((go_at_call 20; refine (HA1.out _).mono ?_; rintro e w8 ⟨rfl, h8⟩; subst h8))
      all_goals (
        go_wp2_with fail
        go_region_with ((go_at_call 20; refine (HA2.out _).mono ?_; rintro e w8 ⟨rfl, h8⟩; subst h8))
        all_goals (
          go_wp2_with fail
          go_roundw
          case rel => exact ⟨4, by omega, rfl, GB, GB2, GZ, GX, Lib.hid (GF.out.drewN 2)⟩
          case measure => simp [Go.RowKit.intOf]))
    · obtain ⟨_, _, _, _, q1, _, _, _, _, q2, _⟩ := eleven HB.out
      obtain ⟨_, _, _, _, r1, _, _, _, _, r2, _⟩ := eleven HB2.out
      obtain ⟨_, _, _, _, x1, _, _, _, _, x2, _⟩ := eleven HX.out
      have f1 := free_of_block HX.out 4
      have f2 := free_of_block HX.out 9
      have HA1 := Lib.hid (fun wx => HAdd.out wx a.k4 b.k4 (by have := HOK.out.1; unfold Su.ok at this; omega) (by have := HOK.out.2; unfold Su.ok at this; omega))
      have HA2 := Lib.hid (fun wx => HAdd.out wx a.c4 b.c4 (by have := HOK.out.1; unfold Su.ok at this; omega) (by have := HOK.out.2; unfold Su.ok at this; omega))
      have GB := Lib.hid (block_setCell_other (block_setCell_other HB.out (p := ⟨w.heap.size + 1 + 1 + 1, 4, none⟩) n0 (.int .u64 ((sadd a.k4 b.k4 : Nat) : Int))) (p := ⟨w.heap.size + 1 + 1 + 1, 9, none⟩) n0 (.int .u64 ((sadd a.c4 b.c4 : Nat) : Int)))
      have GB2 := Lib.hid (block_setCell_other (block_setCell_other HB2.out (p := ⟨w.heap.size + 1 + 1 + 1, 4, none⟩) n1 (.int .u64 ((sadd a.k4 b.k4 : Nat) : Int))) (p := ⟨w.heap.size + 1 + 1 + 1, 9, none⟩) n1 (.int .u64 ((sadd a.c4 b.c4 : Nat) : Int)))
      have GZ := Lib.hid (block_setCell_other (block_setCell_other HZ.out (p := ⟨w.heap.size + 1 + 1 + 1, 4, none⟩) n2 (.int .u64 ((sadd a.k4 b.k4 : Nat) : Int))) (p := ⟨w.heap.size + 1 + 1 + 1, 9, none⟩) n2 (.int .u64 ((sadd a.c4 b.c4 : Nat) : Int)))
      have GX := Lib.hid (block_setCell (block_setCell HX.out 4 (.int .u64 ((sadd a.k4 b.k4 : Nat) : Int))) 9 (.int .u64 ((sadd a.c4 b.c4 : Nat) : Int)))
      have GF := Lib.hid (Fr.setCell (Fr.setCell HF.out (p := ⟨w.heap.size + 1 + 1 + 1, 4, none⟩) (.inr (by show w.heap.size ≤ w.heap.size + 1 + 1 + 1; omega)) (.int .u64 ((sadd a.k4 b.k4 : Nat) : Int))) (p := ⟨w.heap.size + 1 + 1 + 1, 9, none⟩) (.inr (by show w.heap.size ≤ w.heap.size + 1 + 1 + 1; omega)) (.int .u64 ((sadd a.c4 b.c4 : Nat) : Int)))
      go_wp2_with fail
      go_region_with ((go_at_call 20; refine (HA1.out _).mono ?_; rintro e w8 ⟨rfl, h8⟩; subst h8))
      all_goals (
        go_wp2_with fail
        go_region_with ((go_at_call 20; refine (HA2.out _).mono ?_; rintro e w8 ⟨rfl, h8⟩; subst h8))
        all_goals (
          go_wp2_with fail
          go_roundw
          case rel => exact ⟨5, by omega, rfl, GB, GB2, GZ, GX, Lib.hid (GF.out.drewN 2)⟩
          case measure => simp [Go.RowKit.intOf]))
    · have HX2 := HX.out
      simp only [Nat.reduceLT, reduceIte] at HX2
      obtain ⟨y0, y1, y2, y3, y4, y5, y6, y7, y8, y9, y10⟩ := eleven HX2
      obtain ⟨z0, z1, z2, z3, z4, z5, z6, z7, z8, z9, z10⟩ := eleven HZ.out
      obtain ⟨f0, f1, f2, f3, f4, f5, f6, f7, f8, f9, f10⟩ := free11 HZ.out
      clear HX2
      go_wp2_with fail
      have HB9 := set11 HZ.out (.int .u64 ((sadd a.k0 b.k0 : Nat) : Int)) (.int .u64 ((sadd a.k1 b.k1 : Nat) : Int)) (.int .u64 ((sadd a.k2 b.k2 : Nat) : Int)) (.int .u64 ((sadd a.k3 b.k3 : Nat) : Int)) (.int .u64 ((sadd a.k4 b.k4 : Nat) : Int)) (.int .u64 ((sadd a.c0 b.c0 : Nat) : Int)) (.int .u64 ((sadd a.c1 b.c1 : Nat) : Int)) (.int .u64 ((sadd a.c2 b.c2 : Nat) : Int)) (.int .u64 ((sadd a.c3 b.c3 : Nat) : Int)) (.int .u64 ((sadd a.c4 b.c4 : Nat) : Int)) (.int .u64 (max a.l b.l))
      have HF9 := fr11 (b := w.heap.size + 1 + 1) HF.out (by omega) (.int .u64 ((sadd a.k0 b.k0 : Nat) : Int)) (.int .u64 ((sadd a.k1 b.k1 : Nat) : Int)) (.int .u64 ((sadd a.k2 b.k2 : Nat) : Int)) (.int .u64 ((sadd a.k3 b.k3 : Nat) : Int)) (.int .u64 ((sadd a.k4 b.k4 : Nat) : Int)) (.int .u64 ((sadd a.c0 b.c0 : Nat) : Int)) (.int .u64 ((sadd a.c1 b.c1 : Nat) : Int)) (.int .u64 ((sadd a.c2 b.c2 : Nat) : Int)) (.int .u64 ((sadd a.c3 b.c3 : Nat) : Int)) (.int .u64 ((sadd a.c4 b.c4 : Nat) : Int)) (.int .u64 (max a.l b.l))
      clear y0 z0 f0 y1 z1 f1 y2 z2 f2 y3 z3 f3 y4 z4 f4 y5 z5 f5 y6 z6 f6 y7 z7 f7 y8 z8 f8 y9 z9 f9 y10 z10 f10
      revert HB9 HF9
      generalize (((((((((((wr.setCell ⟨w.heap.size + 1 + 1, 0, none⟩ (.int .u64 ((sadd a.k0 b.k0 : Nat) : Int))).setCell ⟨w.heap.size + 1 + 1, 1, none⟩ (.int .u64 ((sadd a.k1 b.k1 : Nat) : Int))).setCell ⟨w.heap.size + 1 + 1, 2, none⟩ (.int .u64 ((sadd a.k2 b.k2 : Nat) : Int))).setCell ⟨w.heap.size + 1 + 1, 3, none⟩ (.int .u64 ((sadd a.k3 b.k3 : Nat) : Int))).setCell ⟨w.heap.size + 1 + 1, 4, none⟩ (.int .u64 ((sadd a.k4 b.k4 : Nat) : Int))).setCell ⟨w.heap.size + 1 + 1, 5, none⟩ (.int .u64 ((sadd a.c0 b.c0 : Nat) : Int))).setCell ⟨w.heap.size + 1 + 1, 6, none⟩ (.int .u64 ((sadd a.c1 b.c1 : Nat) : Int))).setCell ⟨w.heap.size + 1 + 1, 7, none⟩ (.int .u64 ((sadd a.c2 b.c2 : Nat) : Int))).setCell ⟨w.heap.size + 1 + 1, 8, none⟩ (.int .u64 ((sadd a.c3 b.c3 : Nat) : Int))).setCell ⟨w.heap.size + 1 + 1, 9, none⟩ (.int .u64 ((sadd a.c4 b.c4 : Nat) : Int))).setCell ⟨w.heap.size + 1 + 1, 10, none⟩ (.int .u64 (max a.l b.l))) = w9
      intro HB9 HF9
      obtain ⟨y0, y1, y2, y3, y4, y5, y6, y7, y8, y9, y10⟩ := eleven HB9
      refine bodyPost_ret (v := .agg #[.int .u64 ((sadd a.k0 b.k0 : Nat) : Int), .int .u64 ((sadd a.k1 b.k1 : Nat) : Int), .int .u64 ((sadd a.k2 b.k2 : Nat) : Int), .int .u64 ((sadd a.k3 b.k3 : Nat) : Int), .int .u64 ((sadd a.k4 b.k4 : Nat) : Int), .int .u64 ((sadd a.c0 b.c0 : Nat) : Int), .int .u64 ((sadd a.c1 b.c1 : Nat) : Int), .int .u64 ((sadd a.c2 b.c2 : Nat) : Int), .int .u64 ((sadd a.c3 b.c3 : Nat) : Int), .int .u64 ((sadd a.c4 b.c4 : Nat) : Int), .int .u64 (max a.l b.l)]) (by simp [results, Tryd.results19, go_sem, y0, y1, y2, y3, y4, y5, y6, y7, y8, y9, y10]) rfl ?_
      exact ⟨by rw [HV.out], HF9⟩
end Go.Proofs.YtfegdmhfmhaneaaDoor
