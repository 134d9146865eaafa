/-
  New of package bulk; conf of porpoiselaw10.
-/
import Derived.Test.YthbhkmhmiplikaaRef10e
namespace Go.Proofs.Ythbhkmhmiplikaa
open Go.RowKit

/-- A new bulk. -/
def NewBulk (w : World) (m q : Nat) (e : Ending) (w' : World) : Prop :=
  ∃ b s r g, e = .returned (.pointer (some ⟨b, 0, none⟩)) ∧ IsBulk w' b s r g [] [] m q ∧ w.heap.size ≤ r ∧ w.heap.size ≤ g ∧ r < w'.heap.size ∧ g < w'.heap.size ∧ Fr [] w w'

theorem NewBulk.mk {w w2 : World} {s r g m q : Nat} (hs : IsSet w2 s r [] m) (hg : IsRing w2 g [] q) (hr : w.heap.size ≤ r ∧ r < w2.heap.size) (hg2 : w.heap.size ≤ g ∧ g < w2.heap.size) (hF : Fr [] w w2) {p s' : Nat} (hp : p = w2.heap.size) (hs' : s' = s) :
    NewBulk w m q (.returned (.pointer (some ⟨p, 0, none⟩))) (w2.alloc (.cells #[.pointer (some ⟨s', 0, none⟩), .pointer (some ⟨g, 0, none⟩)] 77))   :=
  by subst hp hs'; exact ⟨_, s', r, g, rfl, ⟨block_alloc_new _ _, hs.fr ((Fr.refl [] _).alloc _) (by simp) (by simp), hg.fr ((Fr.refl [] _).alloc _) (by simp), by simp⟩, hr.1, hg2.1, by simp; omega, by simp; omega, hF.alloc _⟩

set_option maxHeartbeats 2000000 in
theorem bulk_new_yes (c : CF) (w : World) (m q : Nat) (hm : c.most = m) (hq : c.que = q) (hmo : c.mode = 1 ∨ c.mode = 2) (hl : m ≤ 8 ∧ q ≤ 8) :
    Calls Try.prog 28 #[c.val] w (NewBulk w m q) := by
  obtain ⟨mode, pool, queue, sem, fb, ch, t, ft, vo, pe, sl, bu, wi, wd, ba, fo⟩ := c
  simp only [CF.val, CF.most, CF.que] at *
  rcases hmo with rfl | rfl
  · rw [if_neg (by omega)] at hm hq
    subst hm hq
    go_enter Try.func28, Try.ntmps28
    go_wp2_with fail
    go_quiet (fail)
    go_wp2_with fail
    refine (permit_new m _ hl.1).mono ?_
    rintro e w1 ⟨rfl, S, F1⟩
    go_wp2_with fail
    refine (new_ring q _ hl.2).mono ?_
    rintro e w2 ⟨rfl, R, hs, F2⟩
    have hs1 := F1.size
    have L1 := lt_of_block S.1
    obtain ⟨es, c', hmp⟩ := S.2.1.obj
    have L2 := lt_of_block hmp
    have HS := Lib.hid (S.fr F2 (by simp) (by simp))
    have HR := Lib.hid R
    have HF := Lib.hid ((((Fr.refl [] w).alloc _).drewN _).trans (F1.trans F2))
    clear S R F1 F2
    go_wp2_with fail
    go_ret
    exact NewBulk.mk HS.out HR.out (by simp at *; omega) (by simp at *; omega) HF.out (by first | rfl | omega | (simp; omega)) (by first | rfl | simp)
  · rw [if_pos rfl] at hm hq
    obtain rfl : q = 0 := by omega
    clear hq
    subst hm
    have hl1 := hl.1
    clear hl
    go_enter Try.func28, Try.ntmps28
    go_wp2_with fail
    go_quiet (fail)
    go_wp2_with fail
    refine (permit_new m _ hl1).mono ?_
    rintro e w1 ⟨rfl, S, F1⟩
    go_wp2_with fail
    refine (new_ring 0 _ (by omega)).mono ?_
    rintro e w2 ⟨rfl, R, hs, F2⟩
    have hs1 := F1.size
    have L1 := lt_of_block S.1
    obtain ⟨es, c', hmp⟩ := S.2.1.obj
    have L2 := lt_of_block hmp
    have HS := Lib.hid (S.fr F2 (by simp) (by simp))
    have HR := Lib.hid R
    have HF := Lib.hid ((((Fr.refl [] w).alloc _).drewN _).trans (F1.trans F2))
    clear S R F1 F2
    go_wp2_with fail
    go_ret
    exact NewBulk.mk HS.out HR.out (by simp at *; omega) (by simp at *; omega) HF.out (by first | rfl | omega | (simp; omega)) (by first | rfl | simp)

theorem bulk_new_mode (c : CF) (w : World) (h1 : c.mode ≠ 1) (h2 : c.mode ≠ 2) :
    Calls Try.prog 28 #[c.val] w (fun e w' => e = .returned (.pointer none) ∧ Fr [] w w') := by
  obtain ⟨mode, pool, queue, sem, fb, ch, t, ft, vo, pe, sl, bu, wi, wd, ba, fo⟩ := c
  simp only [CF.val] at *
  have e1 : (mode == 1) = false := by simpa using h1
  have e2 : (mode == 2) = false := by simpa using h2
  go_enter Try.func28, Try.ntmps28
  go_wp2_with fail
  go_quiet (fail)
  go_wp2_with fail
  go_ret
  exact ⟨rfl, ((Fr.refl [] w).alloc _).drewN _⟩

set_option maxHeartbeats 2000000 in
theorem bulk_new_no (c : CF) (w : World) (hno : ¬ (0 ≤ c.most ∧ c.most ≤ 8 ∧ 0 ≤ c.que ∧ c.que ≤ 8)) :
    Calls Try.prog 28 #[c.val] w (fun e w' => e = .returned (.pointer none) ∧ Fr [] w w') := by
  by_cases h1 : c.mode = 1
  · obtain ⟨mode, pool, queue, sem, fb, ch, t, ft, vo, pe, sl, bu, wi, wd, ba, fo⟩ := c
    simp only [CF.val, CF.most, CF.que] at *
    subst h1
    simp only [show ¬ ((1 : Int) = 2) by omega, if_false] at hno
    by_cases hp : 0 ≤ pool ∧ pool ≤ 8
    · obtain ⟨m, rfl⟩ := Int.eq_ofNat_of_zero_le hp.1
      have hm : m ≤ 8 := by omega
      have hq : queue < 0 ∨ 8 < queue := by omega
      clear hp hno
      go_enter Try.func28, Try.ntmps28
      go_wp2_with fail
      go_quiet (fail)
      go_wp2_with fail
      refine (permit_new m _ hm).mono ?_
      rintro e w1 ⟨rfl, S, F1⟩
      go_wp2_with fail
      refine (new_none queue _ hq).mono ?_
      rintro e w2 ⟨rfl, rfl⟩
      have F := (((Fr.refl [] w).alloc _).drewN _).trans F1
      clear S F1 hq
      go_wp2_with fail
      go_ret
      exact ⟨rfl, F⟩
    · have hp' : pool < 0 ∨ 8 < pool := by omega
      clear hp
      by_cases hq : 0 ≤ queue ∧ queue ≤ 8
      · obtain ⟨q, rfl⟩ := Int.eq_ofNat_of_zero_le hq.1
        have hq8 : q ≤ 8 := by omega
        clear hq hno
        go_enter Try.func28, Try.ntmps28
        go_wp2_with fail
        go_quiet (fail)
        go_wp2_with fail
        refine (permit_new_none pool _ hp').mono ?_
        rintro e w1 ⟨rfl, rfl⟩
        go_wp2_with fail
        refine (new_ring q _ hq8).mono ?_
        rintro e w2 ⟨rfl, R, hs, F2⟩
        have F := (((Fr.refl [] w).alloc _).drewN _).trans F2
        clear R F2 hs hp'
        go_wp2_with fail
        go_ret
        exact ⟨rfl, F⟩
      · have hq' : queue < 0 ∨ 8 < queue := by omega
        clear hq hno
        go_enter Try.func28, Try.ntmps28
        go_wp2_with fail
        go_quiet (fail)
        go_wp2_with fail
        refine (permit_new_none pool _ hp').mono ?_
        rintro e w1 ⟨rfl, rfl⟩
        go_wp2_with fail
        refine (new_none queue _ hq').mono ?_
        rintro e w2 ⟨rfl, rfl⟩
        clear hp' hq'
        go_wp2_with fail
        go_ret
        exact ⟨rfl, ((Fr.refl [] w).alloc _).drewN _⟩
  · by_cases h2 : c.mode = 2
    · obtain ⟨mode, pool, queue, sem, fb, ch, t, ft, vo, pe, sl, bu, wi, wd, ba, fo⟩ := c
      simp only [CF.val, CF.most, CF.que] at *
      subst h2
      simp only [if_true] at hno
      have hp' : sem < 0 ∨ 8 < sem := by omega
      clear hno h1
      go_enter Try.func28, Try.ntmps28
      go_wp2_with fail
      go_quiet (fail)
      go_wp2_with fail
      refine (permit_new_none sem _ hp').mono ?_
      rintro e w1 ⟨rfl, rfl⟩
      go_wp2_with fail
      refine (new_ring 0 _ (by omega)).mono ?_
      rintro e w2 ⟨rfl, R, hs, F2⟩
      have F := (((Fr.refl [] w).alloc _).drewN _).trans F2
      clear R F2 hs hp'
      go_wp2_with fail
      go_ret
      exact ⟨rfl, F⟩
    · exact bulk_new_mode c w h1 h2

/-- conf: a configuration of a pool, or of permits. -/
def confOf (pool : Bool) (most queue : Int) : CF :=
  if pool then ⟨1, 1 + most % 8, queue % 9, 0, 0, 0, 0, 0, 0, 0, 0, 0, 0, 0, 0, 0⟩ else ⟨2, 0, 0, 1 + most % 8, 0, 0, 0, 0, 0, 0, 0, 0, 0, 0, 0, 0⟩

set_option maxHeartbeats 2000000 in
theorem conf_spec (pool : Bool) (most queue : Int) (hm : 0 ≤ most ∧ most < 256) (hq : 0 ≤ queue ∧ queue < 256) (w : World) :
    Calls Try.prog 34 #[.bool pool, .int .u8 most, .int .u8 queue] w fun e w' => e = .returned (confOf pool most queue).val ∧ Fr [] w w' := by
  cases pool
  · go_enter Try.func34, Try.ntmps34
    go_wp2
    exact bodyPost_ret (v := (confOf false most queue).val) (by simp [confOf, results, Try.results34, go_sem]) rfl ⟨rfl, (Fr.refl _ _).alloc _⟩
  · go_enter Try.func34, Try.ntmps34
    go_wp2
    exact bodyPost_ret (v := (confOf true most queue).val) (by simp [confOf, results, Try.results34, go_sem]) rfl ⟨rfl, (Fr.refl _ _).alloc _⟩
end Go.Proofs.Ythbhkmhmiplikaa
