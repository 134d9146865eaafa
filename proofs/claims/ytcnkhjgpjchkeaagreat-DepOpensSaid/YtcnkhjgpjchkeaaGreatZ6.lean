/-
  Words, and contracts of functions of the program and of the document, for this seat's claims: each is a lemma on the way; conditions stand in each lemma.
-/
import Derived.Test.YtcnkhjgpjchkeaaGreatZ5
namespace Go.Proofs.YtcnkhjgpjchkeaaGreat
open Go.RowKit

def inB (n lo hi : Int) : Bool := decide (lo ≤ n ∧ n ≤ hi)
def onB (x : Bool) (n lo hi : Int) : Bool := if x then inB n lo hi else n == 0

set_option maxHeartbeats 2000000 in
theorem in_spec (w : World) (n lo hi : Int) : Calls Tryz.prog 78 #[.int .i64 n, .int .i64 lo, .int .i64 hi] w fun e w' => e = .returned (.bool (inB n lo hi)) ∧ Fr [] w w' := by
  by_cases h1 : lo ≤ n
  · have d1 : decide (lo ≤ n) = true := decide_eq_true h1
    have HX : Hid (decide (n ≤ hi) = inB n lo hi) := Lib.hid (by simp [inB, h1])
    clear h1
    go_enter Tryz.func78, Tryz.ntmps78
    go_wp2_with fail
    go_ret
    exact ⟨by rw [← HX.out]; rfl, by with_reducible repeat (first | exact Fr.refl _ _ | apply Fr.drew | apply Fr.drewN)⟩
  · have d1 : decide (lo ≤ n) = false := decide_eq_false h1
    have HX : Hid (false = inB n lo hi) := Lib.hid (by simp [inB, h1])
    clear h1
    go_enter Tryz.func78, Tryz.ntmps78
    go_wp2_with fail
    go_ret
    exact ⟨by rw [← HX.out]; rfl, by with_reducible repeat (first | exact Fr.refl _ _ | apply Fr.drew | apply Fr.drewN)⟩
set_option maxHeartbeats 2000000 in
theorem ticks_spec (w : World) (n lo : Int) : Calls Tryz.prog 80 #[.int .u64 n, .int .u64 lo] w fun e w' => e = .returned (.bool (inB n lo 1099511627776)) ∧ Fr [] w w' := by
  by_cases h1 : lo ≤ n
  · have d1 : decide (lo ≤ n) = true := decide_eq_true h1
    have HX : Hid (decide (n ≤ 1099511627776) = inB n lo 1099511627776) := Lib.hid (by simp [inB, h1])
    clear h1
    go_enter Tryz.func80, Tryz.ntmps80
    go_wp2_with fail
    go_ret
    exact ⟨by rw [← HX.out]; rfl, by with_reducible repeat (first | exact Fr.refl _ _ | apply Fr.drew | apply Fr.drewN)⟩
  · have d1 : decide (lo ≤ n) = false := decide_eq_false h1
    have HX : Hid (false = inB n lo 1099511627776) := Lib.hid (by simp [inB, h1])
    clear h1
    go_enter Tryz.func80, Tryz.ntmps80
    go_wp2_with fail
    go_ret
    exact ⟨by rw [← HX.out]; rfl, by with_reducible repeat (first | exact Fr.refl _ _ | apply Fr.drew | apply Fr.drewN)⟩
set_option maxHeartbeats 2000000 in
theorem only_spec (w : World) (x : Bool) (n lo hi : Int) : Calls Tryz.prog 79 #[.bool x, .int .i64 n, .int .i64 lo, .int .i64 hi] w fun e w' => e = .returned (.bool (onB x n lo hi)) ∧ Fr [] w w' := by
  have HI := Lib.hid (fun w' => in_spec w' n lo hi)
  cases x with
  | true =>
    go_enter Tryz.func79, Tryz.ntmps79
    go_wp2_with fail
    refine (HI.out _).mono ?_
    rintro e w1 ⟨rfl, F⟩
    go_wp2_with fail
    go_ret
    exact ⟨rfl, F⟩
  | false =>
    go_enter Tryz.func79, Tryz.ntmps79
    go_wp2_with fail
    go_ret
    exact ⟨rfl, by with_reducible repeat (first | exact Fr.refl _ _ | apply Fr.drew | apply Fr.drewN)⟩

/-- What the document's Check asks, one by one. -/
def CF.okB (k : CF) (i : Nat) : Bool := [inB k.mode 1 2, onB (k.mode == 1) k.pool 1 8, onB (k.mode == 1) k.queue 0 8, onB (k.mode == 2) k.sem 1 8, inB k.fb 0 4, inB k.ch 0 3, inB k.t 1 1099511627776, inB k.ft 1 1099511627776, inB k.vo 1 1000, inB k.pe 0 100, inB k.sl 0 1099511627776, inB k.bu 1 8, inB k.wi 1 1099511627776, inB k.wd 0 1099511627776, onB (decide (0 < k.wd)) k.ba 1 4, inB k.fo 0 2].getD i true
/-- The times are such. -/
def CF.Ran (k : CF) : Prop := (0 ≤ k.t ∧ k.t < 18446744073709551616) ∧ (0 ≤ k.ft ∧ k.ft < 18446744073709551616) ∧ (0 ≤ k.sl ∧ k.sl < 18446744073709551616) ∧ (0 ≤ k.wi ∧ k.wi < 18446744073709551616) ∧ (0 ≤ k.wd ∧ k.wd < 18446744073709551616)
theorem inB_wrap {n lo : Int} (h : 0 ≤ n ∧ n < 18446744073709551616) (h0 : 0 ≤ lo) : inB n lo 1099511627776 = decide (lo ≤ wrap64 n ∧ wrap64 n ≤ T40) := by
  unfold inB wrap64 T40
  rw [decide_eq_decide]
  omega
theorem onB_wh {x : Bool} {n lo hi : Int} : onB x n lo hi = decide (wh x lo ≤ n ∧ n ≤ wh x hi) := by
  unfold onB wh inB
  cases x <;> simp
  rw [Bool.eq_iff_iff]; simp; omega
theorem CF.okB_eq {k : CF} (h : k.Ran) (i : Nat) (hi : i < 16) : k.okB i = decide (k.lo i ≤ k.num i ∧ k.num i ≤ k.hi i) := by
  obtain ⟨h1, h2, h3, h4, h5⟩ := h
  rcases i with _ | _ | _ | _ | _ | _ | _ | _ | _ | _ | _ | _ | _ | _ | _ | _ | i
  all_goals first | omega | exact inB_wrap h1 (by decide) | exact inB_wrap h2 (by decide) | exact inB_wrap h3 (by decide) | exact inB_wrap h4 (by decide) | exact inB_wrap h5 (by decide) | exact onB_wh | rfl
theorem CF.fine_of8 {k : CF} (h : k.Ran) (hj : ∀ j, j < 16 → k.okB j = true) : k.fine = true :=
  CF.fine_of (fun j hj2 => of_decide_eq_true ((CF.okB_eq h j hj2).symm.trans (hj j hj2)))
theorem CF.fine_not8 {k : CF} (h : k.Ran) {i : Nat} (hi : i < 16) (hj : k.okB i = false) : k.fine = false :=
  CF.fine_not hi (by have := of_decide_eq_false ((CF.okB_eq h i hi).symm.trans hj); omega)
def Check8R (k : CF) (w : World) (e : Ending) (w' : World) : Prop := ∃ n : Int, e = .returned (.int .i64 n) ∧ 0 ≤ n ∧ n ≤ 16 ∧ (n = 0 ↔ k.fine = true) ∧ Fr [] w w'
theorem Check8R.mk {k : CF} {w w' : World} {e : Ending} (n : Int) (he : e = .returned (.int .i64 n)) (h0 : 0 ≤ n) (h1 : n ≤ 16) (hx : n = 0 ↔ k.fine = true) (hF : Fr [] w w') : Check8R k w e w' := ⟨n, he, h0, h1, hx, hF⟩

set_option maxHeartbeats 8000000 in
set_option maxRecDepth 20000 in
theorem check8_spec (w : World) (k : CF) (hr : k.Ran) : Calls Tryz.prog 37 #[k.val] w (Check8R k w) := by
  have HI := Lib.hid in_spec
  have HO := Lib.hid only_spec
  have HT := Lib.hid ticks_spec
  have HFI := Lib.hid (fun h => CF.fine_of8 hr h)
  have HFN := Lib.hid (fun i (hi : i < 16) h => CF.fine_not8 hr hi h)
  have HB := Lib.hid (block_alloc_new w (.cells #[.int .i64 k.mode, .int .i64 k.pool, .int .i64 k.queue, .int .i64 k.sem, .int .i64 k.fb, .int .i64 k.ch, .int .u64 k.t, .int .u64 k.ft, .int .i64 k.vo, .int .i64 k.pe, .int .u64 k.sl, .int .i64 k.bu, .int .u64 k.wi, .int .u64 k.wd, .int .i64 k.ba, .int .i64 k.fo] 24))
  have HF2 := Lib.hid ((Fr.refl [] w).alloc (.cells #[.int .i64 k.mode, .int .i64 k.pool, .int .i64 k.queue, .int .i64 k.sem, .int .i64 k.fb, .int .i64 k.ch, .int .u64 k.t, .int .u64 k.ft, .int .i64 k.vo, .int .i64 k.pe, .int .u64 k.sl, .int .i64 k.bu, .int .u64 k.wi, .int .u64 k.wd, .int .i64 k.ba, .int .i64 k.fo] 24))
  have HOK : Hid (∀ i, i < 16 → #[.bool (inB k.mode 1 2), .bool (onB (k.mode == 1) k.pool 1 8), .bool (onB (k.mode == 1) k.queue 0 8), .bool (onB (k.mode == 2) k.sem 1 8), .bool (inB k.fb 0 4), .bool (inB k.ch 0 3), .bool (inB k.t 1 1099511627776), .bool (inB k.ft 1 1099511627776), .bool (inB k.vo 1 1000), .bool (inB k.pe 0 100), .bool (inB k.sl 0 1099511627776), .bool (inB k.bu 1 8), .bool (inB k.wi 1 1099511627776), .bool (inB k.wd 0 1099511627776), .bool (onB (decide (0 < k.wd)) k.ba 1 4), .bool (inB k.fo 0 2)][i]? = some (Value.bool (k.okB i))) := Lib.hid (fun i hi => by
    rcases i with _ | _ | _ | _ | _ | _ | _ | _ | _ | _ | _ | _ | _ | _ | _ | _ | i
    all_goals first | omega | rfl)
  obtain ⟨w2, hw2⟩ : ∃ w2, w2 = w.alloc (.cells #[.int .i64 k.mode, .int .i64 k.pool, .int .i64 k.queue, .int .i64 k.sem, .int .i64 k.fb, .int .i64 k.ch, .int .u64 k.t, .int .u64 k.ft, .int .i64 k.vo, .int .i64 k.pe, .int .u64 k.sl, .int .i64 k.bu, .int .u64 k.wi, .int .u64 k.wd, .int .i64 k.ba, .int .i64 k.fo] 24) := ⟨_, rfl⟩
  rw [← hw2] at HB HF2
  have HW2 := Lib.hid hw2
  have KS : Hid (∀ w' : World, Fr [] w2 w' → w'.cell? ⟨w.heap.size, 0, none⟩ = some (.int .i64 k.mode) ∧ w'.cell? ⟨w.heap.size, 1, none⟩ = some (.int .i64 k.pool) ∧ w'.cell? ⟨w.heap.size, 2, none⟩ = some (.int .i64 k.queue) ∧ w'.cell? ⟨w.heap.size, 3, none⟩ = some (.int .i64 k.sem) ∧ w'.cell? ⟨w.heap.size, 4, none⟩ = some (.int .i64 k.fb) ∧ w'.cell? ⟨w.heap.size, 5, none⟩ = some (.int .i64 k.ch) ∧ w'.cell? ⟨w.heap.size, 6, none⟩ = some (.int .u64 k.t) ∧ w'.cell? ⟨w.heap.size, 7, none⟩ = some (.int .u64 k.ft) ∧ w'.cell? ⟨w.heap.size, 8, none⟩ = some (.int .i64 k.vo) ∧ w'.cell? ⟨w.heap.size, 9, none⟩ = some (.int .i64 k.pe) ∧ w'.cell? ⟨w.heap.size, 10, none⟩ = some (.int .u64 k.sl) ∧ w'.cell? ⟨w.heap.size, 11, none⟩ = some (.int .i64 k.bu) ∧ w'.cell? ⟨w.heap.size, 12, none⟩ = some (.int .u64 k.wi) ∧ w'.cell? ⟨w.heap.size, 13, none⟩ = some (.int .u64 k.wd) ∧ w'.cell? ⟨w.heap.size, 14, none⟩ = some (.int .i64 k.ba) ∧ w'.cell? ⟨w.heap.size, 15, none⟩ = some (.int .i64 k.fo)) := Lib.hid (fun w' F => ⟨by rw [cell_of_block (F.keep HB.out (by simp))]; rfl, by rw [cell_of_block (F.keep HB.out (by simp))]; rfl, by rw [cell_of_block (F.keep HB.out (by simp))]; rfl, by rw [cell_of_block (F.keep HB.out (by simp))]; rfl, by rw [cell_of_block (F.keep HB.out (by simp))]; rfl, by rw [cell_of_block (F.keep HB.out (by simp))]; rfl, by rw [cell_of_block (F.keep HB.out (by simp))]; rfl, by rw [cell_of_block (F.keep HB.out (by simp))]; rfl, by rw [cell_of_block (F.keep HB.out (by simp))]; rfl, by rw [cell_of_block (F.keep HB.out (by simp))]; rfl, by rw [cell_of_block (F.keep HB.out (by simp))]; rfl, by rw [cell_of_block (F.keep HB.out (by simp))]; rfl, by rw [cell_of_block (F.keep HB.out (by simp))]; rfl, by rw [cell_of_block (F.keep HB.out (by simp))]; rfl, by rw [cell_of_block (F.keep HB.out (by simp))]; rfl, by rw [cell_of_block (F.keep HB.out (by simp))]; rfl⟩)
  have hs2 : w.heap.size + 1 = w2.heap.size := by rw [hw2, World.size_alloc]
  clear hw2 hr
  go_enter Tryz.func37, Tryz.ntmps37
  go_wp2_with fail
  rw [← HW2.out]
  have FX : Fr [] w2 w2 := Fr.refl _ _
  go_region_held3 (fun w' => w'.cell? ⟨w.heap.size, 0, none⟩ = some (.int .i64 k.mode) ∧ w'.cell? ⟨w.heap.size, 1, none⟩ = some (.int .i64 k.pool) ∧ w'.cell? ⟨w.heap.size, 2, none⟩ = some (.int .i64 k.queue) ∧ w'.cell? ⟨w.heap.size, 3, none⟩ = some (.int .i64 k.sem) ∧ w'.cell? ⟨w.heap.size, 4, none⟩ = some (.int .i64 k.fb) ∧ w'.cell? ⟨w.heap.size, 5, none⟩ = some (.int .i64 k.ch) ∧ w'.cell? ⟨w.heap.size, 6, none⟩ = some (.int .u64 k.t) ∧ w'.cell? ⟨w.heap.size, 7, none⟩ = some (.int .u64 k.ft) ∧ w'.cell? ⟨w.heap.size, 8, none⟩ = some (.int .i64 k.vo) ∧ w'.cell? ⟨w.heap.size, 9, none⟩ = some (.int .i64 k.pe) ∧ w'.cell? ⟨w.heap.size, 10, none⟩ = some (.int .u64 k.sl) ∧ w'.cell? ⟨w.heap.size, 11, none⟩ = some (.int .i64 k.bu) ∧ w'.cell? ⟨w.heap.size, 12, none⟩ = some (.int .u64 k.wi) ∧ w'.cell? ⟨w.heap.size, 13, none⟩ = some (.int .u64 k.wd) ∧ w'.cell? ⟨w.heap.size, 14, none⟩ = some (.int .i64 k.ba) ∧ w'.cell? ⟨w.heap.size, 15, none⟩ = some (.int .i64 k.fo))
    (with_reducible exact KS.out _ (by with_reducible repeat (first | exact FX | exact Fr.refl _ _ | apply Fr.drew | apply Fr.drewN | apply Fr.alloc)))
    (first | (go_at_call 78; refine (HI.out _ _ _ _).mono ?_; rintro e wA ⟨rfl, F⟩; have FX : Fr [] w2 wA := Fr.trans (by with_reducible repeat (first | exact FX | exact Fr.refl _ _ | apply Fr.drew | apply Fr.drewN | apply Fr.alloc)) F; clear F) | (go_at_call 79; refine (HO.out _ _ _ _ _).mono ?_; rintro e wA ⟨rfl, F⟩; have FX : Fr [] w2 wA := Fr.trans (by with_reducible repeat (first | exact FX | exact Fr.refl _ _ | apply Fr.drew | apply Fr.drewN | apply Fr.alloc)) F; clear F) | (go_at_call 80; refine (HT.out _ _ _).mono ?_; rintro e wA ⟨rfl, F⟩; have FX : Fr [] w2 wA := Fr.trans (by with_reducible repeat (first | exact FX | exact Fr.refl _ _ | apply Fr.drew | apply Fr.drewN | apply Fr.alloc)) F; clear F))
  clear HB KS HW2
  have HA := block_alloc_new wA (.cells #[.bool (inB k.mode 1 2), .bool (onB (k.mode == 1) k.pool 1 8), .bool (onB (k.mode == 1) k.queue 0 8), .bool (onB (k.mode == 2) k.sem 1 8), .bool (inB k.fb 0 4), .bool (inB k.ch 0 3), .bool (inB k.t 1 1099511627776), .bool (inB k.ft 1 1099511627776), .bool (inB k.vo 1 1000), .bool (inB k.pe 0 100), .bool (inB k.sl 0 1099511627776), .bool (inB k.bu 1 8), .bool (inB k.wi 1 1099511627776), .bool (inB k.wd 0 1099511627776), .bool (onB (decide (0 < k.wd)) k.ba 1 4), .bool (inB k.fo 0 2)] 4)
  have HC : Hid (FCells (wA.alloc (.cells #[.bool (inB k.mode 1 2), .bool (onB (k.mode == 1) k.pool 1 8), .bool (onB (k.mode == 1) k.queue 0 8), .bool (onB (k.mode == 2) k.sem 1 8), .bool (inB k.fb 0 4), .bool (inB k.ch 0 3), .bool (inB k.t 1 1099511627776), .bool (inB k.ft 1 1099511627776), .bool (inB k.vo 1 1000), .bool (inB k.pe 0 100), .bool (inB k.sl 0 1099511627776), .bool (inB k.bu 1 8), .bool (inB k.wi 1 1099511627776), .bool (inB k.wd 0 1099511627776), .bool (onB (decide (0 < k.wd)) k.ba 1 4), .bool (inB k.fo 0 2)] 4)) wA.heap.size 4 16 (fun j => .bool (k.okB j))) := Lib.hid ⟨_, HA, rfl, fun j hj => HOK.out j hj⟩
  have HF := Lib.hid (HF2.out.trans (FX.alloc (.cells #[.bool (inB k.mode 1 2), .bool (onB (k.mode == 1) k.pool 1 8), .bool (onB (k.mode == 1) k.queue 0 8), .bool (onB (k.mode == 2) k.sem 1 8), .bool (inB k.fb 0 4), .bool (inB k.ch 0 3), .bool (inB k.t 1 1099511627776), .bool (inB k.ft 1 1099511627776), .bool (inB k.vo 1 1000), .bool (inB k.pe 0 100), .bool (inB k.sl 0 1099511627776), .bool (inB k.bu 1 8), .bool (inB k.wi 1 1099511627776), .bool (inB k.wd 0 1099511627776), .bool (onB (decide (0 < k.wd)) k.ba 1 4), .bool (inB k.fo 0 2)] 4)))
  obtain ⟨wB, hwB⟩ : ∃ wB, wB = wA.alloc (.cells #[.bool (inB k.mode 1 2), .bool (onB (k.mode == 1) k.pool 1 8), .bool (onB (k.mode == 1) k.queue 0 8), .bool (onB (k.mode == 2) k.sem 1 8), .bool (inB k.fb 0 4), .bool (inB k.ch 0 3), .bool (inB k.t 1 1099511627776), .bool (inB k.ft 1 1099511627776), .bool (inB k.vo 1 1000), .bool (inB k.pe 0 100), .bool (inB k.sl 0 1099511627776), .bool (inB k.bu 1 8), .bool (inB k.wi 1 1099511627776), .bool (inB k.wd 0 1099511627776), .bool (onB (decide (0 < k.wd)) k.ba 1 4), .bool (inB k.fo 0 2)] 4) := ⟨_, rfl⟩
  rw [← hwB] at HC HF ⊢
  clear HA hwB HOK HF2 FX
  go_wp2_with fail
  go_loop [4] (fun x => ∃ i : Nat, i ≤ 16 ∧ x = .int .i64 i ∧ Hid (∀ j, j < i → k.okB j = true)) (fun x => 16 - (intOf x).toNat)
  case atStart => exact ⟨0, by omega, rfl, Lib.hid (fun j hj => by omega)⟩
  case round =>
    obtain ⟨i, hi, rfl, HN⟩ := hrel
    by_cases hi16 : i < 16
    · have x0 := HC.out.cellv (i := i) hi16 rfl
      have HNO := Lib.hid (HFN.out i hi16)
      have HN1 : Hid (k.okB i = true → ∀ j, j < i + 1 → k.okB j = true) := Lib.hid (fun h j hj => if e : j = i then e ▸ h else HN.out j (by omega))
      cases hb : k.okB i with
      | true =>
        rw [hb] at x0
        have HN2 := Lib.hid (HN1.out hb)
        clear hb HN1 HNO HN
        go_wp2_with fail
        go_round
        case rel => exact ⟨i + 1, by omega, by go_num, HN2⟩
        case measure => simp [intOf]; omega
      | false =>
        rw [hb] at x0
        have HX := Lib.hid (HNO.out hb)
        clear hb HN1 HNO HN
        go_wp2_with fail
        go_ret
        exact Check8R.mk (((i + 1 : Nat)) : Int) (by go_num) (by omega) (by omega) ⟨fun h => by omega, fun h => by rw [HX.out] at h; cases h⟩ HF.out
    · obtain rfl : i = 16 := by omega
      have HZ := Lib.hid (HFI.out HN.out)
      go_wp2_with fail
      go_ret
      exact Check8R.mk 0 rfl (by omega) (by omega) ⟨fun _ => HZ.out, fun _ => rfl⟩ HF.out
end Go.Proofs.YtcnkhjgpjchkeaaGreat
