/-
  The statements RingTurn, RingBack, RingNobody of porpoiselaw04, each as a contract of its function.
-/
import Derived.Test.YthbhkmhmiplikaaRingLaws
namespace Go.Proofs.Ythbhkmhmiplikaa
open Go.RowKit

theorem Fr.dr {S : List Nat} {a w w' : World} (h : Fr S a w) (k : ∃ q, w' = w.drewN q) : Fr S a w' := by obtain ⟨q, rfl⟩ := k; exact h.drewN q
theorem IsRing.dr {w w' : World} {b : Nat} {xs : List Int} {m : Nat} (h : IsRing w b xs m) (k : ∃ q, w' = w.drewN q) : IsRing w' b xs m := by obtain ⟨q, rfl⟩ := k; exact h
theorem Lst.dr {w w' : World} {base : Nat} {v : Value} {xs : List Int} (h : Lst w base v xs) (k : ∃ q, w' = w.drewN q) : Lst w' base v xs := by obtain ⟨q, rfl⟩ := k; exact h

set_option maxHeartbeats 4000000 in
theorem ringNobody_spec (w : World) (x : Int) : Calls Try.prog 8 #[.int .i64 x] w fun e w' => e = .returned (.bool true) ∧ Fr [] w w' := by
  go_enter Try.func8, Try.ntmps8
  go_wp2_with fail
  refine (awake_spec _).mono ?_
  rintro e w0 ⟨rfl, F0⟩
  go_wp2_with fail
  refine (pop_nil _).mono ?_
  rintro e w1 ⟨rfl, D⟩
  have F1 := F0.dr D
  clear D F0
  go_wp2_with fail
  refine (new_ring 0 _ (by omega)).mono ?_
  rintro e w2 ⟨rfl, R2, hs, F⟩
  have F2 := F1.trans F
  have hl := F1.size
  clear hs F F1
  go_wp2_with fail
  refine (R2.pop).mono ?_
  rintro e w3 ⟨rfl, R, F⟩
  have R3 : IsRing w3 w1.heap.size [] 0 := R
  have F3 := F2.own F hl
  have e0 : el [] 0 = 0 := rfl
  clear R F F2 R2
  go_wp2_with fail
  refine (push_nil _ _).mono ?_
  rintro e w4 ⟨rfl, D⟩
  have F4 := F3.dr D
  have R4 := R3.dr D
  clear D F3 R3
  go_wp2_with fail
  refine (remove_nil _ _).mono ?_
  rintro e w5 ⟨rfl, D⟩
  have F5 := F4.dr D
  have R5 := R4.dr D
  clear D F4 R4
  go_wp2_with fail
  refine (list_nil _).mono ?_
  rintro e w6 ⟨rfl, rfl⟩
  go_wp2_with fail
  refine (len_nil _).mono ?_
  rintro e w6 ⟨rfl, rfl⟩
  go_wp2_with fail
  refine (full_nil _).mono ?_
  rintro e w7 ⟨rfl, D⟩
  have F7 := F5.dr D
  have R7 := R5.dr D
  clear D
  go_wp2_with fail
  refine (R7.push x).mono ?_
  rintro e w8 ⟨rfl, R, F⟩
  have R8 : IsRing w8 w1.heap.size [] 0 := R
  have F8 := F7.own F hl
  clear R F F7 R7
  go_wp2_with fail
  refine (R8.full).mono ?_
  rintro e w9 ⟨rfl, D⟩
  have F9 := F8.dr D
  clear D
  go_wp2_with fail
  go_ret
  exact ⟨rfl, F9⟩

theorem el_drop (xs : List Int) (i : Nat) : el (xs.drop i) 0 = el xs i := by simp [el]

set_option maxHeartbeats 4000000 in
theorem ringTurn_spec {w : World} {v : Value} {ds : List (Int × Int)} (hd : Deeds w v ds) :
    Calls Try.prog 4 #[v] w fun e w' => e = .returned (.bool true) ∧ Fr [] w w' := by
  go_enter Try.func4, Try.ntmps4
  go_wp2_with fail
  refine (awake_spec _).mono ?_
  rintro e w0 ⟨rfl, F0⟩
  go_wp2_with fail
  refine (ran_spec (hd.fr F0)).mono ?_
  rintro e w1 ⟨rfl, R, hs, F⟩
  have F1 := F0.trans F
  have hl := F0.size
  have hlen := after_len 5 (ds.take 100)
  generalize after 5 (ds.take 100) = xs at *
  clear F F0
  go_wp2_with fail
  refine (R.list).mono ?_
  rintro e w2 ⟨v2, rfl, O, F⟩
  have R2 := R.fr F (by simp)
  have F2 := F1.trans F
  have L2 : Lst w2 (w0.heap.size + 1) v2 xs := (Lst.of_owns O).mono (by omega)
  clear O F F1 R
  obtain ⟨ao, cap, rfl, _, _, h4⟩ := L2.1
  have HL := Lib.hid h4
  clear h4
  go_wp2_with fail
  go_loopw [6] (fun s wr => ∃ i : Nat, i ≤ xs.length ∧ s = .int .i64 i ∧ IsRing wr w0.heap.size (xs.drop i) 5 ∧ Lst wr (w0.heap.size + 1) (.slice ao xs.length cap) xs ∧ Fr [] w wr) (fun s _ => xs.length - (intOf s).toNat)
  case atStart => exact ⟨0, Nat.zero_le _, rfl, by simpa using R2, L2, F2⟩
  case round =>
    obtain ⟨i, hi, rfl, Ri, Li, Fi⟩ := hrel
    by_cases hlt : i < xs.length
    · go_wp2_with fail
      refine (Ri.pop).mono ?_
      rintro e w3 ⟨rfl, R, F⟩
      have R3 : IsRing w3 w0.heap.size (xs.drop (i + 1)) 5 := by simpa using R
      have L3 := Li.fr F (by simp)
      have F3 := Fi.own F (by omega)
      obtain ⟨ao', cap', he, _, _, h4⟩ := L3.1
      simp only [Value.slice.injEq] at he
      obtain ⟨rfl, _, rfl⟩ := he
      obtain ⟨b1, o1, rfl, hc⟩ := h4 i hlt
      have hlt2 : 0 < (xs.drop i).length := by simp; omega
      have e1 : decide (0 < (xs.drop i).length) = true := decide_eq_true hlt2
      rw [e1, el_drop]
      have e2 : (el xs i != el xs i) = false := by simp
      clear h4 R F e1 hlt2
      go_wp2_with fail
      go_roundw
      case rel => exact ⟨i + 1, by omega, by go_num, R3, L3, F3⟩
      case measure => simp [intOf]; omega
    · have : i = xs.length := by omega
      subst this
      have R3 : IsRing wr w0.heap.size [] 5 := by simpa using Ri
      go_wp2_with fail
      refine (R3.pop).mono ?_
      rintro e w3 ⟨rfl, R, F⟩
      have R4 : IsRing w3 w0.heap.size [] 5 := R
      have F4 := Fi.own F (by omega)
      have h5 : (xs.length : Int) ≤ 5 := by omega
      clear R F Ri R3
      go_wp2_with fail
      refine (R4.len).mono ?_
      rintro e w5 ⟨rfl, rfl⟩
      go_wp2_with fail
      go_ret
      exact ⟨rfl, F4⟩
end Go.Proofs.Ythbhkmhmiplikaa
