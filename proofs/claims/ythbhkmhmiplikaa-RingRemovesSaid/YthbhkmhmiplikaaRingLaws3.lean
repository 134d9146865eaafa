/-
  The statements RingBack, RingApart of porpoiselaw04, each as a contract of its function.
-/
import Derived.Test.YthbhkmhmiplikaaRingLaws2
namespace Go.Proofs.Ythbhkmhmiplikaa
open Go.RowKit

theorem rem_append_new {x : Int} : ∀ {xs : List Int}, x ∉ xs → rem x (xs ++ [x]) = xs := rem_snoc_hit

set_option maxHeartbeats 4000000 in
theorem ringBack_spec {w : World} {v : Value} {ds : List (Int × Int)} (hd : Deeds w v ds) (x : Int) :
    Calls Try.prog 5 #[v, .int .i64 x] w fun e w' => e = .returned (.bool true) ∧ Fr [] w w' := by
  go_enter Try.func5, Try.ntmps5
  go_wp2_with fail
  refine (awake_spec _).mono ?_
  rintro e w0 ⟨rfl, F0⟩
  go_wp2_with fail
  refine (ran_spec (hd.fr F0)).mono ?_
  rintro e w1 ⟨rfl, R, hs, F⟩
  have F1 := F0.trans F
  have hl := F0.size
  have hlen := after_len 5 (ds.take 100)
  generalize after 5 (ds.take 100) = xs at *
  clear F F0
  go_wp2_with fail
  refine (R.list).mono ?_
  rintro e w2 ⟨v2, rfl, O, F⟩
  have R2 := R.fr F (by simp)
  have F2 := F1.trans F
  have L2 : Lst w2 (w0.heap.size + 1) v2 xs := (Lst.of_owns O).mono (by omega)
  clear O F F1 R
  go_wp2_with fail
  refine (has_spec L2.1 (by omega) x).mono ?_
  rintro e w3 ⟨rfl, rfl⟩
  by_cases hx : x ∈ xs
  · rw [decide_eq_true hx]
    have HX := Lib.hid hx
    clear hx
    go_wp2_with fail
    go_ret
    exact ⟨rfl, F2⟩
  · rw [decide_eq_false hx]
    have HX := Lib.hid hx
    clear hx
    go_wp2_with fail
    refine (R2.full).mono ?_
    rintro e w4 ⟨rfl, D⟩
    have R4 := R2.dr D
    have F4 := F2.dr D
    have L4 := L2.dr D
    clear D R2 F2 L2
    go_wp2_with fail
    refine (R4.push x).mono ?_
    rintro e w5 ⟨rfl, R5, F⟩
    have F5 := F4.own F (by omega)
    have L5 := L4.fr F (by simp)
    clear F F4 R4 L4
    by_cases h5 : xs.length < 5
    · rw [decide_eq_true h5, decide_eq_false (show ¬ xs.length = 5 by omega)]
      rw [if_pos h5] at R5
      go_wp2_with fail
      refine (R5.remove x).mono ?_
      rintro e w6 ⟨rfl, R, F⟩
      rw [rem_append_new HX.out] at R
      rw [show decide (x ∈ xs ++ [x]) = true by simp]
      have F6 := F5.own F (by omega)
      have L6 := L5.fr F (by simp)
      clear F F5 L5 R5
      go_wp2_with fail
      refine (R.list).mono ?_
      rintro e w7 ⟨v7, rfl, O, F⟩
      have R7 := R.fr F (by simp)
      have F7 := F6.trans F
      have L7 := L6.fr F (by simp)
      have M7 := Lst.of_owns O
      clear O F F6 L6 R
      go_wp2_with fail
      refine (same_spec M7.1 L7.1 (by omega)).mono ?_
      rintro e w8 ⟨rfl, D⟩
      rw [show same xs xs = true by simp [same]]
      have R8 := R7.dr D
      have F8 := F7.dr D
      clear D F7 R7
      go_wp2_with fail
      refine (R8.remove x).mono ?_
      rintro e w9 ⟨rfl, R, F⟩
      rw [decide_eq_false HX.out]
      have F9 := F8.own F (by omega)
      clear F R
      go_wp2_with fail
      go_ret
      exact ⟨rfl, F9⟩
    · rw [decide_eq_false h5, decide_eq_true (show xs.length = 5 by omega)]
      rw [if_neg h5] at R5
      go_wp2_with fail
      refine (R5.remove x).mono ?_
      rintro e w6 ⟨rfl, R, F⟩
      rw [rem_of_not HX.out] at R
      rw [decide_eq_false HX.out]
      have F6 := F5.own F (by omega)
      have L6 := L5.fr F (by simp)
      clear F F5 L5 R5
      go_wp2_with fail
      refine (R.list).mono ?_
      rintro e w7 ⟨v7, rfl, O, F⟩
      have R7 := R.fr F (by simp)
      have F7 := F6.trans F
      have L7 := L6.fr F (by simp)
      have M7 := Lst.of_owns O
      clear O F F6 L6 R
      go_wp2_with fail
      refine (same_spec M7.1 L7.1 (by omega)).mono ?_
      rintro e w8 ⟨rfl, D⟩
      rw [show same xs xs = true by simp [same]]
      have R8 := R7.dr D
      have F8 := F7.dr D
      clear D F7 R7
      go_wp2_with fail
      refine (R8.remove x).mono ?_
      rintro e w9 ⟨rfl, R, F⟩
      rw [decide_eq_false HX.out]
      have F9 := F8.own F (by omega)
      clear F R
      go_wp2_with fail
      go_ret
      exact ⟨rfl, F9⟩

/-- A row of numbers of the call's own, whatever they are. -/
def Nums (w : World) (g n : Nat) : Prop := ∃ cur : Array Value, w.heap[g]? = some (.cells cur 3 (0, 0)) ∧ ∀ j, j < n → ∃ z, cur[j]? = some (.int .i64 z)

theorem Nums.of_owns {w : World} {base : Nat} {v : Value} {xs : List Int} (h : w.ownsRow base 3 1 v xs.length (xs.map (Value.int .i64))) :
    (v = .slice none 0 0 ∧ xs.length = 0) ∨ ∃ g cap, v = .slice (some ⟨g, 0, none⟩) xs.length cap ∧ base ≤ g ∧ g < w.heap.size ∧ Nums w g xs.length := by
  obtain ⟨h1, h2⟩ := h
  rcases h2 with ⟨rfl, hn⟩ | ⟨g, cap, cur, rfl, hg, hh, hc, hm, hs, ht⟩
  · exact .inl ⟨rfl, hn⟩
  · refine .inr ⟨g, cap, rfl, hg, lt_of_block hh, cur, hh, fun j hj => ⟨el xs j, ?_⟩⟩
    have : (cur.toList.take (xs.length * 1))[j]? = some (.int .i64 (el xs j)) := by rw [ht]; simp [el, hj]
    rw [List.getElem?_take, if_pos (by omega)] at this
    simpa using this
theorem Nums.at {w : World} {g n : Nat} (h : Nums w g n) (j : Nat) (hj : j < n) : ∃ z, w.cell? ⟨g, j, none⟩ = some (.int .i64 z) ∧ w.frozen? ⟨g, j, none⟩ = false := by
  obtain ⟨cur, h1, h2⟩ := h
  obtain ⟨z, hz⟩ := h2 j hj
  exact ⟨z, by rw [cell_of_block h1, hz], free_of_block h1 j⟩
theorem Nums.set {w : World} {g n : Nat} (h : Nums w g n) (j : Nat) (z : Int) (q : Nat) : Nums ((w.drewN q).setCell ⟨g, j, none⟩ (.int .i64 z)) g n := by
  obtain ⟨cur, h1, h2⟩ := h
  refine ⟨_, block_setCell (block_at_drew h1 q) j _, fun i hi => ?_⟩
  obtain ⟨y, hy⟩ := h2 i hi
  by_cases hij : j = i
  · subst hij
    have : j < cur.size := (Array.getElem?_eq_some_iff.1 hy).1
    exact ⟨z, by simp [this]⟩
  · exact ⟨y, by rw [Array.getElem?_setIfInBounds_ne hij]; exact hy⟩
theorem Nums.fr {w w' : World} {g n : Nat} (h : Nums w g n) {S : List Nat} (k : Fr S w w') (hn : g ∉ S) : Nums w' g n := by
  obtain ⟨cur, h1, h2⟩ := h
  exact ⟨cur, k.keep h1 hn, h2⟩

theorem Fr.set {S : List Nat} {a w : World} (h : Fr S a w) (q : Nat) {g j : Nat} (hg : a.heap.size ≤ g) (v : Value) : Fr S a ((w.drewN q).setCell ⟨g, j, none⟩ v) :=
  (h.drewN q).setCell (.inr hg) _

set_option maxHeartbeats 4000000 in
theorem ringApart_spec {w : World} {v : Value} {ds : List (Int × Int)} (hd : Deeds w v ds) :
    Calls Try.prog 7 #[v] w fun e w' => e = .returned (.bool true) ∧ Fr [] w w' := by
  go_enter Try.func7, Try.ntmps7
  go_wp2_with fail
  refine (awake_spec _).mono ?_
  rintro e w0 ⟨rfl, F0⟩
  go_wp2_with fail
  refine (ran_spec (hd.fr F0)).mono ?_
  rintro e w1 ⟨rfl, R, hs, F⟩
  have F1 := F0.trans F
  have hl := F0.size
  have hlen := after_len 5 (ds.take 100)
  generalize after 5 (ds.take 100) = xs at *
  clear F F0
  go_wp2_with fail
  refine (R.list).mono ?_
  rintro e w2 ⟨va, rfl, O, F⟩
  have R2 := R.fr F (by simp)
  have F2 := F1.trans F
  have hs2 := F.size
  have N2 := Lib.hid (Nums.of_owns O)
  clear O F F1 R
  go_wp2_with fail
  refine (R2.list).mono ?_
  rintro e w3 ⟨vb, rfl, O, F⟩
  have R3 := R2.fr F (by simp)
  have F3 := F2.trans F
  have L3 := Lst.of_owns O
  have HF := Lib.hid F
  clear O F F2 R2
  have H := Lib.hid (show ∀ wz : World, IsRing wz w0.heap.size xs 5 → Lst wz w2.heap.size vb xs → Fr [] w wz → IsRing wz w0.heap.size xs 5 ∧ Lst wz w2.heap.size vb xs ∧ Fr [] w wz from fun _ a b c => ⟨a, b, c⟩)
  rcases N2.out with ⟨rfl, hx0⟩ | ⟨g, cap, rfl, hg1, hg2, N⟩
  · have hx0' : xs = [] := List.eq_nil_of_length_eq_zero hx0
    subst hx0'
    clear N2 hx0
    go_wp2_with fail
    refine wp_loop_rounds 1 ?_
    rw [rounds_succ]
    go_wp2_with fail
    refine (R3.list).mono ?_
    rintro e w4 ⟨vc, rfl, O, F⟩
    have R4 := R3.fr F (by simp)
    have F4 := F3.trans F
    have L4 := L3.fr F (by simp)
    have M4 := Lst.of_owns O
    clear O F
    go_wp2_with fail
    refine (same_spec M4.1 L4.1 (by simp)).mono ?_
    rintro e w5 ⟨rfl, D⟩
    rw [show same [] [] = true by simp [same]]
    have R5 := R4.dr D
    have F5 := F4.dr D
    obtain ⟨ao, cap', rfl, _, _, _⟩ := L4.1
    clear D F4 R4
    go_wp2_with fail
    refine (R5.len).mono ?_
    rintro e w6 ⟨rfl, rfl⟩
    go_wp2_with fail
    go_ret
    exact ⟨rfl, F5⟩
  · have N3 := N.fr HF.out (by simp)
    clear N2 N HF H
    go_wp2_with fail
    go_loopw [7] (fun s wr => ∃ i : Nat, i ≤ xs.length ∧ s = .int .i64 i ∧ IsRing wr w0.heap.size xs 5 ∧ Lst wr w2.heap.size vb xs ∧ Nums wr g xs.length ∧ Fr [] w wr) (fun s _ => xs.length - (intOf s).toNat)
    case atStart => exact ⟨0, Nat.zero_le _, rfl, R3, L3, N3, F3⟩
    case round =>
      obtain ⟨i, hi, rfl, Ri, Li, Ni, Fi⟩ := hrel
      by_cases hlt : i < xs.length
      · obtain ⟨z, hz, hf⟩ := Ni.at i hlt
        go_wp2_with fail
        go_roundw
        case rel => exact ⟨i + 1, by omega, by go_num, Ri.fr (S := [g]) (((Fr.refl _ _).drewN 0).setCell (.inl (by simp)) _) (by simp; omega), Li.fr (S := [g]) (((Fr.refl _ _).drewN 0).setCell (.inl (by simp)) _) (by simpa using hg2), Ni.set i _ 0, Fi.set 0 (by omega) _⟩
        case measure => simp [intOf]; omega
      · go_wp2_with fail
        refine (Ri.list).mono ?_
        rintro e w4 ⟨vc, rfl, O, F⟩
        have R4 := Ri.fr F (by simp)
        have F4 := Fi.trans F
        have L4 := Li.fr F (by simp)
        have M4 := Lst.of_owns O
        clear O F
        go_wp2_with fail
        refine (same_spec M4.1 L4.1 (by omega)).mono ?_
        rintro e w5 ⟨rfl, D⟩
        rw [show same xs xs = true by simp [same]]
        have R5 := R4.dr D
        have F5 := F4.dr D
        obtain ⟨ao, cap', rfl, _, _, _⟩ := L4.1
        clear D F4 R4
        go_wp2_with fail
        refine (R5.len).mono ?_
        rintro e w6 ⟨rfl, rfl⟩
        go_wp2_with fail
        go_ret
        exact ⟨rfl, F5⟩
end Go.Proofs.Ythbhkmhmiplikaa
