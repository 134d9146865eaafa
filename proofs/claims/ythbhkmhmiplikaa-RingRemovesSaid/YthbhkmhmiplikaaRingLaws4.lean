/-
  The statement RingRemoves of porpoiselaw04, as a contract of its function.
-/
import Derived.Test.YthbhkmhmiplikaaRingLaws3
namespace Go.Proofs.Ythbhkmhmiplikaa
open Go.RowKit

theorem rem_cut {x : Int} : ∀ {xs : List Int} {i : Nat}, i < xs.length → el xs i = x → (∀ j, j < i → el xs j ≠ x) → rem x xs = xs.take i ++ xs.drop (i + 1)
  | [], _, h, _, _ => by simp at h
  | y :: ys, 0, _, he, _ => by
    have : y = x := he
    simp [rem, this]
  | y :: ys, i + 1, h, he, hn => by
    have h0 : y ≠ x := hn 0 (by omega)
    have ih := rem_cut (xs := ys) (i := i) (by simpa using h) (by simpa [el] using he) (fun j hj => by have := hn (j + 1) (by omega); simpa [el] using this)
    simp [rem, h0, ih]

theorem Lst.cut_lo {w : World} {base n cap i : Nat} {ad : Addr} {xs : List Int} (h : Lst w base (.slice (some ad) n cap) xs) (hi : i < xs.length) : Src w 1 (.slice (some ad) i cap) i ((xs.take i).map (Value.int .i64)) := by
  obtain ⟨ao, cap', e, h2, h3, h4⟩ := h.1
  simp only [Value.slice.injEq] at e
  obtain ⟨rfl, rfl, rfl⟩ := e
  refine ⟨_, _, rfl, by simp; omega, by omega, fun e => by simp at e, fun u hu => ?_, fun j u hj => ?_⟩
  · simp only [List.mem_map] at hu; obtain ⟨_, _, rfl⟩ := hu; rfl
  · have hlt : j < i := by have := (List.getElem?_eq_some_iff.1 hj).1; simp at this; omega
    obtain ⟨b, o, hb, hc⟩ := h4 j (by omega)
    refine ⟨b, o, hb, ?_⟩
    rw [hc, ← hj]
    simp [el, hlt, show j < xs.length by omega]

theorem Lst.cut_hi {w : World} {base n cap i b o : Nat} {xs : List Int} (h : Lst w base (.slice (some ⟨b, o, none⟩) n cap) xs) (hi : i < xs.length) {ao' : Option Addr}
    (ha : ao' = if cap = i + 1 then some ⟨b, o, none⟩ else some ⟨b, o + (i + 1), none⟩) : Src w 1 (.slice ao' (xs.length - (i + 1)) (cap - (i + 1))) (xs.length - (i + 1)) ((xs.drop (i + 1)).map (Value.int .i64)) := by
  obtain ⟨ao, cap', e, h2, h3, h4⟩ := h.1
  simp only [Value.slice.injEq] at e
  obtain ⟨rfl, rfl, rfl⟩ := e
  refine ⟨_, _, rfl, by simp, by omega, (fun e => by rw [e] at ha; split at ha <;> cases ha), fun u hu => ?_, fun j u hj => ?_⟩
  · simp only [List.mem_map] at hu; obtain ⟨_, _, rfl⟩ := hu; rfl
  · have hlt : j < xs.length - (i + 1) := by have := (List.getElem?_eq_some_iff.1 hj).1; simpa using this
    obtain ⟨b', o', hb, hc⟩ := h4 (i + 1 + j) (by omega)
    simp only [Option.some.injEq, Addr.mk.injEq, and_true] at hb
    obtain ⟨rfl, rfl⟩ := hb
    rw [if_neg (by omega)] at ha
    refine ⟨b, o + (i + 1), ha, ?_⟩
    rw [Nat.add_assoc, hc, ← hj]
    simp [el, show i + 1 + j < xs.length by omega]

set_option maxHeartbeats 4000000 in
theorem ringRemoves_spec {w : World} {v : Value} {ds : List (Int × Int)} (hd : Deeds w v ds) (x : Int) :
    Calls Try.prog 6 #[v, .int .i64 x] w fun e w' => e = .returned (.bool true) ∧ Fr [] w w' := by
  obtain ⟨i0, hi0, hz0, hz1, hz2⟩ := info_parts Try.info_int
  go_enter Try.func6, Try.ntmps6
  go_wp2_with fail
  refine (awake_spec _).mono ?_
  rintro e w0 ⟨rfl, F0⟩
  go_wp2_with fail
  refine (ran_spec (hd.fr F0)).mono ?_
  rintro e w1 ⟨rfl, R, hs, F⟩
  have F1 := F0.trans F
  have hl := F0.size
  have hlen := after_len 5 (ds.take 100)
  generalize after 5 (ds.take 100) = xs at *
  clear F F0
  go_wp2_with fail
  refine (R.list).mono ?_
  rintro e w2 ⟨va, rfl, O, F⟩
  have R2 := R.fr F (by simp)
  have F2 := F1.trans F
  have L2 : Lst w2 (w0.heap.size + 1) va xs := (Lst.of_owns O).mono (by omega)
  clear O F F1 R
  go_wp2_with fail
  refine (R2.remove x).mono ?_
  rintro e w3 ⟨rfl, R3, F⟩
  have F3 := F2.own F (by omega)
  have L3 := L2.fr F (by simp)
  have hrl := rem_len x xs
  clear F F2 L2 R2
  go_wp2_with fail
  refine (R3.list).mono ?_
  rintro e w4 ⟨vn, rfl, O, F⟩
  have F4 := F3.trans F
  have L4 := L3.fr F (by simp)
  have M4 := Lst.of_owns O
  have hs4 := F.size
  clear O F F3 L3 R3 hd hs
  obtain ⟨ao, cap, rfl, hcap, _, h4⟩ := L4.1
  have HL := Lib.hid h4
  clear h4
  go_wp2_with fail
  go_loop [10] (fun s => ∃ i : Nat, i ≤ xs.length ∧ s = .int .i64 i ∧ Hid (∀ j, j < i → el xs j ≠ x)) (fun s => xs.length - (intOf s).toNat)
  case atStart => exact ⟨0, Nat.zero_le _, rfl, Lib.hid (fun j hj => by omega)⟩
  case round =>
    obtain ⟨i, hi, rfl, HN⟩ := hrel
    by_cases hlt : i < xs.length
    · obtain ⟨b1, o1, rfl, hc⟩ := HL.out i hlt
      by_cases he : el xs i = x
      · have hne : (el xs i != x) = false := by simpa using he
        have HC := Lib.hid (rem_cut hlt he HN.out)
        have hin : decide (x ∈ xs) = true := decide_eq_true (by rw [← he]; simp [el, hlt])
        have t1 : ((i : Int) == (xs.length : Int)) = false := by simp; omega
        have t2 : (i : Int) ≤ (xs.length : Int) := by omega
        have t3 : (i : Int) + 1 ≤ (xs.length : Int) := by omega
        have t4 : (i : Int) ≤ (cap : Int) := by omega
        rw [hin]
        have KL := L4.cut_lo hlt
        have HE := Lib.hid he
        clear he hin
        have m1 : 0 + i ≤ maxLen := by unfold maxLen; omega
        have m2 : (0 + i) * 8 ≤ 140737488355328 := by omega
        have m3 : 0 + i + (xs.length - (i + 1)) ≤ maxLen := by unfold maxLen; omega
        have m4 : (0 + i + (xs.length - (i + 1))) * 8 ≤ 140737488355328 := by omega
        have s1 : IntKind.i64.wrap ((i : Int) + 1) = (i : Int) + 1 := IntWalk.i64_in _ (by omega)
        have s2 : (0 : Int) ≤ (i : Int) + 1 := by omega
        have s3 : ((i : Int) + 1).toNat = i + 1 := by omega
        by_cases hcp : cap = i + 1
        · have KH := L4.cut_hi hlt (if_pos hcp).symm
          subst hcp
          rw [Nat.sub_self, show xs.length - (i + 1) = 0 by omega] at KH
          rw [show xs.length - (i + 1) = 0 by omega] at m3 m4
          have t5 : (i : Int) ≤ (i : Int) + 1 := by omega
          go_wp2_with fail
          go_region_law (first
            | (refine step_app rfl (.tmp 50) (.tmp 53) 26 rfl w4.heap.size 3 i0 (.int .i64 0) 1 8 Try.underlying26 hi0 hz0 hz1 hz2 rfl (by decide) _ 0 [] rfl (World.ownsRow.drew (owns_empty w4 w4.heap.size 3 1 (Nat.le_refl _))) _ i _ rfl (KL.alloc _).drew m1 m2 (by simp) ?_; intro v5 w5 hown5 hg5; have F5 := Fr.of_grown (S := []) ((Fr.refl [] w4).alloc (.cells #[] 3)).drew hg5 (fun k hk => Or.inr ((owns_empty w4 w4.heap.size 3 1 (Nat.le_refl _)).lt k hk).1); have O5 := hown5; clear hown5 hg5; have hs5 := F5.size)
            | (refine step_app rfl (.tmp 54) (.tmp 58) 26 rfl w4.heap.size 3 i0 (.int .i64 0) 1 8 Try.underlying26 hi0 hz0 hz1 hz2 rfl (by decide) v5 (0 + i) _ rfl O5 _ _ _ rfl (KH.fr F5 (fun _ _ => List.not_mem_nil)) m3 m4 hs5 ?_; intro v6 w6 hown6 hg6; have F6 := Fr.of_grown (S := []) F5 hg6 (fun k hk => Or.inr (O5.lt k hk).1); have O6 := hown6; clear hown6 hg6))
          all_goals clear s1 s2 s3 m1 m2 m3 m4
          all_goals (have M6 : Lst w6 w4.heap.size v6 (rem x xs) := by rw [HC.out]; exact Lst.of_owns' O6 (by simp; omega) (by simp))
          all_goals (have N6 := M4.fr F6 (by simp))
          all_goals (have G6 := F4.trans F6)
          all_goals clear O6 F6 O5 F5
          all_goals go_wp2_with fail
          all_goals (refine (same_spec N6.1 M6.1 (by omega)).mono ?_; rintro e w7 ⟨rfl, D⟩; rw [show same (rem x xs) (rem x xs) = true by simp [same]])
          all_goals (have F7 := G6.dr D)
          all_goals go_wp2_with fail
          all_goals go_ret
          all_goals exact ⟨rfl, F7⟩
        · have KH := L4.cut_hi hlt (if_neg hcp).symm
          go_wp2_with fail
          go_region_law (first
            | (refine step_app rfl (.tmp 50) (.tmp 53) 26 rfl w4.heap.size 3 i0 (.int .i64 0) 1 8 Try.underlying26 hi0 hz0 hz1 hz2 rfl (by decide) _ 0 [] rfl (World.ownsRow.drew (owns_empty w4 w4.heap.size 3 1 (Nat.le_refl _))) _ i _ rfl (KL.alloc _).drew m1 m2 (by simp) ?_; intro v5 w5 hown5 hg5; have F5 := Fr.of_grown (S := []) ((Fr.refl [] w4).alloc (.cells #[] 3)).drew hg5 (fun k hk => Or.inr ((owns_empty w4 w4.heap.size 3 1 (Nat.le_refl _)).lt k hk).1); have O5 := hown5; clear hown5 hg5; have hs5 := F5.size)
            | (refine step_app rfl (.tmp 54) (.tmp 58) 26 rfl w4.heap.size 3 i0 (.int .i64 0) 1 8 Try.underlying26 hi0 hz0 hz1 hz2 rfl (by decide) v5 (0 + i) _ rfl O5 _ _ _ rfl (KH.fr F5 (fun _ _ => List.not_mem_nil)) m3 m4 hs5 ?_; intro v6 w6 hown6 hg6; have F6 := Fr.of_grown (S := []) F5 hg6 (fun k hk => Or.inr (O5.lt k hk).1); have O6 := hown6; clear hown6 hg6))
          all_goals clear s1 s2 s3 m1 m2 m3 m4
          all_goals (have M6 : Lst w6 w4.heap.size v6 (rem x xs) := by rw [HC.out]; exact Lst.of_owns' O6 (by simp; omega) (by simp))
          all_goals (have N6 := M4.fr F6 (by simp))
          all_goals (have G6 := F4.trans F6)
          all_goals clear O6 F6 O5 F5
          all_goals go_wp2_with fail
          all_goals (refine (same_spec N6.1 M6.1 (by omega)).mono ?_; rintro e w7 ⟨rfl, D⟩; rw [show same (rem x xs) (rem x xs) = true by simp [same]])
          all_goals (have F7 := G6.dr D)
          all_goals go_wp2_with fail
          all_goals go_ret
          all_goals exact ⟨rfl, F7⟩
      · have hne : (el xs i != x) = true := by simpa using he
        go_wp2_with fail
        go_round
        case rel => exact ⟨i + 1, by omega, by go_num, Lib.hid (fun j hj => by by_cases hji : j = i; (subst hji; exact he); exact HN.out j (by omega))⟩
        case measure => simp [intOf]; omega
    · have : i = xs.length := by omega
      subst this
      obtain ⟨hno, hre⟩ := rem_none x xs HN.out
      rw [decide_eq_false hno]
      rw [hre] at M4
      have t1 : ((xs.length : Int) == (xs.length : Int)) = true := by simp
      go_wp2_with fail
      refine (same_spec M4.1 L4.1 (by omega)).mono ?_
      rintro e w5 ⟨rfl, D⟩
      rw [show same xs xs = true by simp [same]]
      have F5 := F4.dr D
      go_wp2_with fail
      go_ret
      exact ⟨rfl, F5⟩
end Go.Proofs.Ythbhkmhmiplikaa
