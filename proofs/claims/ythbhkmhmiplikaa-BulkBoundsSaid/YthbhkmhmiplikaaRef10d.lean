/-
  Pick of porpoiseref10.
-/
import Derived.Test.YthbhkmhmiplikaaRef10c
namespace Go.Proofs.Ythbhkmhmiplikaa
open Go.RowKit

set_option maxHeartbeats 2000000 in
theorem ref10_pick_no {w : World} {m q n1 c1 n2 c2 : Nat} {a1 a2 : Option Addr} (hl : n1 ≤ m) (hno : n1 = m ∨ n2 = 0) :
    Calls Try.prog 46 #[.agg #[.int .i64 m, .int .i64 q, .slice a1 n1 c1, .slice a2 n2 c2]] w fun e w' => e = .returned (.tuple #[.agg #[.int .i64 m, .int .i64 q, .slice a1 n1 c1, .slice a2 n2 c2], .int .i64 0, .bool false]) ∧ Fr [] w w' := by
  by_cases hm : n1 = m
  · have t1 : (m : Int) ≤ (n1 : Int) := by omega
    have HM := Lib.hid hm
    clear hm hno
    go_enter Try.func46, Try.ntmps46
    go_wp2
    refine bodyPost_ret (v := .tuple #[.agg #[.int .i64 m, .int .i64 q, .slice a1 n1 c1, .slice a2 n2 c2], .int .i64 0, .bool false]) (by simp [results, Try.results46, go_sem]) rfl ⟨rfl, ?_⟩
    repeat (first | exact Fr.refl _ _ | refine Fr.alloc ?_ _)
  · have hw : n2 = 0 := by rcases hno with h1 | h1; exact absurd h1 hm; exact h1
    subst hw
    have t1 : ¬ (m : Int) ≤ (n1 : Int) := by omega
    clear hm hno
    go_enter Try.func46, Try.ntmps46
    go_wp2
    refine bodyPost_ret (v := .tuple #[.agg #[.int .i64 m, .int .i64 q, .slice a1 n1 c1, .slice a2 0 c2], .int .i64 0, .bool false]) (by simp [results, Try.results46, go_sem]) rfl ⟨rfl, ?_⟩
    repeat (first | exact Fr.refl _ _ | refine Fr.alloc ?_ _)

/-- What a slice without its first element reads as. -/
theorem RdInts.tail {w : World} {n cap : Nat} {ad : Addr} {x : Int} {xs : List Int} (ha : RdInts w (.slice (some ad) n cap) (x :: xs)) :
    n = xs.length + 1 ∧ n ≤ cap ∧ ad.spot = none ∧ w.cell? ad = some (.int .i64 x) ∧ Src w 1 (.slice (some (if cap = 1 then ad else ad.add 1)) (n - 1) (cap - 1)) xs.length (xs.map (Value.int .i64)) :=
  Lst.slice1 (base := 0) ⟨ha, fun _ _ => Nat.zero_le _⟩

set_option maxHeartbeats 2000000 in
theorem ref10_pick_yes {w : World} {vr vw : Value} {hs ws : List Int} {m q : Nat} {y : Int} (hr : RdInts w vr hs) (hw : RdInts w vw (y :: ws)) (hm : hs.length < m) (hl : ws.length ≤ 1000 ∧ hs.length ≤ 1000) :
    Calls Try.prog 46 #[.agg #[.int .i64 m, .int .i64 q, vr, vw]] w fun e w' => ∃ vr' vw', e = .returned (.tuple #[.agg #[.int .i64 m, .int .i64 q, vr', vw'], .int .i64 y, .bool true]) ∧ Lst w' w.heap.size vr' (hs ++ [y]) ∧ Lst w' w.heap.size vw' ws ∧ Fr [] w w' := by
  obtain ⟨i0, hi, hz0, hz1, hz2⟩ := info_parts Try.info_int
  obtain ⟨ar, cr, rfl, _, _, _⟩ := id hr
  obtain ⟨aw, cw, rfl, hcw, _, h4⟩ := id hw
  obtain ⟨bw, ow, rfl, _⟩ := h4 0 (by simp)
  obtain ⟨_, k2, _, k4, k5⟩ := hw.tail
  simp only [List.length_cons, Nat.add_sub_cancel] at k2 k5 hcw
  obtain ⟨W2, hW2⟩ : ∃ W2, W2 = (w.alloc (boxB m q (.slice ar hs.length cr) (.slice (some ⟨bw, ow, none⟩) (ws.length + 1) cw))).alloc zeroB := ⟨_, rfl⟩
  have F2 : Fr [] w W2 := by rw [hW2]; exact ((Fr.refl _ _).alloc _).alloc _
  have s2 : W2.heap.size = w.heap.size + 1 + 1 := by rw [hW2]; simp
  have B2 : W2.heap[w.heap.size]? = some (boxB m q (.slice ar hs.length cr) (.slice (some ⟨bw, ow, none⟩) (ws.length + 1) cw)) := by rw [hW2]; exact block_alloc (block_alloc_new _ _) _
  have Z2 : W2.heap[w.heap.size + 1]? = some zeroB := by rw [hW2]; have := block_alloc_new (w.alloc (boxB m q (.slice ar hs.length cr) (.slice (some ⟨bw, ow, none⟩) (ws.length + 1) cw))) zeroB; simpa using this
  have k4' := (F2.cell (p := ⟨bw, ow, none⟩) (World.block_lt_of_cell? _ _ k4) (by simp)).trans k4
  obtain ⟨b0, b1, b2, b3, bf⟩ := four B2
  have f3 : Fr [] W2 (W2.alloc (.cells #[] 3)) := (Fr.refl _ _).alloc _
  obtain ⟨b0', b1', b2', b3', bf'⟩ := four (f3.keep B2 (by simp))
  have E3 := Lib.hid (owns_empty' s2 W2.heap.size 3 1 (Nat.le_refl _))
  have HW := Lib.hid hr
  have HW2 := Lib.hid hW2
  unfold boxB zeroB at HW2
  have t1 : ¬ (m : Int) ≤ (hs.length : Int) := by omega
  have t2 : (((ws.length : Int) + 1) == 0) = false := by simp; omega
  have t3 : (1 : Int) ≤ (ws.length : Int) + 1 := by omega
  have t4 : (0 : Int) < (ws.length : Int) + 1 := by omega
  clear hr hw hW2 h4
  by_cases hc1 : cw = 1
  · subst hc1
    obtain rfl : ws = [] := List.eq_nil_of_length_eq_zero (by omega)
    rw [if_pos rfl] at k5
    simp only [List.length_nil, Nat.sub_self] at *
    have S3 := Lib.hid (k5.fr (F2.trans f3) (fun _ _ => List.not_mem_nil))
    clear k5 f3
    simp only [List.length_cons]
    go_enter Try.func46, Try.ntmps46
    go_wp2_with (first
      | (rw [← HW2.out])
      | (at_builtin; refine wpList_app rfl (.tmp 23) (.tmp 26) 26 rfl W2.heap.size 3 i0 (.int .i64 0) 1 8 Try.underlying26 hi hz0 hz1 hz2 rfl (by decide) _ 0 [] rfl E3.out _ 0 _ rfl S3.out (by unfold maxLen; omega) (by omega) (by simp) ?_; intro v1 w1 hown1 hg1; have F1 := Fr.of_grown (S := []) ((Fr.refl [] W2).alloc (.cells #[] 3)) hg1 (fun k hk => Or.inr (E3.out.lt k hk).1); have O1 := hown1; clear hown1 hg1; simp only [Nat.zero_add, List.nil_append] at O1; obtain ⟨ao1, cap1, rfl⟩ := ownsForm O1; have hs1 := F1.size; obtain ⟨d0, d1, d2, d3, df⟩ := four (F1.keep B2 (by simp)); have F3 := F2.trans F1))
    have F4 : Fr [] w (w1.setCell ⟨w.heap.size, 3, none⟩ (.slice ao1 0 cap1)) := F3.setCell (.inr (Nat.le_refl _)) _
    have F5 : Fr [w.heap.size] w1 (w1.setCell ⟨w.heap.size, 3, none⟩ (.slice ao1 0 cap1)) := (Fr.refl _ _).setCell (.inl (by simp)) _
    have L1 := HW.out.fr F4 (fun _ _ => List.not_mem_nil)
    have L2 : Lst (w1.setCell ⟨w.heap.size, 3, none⟩ (.slice ao1 0 cap1)) W2.heap.size (.slice ao1 0 cap1) [] := Lst.of_owns' (xs := []) (ownsRow_fr O1 F5 (fun k hk => by have := (O1.lt k hk).1; simp; omega)) (by simp) (by simp)
    have Z5 := F5.keep (F1.keep Z2 (by simp)) (by simp)
    refine (ref10_run L1 ao1 0 cap1 hl.2 y).mono ?_
    rintro e w3 ⟨vr3, rfl, M1, F6⟩
    obtain ⟨z0, z1, z2, z3, zf⟩ := four (F6.keep Z5 (by simp))
    have F7 := F4.trans F6
    have M2 := L2.fr F6 (by simp)
    have hs3 : W2.heap.size ≤ (w1.setCell ⟨w.heap.size, 3, none⟩ (.slice ao1 0 cap1)).heap.size := by simp; omega
    obtain ⟨ar3, cr3, rfl, _, _, _⟩ := M1.1
    go_wp2_with fail
    have F8 : ∀ u3 u4 u5 u6 : Value, Fr [w.heap.size + 1] w3 ((((w3.setCell ⟨w.heap.size + 1, 0, none⟩ u3).setCell ⟨w.heap.size + 1, 1, none⟩ u4).setCell ⟨w.heap.size + 1, 2, none⟩ u5).setCell ⟨w.heap.size + 1, 3, none⟩ u6) :=
      fun _ _ _ _ => ((((Fr.refl _ _).setCell (.inl (by simp)) _).setCell (.inl (by simp)) _).setCell (.inl (by simp)) _).setCell (.inl (by simp)) _
    refine bodyPost_ret (v := .tuple #[.agg #[.int .i64 m, .int .i64 q, .slice ar3 (hs ++ [y]).length cr3, .slice ao1 0 cap1], .int .i64 y, .bool true]) (by simp [results, Try.results46, go_sem, z0, z1, z2, z3]) rfl ⟨_, _, rfl, ?_, ?_, F7.trans' (F8 _ _ _ _) (fun x hx => Or.inr (by simp at hx; omega))⟩
    · exact (M1.fr (F8 _ _ _ _) (fun x hx => by simp at hx; omega)).mono (Nat.le_trans F2.size hs3)
    · exact (M2.fr (F8 _ _ _ _) (fun x hx => by simp at hx; omega)).mono F2.size
  · rw [if_neg hc1] at k5
    have S3 := Lib.hid (k5.fr (F2.trans f3) (fun _ _ => List.not_mem_nil))
    clear k5 f3
    simp only [List.length_cons]
    go_enter Try.func46, Try.ntmps46
    go_wp2_with (first
      | (rw [← HW2.out])
      | (at_builtin; refine wpList_app rfl (.tmp 23) (.tmp 26) 26 rfl W2.heap.size 3 i0 (.int .i64 0) 1 8 Try.underlying26 hi hz0 hz1 hz2 rfl (by decide) _ 0 [] rfl E3.out _ ws.length _ rfl S3.out (by unfold maxLen; omega) (by omega) (by simp) ?_; intro v1 w1 hown1 hg1; have F1 := Fr.of_grown (S := []) ((Fr.refl [] W2).alloc (.cells #[] 3)) hg1 (fun k hk => Or.inr (E3.out.lt k hk).1); have O1 := hown1; clear hown1 hg1; simp only [Nat.zero_add, List.nil_append] at O1; obtain ⟨ao1, cap1, rfl⟩ := ownsForm O1; have hs1 := F1.size; obtain ⟨d0, d1, d2, d3, df⟩ := four (F1.keep B2 (by simp)); have F3 := F2.trans F1))
    have F4 : Fr [] w (w1.setCell ⟨w.heap.size, 3, none⟩ (.slice ao1 ws.length cap1)) := F3.setCell (.inr (Nat.le_refl _)) _
    have F5 : Fr [w.heap.size] w1 (w1.setCell ⟨w.heap.size, 3, none⟩ (.slice ao1 ws.length cap1)) := (Fr.refl _ _).setCell (.inl (by simp)) _
    have L1 := HW.out.fr F4 (fun _ _ => List.not_mem_nil)
    have L2 : Lst (w1.setCell ⟨w.heap.size, 3, none⟩ (.slice ao1 ws.length cap1)) W2.heap.size (.slice ao1 ws.length cap1) ws := Lst.of_owns' (xs := ws) (ownsRow_fr O1 F5 (fun k hk => by have := (O1.lt k hk).1; simp; omega)) (by simp) (by simp)
    have Z5 := F5.keep (F1.keep Z2 (by simp)) (by simp)
    refine (ref10_run L1 ao1 ws.length cap1 hl.2 y).mono ?_
    rintro e w3 ⟨vr3, rfl, M1, F6⟩
    obtain ⟨z0, z1, z2, z3, zf⟩ := four (F6.keep Z5 (by simp))
    have F7 := F4.trans F6
    have M2 := L2.fr F6 (by simp)
    have hs3 : W2.heap.size ≤ (w1.setCell ⟨w.heap.size, 3, none⟩ (.slice ao1 ws.length cap1)).heap.size := by simp; omega
    obtain ⟨ar3, cr3, rfl, _, _, _⟩ := M1.1
    go_wp2_with fail
    have F8 : ∀ u3 u4 u5 u6 : Value, Fr [w.heap.size + 1] w3 ((((w3.setCell ⟨w.heap.size + 1, 0, none⟩ u3).setCell ⟨w.heap.size + 1, 1, none⟩ u4).setCell ⟨w.heap.size + 1, 2, none⟩ u5).setCell ⟨w.heap.size + 1, 3, none⟩ u6) :=
      fun _ _ _ _ => ((((Fr.refl _ _).setCell (.inl (by simp)) _).setCell (.inl (by simp)) _).setCell (.inl (by simp)) _).setCell (.inl (by simp)) _
    refine bodyPost_ret (v := .tuple #[.agg #[.int .i64 m, .int .i64 q, .slice ar3 (hs ++ [y]).length cr3, .slice ao1 ws.length cap1], .int .i64 y, .bool true]) (by simp [results, Try.results46, go_sem, z0, z1, z2, z3]) rfl ⟨_, _, rfl, ?_, ?_, F7.trans' (F8 _ _ _ _) (fun x hx => Or.inr (by simp at hx; omega))⟩
    · exact (M1.fr (F8 _ _ _ _) (fun x hx => by simp at hx; omega)).mono (Nat.le_trans F2.size hs3)
    · exact (M2.fr (F8 _ _ _ _) (fun x hx => by simp at hx; omega)).mono F2.size
end Go.Proofs.Ythbhkmhmiplikaa
