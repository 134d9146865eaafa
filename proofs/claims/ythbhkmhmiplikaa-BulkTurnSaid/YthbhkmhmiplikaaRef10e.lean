/-
  Admit of porpoiseref10.
-/
import Derived.Test.YthbhkmhmiplikaaRef10d
namespace Go.Proofs.Ythbhkmhmiplikaa
open Go.RowKit

/-- A list is the one that it was, or a new one. -/
def ON (w w' : World) (v : Value) (xs : List Int) (v' : Value) (xs' : List Int) : Prop := (v' = v ∧ xs' = xs) ∨ Lst w' w.heap.size v' xs'
theorem ON.lst {w0 w w' wF : World} {base : Nat} {v v' : Value} {xs xs' : List Int} (h : ON w w' v xs v' xs') (h0 : Lst w0 base v xs) {S S2 : List Nat} (F0 : Fr S w0 wF) (hS : ∀ x ∈ S, x < base) (F2 : Fr S2 w' wF) (hS2 : ∀ x ∈ S2, x < w.heap.size) (hb : base ≤ w.heap.size) : Lst wF base v' xs' := by
  rcases h with ⟨rfl, rfl⟩ | h
  · exact h0.fr F0 hS
  · exact (h.fr F2 hS2).mono hb
/-- What Admit tells. -/
def RAd (m q : Nat) (R : List Int × List Int × Int × List Int) (vr vw : Value) (hs ws : List Int) (w : World) (e : Ending) (w' : World) : Prop :=
  ∃ vr' vw' v, e = .returned (.tuple #[.agg #[.int .i64 m, .int .i64 q, vr', vw'], .int .i64 R.2.2.1, v]) ∧ ON w w' vr hs vr' R.1 ∧ ON w w' vw ws vw' R.2.1 ∧ Lst w' w.heap.size v R.2.2.2 ∧ Fr [] w w'

/-- Its last stores: the box of the result. -/
theorem fr_four {w : World} {b : Nat} (u0 u1 u2 u3 : Value) : Fr [b] w ((((w.setCell ⟨b, 0, none⟩ u0).setCell ⟨b, 1, none⟩ u1).setCell ⟨b, 2, none⟩ u2).setCell ⟨b, 3, none⟩ u3) :=
  ((((Fr.refl _ _).setCell (.inl (by simp)) _).setCell (.inl (by simp)) _).setCell (.inl (by simp)) _).setCell (.inl (by simp)) _

section
variable {w : World} {base : Nat} {vr vw : Value} {hs ws : List Int} {m q : Nat}

set_option maxHeartbeats 2000000 in
theorem ref10_admit_there (hr : Lst w base vr hs) (hw : Lst w base vw ws) (hl : hs.length ≤ 1000 ∧ ws.length ≤ 1000) (x : Int) (hx : x ∈ hs ∨ x ∈ ws) :
    Calls Try.prog 45 #[.agg #[.int .i64 m, .int .i64 q, vr, vw], .int .i64 x] w (RAd m q (hs, ws, 3, []) vr vw hs ws w) := by
  obtain ⟨ar, cr, hvr, _, _, _⟩ := id hr.1
  obtain ⟨aw, cw, hvw, _, _, _⟩ := id hw.1
  obtain ⟨W2, hW2⟩ : ∃ W2, W2 = (w.alloc (boxB m q vr vw)).alloc zeroB := ⟨_, rfl⟩
  have F2 : Fr [] w W2 := by rw [hW2]; exact ((Fr.refl _ _).alloc _).alloc _
  have B2 : W2.heap[w.heap.size]? = some (boxB m q vr vw) := by rw [hW2]; exact block_alloc (block_alloc_new _ _) _
  have Z2 : W2.heap[w.heap.size + 1]? = some zeroB := by rw [hW2]; have := block_alloc_new (w.alloc (boxB m q vr vw)) zeroB; simpa using this
  obtain ⟨b0, b1, b2, b3, bf⟩ := four B2
  obtain ⟨z0, z1, z2, z3, zf⟩ := four Z2
  have h1 := Lib.hid (has_spec (hr.1.fr F2 (fun _ _ => List.not_mem_nil)) (by omega) x)
  have h2 := Lib.hid (has_spec (hw.1.fr F2 (fun _ _ => List.not_mem_nil)) (by omega) x)
  have HF2 := Lib.hid F2
  have HR := Lib.hid hr
  have HW := Lib.hid hw
  have HW2 := Lib.hid hW2
  unfold boxB zeroB at HW2
  clear hr hw hW2 F2 B2 Z2
  have fin : ∀ w3, Fr [w.heap.size + 1] W2 w3 → RAd m q (hs, ws, 3, []) vr vw hs ws w (.returned (.tuple #[.agg #[.int .i64 m, .int .i64 q, vr, vw], .int .i64 3, .slice none 0 0])) w3 := by
    intro w3 F
    have F' := HF2.out.trans' F (fun x hx => Or.inr (by simp at hx; omega))
    exact ⟨_, _, _, rfl, .inl ⟨rfl, rfl⟩, .inl ⟨rfl, rfl⟩, Lst.nil _ _, F'⟩
  have FIN := Lib.hid fin
  clear fin
  subst hvr hvw
  by_cases hh : x ∈ hs
  · rw [decide_eq_true hh] at h1
    clear hh hx
    go_enter Try.func45, Try.ntmps45
    go_wp2_with fail
    rw [← HW2.out]
    refine (h1.out).mono ?_
    rintro e w3 ⟨rfl, rfl⟩
    go_wp2_with fail
    exact bodyPost_ret (by simp [results, Try.results45, go_sem, z0, z1, z2, z3]) rfl (FIN.out _ (fr_four _ _ _ _))
  · rw [decide_eq_false hh] at h1
    rw [decide_eq_true (show x ∈ ws by rcases hx with h | h; exact absurd h hh; exact h)] at h2
    clear hh hx
    go_enter Try.func45, Try.ntmps45
    go_wp2_with fail
    rw [← HW2.out]
    refine (h1.out).mono ?_
    rintro e w3 ⟨rfl, rfl⟩
    go_wp2_with fail
    refine (h2.out).mono ?_
    rintro e w3 ⟨rfl, rfl⟩
    go_wp2_with fail
    exact bodyPost_ret (by simp [results, Try.results45, go_sem, z0, z1, z2, z3]) rfl (FIN.out _ (fr_four _ _ _ _))

set_option maxHeartbeats 4000000 in
theorem ref10_admit_new (hr : Lst w base vr hs) (hw : Lst w base vw ws) (hl : hs.length ≤ m ∧ m ≤ 1000 ∧ ws.length ≤ 1000) (x : Int) (hh : x ∉ hs) (hx : x ∉ ws) :
    Calls Try.prog 45 #[.agg #[.int .i64 m, .int .i64 q, vr, vw], .int .i64 x] w (RAd m q (admitM m q hs ws x) vr vw hs ws w) := by
  obtain ⟨ar, cr, hvr, _, _, _⟩ := id hr.1
  obtain ⟨aw, cw, hvw, _, _, _⟩ := id hw.1
  obtain ⟨W2, hW2⟩ : ∃ W2, W2 = (w.alloc (boxB m q vr vw)).alloc zeroB := ⟨_, rfl⟩
  have F2 : Fr [] w W2 := by rw [hW2]; exact ((Fr.refl _ _).alloc _).alloc _
  have s2 : W2.heap.size = w.heap.size + 1 + 1 := by rw [hW2]; simp
  have B2 : W2.heap[w.heap.size]? = some (boxB m q vr vw) := by rw [hW2]; exact block_alloc (block_alloc_new _ _) _
  have Z2 : W2.heap[w.heap.size + 1]? = some zeroB := by rw [hW2]; have := block_alloc_new (w.alloc (boxB m q vr vw)) zeroB; simpa using this
  obtain ⟨b0, b1, b2, b3, bf⟩ := four B2
  obtain ⟨z0, z1, z2, z3, zf⟩ := four Z2
  have h1 := Lib.hid (has_spec (hr.1.fr F2 (fun _ _ => List.not_mem_nil)) (by omega) x)
  have h2 := Lib.hid (has_spec (hw.1.fr F2 (fun _ _ => List.not_mem_nil)) (by omega) x)
  rw [decide_eq_false hh] at h1
  rw [decide_eq_false hx] at h2
  have HF2 := Lib.hid F2
  have HR2 := Lib.hid (hr.fr F2 (by simp))
  have HW2' := Lib.hid (hw.fr F2 (by simp))
  have HR := Lib.hid hr
  have HW := Lib.hid hw
  have HW2 := Lib.hid hW2
  have HZ := Lib.hid Z2
  have HB := Lib.hid B2
  unfold boxB zeroB at HW2
  unfold Proofs.Ythbhkmhmiplikaa.admitM
  rw [if_neg (by simp [hh, hx])]
  clear hr hw hW2 F2 B2 Z2 hh hx
  have FRold := Lib.hid (fun (w3 w4 : World) (F3 : Fr [] W2 w3) (F4 : Fr [w.heap.size + 1] w3 w4) => (HF2.out.trans F3).trans' F4 (fun x hx => Or.inr (show w.heap.size ≤ x by simp at hx; omega)))
  have FRnew := Lib.hid (fun (w3 w4 : World) (F4 : Fr [w.heap.size + 1] w3 w4) (v : Value) (xs : List Int) (b : Nat) (hb : W2.heap.size ≤ b) (h : Lst w3 b v xs) => (h.fr F4 (fun x hx => show x < b by simp at hx; omega)).mono (show w.heap.size ≤ b by omega))
  clear HF2
  by_cases hwe : ws = []
  · subst hwe
    by_cases hm : hs.length < m
    · rw [if_pos ⟨hm, rfl⟩]
      have t1 : (hs.length : Int) < m := by omega
      have HN := Lib.hid (ref10_run (m := m) (q := q) HR2.out.1 aw 0 cw (by omega) x)
      subst hvr hvw
      clear hm
      simp only [List.length_nil] at *
      go_enter Try.func45, Try.ntmps45
      go_wp2_with fail
      rw [← HW2.out]
      refine (h1.out).mono ?_
      rintro e w3 ⟨rfl, rfl⟩
      go_wp2_with fail
      refine (h2.out).mono ?_
      rintro e w3 ⟨rfl, rfl⟩
      go_wp2_with fail
      refine (HN.out).mono ?_
      rintro e w3 ⟨vr3, rfl, M1, F3⟩
      obtain ⟨z0, z1, z2, z3, zf⟩ := four (F3.keep HZ.out (by simp))
      have HM := Lib.hid M1
      obtain ⟨ar3, cr3, rfl, _, _, _⟩ := M1.1
      go_wp2_with fail
      exact bodyPost_ret (by simp [results, Try.results45, go_sem, z0, z1, z2, z3]) rfl ⟨_, _, _, rfl, .inr (FRnew.out _ _ (fr_four _ _ _ _) _ _ _ (Nat.le_refl _) HM.out), .inl ⟨rfl, rfl⟩, Lst.nil _ _, FRold.out _ _ F3 (fr_four _ _ _ _)⟩
    · rw [if_neg (fun e => hm e.1)]
      have t1 : ¬ (hs.length : Int) < m := by omega
      by_cases hq : 0 < q
      · rw [if_pos (show ([] : List Int).length < q from hq)]
        have t2 : (0 : Int) < q := by omega
        have HN := Lib.hid (ref10_wait (m := m) (q := q) HW2'.out.1 ar hs.length cr (by simp) x)
        subst hvr hvw
        clear hm hq
        simp only [List.length_nil] at *
        go_enter Try.func45, Try.ntmps45
        go_wp2_with fail
        rw [← HW2.out]
        refine (h1.out).mono ?_
        rintro e w3 ⟨rfl, rfl⟩
        go_wp2_with fail
        refine (h2.out).mono ?_
        rintro e w3 ⟨rfl, rfl⟩
        go_wp2_with fail
        refine (HN.out).mono ?_
        rintro e w3 ⟨vr3, rfl, M1, F3⟩
        obtain ⟨z0, z1, z2, z3, zf⟩ := four (F3.keep HZ.out (by simp))
        have HM := Lib.hid M1
        obtain ⟨ar3, cr3, rfl, _, _, _⟩ := M1.1
        go_wp2_with fail
        exact bodyPost_ret (by simp [results, Try.results45, go_sem, z0, z1, z2, z3]) rfl ⟨_, _, _, rfl, .inl ⟨rfl, rfl⟩, .inr (FRnew.out _ _ (fr_four _ _ _ _) _ _ _ (Nat.le_refl _) HM.out), Lst.nil _ _, FRold.out _ _ F3 (fr_four _ _ _ _)⟩
      · rw [if_neg (show ¬ ([] : List Int).length < q from hq), if_neg (fun e => hm e.1)]
        have t2 : ¬ (0 : Int) < q := by omega
        subst hvr hvw
        clear hm hq
        simp only [List.length_nil] at *
        go_enter Try.func45, Try.ntmps45
        go_wp2_with fail
        rw [← HW2.out]
        refine (h1.out).mono ?_
        rintro e w3 ⟨rfl, rfl⟩
        go_wp2_with fail
        refine (h2.out).mono ?_
        rintro e w3 ⟨rfl, rfl⟩
        go_wp2_with fail
        exact bodyPost_ret (by simp [results, Try.results45, go_sem, z0, z1, z2, z3]) rfl ⟨_, _, _, rfl, .inl ⟨rfl, rfl⟩, .inl ⟨rfl, rfl⟩, Lst.nil _ _, FRold.out _ _ (Fr.refl _ _) (fr_four _ _ _ _)⟩
  · have hlen : ((ws.length : Int) == 0) = false := by
      simp; exact hwe
    have hpos : (0 : Int) < ws.length := by
      have : ws.length ≠ 0 := fun e => hwe (List.eq_nil_of_length_eq_zero e)
      omega
    rw [if_neg (fun e => hwe e.2)]
    by_cases hq : ws.length < q
    · rw [if_pos hq]
      have t2 : (ws.length : Int) < q := by omega
      have HN := Lib.hid (ref10_wait (m := m) (q := q) HW2'.out.1 ar hs.length cr (by omega) x)
      subst hvr hvw
      clear hwe hq
      go_enter Try.func45, Try.ntmps45
      go_wp2_with fail
      rw [← HW2.out]
      refine (h1.out).mono ?_
      rintro e w3 ⟨rfl, rfl⟩
      go_wp2_with fail
      refine (h2.out).mono ?_
      rintro e w3 ⟨rfl, rfl⟩
      by_cases t1 : (hs.length : Int) < m
      all_goals
        go_wp2_with fail
        refine (HN.out).mono ?_
        rintro e w3 ⟨vr3, rfl, M1, F3⟩
        obtain ⟨z0, z1, z2, z3, zf⟩ := four (F3.keep HZ.out (by simp))
        have HM := Lib.hid M1
        obtain ⟨ar3, cr3, rfl, _, _, _⟩ := M1.1
        go_wp2_with fail
        exact bodyPost_ret (by simp [results, Try.results45, go_sem, z0, z1, z2, z3]) rfl ⟨_, _, _, rfl, .inl ⟨rfl, rfl⟩, .inr (FRnew.out _ _ (fr_four _ _ _ _) _ _ _ (Nat.le_refl _) HM.out), Lst.nil _ _, FRold.out _ _ F3 (fr_four _ _ _ _)⟩
    · rw [if_neg hq]
      have t2 : ¬ (ws.length : Int) < q := by omega
      by_cases hm : hs.length < m
      · rw [if_pos ⟨hm, hwe⟩]
        have t1 : (hs.length : Int) < m := by omega
        cases ws with
        | nil => exact absurd rfl hwe
        | cons y ws =>
        simp only [List.length_cons] at *
        have HN := Lib.hid (ref10_pick_yes (q := q) HR2.out.1 HW2'.out.1 hm (by omega))
        have e0 : el (y :: ws) 0 = y := rfl
        rw [e0]
        simp only [List.tail_cons]
        subst hvr hvw
        clear hwe hq hm
        simp only [Int.natCast_add, Int.natCast_one] at t2 hlen hpos
        go_enter Try.func45, Try.ntmps45
        go_wp2_with fail
        rw [← HW2.out]
        refine (h1.out).mono ?_
        rintro e w3 ⟨rfl, rfl⟩
        go_wp2_with fail
        refine (h2.out).mono ?_
        rintro e W2 ⟨rfl, rfl⟩
        go_wp2_with fail
        refine (HN.out).mono ?_
        rintro e w3 ⟨vr3, vw3, rfl, M1, M2, F3⟩
        have Z3 := F3.keep HZ.out (by simp)
        have hs3 := F3.size
        have HM1 := Lib.hid M1
        have HM2 := Lib.hid M2
        obtain ⟨ar3, cr3, rfl, _, _, _⟩ := M1.1
        obtain ⟨aw3, cw3, rfl, _, _, _⟩ := M2.1
        go_wp2_with fail
        have F4 : Fr [] W2 (w3.alloc (boxB m q (.slice ar3 (hs.length + 1) cr3) (.slice aw3 ws.length cw3))) := F3.alloc _
        refine (ref10_wait (HM2.out.fr ((Fr.refl [] _).alloc _) (by simp)).1 ar3 (hs.length + 1) cr3 (by omega) x).mono ?_
        rintro e w5 ⟨vw5, rfl, M5, F5⟩
        have HM1' := Lib.hid ((HM1.out.fr ((Fr.refl [] w3).alloc _) (by simp)).fr F5 (by simp))
        have F6 := F4.trans F5
        have hs6 := F6.size
        have HM5 := Lib.hid (M5.mono (show W2.heap.size ≤ _ from F4.size))
        obtain ⟨aw5, cw5, rfl, _, _, _⟩ := M5.1
        clear HM1 HM2 M1 M2 M5 F5 F3 F4
        have F7 : Fr [] W2 (w5.alloc (.cells #[.int .i64 y] 3)) := F6.alloc _
        obtain ⟨z0, z1, z2, z3, zf⟩ := four (F7.keep HZ.out (by simp))
        go_wp2_with fail
        have L7 : Lst (w5.alloc (.cells #[.int .i64 y] 3)) W2.heap.size (.slice (some ⟨w5.heap.size, 0, none⟩) 1 1) [y] := by
          refine ⟨⟨_, 1, rfl, by simp, fun e => by simp at e, fun j hj => ⟨w5.heap.size, 0, rfl, ?_⟩⟩, fun k hk => by simp [Value.ownBlock] at hk; omega⟩
          have : j = 0 := by simpa using hj
          subst this
          exact World.cell?_alloc_new w5 _ _ 0
        have A1 := (HM1'.out.fr ((Fr.refl [] w5).alloc (.cells #[.int .i64 y] 3)) (by simp))
        have A2 := (HM5.out.fr ((Fr.refl [] w5).alloc (.cells #[.int .i64 y] 3)) (by simp))
        have R := fun u0 u1 u2 u3 => FRnew.out _ _ (fr_four (w := w5.alloc (.cells #[.int .i64 y] 3)) (b := w.heap.size + 1) u0 u1 u2 u3)
        refine bodyPost_ret (v := .tuple #[.agg #[.int .i64 m, .int .i64 q, .slice ar3 (hs ++ [y]).length cr3, .slice aw5 (ws ++ [x]).length cw5], .int .i64 2, .slice (some ⟨w5.heap.size, 0, none⟩) 1 1]) (by simp [results, Try.results45, go_sem, z0, z1, z2, z3]) rfl ⟨_, _, _, rfl, ?_, ?_, ?_, ?_⟩
        · exact .inr (R _ _ _ _ _ _ _ (Nat.le_refl _) A1)
        · exact .inr (R _ _ _ _ _ _ _ (Nat.le_refl _) A2)
        · exact R _ _ _ _ _ _ _ (Nat.le_refl _) L7
        · exact FRold.out _ _ F7 (fr_four _ _ _ _)
      · rw [if_neg (fun e => hm e.1)]
        have t1 : ¬ (hs.length : Int) < m := by omega
        subst hvr hvw
        clear hm hq hwe
        go_enter Try.func45, Try.ntmps45
        go_wp2_with fail
        rw [← HW2.out]
        refine (h1.out).mono ?_
        rintro e w3 ⟨rfl, rfl⟩
        go_wp2_with fail
        refine (h2.out).mono ?_
        rintro e w3 ⟨rfl, rfl⟩
        go_wp2_with fail
        exact bodyPost_ret (by simp [results, Try.results45, go_sem, z0, z1, z2, z3]) rfl ⟨_, _, _, rfl, .inl ⟨rfl, rfl⟩, .inl ⟨rfl, rfl⟩, Lst.nil _ _, FRold.out _ _ (Fr.refl _ _) (fr_four _ _ _ _)⟩
end

/-- Admit, whatever the case. -/
theorem ref10_admit {w : World} {base : Nat} {vr vw : Value} {hs ws : List Int} {m q : Nat} (hr : Lst w base vr hs) (hw : Lst w base vw ws) (hl : hs.length ≤ m ∧ m ≤ 1000 ∧ ws.length ≤ 1000) (x : Int) :
    Calls Try.prog 45 #[.agg #[.int .i64 m, .int .i64 q, vr, vw], .int .i64 x] w (RAd m q (admitM m q hs ws x) vr vw hs ws w) := by
  by_cases h : x ∈ hs ∨ x ∈ ws
  · have e : admitM m q hs ws x = (hs, ws, 3, []) := by unfold Proofs.Ythbhkmhmiplikaa.admitM; rw [if_pos h]
    rw [e]
    exact ref10_admit_there hr hw (by omega) x h
  · simp only [not_or] at h
    exact ref10_admit_new hr hw hl x h.1 h.2
end Go.Proofs.Ythbhkmhmiplikaa
