/-
  The helpers of porpoiselaw04: awake, do, ran.
-/
import Derived.Test.YthbhkmhmiplikaaRef04
namespace Go.Proofs.Ythbhkmhmiplikaa
open Go.RowKit

theorem Fr.own {b : Nat} {w w1 w2 : World} (h : Fr [] w w1) (k : Fr [b] w1 w2) (hb : w.heap.size ≤ b) : Fr [] w w2 := h.trans' k (fun x hx => Or.inr (by simp at hx; omega))

/-- What a deed does to a list of m numbers at most. -/
def deed (m : Nat) (xs : List Int) (k x : Int) : List Int := if k = 1 then (if xs.length < m then xs ++ [x] else xs) else if k = 2 then xs.tail else rem x xs

set_option maxHeartbeats 1000000 in
/-- The awake part: it answers true. -/
theorem awake_spec (w : World) : Calls Try.prog 15 #[] w fun e w' => e = .returned (.bool true) ∧ Fr [] w w' := by
  go_enter Try.func15, Try.ntmps15
  go_wp2_with fail
  refine (new_ring 3 _ (by omega)).mono ?_
  rintro e w1 ⟨rfl, R, hs, F⟩
  have HR := Lib.hid R
  have HF := Lib.hid F
  clear R F hs
  go_wp2_with fail
  refine (HR.out.push 1).mono ?_
  rintro e w2 ⟨rfl, R, F⟩
  have HR := Lib.hid (show IsRing w2 w.heap.size [1] 3 by simpa using R)
  have HF := Lib.hid (HF.out.own F (Nat.le_refl _))
  clear R F
  go_wp2_with fail
  refine (HR.out.push 2).mono ?_
  rintro e w3 ⟨rfl, R, F⟩
  have HR := Lib.hid (show IsRing w3 w.heap.size [1, 2] 3 by simpa using R)
  have HF := Lib.hid (HF.out.own F (Nat.le_refl _))
  clear R F
  go_wp2_with fail
  refine (HR.out.push 3).mono ?_
  rintro e w4 ⟨rfl, R, F⟩
  have HR := Lib.hid (show IsRing w4 w.heap.size [1, 2, 3] 3 by simpa using R)
  have HF := Lib.hid (HF.out.own F (Nat.le_refl _))
  clear R F
  go_wp2_with fail
  refine (HR.out.full).mono ?_
  rintro e w5 ⟨rfl, q, rfl⟩
  have HR := Lib.hid (HR.out.drewN q)
  have HF := Lib.hid (HF.out.drewN q)
  go_wp2_with fail
  refine (HR.out.push 4).mono ?_
  rintro e w6 ⟨rfl, R, F⟩
  have HR := Lib.hid (show IsRing w6 w.heap.size [1, 2, 3] 3 by simpa using R)
  have HF := Lib.hid (HF.out.own F (Nat.le_refl _))
  clear R F
  go_wp2_with fail
  refine (HR.out.remove 2).mono ?_
  rintro e w7 ⟨rfl, R, F⟩
  have HR := Lib.hid (show IsRing w7 w.heap.size [1, 3] 3 by simpa [rem] using R)
  have HF := Lib.hid (HF.out.own F (Nat.le_refl _))
  clear R F
  go_wp2_with fail
  refine (HR.out.pop).mono ?_
  rintro e w8 ⟨rfl, R, F⟩
  have HR := Lib.hid (show IsRing w8 w.heap.size [3] 3 by simpa [rem] using R)
  have HF := Lib.hid (HF.out.own F (Nat.le_refl _))
  clear R F
  go_wp2_with fail
  refine (HR.out.pop).mono ?_
  rintro e w9 ⟨rfl, R, F⟩
  have HR := Lib.hid (show IsRing w9 w.heap.size [] 3 by simpa [rem] using R)
  have HF := Lib.hid (HF.out.own F (Nat.le_refl _))
  clear R F
  have e1 : el [1, 3] 0 = 1 := rfl
  have e3 : el [3] 0 = 3 := rfl
  go_wp2_with fail
  refine (HR.out.len).mono ?_
  rintro e w9 ⟨rfl, rfl⟩
  go_wp2_with fail
  go_ret
  exact ⟨rfl, HF.out⟩

set_option maxHeartbeats 1000000 in
/-- do: a deed, of both: the answers are the same. -/
theorem do_spec {w : World} {b base m : Nat} {v : Value} {xs : List Int} (hr : IsRing w b xs m) (hv : Lst w base v xs) (hb : b < base) (hbw : base ≤ w.heap.size) (hm : m ≤ 8) (hx : xs.length ≤ m) (k x : Int) :
    Calls Try.prog 17 #[.pointer (some ⟨b, 0, none⟩), v, .int .i64 m, .agg #[.int .i64 k, .int .i64 x]] w fun e w' => ∃ v', e = .returned (.tuple #[v', .bool true]) ∧ IsRing w' b (deed m xs k x) m ∧ Lst w' base v' (deed m xs k x) ∧ Fr [b] w w' := by
  have HR := Lib.hid hr
  have HV := Lib.hid hv
  clear hr hv
  have F0 : Fr [b] w (w.alloc (.cells #[.int .i64 k, .int .i64 x] 30)) := (Fr.refl _ _).alloc _
  have HR0 := Lib.hid (HR.out.fr ((Fr.refl [] w).alloc (.cells #[.int .i64 k, .int .i64 x] 30)) (by simp))
  have HV0 := Lib.hid (HV.out.fr F0 (by simpa using hb))
  have HF0 := Lib.hid F0
  have c0 : (w.alloc (.cells #[.int .i64 k, .int .i64 x] 30)).cell? ⟨w.heap.size, 0, none⟩ = some (.int .i64 k) := by simp
  have c1 : (w.alloc (.cells #[.int .i64 k, .int .i64 x] 30)).cell? ⟨w.heap.size, 1, none⟩ = some (.int .i64 x) := by simp
  have hs0 : (w.alloc (.cells #[.int .i64 k, .int .i64 x] 30)).heap.size = w.heap.size + 1 := by simp
  obtain ⟨w0, hw0⟩ : ∃ w0, w0 = w.alloc (.cells #[.int .i64 k, .int .i64 x] 30) := ⟨_, rfl⟩
  rw [← hw0] at HR0 HV0 HF0 c0 c1 hs0
  have HW0 := Lib.hid hw0
  clear F0 hw0
  by_cases hk1 : k = 1
  · subst hk1
    go_enter Try.func17, Try.ntmps17
    go_wp2_with fail
    rw [← HW0.out]
    refine (HR0.out.push x).mono ?_
    rintro e w1 ⟨rfl, R, F⟩
    have c1' := (F.cell (p := ⟨w.heap.size, 1, none⟩) (by simp; omega) (by simp; omega)).trans c1
    have HR1 := Lib.hid R
    have HF1 := Lib.hid (HF0.out.trans F)
    have HV1 := Lib.hid (HV0.out.fr F (by simpa using hb))
    have hs1 := F.size
    clear R F
    go_wp2_with fail
    refine (refpush_spec HV1.out (by omega) (by omega) m x).mono ?_
    rintro e w2 ⟨v2, rfl, V, F⟩
    have HF2 := Lib.hid (HF1.out.trans' F (fun x hx => by simp at hx))
    have HR2 := Lib.hid (HR1.out.fr F (by simp))
    have HV2 := Lib.hid V
    clear V F
    go_wp2_with fail
    go_ret2
    exact ⟨_, rfl, HR2.out, HV2.out, HF2.out⟩
  · have hk1' : (k == 1) = false := by simpa using hk1
    by_cases hk2 : k = 2
    · subst hk2
      cases xs with
      | nil =>
        have hd : deed m [] 2 x = [] := rfl
        rw [hd]
        clear hk1 hd
        go_enter Try.func17, Try.ntmps17
        go_wp2_with fail
        rw [← HW0.out]
        refine (HR0.out.pop).mono ?_
        rintro e w1 ⟨rfl, R, F⟩
        have HR1 := Lib.hid (show IsRing w1 b [] m from R)
        have HF1 := Lib.hid (HF0.out.trans F)
        have HV1 := Lib.hid (HV0.out.fr F (by simpa using hb))
        have e0 : el [] 0 = 0 := rfl
        clear R F
        go_wp2_with fail
        refine (refpop_none HV1.out).mono ?_
        rintro e w2 ⟨rfl, rfl⟩
        go_wp2_with fail
        go_ret2
        exact ⟨_, rfl, HR1.out, HV1.out, HF1.out⟩
      | cons y ys =>
        have hd : deed m (y :: ys) 2 x = ys := rfl
        rw [hd]
        simp only [List.length_cons] at hx
        clear hk1 hd
        go_enter Try.func17, Try.ntmps17
        go_wp2_with fail
        rw [← HW0.out]
        refine (HR0.out.pop).mono ?_
        rintro e w1 ⟨rfl, R, F⟩
        have HR1 := Lib.hid (show IsRing w1 b ys m from R)
        have HF1 := Lib.hid (HF0.out.trans F)
        have HV1 := Lib.hid (HV0.out.fr F (by simpa using hb))
        have e0 : el (y :: ys) 0 = y := rfl
        have hs1 := F.size
        clear R F
        go_wp2_with fail
        refine (refpop_some HV1.out (by omega) (by omega)).mono ?_
        rintro e w2 ⟨v2, rfl, V, F⟩
        have HF2 := Lib.hid (HF1.out.trans' F (fun x hx => by simp at hx))
        have HR2 := Lib.hid (HR1.out.fr F (by simp))
        have HV2 := Lib.hid V
        clear V F
        go_wp2_with fail
        go_ret2
        exact ⟨_, rfl, HR2.out, HV2.out, HF2.out⟩
    · have hk2' : (k == 2) = false := by simpa using hk2
      have hd : deed m xs k x = rem x xs := by simp [deed, hk1, hk2]
      rw [hd]
      clear hk1 hk2 hd
      go_enter Try.func17, Try.ntmps17
      go_wp2_with fail
      rw [← HW0.out]
      refine (HR0.out.remove x).mono ?_
      rintro e w1 ⟨rfl, R, F⟩
      have c1' := (F.cell (p := ⟨w.heap.size, 1, none⟩) (by simp; omega) (by simp; omega)).trans c1
      have HR1 := Lib.hid R
      have HF1 := Lib.hid (HF0.out.trans F)
      have HV1 := Lib.hid (HV0.out.fr F (by simpa using hb))
      have hs1 := F.size
      clear R F
      go_wp2_with fail
      refine (refremove_spec HV1.out (by omega) (by omega) x).mono ?_
      rintro e w2 ⟨v2, rfl, V, F⟩
      have HF2 := Lib.hid (HF1.out.trans' F (fun x hx => by simp at hx))
      have HR2 := Lib.hid (HR1.out.fr F (by simp))
      have HV2 := Lib.hid V
      clear V F
      go_wp2_with fail
      go_ret2
      exact ⟨_, rfl, HR2.out, HV2.out, HF2.out⟩

/-- v is a slice of deeds: pairs of numbers. -/
def Deeds (w : World) (v : Value) (ds : List (Int × Int)) : Prop :=
  ∃ ao cap, v = .slice ao ds.length cap ∧ ds.length ≤ 9223372036854775807 ∧ ∀ j, j < ds.length → ∃ b o, ao = some ⟨b, o, none⟩ ∧
    w.cell? ⟨b, o + j * 2, none⟩ = some (.int .i64 (ds.getD j (0, 0)).1) ∧ w.cell? ⟨b, o + j * 2 + 1, none⟩ = some (.int .i64 (ds.getD j (0, 0)).2)

theorem Deeds.fr {w w' : World} {v : Value} {ds : List (Int × Int)} (h : Deeds w v ds) (k : Fr [] w w') : Deeds w' v ds := by
  obtain ⟨ao, cap, rfl, h2, h3⟩ := h
  refine ⟨ao, cap, rfl, h2, fun j hj => ?_⟩
  obtain ⟨b, o, hb, h4, h5⟩ := h3 j hj
  exact ⟨b, o, hb, (k.cell (p := ⟨b, o + j * 2, none⟩) (World.block_lt_of_cell? _ _ h4) (by simp)).trans h4, (k.cell (p := ⟨b, o + j * 2 + 1, none⟩) (World.block_lt_of_cell? _ _ h5) (by simp)).trans h5⟩

/-- The list behind the first deeds. -/
def after (m : Nat) (ds : List (Int × Int)) : List Int := ds.foldl (fun xs d => deed m xs d.1 d.2) []

theorem after_snoc (m : Nat) (ds : List (Int × Int)) (i : Nat) (h : i < ds.length) : after m (ds.take (i + 1)) = deed m (after m (ds.take i)) (ds.getD i (0, 0)).1 (ds.getD i (0, 0)).2 := by
  unfold after
  rw [List.take_succ_eq_append_getElem h, List.foldl_append]
  simp [List.getD, h]
theorem deed_len (m : Nat) (xs : List Int) (k x : Int) (h : xs.length ≤ m) : (deed m xs k x).length ≤ m := by
  unfold deed
  split
  · split
    · simp; omega
    · exact h
  · split
    · simp; omega
    · exact Nat.le_trans (rem_len x xs) h
theorem after_len (m : Nat) (ds : List (Int × Int)) : (after m ds).length ≤ m := by
  unfold after
  have key : ∀ (ds : List (Int × Int)) (xs : List Int), xs.length ≤ m → (ds.foldl (fun xs d => deed m xs d.1 d.2) xs).length ≤ m := by
    intro ds
    induction ds with
    | nil => intro xs h; exact h
    | cons d ds ih => intro xs h; exact ih _ (deed_len m xs d.1 d.2 h)
  exact key ds [] (by simp)

set_option maxHeartbeats 2000000 in
/-- ran: a ring of 5 behind deeds. -/
theorem ran_spec {w : World} {v : Value} {ds : List (Int × Int)} (hd : Deeds w v ds) :
    Calls Try.prog 22 #[v] w fun e w' => e = .returned (.pointer (some ⟨w.heap.size, 0, none⟩)) ∧ IsRing w' w.heap.size (after 5 (ds.take 100)) 5 ∧ w.heap.size < w'.heap.size ∧ Fr [] w w' := by
  obtain ⟨ao, cap, rfl, hd2, hd3⟩ := hd
  have HD := Lib.hid hd3
  clear hd3
  go_enter Try.func22, Try.ntmps22
  go_wp2_with fail
  refine (new_ring 5 _ (by omega)).mono ?_
  rintro e w1 ⟨rfl, R, hs, F⟩
  have HR := Lib.hid R
  have HF := Lib.hid F
  clear R F
  go_wp2_with fail
  go_loopw [4, 5] (fun s v wr => ∃ i : Nat, i ≤ ds.length ∧ i ≤ 100 ∧ v = .int .i64 i ∧ Hid (IsRing wr w.heap.size (after 5 (ds.take i)) 5) ∧ Hid (Lst wr (w.heap.size + 1) s (after 5 (ds.take i))) ∧ Hid (Fr [] w wr) ∧ w.heap.size < wr.heap.size) (fun _ v _ => ds.length - (intOf v).toNat)
  case atStart => exact ⟨0, Nat.zero_le _, by omega, rfl, Lib.hid (by simpa [after] using HR.out), Lib.hid (by simpa [after] using Lst.nil _ _), HF, by omega⟩
  case round =>
    obtain ⟨i, hi, hi2, rfl, HRi, HVi, HFi, hsi⟩ := hrel
    by_cases hlt : i < ds.length
    · by_cases hlt2 : i < 100
      · obtain ⟨b1, o1, rfl, hc1, hc2⟩ := HD.out i hlt
        have hc1' := (HFi.out.cell (p := ⟨b1, o1 + i * 2, none⟩) (World.block_lt_of_cell? _ _ hc1) (by simp)).trans hc1
        have hc2' := (HFi.out.cell (p := ⟨b1, o1 + i * 2 + 1, none⟩) (World.block_lt_of_cell? _ _ hc2) (by simp)).trans hc2
        clear hc1 hc2
        have HA := Lib.hid (after_snoc 5 ds i hlt)
        have HL := Lib.hid (after_len 5 (ds.take i))
        generalize (ds.getD i (0, 0)).1 = k at *
        generalize (ds.getD i (0, 0)).2 = x at *
        go_wp2_with fail
        refine (do_spec (m := 5) HRi.out HVi.out (Nat.lt_succ_self _) (by omega) (by omega) HL.out k x).mono ?_
        rintro e w2 ⟨v2, rfl, R, V, F⟩
        rw [← HA.out] at R V
        have HR2 := Lib.hid R
        have HV2 := Lib.hid V
        have HF2 := Lib.hid (HFi.out.own F (Nat.le_refl _))
        have hs2 := F.size
        clear R V F
        go_wp2_with fail
        go_roundw
        case rel => exact ⟨i + 1, by omega, by omega, by go_num, HR2, HV2, HF2, by omega⟩
        case measure => simp [intOf]; omega
      · go_wp2_with fail
        go_ret
        have : i = 100 := by omega
        subst this
        exact ⟨rfl, HRi.out, hsi, HFi.out⟩
    · go_wp2_with fail
      go_ret
      have : ds.take 100 = ds.take i := by rw [List.take_of_length_le (by omega), List.take_of_length_le (by omega)]
      rw [this]
      exact ⟨rfl, HRi.out, hsi, HFi.out⟩
end Go.Proofs.Ythbhkmhmiplikaa
