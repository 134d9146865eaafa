/-
  The bulk of package bulk: Pick, Drop, Free.
-/
import Derived.Test.YthbhkmhmiplikaaBulk
namespace Go.Proofs.Ythbhkmhmiplikaa
open Go.RowKit

/-- n is a place of x, or below 0. -/
def IdxOf (n x : Int) (xs : List Int) : Prop := decide (n ≥ 0) = decide (x ∈ xs)

set_option maxHeartbeats 1000000 in
theorem index_spec {w : World} {a : Value} {xs : List Int} (ha : RdInts w a xs) (hx : xs.length ≤ 1000000) (x : Int) :
    Calls Try.prog 52 #[a, .int .i64 x] w fun e w' => e = .returned (.bool (decide (x ∈ xs))) ∧ w' = w := by
  have key : Calls Try.prog 58 #[a, .int .i64 x] w fun e w' => ∃ n : Int, e = .returned (.int .i64 n) ∧ IdxOf n x xs ∧ w' = w := by
    obtain ⟨ao, ca, rfl, ha2, ha3, ha4⟩ := ha
    have HA := Lib.hid ha4
    clear ha3 ha4
    go_enter Try.func58, Try.ntmps58
    go_wp2
    go_loop [8] (fun v => ∃ i : Nat, i ≤ xs.length ∧ v = .int .i64 i ∧ Hid (∀ j, j < i → el xs j ≠ x)) (fun v => xs.length - (intOf v).toNat)
    case atStart => exact ⟨0, Nat.zero_le _, rfl, Lib.hid (fun j hj => by omega)⟩
    case round =>
      obtain ⟨i, hi, rfl, HE⟩ := hrel
      by_cases hlt : i < xs.length
      · obtain ⟨b1, o1, rfl, hc1⟩ := HA.out i hlt
        by_cases he : el xs i = x
        · have hne : (x == el xs i) = true := by simpa using he.symm
          have HH := Lib.hid he
          clear he
          go_wp2
          go_ret
          exact ⟨i, rfl, (by unfold IdxOf; rw [decide_eq_true (show (i : Int) ≥ 0 by omega), decide_eq_true]; have e := HH.out; simp [← e, el, hlt]), rfl⟩
        · have hne : (x == el xs i) = false := by simpa using fun e => he e.symm
          go_wp2
          go_round
          case rel => exact ⟨i + 1, by omega, by go_num, Lib.hid (fun j hj => by by_cases hji : j = i; (subst hji; exact he); exact HE.out j (by omega))⟩
          case measure => simp [intOf]; omega
      · go_wp2
        go_ret
        exact ⟨-1, rfl, (by unfold IdxOf; rw [decide_eq_false (rem_none x xs (fun j hj => HE.out j (by omega))).1]; rfl), rfl⟩
  go_enter Try.func52, Try.ntmps52
  have HK := Lib.hid key
  clear key
  go_wp2_with fail
  refine (HK.out).mono ?_
  rintro e w1 ⟨n, rfl, HN, rfl⟩
  go_wp2
  go_ret
  exact ⟨ret_bool (by unfold IdxOf at HN; rw [← HN]), rfl⟩

theorem pick_nil (w : World) : Calls Try.prog 37 #[.pointer none] w fun e w' => e = .returned (.tuple #[.int .i64 0, .bool false]) ∧ w' = w := by
  go_enter Try.func37, Try.ntmps37
  go_wp2
  go_ret2
  exact ⟨rfl, rfl⟩

set_option maxHeartbeats 1000000 in
theorem IsBulk.pick_no {w : World} {b s r g : Nat} {hs ws : List Int} {m q : Nat} (h : IsBulk w b s r g hs ws m q) (hno : hs.length = m ∨ ws = []) :
    Calls Try.prog 37 #[.pointer (some ⟨b, 0, none⟩)] w fun e w' => e = .returned (.tuple #[.int .i64 0, .bool false]) ∧ IsBulk w' b s r g hs ws m q ∧ Fr [r, g] w w' := by
  have c0 := h.c0
  have c1 := h.c1
  have hR := h.set.room
  rw [show (own0 hs).length = hs.length by simp [own0]] at hR
  have HR := Lib.hid hR
  have hap := h.apart
  have hlt := h.lt
  clear hR
  by_cases hm : hs.length < m
  · have hw : ws = [] := by rcases hno with h1 | h1; omega; exact h1
    subst hw
    rw [decide_eq_true hm] at HR
    have HP := Lib.hid (fun (n : Nat) => (h.dr (w' := w.drewN n) ⟨n, rfl⟩).ring.pop)
    go_enter Try.func37, Try.ntmps37
    go_wp2_with fail
    refine (HR.out).mono ?_
    rintro e w1 ⟨rfl, n, rfl⟩
    go_wp2_with fail
    refine (HP.out n).mono ?_
    rintro e w2 ⟨rfl, R, F⟩
    have F2 : Fr [g] w w2 := (Fr.of_drewN w n).trans F
    have e0 : el [] 0 = 0 := rfl
    clear F
    go_wp2
    go_ret2
    refine ⟨rfl, ⟨F2.keep h.blk (by simp; exact hap.2.2.1), h.set.fr F2 (by simp; exact hap.2.2.2.2.1) (by simp; exact hap.2.2.2.2.2), R, h.nodup⟩, F2.mono (fun x hx => Or.inl (by simp at hx; simp [hx]))⟩
  · rw [decide_eq_false hm] at HR
    go_enter Try.func37, Try.ntmps37
    go_wp2_with fail
    refine (HR.out).mono ?_
    rintro e w1 ⟨rfl, n, rfl⟩
    go_wp2
    go_ret2
    exact ⟨rfl, h.dr ⟨n, rfl⟩, Fr.of_drewN _ _⟩

set_option maxHeartbeats 2000000 in
theorem IsBulk.pick_yes {w : World} {b s r g : Nat} {hs ws : List Int} {m q : Nat} {x : Int} (h : IsBulk w b s r g hs (x :: ws) m q) (hm : hs.length < m) :
    Calls Try.prog 37 #[.pointer (some ⟨b, 0, none⟩)] w fun e w' => e = .returned (.tuple #[.int .i64 x, .bool true]) ∧ IsBulk w' b s r g (hs ++ [x]) ws m q ∧ Fr [r, g] w w' := by
  have c0 := h.c0
  have c1 := h.c1
  have hR := h.set.room
  rw [show (own0 hs).length = hs.length by simp [own0], decide_eq_true hm] at hR
  have HR := Lib.hid hR
  have HP := Lib.hid (fun (n : Nat) => (h.dr (w' := w.drewN n) ⟨n, rfl⟩).ring.pop)
  have hap := h.apart
  have hlt := h.lt
  have hx : (x, (0 : Int)) ∉ own0 hs := by
    rw [mem_own0]
    have := h.nodup
    rw [List.nodup_append] at this
    exact fun hm => this.2.2 x hm x (by simp) rfl
  have HX := Lib.hid hx
  have hnd : (hs ++ [x] ++ ws).Nodup := by simpa using h.nodup
  clear hR hx
  go_enter Try.func37, Try.ntmps37
  go_wp2_with fail
  refine (HR.out).mono ?_
  rintro e w1 ⟨rfl, n, rfl⟩
  go_wp2_with fail
  refine (HP.out n).mono ?_
  rintro e w2 ⟨rfl, R, F⟩
  have F2 : Fr [g] w w2 := (Fr.of_drewN w n).trans F
  have e0 : el (x :: ws) 0 = x := rfl
  have R2 : IsRing w2 g ws q := R
  have S2 : IsSet w2 s r (own0 hs) m := h.set.fr F2 (by simp; exact hap.2.2.2.2.1) (by simp; exact hap.2.2.2.2.2)
  have B2 := F2.keep h.blk (by simp; exact hap.2.2.1)
  have c0' : w2.cell? ⟨b, 0, none⟩ = some (.pointer (some ⟨s, 0, none⟩)) := by rw [cell_of_block B2]; rfl
  have hl2 := lt_of_block B2
  have HT := Lib.hid (fun (w1 : World) (F : Fr [] w2 w1) => (S2.fr F (by simp) (by simp)).take_yes x 0 (by simpa [own0] using hm) HX.out)
  clear F R c0 c1
  go_wp2_with fail
  go_region_with (first
    | (go_at_call 51; refine (own_spec x _).mono ?_; rintro e w3 ⟨rfl, F⟩; have F3 := (Fr.refl [] w2).drew.trans F; have c0'' := (F3.cell (p := ⟨b, 0, none⟩) hl2 (by simp)).trans c0'; clear F)
    | (go_at_call 53; refine (HT.out _ F3).mono ?_; rintro e w4 ⟨rfl, S4, F4⟩))
  all_goals go_wp2
  all_goals go_ret2
  all_goals (have F5 : Fr [r] w2 w4 := (F3.mono (S' := [r]) (fun x hx => by cases hx)).trans F4)
  all_goals refine ⟨rfl, ⟨F5.keep B2 (by simp; exact hap.2.1), by simpa [own0] using S4, R2.fr F5 (by simp; exact fun e => hap.2.2.2.2.2 e.symm), hnd⟩, (F2.mono (fun x hx => Or.inl (by simp at hx; simp [hx]))).trans (F5.mono (fun x hx => Or.inl (by simp at hx; simp [hx])))⟩

theorem drop_nil (w : World) (x : Int) : Calls Try.prog 39 #[.pointer none, .int .i64 x] w fun e w' => e = .returned (.bool false) ∧ w' = w := by
  go_enter Try.func39, Try.ntmps39
  go_wp2
  go_ret
  exact ⟨rfl, rfl⟩
theorem rem_sub (x : Int) : ∀ l : List Int, (rem x l).Sublist l
  | [] => List.Sublist.refl _
  | y :: l => by
    by_cases h : y = x
    · simp [rem, h]
    · simp [rem, h, rem_sub x l]
theorem IsBulk.drop {w : World} {b s r g : Nat} {hs ws : List Int} {m q : Nat} (h : IsBulk w b s r g hs ws m q) (x : Int) :
    Calls Try.prog 39 #[.pointer (some ⟨b, 0, none⟩), .int .i64 x] w fun e w' => e = .returned (.bool (decide (x ∈ ws))) ∧ IsBulk w' b s r g hs (rem x ws) m q ∧ Fr [r, g] w w' := by
  have c1 := h.c1
  have hap := h.apart
  have HP := Lib.hid (h.ring.remove x)
  go_enter Try.func39, Try.ntmps39
  go_wp2_with fail
  refine (HP.out).mono ?_
  rintro e w2 ⟨rfl, R, F⟩
  go_wp2
  go_ret
  exact ⟨rfl, ⟨F.keep h.blk (by simp; exact hap.2.2.1), h.set.fr F (by simp; exact hap.2.2.2.2.1) (by simp; exact hap.2.2.2.2.2), R, h.nodup.sublist (List.Sublist.append_left (rem_sub x ws) hs)⟩, F.mono (fun x hx => Or.inl (by simp at hx; simp [hx]))⟩

theorem bfree_nil (w : World) (x : Int) : Calls Try.prog 38 #[.pointer none, .int .i64 x] w fun e w' => e = .returned (.bool false) ∧ Fr [] w w' := by
  go_enter Try.func38, Try.ntmps38
  go_wp2_with fail
  go_quiet (fail)
  go_wp2
  go_ret
  exact ⟨rfl, Fr.of_drewN _ _⟩

set_option maxHeartbeats 2000000 in
theorem IsBulk.free {w : World} {b s r g : Nat} {hs ws : List Int} {m q : Nat} (h : IsBulk w b s r g hs ws m q) (x : Int) :
    Calls Try.prog 38 #[.pointer (some ⟨b, 0, none⟩), .int .i64 x] w fun e w' => e = .returned (.bool (decide (x ∈ hs))) ∧ IsBulk w' b s r g (rem x hs) ws m q ∧ Fr [r, g] w w' := by
  have c0 := h.c0
  have hlt := h.lt
  have hap := h.apart
  have hnd : hs.Nodup := (List.nodup_append.1 h.nodup).1
  have key : ∀ w1 : World, Fr [] w w1 → Calls Try.prog 55 #[.pointer (some ⟨s, 0, none⟩), .agg #[.int .i64 x, .int .i64 0]] w1 fun e w' => e = .returned (.bool (decide (x ∈ hs))) ∧ IsSet w' s r (own0 (rem x hs)) m ∧ Fr [r] w1 w' := by
    intro w1 F
    have S1 := h.set.fr F (by simp) (by simp)
    by_cases hx : x ∈ hs
    · rw [decide_eq_true hx]
      refine (S1.free_yes x 0 ((mem_own0 _ _).2 hx)).mono fun e w' ⟨h1, h2, h3⟩ => ⟨h1, ?_, h3⟩
      rw [own0_filter] at h2
      rwa [rem_nodup hnd]
    · rw [decide_eq_false hx]
      refine (S1.free_no x 0 (fun hm => hx ((mem_own0 _ _).1 hm))).mono fun e w' ⟨h1, h3⟩ => ⟨h1, ?_, h3.mono (fun _ hx => by cases hx)⟩
      rw [rem_of_not hx]
      exact S1.fr h3 (by simp) (by simp)
  have HK := Lib.hid key
  clear key
  go_enter Try.func38, Try.ntmps38
  go_wp2_with fail
  go_region_with (first
    | (go_at_call 51; refine (own_spec x _).mono ?_; rintro e w1 ⟨rfl, F⟩; have F1 := (Fr.refl [] w).drew.trans F; have c0' := (F1.cell (p := ⟨b, 0, none⟩) hlt (by simp)).trans c0; clear F)
    | (go_at_call 55; refine (HK.out _ F1).mono ?_; rintro e w2 ⟨rfl, S2, F2⟩))
  all_goals go_wp2
  all_goals go_ret
  all_goals (have F5 : Fr [r] w w2 := (F1.mono (S' := [r]) (fun x hx => by cases hx)).trans F2)
  all_goals exact ⟨rfl, ⟨F5.keep h.blk (by simp; exact hap.2.1), S2, h.ring.fr F5 (by simp; exact fun e => hap.2.2.2.2.2 e.symm), h.nodup.sublist (List.Sublist.append_right (rem_sub x hs) ws)⟩, F5.mono (fun x hx => Or.inl (by simp at hx; simp [hx]))⟩
end Go.Proofs.Ythbhkmhmiplikaa
