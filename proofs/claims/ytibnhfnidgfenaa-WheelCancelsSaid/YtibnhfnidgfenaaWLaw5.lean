/-
  WheelFires, as a contract of its function.
-/
import Derived.Test.YtibnhfnidgfenaaWLaw4
namespace Go.Proofs.Ytibnhfnidgfenaa
open Go.RowKit

theorem sort_drop {l : List (Nat × Int)} (h : l.Pairwise (fun a c => a.1 < c.1 ∨ (a.1 = c.1 ∧ a.2 < c.2))) {n : Nat} {d : Nat} {j : Int} {t : List (Nat × Int)} (hd : l.drop n = (d, j) :: t) :
    l.drop (n + 1) = t ∧ n < l.length ∧ (d, j) ∈ l ∧ l.take (n + 1) = l.take n ++ [(d, j)] ∧ ∀ x ∈ t, d ≤ x.1 ∧ (x.1 = d → j ≤ x.2) := by
  have hn : n < l.length := by
    rcases Nat.lt_or_ge n l.length with h1 | h1
    · exact h1
    · rw [List.drop_eq_nil_of_le h1] at hd; cases hd
  have h2 := List.drop_eq_getElem_cons hn
  rw [hd, List.cons.injEq] at h2
  refine ⟨h2.2.symm, hn, by rw [h2.1]; exact List.getElem_mem hn, by rw [List.take_succ_eq_append_getElem hn, h2.1], fun x hx => ?_⟩
  have h3 := h.sublist (List.drop_sublist n l)
  rw [hd] at h3
  have h4 := (List.pairwise_cons.1 h3).1 x hx
  simp only at h4
  omega
theorem cntV_le (d : Nat → Nat) (T : Nat) : ∀ n, cntV d T n ≤ n
  | 0 => Nat.le_refl _
  | n + 1 => by
    unfold cntV
    have := cntV_le d T n
    split <;> omega
theorem count_cut {l : List (Nat × Int)} {n T : Nat} (hn : n ≤ l.length) (h1 : ∀ x ∈ l.take n, x.1 ≤ T) (h2 : ∀ x ∈ l.drop n, T < x.1) : l.countP (fun x => decide (x.1 ≤ T)) = n := by
  have h3 := congrArg (List.countP (fun x : Nat × Int => decide (x.1 ≤ T))) (List.take_append_drop n l)
  rw [← h3, List.countP_append, List.countP_eq_length.2 (fun x hx => decide_eq_true (h1 x hx)), List.countP_eq_zero.2 (fun x hx => by simp; exact h2 x hx), List.length_take]
  omega
theorem U64s.at {w : World} {ao : Option Addr} {cap : Nat} {xs : List Nat} (h : U64s w (.slice ao xs.length cap) xs) {i : Nat} (hi : i < xs.length) : ∃ b o X, ao = some ⟨b, o, none⟩ ∧ w.cell? ⟨b, o + i, none⟩ = some (.int .u64 (X : Nat)) ∧ X < 18446744073709551616 ∧ xs.getD i 0 = X := by
  obtain ⟨a0, c0, h1, h2, h3, h4⟩ := h
  simp only [Value.slice.injEq, true_and] at h1
  obtain ⟨rfl, rfl⟩ := h1
  obtain ⟨b, o, h5, h6⟩ := h4 i hi
  refine ⟨b, o, _, h5, h6, ?_, rfl⟩
  have : xs.getD i 0 = xs[i] := by simp [List.getD, hi]
  rw [this]
  exact h3 _ (List.getElem_mem hi)

set_option maxHeartbeats 4000000 in
set_option maxRecDepth 20000 in
theorem wheelFires_spec {w : World} {v : Value} {xs : List Nat} (hx : U64s w v xs) (now : Nat) (hn : now < 18446744073709551616) (far : Nat) :
    Calls Try.prog 4 #[.int .u64 now, v, .int .u64 far] w fun e w' => e = .returned (.bool true) ∧ Fr [] w w' := by
  have HX := Lib.hid hx
  obtain ⟨ao, cap, rfl, hlen, h64, hcell⟩ := hx
  have HC := Lib.hid hcell
  have H64 := Lib.hid h64
  clear hcell h64
  obtain ⟨left, hleft⟩ : ∃ x, x = 18446744073709551615 - now := ⟨_, rfl⟩
  obtain ⟨mf, hmf⟩ : ∃ x, x = min far left := ⟨_, rfl⟩
  obtain ⟨T, hT⟩ : ∃ x, x = now + mf := ⟨_, rfl⟩
  have hw1 : IntKind.u64.wrap (18446744073709551615 - (now : Int)) = (left : Int) := by rw [IntKind.wrap_u64]; omega
  have hw2 : (if left < far then (left : Int) else (far : Int)) = (mf : Int) := by split <;> omega
  have hw3 : IntKind.u64.wrap ((now : Int) + (mf : Int)) = (T : Int) := by rw [IntKind.wrap_u64]; omega
  have HLe := Lib.hid hleft
  have HMf := Lib.hid hmf
  have HT := Lib.hid hT
  clear hleft hmf hT
  go_enter Try.func4, Try.ntmps4
  go_wp2_with fail
  refine (awake03 _).mono ?_
  rintro r w1 ⟨rfl, F⟩
  have HF1 := Lib.hid F
  clear F
  go_wp2_with fail
  refine (W1.put (HX.out.fr HF1.out) now hn HF1.out).mono ?_
  rintro r w2 ⟨b, rfl, h2, F⟩
  have HW2 := Lib.hid h2
  have HF2 := Lib.hid (HF1.out.trans F)
  clear h2 F
  obtain ⟨N, hN⟩ : ∃ n, n = min xs.length 60 := ⟨_, rfl⟩
  rw [← hN] at HW2
  have HN := Lib.hid hN
  clear hN
  go_wp2_with fail
  obtain ⟨l0, hl0⟩ : ∃ l, l = putV (dueAt now xs) (fun _ => true) N := ⟨_, rfl⟩
  rw [← hl0] at HW2
  have HS0 : Hid (l0.Pairwise (fun a c => a.1 < c.1 ∨ (a.1 = c.1 ∧ a.2 < c.2))) := Lib.hid (hl0 ▸ putV_sorted N)
  have HCn : Hid (l0.countP (fun x => decide (x.1 ≤ T)) = cntV (dueAt now xs) T N) := Lib.hid (hl0 ▸ putV_count _ T N)
  have hlen0 : l0.length = N := hl0 ▸ putV_len _ N
  have HM0 : Hid (∀ x ∈ l0, ∃ i : Nat, i < N ∧ x = (dueAt now xs i, (i : Int))) := Lib.hid (fun x hx => by
    rw [hl0] at hx
    obtain ⟨i, h1, -, h2⟩ := putV_mem.1 hx
    exact ⟨i, h1, h2⟩)
  have HL0 := Lib.hid hlen0
  clear hl0 hlen0
  have HXX : ∀ wx, Fr [] w wx → Hid (U64s wx (.slice ao xs.length cap) xs) := fun wx F => Lib.hid (HX.out.fr F)
  have HXX := Lib.hid HXX
  go_loopw [11, 12, 13, 14] (fun vla vid vn vi wr => ∃ (n la nw : Nat) (id : Int), vla = .int .u64 la ∧ vid = .int .i64 id ∧ vn = .int .i64 n ∧ vi = .int .i64 n ∧ n ≤ N ∧ nw ≤ T ∧ Hid (W1 w wr b nw N (l0.drop n)) ∧ Hid (∀ x ∈ l0.take n, x.1 ≤ T) ∧ Hid (∀ x ∈ l0.drop n, now + la ≤ x.1 ∧ (0 < n → x.1 = now + la → id ≤ x.2)) ∧ Hid (Fr [] w wr)) (fun _ _ vn _ _ => N - (intOf vn).toNat)
  case atStart => exact ⟨0, 0, now, -1, by go_num, rfl, by go_num, by go_num, Nat.zero_le _, by have := HT.out; omega, HW2, Lib.hid (by simp), Lib.hid (fun x hx => by
    obtain ⟨i, h1, rfl⟩ := HM0.out x hx
    exact ⟨(dueAt_lt now xs i hn).2, fun h => absurd h (by omega)⟩), HF2⟩
  case round =>
    obtain ⟨n, la, nw, id, rfl, rfl, rfl, rfl, hnN, hnw, HW, HTk, HDr, HF⟩ := hrel
    have hN60 : N ≤ 60 := by have := HN.out; omega
    have hn61 : n < 61 := by omega
    have hT64 : T < 18446744073709551616 := by have := HT.out; have := HMf.out; have := HLe.out; omega
    by_cases hno : ∀ x ∈ l0.drop n, T < x.1
    · have HNo := Lib.hid hno
      clear hno
      have HSt := Lib.hid (HW.out.call (r := .returned (.tuple #[.agg #[.int .i64 0, .int .i64 0], .bool false])) (fun fa h => h.step_no (by omega) hT64 HNo.out))
      rw [show max nw T = T by omega] at HSt
      go_wp2_with fail
      refine HSt.out.mono ?_
      rintro r w5 ⟨rfl, h5⟩
      have HF5 := Lib.hid (show Fr [] w w5 by obtain ⟨fp, q1, q2, q3⟩ := h5; exact q3)
      have HNow := Lib.hid (fun (w' : World) (F : Fr [] w5 w') => (h5.fr0 F).nowOf)
      have HLen := Lib.hid (fun (w' : World) (F : Fr [] w5 w') => (h5.fr0 F).lenOf)
      rw [List.length_drop, HL0.out] at HLen
      have hcnt : Hid (n = cntV (dueAt now xs) T N) := Lib.hid (by rw [← HCn.out]; exact (count_cut (by rw [HL0.out]; exact hnN) HTk.out HNo.out).symm)
      clear h5
      obtain ⟨w6, hw6⟩ : ∃ w6, w6 = w5.alloc (.cells #[.int .i64 0, .int .i64 0] 31) := ⟨_, rfl⟩
      have HF56 := Lib.hid (show Fr [] w5 w6 by rw [hw6]; exact (Fr.refl _ _).alloc _)
      go_wp2_with fail
      rw [← hw6]
      clear hw6
      go_loopw [18, 19] (fun vc vi wk => ∃ k : Nat, k ≤ xs.length ∧ k ≤ 60 ∧ vc = .int .i64 (cntV (dueAt now xs) T k) ∧ vi = .int .i64 k ∧ wk = w6) (fun _ vi _ => xs.length - (intOf vi).toNat)
      case atStart => exact ⟨0, Nat.zero_le _, by omega, by go_num, by go_num, rfl⟩
      case round =>
        obtain ⟨k, hk, hk6, rfl, rfl, rfl⟩ := hrel
        by_cases hlt : k < xs.length
        · by_cases hlt2 : k < 60
          · obtain ⟨b1, o1, X, rfl, hcx, hX64, hXX⟩ := (HX.out.fr (HF5.out.trans HF56.out)).at hlt
            obtain ⟨mx, hmx⟩ : ∃ x, x = min X left := ⟨_, rfl⟩
            have hw4 : (if left < X then (left : Int) else (X : Int)) = (mx : Int) := by split <;> omega
            have hw5 : IntKind.u64.wrap ((T : Int) - (now : Int)) = (mf : Int) := by rw [IntKind.wrap_u64]; have := HT.out; omega
            have hdk : dueAt now xs k = now + mx := by unfold dueAt; rw [hXX, hmx, HLe.out]
            have hcle : cntV (dueAt now xs) T k ≤ k := cntV_le _ _ _
            have HCs := Lib.hid (show cntV (dueAt now xs) T (k + 1) = cntV (dueAt now xs) T k + if mx ≤ mf then 1 else 0 by
              rw [cntV, hdk]
              have := HT.out
              by_cases h9 : mx ≤ mf
              · rw [if_pos h9, if_pos (by omega)]
              · rw [if_neg h9, if_neg (by omega)])
            have HMX := Lib.hid hmx
            clear hmx hXX hdk HX
            generalize cntV (dueAt now xs) T k = cc at *
            by_cases hle : mx ≤ mf
            · rw [if_pos hle] at HCs
              go_wp2_with fail
              go_roundw
              case rel => exact ⟨k + 1, by omega, by omega, by rw [HCs.out]; go_num, by go_num, trivial⟩
              case measure => simp [intOf]; omega
            · rw [if_neg hle] at HCs
              go_wp2_with fail
              go_roundw
              case rel => exact ⟨k + 1, by omega, by omega, by rw [HCs.out]; go_num, by go_num, trivial⟩
              case measure => simp [intOf]; omega
          · have hkN : k = N := by have := HN.out; omega
            have hm60 : (if 60 < xs.length then (60 : Int) else (xs.length : Int)) = (N : Int) := by have := HN.out; split <;> omega
            have hnk : n = cntV (dueAt now xs) T k := by rw [hkN]; exact hcnt.out
            have hsub : IntKind.i64.wrap ((N : Int) - (n : Int)) = ((N - n : Nat) : Int) := by rw [IntKind.wrap_i64]; omega
            rw [← hnk]
            clear hnk hkN
            go_wp2_with fail
            refine (HNow.out _ HF56.out).mono ?_
            rintro r w7 ⟨rfl, hw⟩
            subst hw
            go_wp2_with fail
            refine (HLen.out _ HF56.out).mono ?_
            rintro r w8 ⟨rfl, hw⟩
            subst hw
            go_wp2_with fail
            go_ret
            exact ⟨by first | rfl | (simp; done) | (have := HN.out; simp; omega), HF5.out.trans HF56.out⟩
        · have hkN : k = N := by have := HN.out; omega
          have hm60 : (if 60 < xs.length then (60 : Int) else (xs.length : Int)) = (N : Int) := by have := HN.out; split <;> omega
          have hnk : n = cntV (dueAt now xs) T k := by rw [hkN]; exact hcnt.out
          have hsub : IntKind.i64.wrap ((N : Int) - (n : Int)) = ((N - n : Nat) : Int) := by rw [IntKind.wrap_i64]; omega
          rw [← hnk]
          clear hnk hkN
          go_wp2_with fail
          refine (HNow.out _ HF56.out).mono ?_
          rintro r w7 ⟨rfl, hw⟩
          subst hw
          go_wp2_with fail
          refine (HLen.out _ HF56.out).mono ?_
          rintro r w8 ⟨rfl, hw⟩
          subst hw
          go_wp2_with fail
          go_ret
          exact ⟨by first | rfl | (simp; done) | (have := HN.out; simp; omega), HF5.out.trans HF56.out⟩
    · obtain ⟨d, j, t, hdr, hdT⟩ : ∃ d j t, l0.drop n = (d, j) :: t ∧ d ≤ T := by
        cases hq : l0.drop n with
        | nil => exact absurd (by rw [hq]; simp) hno
        | cons x t =>
          obtain ⟨d, j⟩ := x
          refine ⟨d, j, t, rfl, ?_⟩
          rcases Nat.lt_or_ge T d with h1 | h1
          · refine absurd (fun x hx => ?_) hno
            have h2 := HS0.out.sublist (List.drop_sublist n l0)
            rw [hq] at h2 hx
            rcases List.mem_cons.1 hx with h3 | h3
            · rw [h3]; exact h1
            · have := (List.pairwise_cons.1 h2).1 x h3
              simp only at this
              omega
          · exact h1
      clear hno
      obtain ⟨k1, k2, k3, k4, k5⟩ := sort_drop HS0.out hdr
      obtain ⟨jn, hj1, hj2⟩ := HM0.out _ k3
      simp only [Prod.mk.injEq] at hj2
      obtain ⟨hj2, rfl⟩ := hj2
      have hjx : jn < xs.length := by have := HN.out; omega
      have hlast := HDr.out (d, (jn : Int)) (by rw [hdr]; simp)
      simp only at hlast
      rw [hdr] at HW
      have HSt := Lib.hid (HW.out.call (r := .returned (.tuple #[.agg #[.int .i64 1, .int .i64 jn], .bool true])) (fun fa h => h.step_yes (by omega) hdT))
      obtain ⟨b1, o1, X, rfl, hcx, hX64, hXX⟩ := HX.out.at hjx
      obtain ⟨mx, hmx⟩ : ∃ x, x = min X left := ⟨_, rfl⟩
      have hdm : d = now + mx := by rw [hj2, hmx, ← hXX, HLe.out]; rfl
      have hw4 : (if left < X then (left : Int) else (X : Int)) = (mx : Int) := by split <;> omega
      have hmm : mx ≤ mf := by have := HT.out; omega
      have HMX := Lib.hid hmx
      have hlm : la ≤ mx := by omega
      have hdd : 0 < n → mx = la → id ≤ (jn : Int) := fun h1 h2 => hlast.2 h1 (by omega)
      clear hmx hXX hj2 hlast
      rw [hdm] at HSt
      go_wp2_with fail
      refine HSt.out.mono ?_
      rintro r w5 ⟨rfl, h5⟩
      have HW5 := Lib.hid h5
      clear h5 HSt
      have hc5 : (w5.alloc (.cells #[.int .i64 1, .int .i64 jn] 31)).cell? ⟨b1, o1 + jn, none⟩ = some (.int .u64 X) := by
        obtain ⟨fp, q1, q2, q3⟩ := HW5.out
        exact (q3.alloc _).on hcx (by simp)
      have n1 : decide ((jn : Int) < 0) = false := decide_eq_false (by omega)
      have n2 : decide ((xs.length : Int) ≤ jn) = false := decide_eq_false (by omega)
      have n3 : decide (mx < la) = false := decide_eq_false (by omega)
      have n4 : decide (mf < mx) = false := decide_eq_false (by omega)
      have HREL : Hid (W1 w (w5.alloc (.cells #[.int .i64 1, .int .i64 jn] 31)) b (now + mx) N (l0.drop (n + 1)) ∧ (∀ x ∈ l0.take (n + 1), x.1 ≤ T) ∧ (∀ x ∈ l0.drop (n + 1), now + mx ≤ x.1 ∧ (0 < n + 1 → x.1 = now + mx → (jn : Int) ≤ x.2)) ∧ Fr [] w (w5.alloc (.cells #[.int .i64 1, .int .i64 jn] 31))) := Lib.hid (by
        rw [k1, k4]
        refine ⟨HW5.out.fr0 ((Fr.refl _ _).alloc _), fun x hx => ?_, fun x hx => ?_, ?_⟩
        · rcases List.mem_append.1 hx with h1 | h1
          · exact HTk.out x h1
          · simp only [List.mem_singleton] at h1; rw [h1]; exact hdT
        · have := k5 x hx
          exact ⟨by omega, fun _ h => this.2 (by omega)⟩
        · obtain ⟨fp, q1, q2, q3⟩ := HW5.out
          exact q3.alloc _)
      have hnN' : n + 1 ≤ N := by have := HL0.out; omega
      have hnT : now + mx ≤ T := by omega
      clear hcx k1 k2 k3 k4 k5 hdr hdm
      go_wp2_with fail
      all_goals (
        go_roundw
        case rel => exact ⟨n + 1, mx, now + mx, jn, by simp; try omega, rfl, by go_num, by go_num, hnN', hnT, Lib.hid HREL.out.1, Lib.hid HREL.out.2.1, Lib.hid HREL.out.2.2.1, Lib.hid HREL.out.2.2.2⟩
        case measure => simp [intOf]; omega)
end Go.Proofs.Ytibnhfnidgfenaa
