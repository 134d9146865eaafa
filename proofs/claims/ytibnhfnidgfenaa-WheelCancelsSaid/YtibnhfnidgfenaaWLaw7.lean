/-
  WheelCancels, as a contract of its function.
-/
import Derived.Test.YtibnhfnidgfenaaWLaw6
namespace Go.Proofs.Ytibnhfnidgfenaa
open Go.RowKit

variable {w0 w : World} {a b na nb sa sb : Nat} {la lb : List (Nat × Int)} {K : List (Nat × Obj)}
theorem W2.same (h : W2 w0 w a b na nb sa sb la lb K) {f : Nat} {args : Array Value} {r : Ending}
    (k : ∀ fa, WV w a fa na sa la → Calls Try.prog f args w fun e w' => e = r ∧ Fr [] w w') :
    Calls Try.prog f args w fun e w' => e = r ∧ W2 w0 w' a b na nb sa sb la lb K ∧ Fr [] w w' := by
  have h' := h
  obtain ⟨fa, fb, h1, h2, h3, h4, h5, h6, h7⟩ := h
  refine (k fa h1).mono ?_
  rintro e w' ⟨rfl, F⟩
  exact ⟨rfl, h'.fr0 F, F⟩

set_option maxHeartbeats 4000000 in
set_option maxRecDepth 20000 in
theorem wheelCancels_spec {w : World} {v : Value} {xs : List Nat} (hx : U64s w v xs) (now : Nat) (hn : now < 18446744073709551616) (q : Nat) (hq : q < 256) :
    Calls Try.prog 3 #[.int .u64 now, v, .int .u8 q] w fun e w' => e = .returned (.bool true) ∧ Fr [] w w' := by
  have HX := Lib.hid hx
  obtain ⟨ao, cap, rfl, hlen, -⟩ := hx
  go_enter Try.func3, Try.ntmps3
  go_wp2_with fail
  refine (awake03 _).mono ?_
  rintro r w1 ⟨rfl, F⟩
  have HF1 := Lib.hid F
  clear F
  by_cases h0 : xs.length = 0
  · go_wp2_with fail
    go_ret
    exact ⟨by first | rfl | simp, HF1.out⟩
  go_wp2_with fail
  refine (W1.put (HX.out.fr HF1.out) now hn HF1.out).mono ?_
  rintro r w2 ⟨a, rfl, h2, F⟩
  have HW2 := Lib.hid h2
  have HF2 := Lib.hid (HF1.out.trans F)
  clear h2 F
  go_wp2_with fail
  refine (HW2.out.new2 now hn).mono ?_
  rintro r w3 ⟨b, rfl, h3⟩
  have HW3 := Lib.hid h3
  clear h3 HW2
  obtain ⟨N, hN⟩ : ∃ n, n = min xs.length 60 := ⟨_, rfl⟩
  rw [← hN] at HW3
  obtain ⟨c, hc⟩ : ∃ c, c = q % N := ⟨_, rfl⟩
  have hm60 : (if (60 : Int) < (xs.length : Int) then (60 : Int) else (xs.length : Int)) = (N : Int) := by split <;> omega
  have hN0 : 0 < N := by omega
  have hcN : c < N := by rw [hc]; exact Nat.mod_lt _ hN0
  have hN60 : N ≤ 60 := by omega
  have HN := Lib.hid hN
  have HCQ := Lib.hid (show (q : Int) % (N : Int) = (c : Int) by rw [hc]; exact (Int.natCast_emod q N).symm)
  clear hN hc
  obtain ⟨l0, hl0⟩ : ∃ l, l = putV (dueAt now xs) (fun _ => true) N := ⟨_, rfl⟩
  rw [← hl0] at HW3
  have HFl : Hid (l0.filter (fun x => decide (x.2 ≠ (c : Int))) = putV (dueAt now xs) (fun i => decide (i ≠ c)) N) := Lib.hid (hl0 ▸ putV_filter _ c N)
  have HIn : Hid (∃ x ∈ l0, x.2 = (c : Int)) := Lib.hid (hl0 ▸ ⟨_, putV_mem.2 ⟨c, hcN, rfl, rfl⟩, rfl⟩)
  clear hl0
  obtain ⟨left, hleft⟩ : ∃ x, x = 18446744073709551615 - now := ⟨_, rfl⟩
  have hw1 : IntKind.u64.wrap (18446744073709551615 - (now : Int)) = (left : Int) := by rw [IntKind.wrap_u64]; omega
  have HLe := Lib.hid hleft
  clear hleft
  go_wp2_with fail
  rw [HCQ.out]
  clear hm60 hq
  go_loopw [11] (fun vi wr => ∃ i sb : Nat, vi = .int .i64 i ∧ i ≤ xs.length ∧ i ≤ 60 ∧ sb ≤ i ∧ Hid (W2 w wr a b now now N sb l0 (putV (dueAt now xs) (fun k => decide (k ≠ c)) i) [])) (fun vi _ => xs.length - (intOf vi).toNat)
  case atStart => exact ⟨0, 0, by go_num, Nat.zero_le _, by omega, Nat.le_refl _, HW3⟩
  case round =>
    obtain ⟨i, sb, rfl, hi, hi2, hsb, HW⟩ := hrel
    by_cases hlt : i < xs.length
    · by_cases hlt2 : i < 60
      · by_cases hic : i = c
        · have HW' : Hid (W2 w wr a b now now N sb l0 (putV (dueAt now xs) (fun k => decide (k ≠ c)) (i + 1)) []) := Lib.hid (by
            have : putV (dueAt now xs) (fun k => decide (k ≠ c)) (i + 1) = putV (dueAt now xs) (fun k => decide (k ≠ c)) i := by rw [putV, if_neg (by simp [hic])]
            rw [this]
            exact HW.out)
          have hic' : (i : Int) = (c : Int) := by omega
          clear hic
          go_wp2_with fail
          go_roundw
          case rel => exact ⟨i + 1, sb, by go_num, by omega, by omega, by omega, HW'⟩
          case measure => simp [intOf]; omega
        · obtain ⟨b1, o1, X, rfl, hcx, hX64, hXX⟩ := HX.out.at hlt
          obtain ⟨mx, hmx⟩ : ∃ x, x = min X left := ⟨_, rfl⟩
          obtain ⟨D, hD⟩ : ∃ x, x = now + mx := ⟨_, rfl⟩
          have hDD : dueAt now xs i = D := by rw [hD, hmx, ← hXX, HLe.out]; rfl
          have hd := dueAt_lt now xs i hn
          rw [hDD] at hd
          have hw4 : (if left < X then (left : Int) else (X : Int)) = (mx : Int) := by split <;> omega
          have hw5 : IntKind.u64.wrap ((now : Int) + (mx : Int)) = (D : Int) := by rw [IntKind.wrap_u64]; omega
          have hput : putV (dueAt now xs) (fun k => decide (k ≠ c)) (i + 1) = insV (D, (i : Int)) (putV (dueAt now xs) (fun k => decide (k ≠ c)) i) := by rw [putV, if_pos (by simp [hic]), hDD]
          have HPN := Lib.hid (fun (w' : World) (F : Fr [] wr w') => ((HW.out.swap.fr0 F).call (r := .returned (.int .i64 0)) (fun fa h => h.put (i := (i : Int)) (fun x hx => by
            obtain ⟨j, hj, _, rfl⟩ := putV_mem.1 hx
            simp; omega) hd.1 hd.2 (by omega))))
          rw [← hput] at HPN
          have FX := Fr.refl [] wr
          have KS := Lib.hid (fun (w' : World) (F : Fr [] w w') => F.on hcx (by simp))
          have hic1 : ((i : Int) == (c : Int)) = false := by simp; omega
          clear hcx hXX hmx hD hDD hd hput
          have d60 : decide ((i : Int) < 60) = true := decide_eq_true (by omega)
          go_wp2_with fail
          go_region_held3 (fun w' => w'.cell? ⟨b1, o1 + i, none⟩ = some (.int .u64 X)) (first | exact KS.out _ FP | exact KS.out _ (HW.out.fr.trans (by repeat (first | exact FX | exact Fr.refl _ _ | apply Fr.drew | apply Fr.drewN | apply Fr.alloc))))
            (first
              | (go_at_call 19; refine (timer_spec _ _).mono ?_; rintro r w4 ⟨rfl, F⟩; have FX : Fr [] wr w4 := Fr.trans (by repeat (first | exact FX | exact Fr.refl _ _ | apply Fr.drew | apply Fr.drewN | apply Fr.alloc)) F; clear F)
              | (go_at_call 18; refine (HPN.out _ FX).mono ?_; rintro r w5 ⟨rfl, h5⟩; have FP := h5.fr))
          all_goals (
            have HR := Lib.hid h5.swap
            clear h5
            go_wp2_with fail
            go_roundw
            case rel => exact ⟨i + 1, sb + 1, by go_num, by omega, by omega, by omega, HR⟩
            case measure => simp [intOf]; omega)
      · have hiN : i = N := by have := HN.out; omega
        have HW1 : Hid (W2 w wr a b now now N sb l0 (putV (dueAt now xs) (fun k => decide (k ≠ c)) N) []) := Lib.hid (by have h := HW.out; rw [hiN] at h; exact h)
        clear HW hiN
        go_wp2_with fail
        refine (timer_spec _ _).mono ?_
        rintro r w4 ⟨rfl, F⟩
        have HC1 := Lib.hid ((HW1.out.fr0 F).call (r := .returned (.bool true)) (fun fa h => h.cancel_yes HIn.out (by omega)))
        rw [HFl.out] at HC1
        clear F
        go_wp2_with fail
        refine HC1.out.mono ?_
        rintro r w5 ⟨rfl, h5⟩
        obtain ⟨l1, hl1⟩ : ∃ l, l = putV (dueAt now xs) (fun k => decide (k ≠ c)) N := ⟨_, rfl⟩
        rw [← hl1] at h5
        have HNc : Hid (∀ x ∈ l1, x.2 ≠ (c : Int)) := Lib.hid (fun x hx => by
          rw [hl1] at hx
          obtain ⟨j, -, hj, rfl⟩ := putV_mem.1 hx
          simp at hj
          simp; omega)
        have HW5 := Lib.hid h5
        clear h5 HC1 HW1 hl1
        go_wp2_with fail
        refine (timer_spec _ _).mono ?_
        rintro r w6 ⟨rfl, F⟩
        have HC2 := Lib.hid ((HW5.out.fr0 F).same (r := .returned (.bool false)) (fun fa h => h.cancel_no HNc.out))
        clear F
        go_wp2_with fail
        refine HC2.out.mono ?_
        rintro r w7 ⟨rfl, h7, -⟩
        have HW7 := Lib.hid h7
        clear h7 HC2
        go_wp2_with fail
        go_loopw [14] (fun vk wk => ∃ (k na nb : Nat) (l : List (Nat × Int)), vk = .int .i64 k ∧ k ≤ 60 ∧ Hid (∀ x ∈ l, x.2 ≠ (c : Int)) ∧ Hid (W2 w wk a b na nb N sb l l [])) (fun vk _ => 60 - (intOf vk).toNat)
        case atStart => exact ⟨0, now, now, l1, by go_num, by omega, HNc, HW7⟩
        case round =>
          obtain ⟨k, na, nb, l, rfl, hk, HNl, HW⟩ := hrel
          by_cases hk6 : k < 60
          · cases l with
            | nil =>
              have HSt := Lib.hid (HW.out.call (r := .returned (.tuple #[.agg #[.int .i64 0, .int .i64 0], .bool false])) (fun fa h => h.step_no (to := 18446744073709551615) (by omega) (by decide) (by simp)))
              go_wp2_with fail
              refine HSt.out.mono ?_
              rintro r w8 ⟨rfl, h8⟩
              obtain ⟨w9, hw9⟩ : ∃ w9, w9 = w8.alloc (.cells #[.int .i64 0, .int .i64 0] 31) := ⟨_, rfl⟩
              have h9 := (h8.box (.cells #[.int .i64 0, .int .i64 0] 31)).swap
              rw [← hw9] at h9
              have HSu := Lib.hid (h9.call (r := .returned (.tuple #[.agg #[.int .i64 0, .int .i64 0], .bool false])) (fun fa h => h.step_no (to := 18446744073709551615) (by omega) (by decide) (by simp)))
              clear h8 h9 HSt
              go_wp2_with fail
              rw [← hw9]
              clear hw9
              refine HSu.out.mono ?_
              rintro r w10 ⟨rfl, h10⟩
              obtain ⟨x0, x1⟩ := two_cells (((Fr.refl [] w10).alloc (.cells #[.int .i64 0, .int .i64 0] 31)).keep (h10.read (List.mem_cons_self ..)) (by simp))
              obtain ⟨y0, y1⟩ := two_cells (block_alloc_new w10 (.cells #[.int .i64 0, .int .i64 0] 31))
              have HW11 := Lib.hid ((h10.swap.less (K' := []) (by simp)).fr0 ((Fr.refl [] w10).alloc (.cells #[.int .i64 0, .int .i64 0] 31)))
              obtain ⟨w11, hw11⟩ : ∃ w11, w11 = w10.alloc (.cells #[.int .i64 0, .int .i64 0] 31) := ⟨_, rfl⟩
              rw [← hw11] at HW11 x0 x1 y0 y1
              clear h10 HSu
              go_wp2_with fail
              rw [← hw11]
              clear hw11
              go_quiet (fail)
              go_wp2_with fail
              go_roundw
              case rel => exact ⟨k + 1, _, _, [], by go_num, by omega, Lib.hid (by simp), Lib.hid (HW11.out.fr0 (Fr.of_drewN _ _))⟩
              case measure => simp [intOf]; omega
            | cons x t =>
              obtain ⟨d, j⟩ := x
              have hj : ((j : Int) == (c : Int)) = false := by have := HNl.out (d, j) (by simp); simp at this ⊢; exact this
              have HNt : Hid (∀ x ∈ t, x.2 ≠ (c : Int)) := Lib.hid (fun x hx => HNl.out x (by simp [hx]))
              have HSt := Lib.hid (HW.out.call (r := .returned (.tuple #[.agg #[.int .i64 1, .int .i64 j], .bool true])) (fun fa h => h.step_yes (by omega) (to := 18446744073709551615) (by have := (h.due (d, j) (by simp)).2; simp only at this; omega)))
              clear HNl
              go_wp2_with fail
              refine HSt.out.mono ?_
              rintro r w8 ⟨rfl, h8⟩
              obtain ⟨w9, hw9⟩ : ∃ w9, w9 = w8.alloc (.cells #[.int .i64 1, .int .i64 j] 31) := ⟨_, rfl⟩
              have h9 := (h8.box (.cells #[.int .i64 1, .int .i64 j] 31)).swap
              rw [← hw9] at h9
              have HSu := Lib.hid (h9.call (r := .returned (.tuple #[.agg #[.int .i64 1, .int .i64 j], .bool true])) (fun fa h => h.step_yes (by omega) (to := 18446744073709551615) (by have := (h.due (d, j) (by simp)).2; simp only at this; omega)))
              clear h8 h9 HSt
              go_wp2_with fail
              rw [← hw9]
              clear hw9
              refine HSu.out.mono ?_
              rintro r w10 ⟨rfl, h10⟩
              have HX0 := Lib.hid (((Fr.refl [] w10).alloc (.cells #[.int .i64 1, .int .i64 j] 31)).keep (h10.read (List.mem_cons_self ..)) (by simp))
              have HY0 := Lib.hid (block_alloc_new w10 (.cells #[.int .i64 1, .int .i64 j] 31))
              have HW11 := Lib.hid ((h10.swap.less (K' := []) (by simp)).fr0 ((Fr.refl [] w10).alloc (.cells #[.int .i64 1, .int .i64 j] 31)))
              obtain ⟨w11, hw11⟩ : ∃ w11, w11 = w10.alloc (.cells #[.int .i64 1, .int .i64 j] 31) := ⟨_, rfl⟩
              rw [← hw11] at HW11 HX0 HY0
              clear h10 HSu
              have KS := Lib.hid (fun (w' : World) (F : Fr [] w11 w') => (⟨(two_cells (F.keep HX0.out (by simp))).1, (two_cells (F.keep HX0.out (by simp))).2, (two_cells (F.keep HY0.out (by simp))).1, (two_cells (F.keep HY0.out (by simp))).2⟩ :
                w'.cell? ⟨w8.heap.size, 0, none⟩ = some (.int .i64 1) ∧ w'.cell? ⟨w8.heap.size, 1, none⟩ = some (.int .i64 j) ∧ w'.cell? ⟨w10.heap.size, 0, none⟩ = some (.int .i64 1) ∧ w'.cell? ⟨w10.heap.size, 1, none⟩ = some (.int .i64 j)))
              clear HX0 HY0
              go_wp2_with fail
              rw [← hw11]
              clear hw11
              have FX := Fr.refl [] w11
              go_region_held3 (fun w' => w'.cell? ⟨w8.heap.size, 0, none⟩ = some (.int .i64 1) ∧ w'.cell? ⟨w8.heap.size, 1, none⟩ = some (.int .i64 j) ∧ w'.cell? ⟨w10.heap.size, 0, none⟩ = some (.int .i64 1) ∧ w'.cell? ⟨w10.heap.size, 1, none⟩ = some (.int .i64 j))
                (exact KS.out _ (by repeat (first | exact FX | exact Fr.refl _ _ | apply Fr.drew | apply Fr.drewN | apply Fr.alloc)))
                ((go_at_call 19; refine (timer_spec _ _).mono ?_; rintro r w12 ⟨rfl, F⟩; have FX : Fr [] w11 w12 := Fr.trans (by repeat (first | exact FX | exact Fr.refl _ _ | apply Fr.drew | apply Fr.drewN | apply Fr.alloc)) F; clear F))
              all_goals (
                have HR := Lib.hid (HW11.out.fr0 FX)
                clear FX
                go_wp2_with fail
                go_roundw
                case rel => exact ⟨k + 1, _, _, t, by go_num, by omega, HNt, HR⟩
                case measure => simp [intOf]; omega)
          · go_wp2_with fail
            go_ret
            exact ⟨by first | rfl | simp, HW.out.fr⟩
    · have hiN : i = N := by have := HN.out; omega
      have HW1 : Hid (W2 w wr a b now now N sb l0 (putV (dueAt now xs) (fun k => decide (k ≠ c)) N) []) := Lib.hid (by have h := HW.out; rw [hiN] at h; exact h)
      clear HW hiN
      go_wp2_with fail
      refine (timer_spec _ _).mono ?_
      rintro r w4 ⟨rfl, F⟩
      have HC1 := Lib.hid ((HW1.out.fr0 F).call (r := .returned (.bool true)) (fun fa h => h.cancel_yes HIn.out (by omega)))
      rw [HFl.out] at HC1
      clear F
      go_wp2_with fail
      refine HC1.out.mono ?_
      rintro r w5 ⟨rfl, h5⟩
      obtain ⟨l1, hl1⟩ : ∃ l, l = putV (dueAt now xs) (fun k => decide (k ≠ c)) N := ⟨_, rfl⟩
      rw [← hl1] at h5
      have HNc : Hid (∀ x ∈ l1, x.2 ≠ (c : Int)) := Lib.hid (fun x hx => by
        rw [hl1] at hx
        obtain ⟨j, -, hj, rfl⟩ := putV_mem.1 hx
        simp at hj
        simp; omega)
      have HW5 := Lib.hid h5
      clear h5 HC1 HW1 hl1
      go_wp2_with fail
      refine (timer_spec _ _).mono ?_
      rintro r w6 ⟨rfl, F⟩
      have HC2 := Lib.hid ((HW5.out.fr0 F).same (r := .returned (.bool false)) (fun fa h => h.cancel_no HNc.out))
      clear F
      go_wp2_with fail
      refine HC2.out.mono ?_
      rintro r w7 ⟨rfl, h7, -⟩
      have HW7 := Lib.hid h7
      clear h7 HC2
      go_wp2_with fail
      go_loopw [14] (fun vk wk => ∃ (k na nb : Nat) (l : List (Nat × Int)), vk = .int .i64 k ∧ k ≤ 60 ∧ Hid (∀ x ∈ l, x.2 ≠ (c : Int)) ∧ Hid (W2 w wk a b na nb N sb l l [])) (fun vk _ => 60 - (intOf vk).toNat)
      case atStart => exact ⟨0, now, now, l1, by go_num, by omega, HNc, HW7⟩
      case round =>
        obtain ⟨k, na, nb, l, rfl, hk, HNl, HW⟩ := hrel
        by_cases hk6 : k < 60
        · cases l with
          | nil =>
            have HSt := Lib.hid (HW.out.call (r := .returned (.tuple #[.agg #[.int .i64 0, .int .i64 0], .bool false])) (fun fa h => h.step_no (to := 18446744073709551615) (by omega) (by decide) (by simp)))
            go_wp2_with fail
            refine HSt.out.mono ?_
            rintro r w8 ⟨rfl, h8⟩
            obtain ⟨w9, hw9⟩ : ∃ w9, w9 = w8.alloc (.cells #[.int .i64 0, .int .i64 0] 31) := ⟨_, rfl⟩
            have h9 := (h8.box (.cells #[.int .i64 0, .int .i64 0] 31)).swap
            rw [← hw9] at h9
            have HSu := Lib.hid (h9.call (r := .returned (.tuple #[.agg #[.int .i64 0, .int .i64 0], .bool false])) (fun fa h => h.step_no (to := 18446744073709551615) (by omega) (by decide) (by simp)))
            clear h8 h9 HSt
            go_wp2_with fail
            rw [← hw9]
            clear hw9
            refine HSu.out.mono ?_
            rintro r w10 ⟨rfl, h10⟩
            obtain ⟨x0, x1⟩ := two_cells (((Fr.refl [] w10).alloc (.cells #[.int .i64 0, .int .i64 0] 31)).keep (h10.read (List.mem_cons_self ..)) (by simp))
            obtain ⟨y0, y1⟩ := two_cells (block_alloc_new w10 (.cells #[.int .i64 0, .int .i64 0] 31))
            have HW11 := Lib.hid ((h10.swap.less (K' := []) (by simp)).fr0 ((Fr.refl [] w10).alloc (.cells #[.int .i64 0, .int .i64 0] 31)))
            obtain ⟨w11, hw11⟩ : ∃ w11, w11 = w10.alloc (.cells #[.int .i64 0, .int .i64 0] 31) := ⟨_, rfl⟩
            rw [← hw11] at HW11 x0 x1 y0 y1
            clear h10 HSu
            go_wp2_with fail
            rw [← hw11]
            clear hw11
            go_quiet (fail)
            go_wp2_with fail
            go_roundw
            case rel => exact ⟨k + 1, _, _, [], by go_num, by omega, Lib.hid (by simp), Lib.hid (HW11.out.fr0 (Fr.of_drewN _ _))⟩
            case measure => simp [intOf]; omega
          | cons x t =>
            obtain ⟨d, j⟩ := x
            have hj : ((j : Int) == (c : Int)) = false := by have := HNl.out (d, j) (by simp); simp at this ⊢; exact this
            have HNt : Hid (∀ x ∈ t, x.2 ≠ (c : Int)) := Lib.hid (fun x hx => HNl.out x (by simp [hx]))
            have HSt := Lib.hid (HW.out.call (r := .returned (.tuple #[.agg #[.int .i64 1, .int .i64 j], .bool true])) (fun fa h => h.step_yes (by omega) (to := 18446744073709551615) (by have := (h.due (d, j) (by simp)).2; simp only at this; omega)))
            clear HNl
            go_wp2_with fail
            refine HSt.out.mono ?_
            rintro r w8 ⟨rfl, h8⟩
            obtain ⟨w9, hw9⟩ : ∃ w9, w9 = w8.alloc (.cells #[.int .i64 1, .int .i64 j] 31) := ⟨_, rfl⟩
            have h9 := (h8.box (.cells #[.int .i64 1, .int .i64 j] 31)).swap
            rw [← hw9] at h9
            have HSu := Lib.hid (h9.call (r := .returned (.tuple #[.agg #[.int .i64 1, .int .i64 j], .bool true])) (fun fa h => h.step_yes (by omega) (to := 18446744073709551615) (by have := (h.due (d, j) (by simp)).2; simp only at this; omega)))
            clear h8 h9 HSt
            go_wp2_with fail
            rw [← hw9]
            clear hw9
            refine HSu.out.mono ?_
            rintro r w10 ⟨rfl, h10⟩
            have HX0 := Lib.hid (((Fr.refl [] w10).alloc (.cells #[.int .i64 1, .int .i64 j] 31)).keep (h10.read (List.mem_cons_self ..)) (by simp))
            have HY0 := Lib.hid (block_alloc_new w10 (.cells #[.int .i64 1, .int .i64 j] 31))
            have HW11 := Lib.hid ((h10.swap.less (K' := []) (by simp)).fr0 ((Fr.refl [] w10).alloc (.cells #[.int .i64 1, .int .i64 j] 31)))
            obtain ⟨w11, hw11⟩ : ∃ w11, w11 = w10.alloc (.cells #[.int .i64 1, .int .i64 j] 31) := ⟨_, rfl⟩
            rw [← hw11] at HW11 HX0 HY0
            clear h10 HSu
            have KS := Lib.hid (fun (w' : World) (F : Fr [] w11 w') => (⟨(two_cells (F.keep HX0.out (by simp))).1, (two_cells (F.keep HX0.out (by simp))).2, (two_cells (F.keep HY0.out (by simp))).1, (two_cells (F.keep HY0.out (by simp))).2⟩ :
              w'.cell? ⟨w8.heap.size, 0, none⟩ = some (.int .i64 1) ∧ w'.cell? ⟨w8.heap.size, 1, none⟩ = some (.int .i64 j) ∧ w'.cell? ⟨w10.heap.size, 0, none⟩ = some (.int .i64 1) ∧ w'.cell? ⟨w10.heap.size, 1, none⟩ = some (.int .i64 j)))
            clear HX0 HY0
            go_wp2_with fail
            rw [← hw11]
            clear hw11
            have FX := Fr.refl [] w11
            go_region_held3 (fun w' => w'.cell? ⟨w8.heap.size, 0, none⟩ = some (.int .i64 1) ∧ w'.cell? ⟨w8.heap.size, 1, none⟩ = some (.int .i64 j) ∧ w'.cell? ⟨w10.heap.size, 0, none⟩ = some (.int .i64 1) ∧ w'.cell? ⟨w10.heap.size, 1, none⟩ = some (.int .i64 j))
              (exact KS.out _ (by repeat (first | exact FX | exact Fr.refl _ _ | apply Fr.drew | apply Fr.drewN | apply Fr.alloc)))
              ((go_at_call 19; refine (timer_spec _ _).mono ?_; rintro r w12 ⟨rfl, F⟩; have FX : Fr [] w11 w12 := Fr.trans (by repeat (first | exact FX | exact Fr.refl _ _ | apply Fr.drew | apply Fr.drewN | apply Fr.alloc)) F; clear F))
            all_goals (
              have HR := Lib.hid (HW11.out.fr0 FX)
              clear FX
              go_wp2_with fail
              go_roundw
              case rel => exact ⟨k + 1, _, _, t, by go_num, by omega, HNt, HR⟩
              case measure => simp [intOf]; omega)
        · go_wp2_with fail
          go_ret
          exact ⟨by first | rfl | simp, HW.out.fr⟩
end Go.Proofs.Ytibnhfnidgfenaa
