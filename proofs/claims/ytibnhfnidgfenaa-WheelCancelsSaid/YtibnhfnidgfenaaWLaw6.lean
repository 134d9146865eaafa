/-
  WheelParts, as a contract of its function.
-/
import Derived.Test.YtibnhfnidgfenaaWLaw5
namespace Go.Proofs.Ytibnhfnidgfenaa
open Go.RowKit

theorem two_cells {w : World} {p : Nat} {x y : Value} {t : TypeId} {s : Nat × Nat} (h : w.heap[p]? = some (.cells #[x, y] t s)) :
    w.cell? ⟨p, 0, none⟩ = some x ∧ w.cell? ⟨p, 1, none⟩ = some y := ⟨by rw [cell_of_block h]; rfl, by rw [cell_of_block h]; rfl⟩

set_option maxHeartbeats 4000000 in
set_option maxRecDepth 20000 in
theorem wheelParts_spec {w : World} {v u : Value} {xs ps : List Nat} (hx : U64s w v xs) (hp : U64s w u ps) (now : Nat) (hn : now < 18446744073709551616) :
    Calls Try.prog 5 #[.int .u64 now, v, u] w fun e w' => e = .returned (.bool true) ∧ Fr [] w w' := by
  have HX := Lib.hid hx
  have HP := Lib.hid hp
  obtain ⟨ao, cap, rfl, hlen, -⟩ := hx
  obtain ⟨ap, cap2, rfl, hlen2, -⟩ := hp
  go_enter Try.func5, Try.ntmps5
  go_wp2_with fail
  refine (awake03 _).mono ?_
  rintro r w1 ⟨rfl, F⟩
  have HF1 := Lib.hid F
  clear F
  go_wp2_with fail
  refine (W1.put (HX.out.fr HF1.out) now hn HF1.out).mono ?_
  rintro r w2 ⟨a, rfl, h2, F⟩
  have HW2 := Lib.hid h2
  have HF2 := Lib.hid (HF1.out.trans F)
  clear h2 F
  go_wp2_with fail
  refine (HW2.out.put2 (HX.out.fr HF2.out) now hn).mono ?_
  rintro r w3 ⟨b, rfl, h3⟩
  have HW3 := Lib.hid h3
  clear h3 HW2
  obtain ⟨N, hN⟩ : ∃ n, n = min xs.length 60 := ⟨_, rfl⟩
  rw [← hN] at HW3
  obtain ⟨l0, hl0⟩ : ∃ l, l = putV (dueAt now xs) (fun _ => true) N := ⟨_, rfl⟩
  rw [← hl0] at HW3
  have hN60 : N ≤ 60 := by omega
  have hlen0 : l0.length ≤ 60 := by rw [hl0, putV_len]; exact hN60
  have HS0 : Hid (l0.Pairwise (fun a c => a.1 ≤ c.1)) := Lib.hid (hl0 ▸ (putV_sorted N).imp (fun h => by omega))
  clear hN hl0
  go_wp2_with fail
  go_loopw [10, 11] (fun vto vi wr => ∃ (to i nb : Nat) (l : List (Nat × Int)), vto = .int .u64 to ∧ vi = .int .i64 i ∧ i ≤ ps.length ∧ i ≤ 20 ∧ to < 18446744073709551616 ∧ l.length ≤ 60 ∧ Hid (l.Pairwise (fun a c => a.1 ≤ c.1)) ∧ Hid (W2 w wr a b to nb N N l l [])) (fun _ vi _ => ps.length - (intOf vi).toNat)
  case atStart => exact ⟨now, 0, now, l0, rfl, by go_num, Nat.zero_le _, by omega, hn, hlen0, HS0, HW3⟩
  case round =>
    obtain ⟨to, i, nb0, l1, rfl, rfl, hi, hi2, hto, hl1, HS1, HW1⟩ := hrel
    by_cases hlt : i < ps.length
    · by_cases hlt2 : i < 20
      · obtain ⟨b1, o1, X, rfl, hcx, hX64, hXX⟩ := (HP.out.fr HW1.out.fr).at hlt
        obtain ⟨left, hleft⟩ : ∃ x, x = 18446744073709551615 - to := ⟨_, rfl⟩
        obtain ⟨mx, hmx⟩ : ∃ x, x = min X left := ⟨_, rfl⟩
        obtain ⟨T, hT⟩ : ∃ x, x = to + mx := ⟨_, rfl⟩
        have hw1 : IntKind.u64.wrap (18446744073709551615 - (to : Int)) = (left : Int) := by rw [IntKind.wrap_u64]; omega
        have hw4 : (if left < X then (left : Int) else (X : Int)) = (mx : Int) := by split <;> omega
        have hw3 : IntKind.u64.wrap ((to : Int) + (mx : Int)) = (T : Int) := by rw [IntKind.wrap_u64]; omega
        have hT64 : T < 18446744073709551616 := by omega
        have hTto : to ≤ T := by omega
        clear hmx hT hleft hXX
        have d20 : decide ((i : Int) < 20) = true := decide_eq_true (by omega)
        go_wp2_with fail
        clear hcx hw1 hw4 hw3
        rename_i wr0
        go_loopw [12] (fun vk wk => ∃ (k na nb : Nat) (l : List (Nat × Int)), vk = .int .i64 k ∧ k + l.length ≤ 60 ∧ na ≤ T ∧ Hid (l.Pairwise (fun a c => a.1 ≤ c.1)) ∧ Hid (W2 w wk a b na nb N N l l [])) (fun vk _ => 60 - (intOf vk).toNat)
        case atStart => exact ⟨0, to, nb0, l1, by go_num, by omega, hTto, HS1, HW1⟩
        case round =>
          obtain ⟨k, na, nb, l, rfl, hk, hna, HS, HW⟩ := hrel
          by_cases hno : ∀ x ∈ l, T < x.1
          · have HSt := Lib.hid (HW.out.call (r := .returned (.tuple #[.agg #[.int .i64 0, .int .i64 0], .bool false])) (fun fa h => h.step_no (by omega) hT64 hno))
            rw [show max na T = T by omega] at HSt
            have hl60 : l.length ≤ 60 := by omega
            have hk61 : k < 61 := by omega
            clear hno
            go_wp2_with fail
            refine HSt.out.mono ?_
            rintro r w5 ⟨rfl, h5⟩
            have HW5 := Lib.hid (h5.fr0 ((Fr.refl [] w5).alloc (.cells #[.int .i64 0, .int .i64 0] 31)))
            clear h5 HSt
            go_wp2_with fail
            go_roundw
            case rel => exact ⟨T, i + 1, nb, l, rfl, by go_num, by omega, by omega, hT64, hl60, HS, HW5⟩
            case measure => simp [intOf]; omega
          · cases l with
            | nil => exact absurd (by simp) hno
            | cons x t =>
              obtain ⟨d, j⟩ := x
              obtain ⟨hs1, hs2⟩ := List.pairwise_cons.1 HS.out
              have hdT : d ≤ T := by
                rcases Nat.lt_or_ge T d with h1 | h1
                · refine absurd (fun x hx => ?_) hno
                  rcases List.mem_cons.1 hx with h3 | h3
                  · rw [h3]; exact h1
                  · have := hs1 x h3; simp only at this; omega
                · exact h1
              have HS2 := Lib.hid hs2
              clear hno hs1 hs2 HS
              have hk61 : k < 61 := by omega
              have hkt : k + 1 + t.length ≤ 60 := by simp at hk; omega
              have HSt := Lib.hid (HW.out.call (r := .returned (.tuple #[.agg #[.int .i64 1, .int .i64 j], .bool true])) (fun fa h => h.step_yes (by omega) hdT))
              go_wp2_with fail
              refine HSt.out.mono ?_
              rintro r w5 ⟨rfl, h5⟩
              obtain ⟨w6, hw6⟩ : ∃ w6, w6 = w5.alloc (.cells #[.int .i64 1, .int .i64 j] 31) := ⟨_, rfl⟩
              have h6 := (h5.box (.cells #[.int .i64 1, .int .i64 j] 31)).swap
              rw [← hw6] at h6
              have HSu := Lib.hid (h6.call (r := .returned (.tuple #[.agg #[.int .i64 1, .int .i64 j], .bool true])) (fun fa h => h.step_yes (by omega) (to := 18446744073709551615) (by have := (h.due (d, j) (by simp)).2; simp only at this; omega)))
              clear h5 h6 HSt
              go_wp2_with fail
              rw [← hw6]
              clear hw6
              refine HSu.out.mono ?_
              rintro r w7 ⟨rfl, h7⟩
              obtain ⟨x0, x1⟩ := two_cells (((Fr.refl [] w7).alloc (.cells #[.int .i64 1, .int .i64 j] 31)).keep (h7.read (List.mem_cons_self ..)) (by simp))
              obtain ⟨y0, y1⟩ := two_cells (block_alloc_new w7 (.cells #[.int .i64 1, .int .i64 j] 31))
              have HW8 := Lib.hid ((h7.swap.less (K' := []) (by simp)).fr0 ((Fr.refl [] w7).alloc (.cells #[.int .i64 1, .int .i64 j] 31)))
              clear h7 HSu
              go_wp2_with fail
              go_roundw
              case rel => exact ⟨k + 1, d, d, t, by go_num, hkt, hdT, HS2, HW8⟩
              case measure => simp [intOf]; omega
      · have HNow := Lib.hid (fun (w' : World) (F : Fr [] wr w') => (HW1.out.fr0 F).nowOf)
        have HLa := Lib.hid (fun (w' : World) (F : Fr [] wr w') => (HW1.out.fr0 F).lenOf)
        have HLb := Lib.hid (fun (w' : World) (F : Fr [] wr w') => (HW1.out.fr0 F).swap.lenOf)
        have HFi := Lib.hid HW1.out.fr
        clear HW1
        go_wp2_with fail
        refine (HNow.out _ (Fr.refl _ _)).mono ?_
        rintro r w7 ⟨rfl, hw⟩
        subst hw
        go_wp2_with fail
        refine (HLa.out _ (Fr.refl _ _)).mono ?_
        rintro r w8 ⟨rfl, hw⟩
        subst hw
        go_wp2_with fail
        refine (HLb.out _ (Fr.refl _ _)).mono ?_
        rintro r w9 ⟨rfl, hw⟩
        subst hw
        go_wp2_with fail
        go_ret
        exact ⟨by first | rfl | (simp; done) | (simp; omega), HFi.out⟩
    · have HNow := Lib.hid (fun (w' : World) (F : Fr [] wr w') => (HW1.out.fr0 F).nowOf)
      have HLa := Lib.hid (fun (w' : World) (F : Fr [] wr w') => (HW1.out.fr0 F).lenOf)
      have HLb := Lib.hid (fun (w' : World) (F : Fr [] wr w') => (HW1.out.fr0 F).swap.lenOf)
      have HFi := Lib.hid HW1.out.fr
      clear HW1
      go_wp2_with fail
      refine (HNow.out _ (Fr.refl _ _)).mono ?_
      rintro r w7 ⟨rfl, hw⟩
      subst hw
      go_wp2_with fail
      refine (HLa.out _ (Fr.refl _ _)).mono ?_
      rintro r w8 ⟨rfl, hw⟩
      subst hw
      go_wp2_with fail
      refine (HLb.out _ (Fr.refl _ _)).mono ?_
      rintro r w9 ⟨rfl, hw⟩
      subst hw
      go_wp2_with fail
      go_ret
      exact ⟨by first | rfl | (simp; done) | (simp; omega), HFi.out⟩
end Go.Proofs.Ytibnhfnidgfenaa
