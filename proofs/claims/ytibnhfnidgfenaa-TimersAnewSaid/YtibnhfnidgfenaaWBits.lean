/-
  Block, Slot and Level of package bits.
-/
import Derived.Test.YtibnhfnidgfenaaWPlain
import Derived.Laws.Bits64
import Derived.Laws.Bits64b
namespace Go.Proofs.Ytibnhfnidgfenaa
open Go.RowKit

theorem pow64 (n : Nat) : (64 : Nat) ^ n = 2 ^ (6 * n) := by rw [Nat.pow_mul]
theorem block_spec (w : World) (t n : Nat) (hn : n ≤ 5) :
    Calls Try.prog 60 #[.int .u64 t, .int .i64 n] w fun e w' => e = .returned (.int .u64 (blk t n : Nat)) ∧ w' = w := by
  by_cases h0 : n = 0
  · subst h0
    rw [blk_zero]
    go_enter Try.func60, Try.ntmps60
    go_wp2_with fail
    go_ret
    exact ⟨rfl, rfl⟩
  · have h1 : ¬ (n : Int) < 1 := by omega
    have HB : Hid ((blk t n : Nat) = t / 2 ^ (6 * n)) := Lib.hid (by unfold blk; rw [pow64])
    rw [HB.out]
    go_enter Try.func60, Try.ntmps60
    go_wp2_with fail
    go_ret
    exact ⟨by congr 2, rfl⟩

theorem blk_le (t n : Nat) : blk t n ≤ t := Nat.div_le_self _ _
theorem and63 (t : Nat) (ht : t < 18446744073709551616) : bits .and .u64 (t : Int) 63 = ((t % 64 : Nat) : Int) := by
  have := bits_and_u64_nat t 63 ht (by decide)
  rw [show ((63 : Nat) : Int) = 63 from rfl] at this
  rw [this, show (63 : Nat) = 2 ^ 6 - 1 from rfl, Nat.and_two_pow_sub_one_eq_mod]
theorem slot_spec (w : World) (t n : Nat) (hn : n ≤ 5) (ht : t < 18446744073709551616) :
    Calls Try.prog 57 #[.int .u64 t, .int .i64 n] w fun e w' => e = .returned (.int .i64 (slot t n : Nat)) ∧ w' = w := by
  have HB := Lib.hid (block_spec w t n hn)
  have ha := and63 (blk t n) (by have := blk_le t n; omega)
  have HS : Hid (slot t n = blk t n % 64) := Lib.hid rfl
  rw [HS.out]
  have hlt := Nat.mod_lt (blk t n) (show 64 > 0 by decide)
  generalize blk t n = B at *
  go_enter Try.func57, Try.ntmps57
  go_wp2_with fail
  refine HB.out.mono ?_
  rintro e w1 ⟨rfl, rfl⟩
  go_wp2_with fail
  go_ret
  exact ⟨rfl, rfl⟩

theorem blk_xor (a b n : Nat) : blk (a ^^^ b) n = blk a n ^^^ blk b n := by
  unfold blk
  rw [pow64]
  simp only [← Nat.shiftRight_eq_div_pow, Nat.shiftRight_xor_distrib]
theorem blk_xor_zero (a b n : Nat) : blk (a ^^^ b) n = 0 ↔ blk a n = blk b n := by
  rw [blk_xor]
  constructor
  · intro h
    have : (blk a n ^^^ blk b n) ^^^ blk b n = blk a n := by rw [Nat.xor_assoc, Nat.xor_self, Nat.xor_zero]
    rw [h, Nat.zero_xor] at this
    exact this.symm
  · intro h; rw [h, Nat.xor_self]
set_option maxHeartbeats 1000000 in
theorem level_spec (w : World) (a b : Nat) (ha : a < 18446744073709551616) (hb : b < 18446744073709551616) :
    Calls Try.prog 61 #[.int .u64 a, .int .u64 b] w fun e w' => e = .returned (.int .i64 (lvl a b : Nat)) ∧ w' = w := by
  have hx := bits_xor_u64_nat a b ha hb
  have hlt : a ^^^ b < 18446744073709551616 := Nat.xor_lt_two_pow (n := 64) ha hb
  have HZ := Lib.hid (blk_xor_zero a b)
  generalize a ^^^ b = x at *
  have HB := Lib.hid (fun (n : Nat) (hn : n ≤ 5) => block_spec w x n hn)
  have HL : Hid (∀ _n : Nat, lvl a b = if blk x 1 = 0 then 0 else if blk x 2 = 0 then 1 else if blk x 3 = 0 then 2 else if blk x 4 = 0 then 3 else 4) := Lib.hid (fun _ => by
    unfold lvl
    simp only [HZ.out])
  go_enter Try.func61, Try.ntmps61
  go_wp2_with fail
  go_loopw [5] (fun v wr => ∃ n : Nat, n ≤ 4 ∧ v = .int .i64 n ∧ wr = w ∧ Hid (∀ m, 1 ≤ m → m ≤ n → blk x m ≠ 0)) (fun v _ => 4 - (intOf v).toNat)
  case atStart => exact ⟨0, by omega, rfl, by trivial, Lib.hid (fun m h1 h2 => by omega)⟩
  case round =>
    obtain ⟨n, hn, rfl, rfl, HN⟩ := hrel
    by_cases h4 : n < 4
    · have hc := HB.out (n + 1) (by omega)
      rw [show ((n + 1 : Nat) : Int) = (n : Int) + 1 by omega] at hc
      have HC := Lib.hid hc
      have HN2 := Lib.hid (fun (h : blk x (n + 1) ≠ 0) => (fun m h1 h2 => if e : m = n + 1 then e ▸ h else HN.out m h1 (by omega) : ∀ m, 1 ≤ m → m ≤ n + 1 → blk x m ≠ 0))
      have HE : Hid (blk x (n + 1) = 0 → lvl a b = n) := Lib.hid (fun h => by
        rw [HL.out 0]
        have k := HN.out
        match n, h4, h, k with
        | 0, _, h, _ => rw [if_pos h]
        | 1, _, h, k => rw [if_neg (k 1 (by omega) (by omega)), if_pos h]
        | 2, _, h, k => rw [if_neg (k 1 (by omega) (by omega)), if_neg (k 2 (by omega) (by omega)), if_pos h]
        | 3, _, h, k => rw [if_neg (k 1 (by omega) (by omega)), if_neg (k 2 (by omega) (by omega)), if_neg (k 3 (by omega) (by omega)), if_pos h])
      generalize blk x (n + 1) = B at *
      clear hc
      go_wp2_with fail
      refine HC.out.mono ?_
      rintro e w1 ⟨rfl, rfl⟩
      by_cases hB : B = 0
      · have HV := Lib.hid (HE.out hB)
        clear HE HN2
        subst hB
        go_wp2_with fail
        go_ret
        exact ⟨by rw [HV.out]; rfl, by trivial⟩
      · have hB' : ((B : Int) == 0) = false := by simpa using hB
        have HN2 := Lib.hid (HN2.out hB)
        clear hB
        go_wp2_with fail
        go_roundw
        case rel => exact ⟨n + 1, by omega, by go_num, by trivial, HN2⟩
        case measure => simp [intOf]; omega
    · obtain rfl : n = 4 := by omega
      have e : lvl a b = 4 := by
        rw [HL.out 0]
        have k := HN.out
        rw [if_neg (k 1 (by omega) (by omega)), if_neg (k 2 (by omega) (by omega)), if_neg (k 3 (by omega) (by omega)), if_neg (k 4 (by omega) (by omega))]
      go_wp2_with fail
      go_ret
      exact ⟨by rw [e]; rfl, by trivial⟩
end Go.Proofs.Ytibnhfnidgfenaa
