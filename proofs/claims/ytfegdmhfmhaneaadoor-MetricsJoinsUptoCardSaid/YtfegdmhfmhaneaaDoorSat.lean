/-
  Sums that do not go over: Add of package sat and of the document.
-/
import Derived.Test.YtfegdmhfmhaneaaDoorBase
import Derived.IntWalk
namespace Go.Proofs.YtfegdmhfmhaneaaDoor
open Go.RowKit

/-- Two numbers together, at most the greatest one. -/
def sadd (a b : Nat) : Nat := min (a + b) 18446744073709551615
theorem sadd_lt (a b : Nat) : sadd a b < 18446744073709551616 := by unfold sadd; omega
theorem sadd_le (a b : Nat) (ha : a < 18446744073709551616) : a ≤ sadd a b := by unfold sadd; omega

theorem ret_u64 {a b : Int} (h : a = b) : Ending.returned (.int .u64 a) = .returned (.int .u64 b) := by rw [h]
theorem satadd_spec (w : World) (a b : Nat) (ha : a < 18446744073709551616) :
    Calls Tryd.prog 32 #[.int .u64 a, .int .u64 b] w fun e w' => e = .returned (.int .u64 (sadd a b : Nat)) ∧ w' = w := by
  obtain ⟨left, hleft⟩ : ∃ x, x = 18446744073709551615 - a := ⟨_, rfl⟩
  have hw1 : IntKind.u64.wrap (18446744073709551615 - (a : Int)) = (left : Int) := by rw [IntKind.wrap_u64]; omega
  obtain ⟨mn, hmn⟩ : ∃ x, x = min b left := ⟨_, rfl⟩
  have hw2 : (if left < b then (left : Int) else (b : Int)) = (mn : Int) := by split <;> omega
  obtain ⟨S, hS⟩ : ∃ x, x = sadd a b := ⟨_, rfl⟩
  have hw3 : IntKind.u64.wrap ((a : Int) + (mn : Int)) = (S : Int) := by rw [IntKind.wrap_u64]; unfold sadd at hS; omega
  rw [← hS]
  clear hleft hmn hS ha
  go_enter Tryd.func32, Tryd.ntmps32
  go_wp2_with fail
  go_ret
  exact ⟨rfl, rfl⟩
theorem refadd_spec (w : World) (a b : Nat) (ha : a < 18446744073709551616) (hb : b < 18446744073709551616) :
    Calls Tryd.prog 20 #[.int .u64 a, .int .u64 b] w fun e w' => e = .returned (.int .u64 (sadd a b : Nat)) ∧ w' = w := by
  obtain ⟨left, hleft⟩ : ∃ x, x = 18446744073709551615 - b := ⟨_, rfl⟩
  have hw1 : IntKind.u64.wrap (18446744073709551615 - (b : Int)) = (left : Int) := by rw [IntKind.wrap_u64]; omega
  by_cases h : left < a
  · have hs : sadd a b = 18446744073709551615 := by unfold sadd; omega
    have HS := Lib.hid hs
    clear hleft hs ha hb
    go_enter Tryd.func20, Tryd.ntmps20
    go_wp2_with fail
    go_ret
    exact ⟨by rw [HS.out]; rfl, rfl⟩
  · have hs : sadd a b = a + b := by unfold sadd; omega
    have hw3 : IntKind.u64.wrap ((a : Int) + (b : Int)) = ((a + b : Nat) : Int) := by rw [IntKind.wrap_u64]; omega
    have HS := Lib.hid hs
    clear hleft hs ha hb
    go_enter Tryd.func20, Tryd.ntmps20
    go_wp2_with fail
    go_ret
    exact ⟨ret_u64 (by rw [HS.out]; omega), rfl⟩
end Go.Proofs.YtfegdmhfmhaneaaDoor
