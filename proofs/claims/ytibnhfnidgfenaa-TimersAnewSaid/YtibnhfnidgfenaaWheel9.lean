/-
  first, and MinFunc by it.
-/
import Derived.Test.YtibnhfnidgfenaaWheel8
namespace Go.Proofs.Ytibnhfnidgfenaa
open Go.RowKit

def cmpI (a b : Int) : Int := if a < b then -1 else if b < a then 1 else 0
theorem compare_u64 (w : World) (a b : Int) : Calls Try.prog 64 #[.int .u64 a, .int .u64 b] w fun e w' => e = .returned (.int .i64 (cmpI a b)) ∧ w' = w := by
  unfold cmpI
  by_cases h : a < b
  · rw [if_pos h]
    go_enter Try.func64, Try.ntmps64
    go_wp2
    go_ret
    exact ⟨rfl, rfl⟩
  · rw [if_neg h]
    by_cases h2 : b < a
    · rw [if_pos h2]
      go_enter Try.func64, Try.ntmps64
      go_wp2
      go_ret
      exact ⟨rfl, rfl⟩
    · rw [if_neg h2]
      go_enter Try.func64, Try.ntmps64
      go_wp2
      go_ret
      exact ⟨rfl, rfl⟩
theorem compare_int (w : World) (a b : Int) : Calls Try.prog 65 #[.int .i64 a, .int .i64 b] w fun e w' => e = .returned (.int .i64 (cmpI a b)) ∧ w' = w := by
  unfold cmpI
  by_cases h : a < b
  · rw [if_pos h]
    go_enter Try.func65, Try.ntmps65
    go_wp2
    go_ret
    exact ⟨rfl, rfl⟩
  · rw [if_neg h]
    by_cases h2 : b < a
    · rw [if_pos h2]
      go_enter Try.func65, Try.ntmps65
      go_wp2
      go_ret
      exact ⟨rfl, rfl⟩
    · rw [if_neg h2]
      go_enter Try.func65, Try.ntmps65
      go_wp2
      go_ret
      exact ⟨rfl, rfl⟩
set_option maxHeartbeats 1000000 in
theorem or_spec (w : World) (g : Nat) (x y : Int) (h0 : w.cell? ⟨g, 0, none⟩ = some (.int .i64 x)) (h1 : w.cell? ⟨g, 1, none⟩ = some (.int .i64 y)) :
    Calls Try.prog 63 #[.slice (some ⟨g, 0, none⟩) 2 2] w fun e w' => e = .returned (.int .i64 (if x = 0 then y else x)) ∧ w' = w := by
  go_enter Try.func63, Try.ntmps63
  go_wp2
  go_loopw [8] (fun v wr => ∃ i : Nat, i ≤ 2 ∧ v = .int .i64 i ∧ w = wr ∧ (1 ≤ i → x = 0) ∧ (2 ≤ i → y = 0)) (fun v _ => 2 - (intOf v).toNat)
  case atStart => exact ⟨0, by omega, rfl, by trivial, by omega, by omega⟩
  case round =>
    obtain ⟨i, hi, rfl, rfl, hx, hy⟩ := hrel
    match i, hi, hx, hy with
    | 0, _, _, _ =>
      by_cases hz : x = 0
      · subst hz
        go_wp2
        go_roundw
        case rel => exact ⟨1, by omega, by go_num, by trivial, fun _ => by trivial, fun h => by omega⟩
        case measure => simp [intOf]
      · have hz' : (x == 0) = false := by simpa using hz
        go_wp2
        go_ret
        exact ⟨rfl, by trivial⟩
    | 1, _, hx, _ =>
      have hx0 := hx (by omega)
      subst hx0
      clear hx
      by_cases hz : y = 0
      · subst hz
        go_wp2
        go_roundw
        case rel => exact ⟨2, by omega, by go_num, by trivial, fun _ => by trivial, fun _ => by trivial⟩
        case measure => simp [intOf]
      · have hz' : (y == 0) = false := by simpa using hz
        go_wp2
        go_ret
        exact ⟨by simp, by trivial⟩
    | 2, _, hx, hy =>
      have hx0 := hx (by omega)
      have hy0 := hy (by omega)
      subst hx0 hy0
      clear hx hy
      go_wp2
      go_ret
      exact ⟨by simp, by trivial⟩

def firstI (a c : Ent) : Int := if cmpI a.due c.due = 0 then cmpI a.seq c.seq else cmpI a.due c.due
theorem firstI_neg {a c : Ent} : firstI a c < 0 ↔ Ahead a c := by
  unfold firstI cmpI Ahead
  by_cases h1 : (a.due : Int) < c.due
  · rw [if_pos h1]
    simp only [show ¬ (-1 : Int) = 0 by decide, if_false]
    constructor
    · intro _; exact .inl (by omega)
    · intro _; decide
  · rw [if_neg h1]
    by_cases h2 : (c.due : Int) < a.due
    · rw [if_pos h2]
      simp only [show ¬ (1 : Int) = 0 by decide, if_false]
      constructor
      · intro h; omega
      · intro h; omega
    · rw [if_neg h2, if_pos rfl]
      by_cases h3 : (a.seq : Int) < c.seq
      · rw [if_pos h3]
        constructor
        · intro _; exact .inr (by omega)
        · intro _; decide
      · rw [if_neg h3]
        constructor
        · intro h; split at h <;> omega
        · intro h; omega

set_option maxHeartbeats 2000000 in
set_option maxRecDepth 20000 in
theorem first_spec {w : World} {a c : Ent} (ha : w.heap[a.blk]? = some a.obj) (hc : w.heap[c.blk]? = some c.obj) :
    Calls Try.prog 59 #[.pointer (some ⟨a.blk, 0, none⟩), .pointer (some ⟨c.blk, 0, none⟩)] w fun e w' => e = .returned (.int .i64 (firstI a c)) ∧ Fr [] w w' := by
  obtain ⟨-, -, a2, a3⟩ := ent_cells ha
  obtain ⟨-, -, c2, c3⟩ := ent_cells hc
  have KS := Lib.hid (fun (w' : World) (F : Fr [] w w') => (⟨F.on a2 (by simp), F.on a3 (by simp), F.on c2 (by simp), F.on c3 (by simp)⟩ : w'.cell? ⟨a.blk, 2, none⟩ = some (.int .u64 a.due) ∧ w'.cell? ⟨a.blk, 3, none⟩ = some (.int .i64 a.seq) ∧ w'.cell? ⟨c.blk, 2, none⟩ = some (.int .u64 c.due) ∧ w'.cell? ⟨c.blk, 3, none⟩ = some (.int .i64 c.seq)))
  have HFI : Hid (firstI a c = if cmpI a.due c.due = 0 then cmpI a.seq c.seq else cmpI a.due c.due) := Lib.hid rfl
  have HC1 := Lib.hid (fun w => compare_u64 w a.due c.due)
  have HC2 := Lib.hid (fun w => compare_int w a.seq c.seq)
  rw [HFI.out]
  generalize cmpI a.due c.due = x at *
  generalize cmpI a.seq c.seq = y at *
  obtain ⟨z, hz⟩ : ∃ z, z = if x = 0 then y else x := ⟨_, rfl⟩
  have HOr : Hid (∀ (w : World) (g : Nat), w.cell? ⟨g, 0, none⟩ = some (.int .i64 x) → w.cell? ⟨g, 1, none⟩ = some (.int .i64 y) → Calls Try.prog 63 #[.slice (some ⟨g, 0, none⟩) 2 2] w fun e w' => e = .returned (.int .i64 z) ∧ w' = w) := Lib.hid (fun w g h0 h1 => by rw [hz]; exact or_spec w g x y h0 h1)
  rw [← hz]
  clear a2 a3 c2 c3 ha hc HFI hz
  go_enter Try.func59, Try.ntmps59
  go_wp2_with fail
  go_region_held3 (fun w' => w'.cell? ⟨a.blk, 2, none⟩ = some (.int .u64 a.due) ∧ w'.cell? ⟨a.blk, 3, none⟩ = some (.int .i64 a.seq) ∧ w'.cell? ⟨c.blk, 2, none⟩ = some (.int .u64 c.due) ∧ w'.cell? ⟨c.blk, 3, none⟩ = some (.int .i64 c.seq))
    (exact KS.out _ (by repeat (first | exact Fr.refl _ _ | apply Fr.drew | apply Fr.drewN | apply Fr.alloc)))
    (first
      | (go_at_call 64; refine (HC1.out _).mono ?_; rintro e w1 ⟨rfl, rfl⟩)
      | (go_at_call 65; refine (HC2.out _).mono ?_; rintro e w1 ⟨rfl, rfl⟩)
      | (go_at_call 63; refine (HOr.out _ _ (by simp) (by simp)).mono ?_; rintro e w1 ⟨rfl, rfl⟩))
  all_goals go_wp2_with fail
  all_goals go_ret
  all_goals exact ⟨rfl, by repeat (first | exact Fr.refl _ _ | apply Fr.drew | apply Fr.drewN | apply Fr.alloc)⟩
end Go.Proofs.Ytibnhfnidgfenaa
