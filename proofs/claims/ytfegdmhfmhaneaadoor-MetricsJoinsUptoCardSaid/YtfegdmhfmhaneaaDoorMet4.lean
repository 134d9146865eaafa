/-
  The sum of outcomes: metrics.in, metrics.Of.
-/
import Derived.Test.YtfegdmhfmhaneaaDoorOuM
import Derived.Test.YtfegdmhfmhaneaaDoorMet
import Derived.Deep.RegionHeld3
namespace Go.Proofs.YtfegdmhfmhaneaaDoor
open Go.RowKit

/-- A sum of outcomes. -/
structure Su where
  (k0 k1 k2 k3 k4 c0 c1 c2 c3 c4 : Nat)
  l : Int
def Su.vals (s : Su) : Array Value := #[.int .u64 s.k0, .int .u64 s.k1, .int .u64 s.k2, .int .u64 s.k3, .int .u64 s.k4, .int .u64 s.c0, .int .u64 s.c1, .int .u64 s.c2, .int .u64 s.c3, .int .u64 s.c4, .int .u64 s.l]
def Su.getK (s : Su) (k : Nat) : Nat := [s.k0, s.k1, s.k2, s.k3, s.k4].getD k 0
def Su.getC (s : Su) (k : Nat) : Nat := [s.c0, s.c1, s.c2, s.c3, s.c4].getD k 0
def Su.incK (s : Su) (k : Nat) : Su :=
  { s with k0 := if k = 0 then s.k0 + 1 else s.k0, k1 := if k = 1 then s.k1 + 1 else s.k1, k2 := if k = 2 then s.k2 + 1 else s.k2, k3 := if k = 3 then s.k3 + 1 else s.k3, k4 := if k = 4 then s.k4 + 1 else s.k4 }
def Su.incC (s : Su) (k : Nat) : Su :=
  { s with c0 := if k = 0 then s.c0 + 1 else s.c0, c1 := if k = 1 then s.c1 + 1 else s.c1, c2 := if k = 2 then s.c2 + 1 else s.c2, c3 := if k = 3 then s.c3 + 1 else s.c3, c4 := if k = 4 then s.c4 + 1 else s.c4 }
def Su.setL (s : Su) (x : Int) : Su := { s with l := x }
theorem Su.cellK {s : Su} {k : Nat} (h : k < 5) : s.vals[k]? = some (.int .u64 (s.getK k)) := by
  match k, h with
  | 0, _ => rfl
  | 1, _ => rfl
  | 2, _ => rfl
  | 3, _ => rfl
  | 4, _ => rfl
theorem Su.cellC {s : Su} {k : Nat} (h : k < 5) : s.vals[5 + k]? = some (.int .u64 (s.getC k)) := by
  match k, h with
  | 0, _ => rfl
  | 1, _ => rfl
  | 2, _ => rfl
  | 3, _ => rfl
  | 4, _ => rfl
theorem Su.putK {s : Su} {k : Nat} (h : k < 5) : s.vals.setIfInBounds k (.int .u64 ((s.getK k : Int) + 1)) = (s.incK k).vals := by
  match k, h with
  | 0, _ => rfl
  | 1, _ => rfl
  | 2, _ => rfl
  | 3, _ => rfl
  | 4, _ => rfl
theorem Su.putC {s : Su} {k : Nat} (h : k < 5) : s.vals.setIfInBounds (5 + k) (.int .u64 ((s.getC k : Int) + 1)) = (s.incC k).vals := by
  match k, h with
  | 0, _ => rfl
  | 1, _ => rfl
  | 2, _ => rfl
  | 3, _ => rfl
  | 4, _ => rfl
theorem Su.putL {s : Su} {x : Int} : s.vals.setIfInBounds 10 (.int .u64 x) = (s.setL x).vals := rfl

def cnt (f : Ou → Int) (l : List Ou) (k : Int) : Nat := (l.filter fun o => decide (f o = k)).length
def lastOf (l : List Ou) : Int := (l.map Ou.tm).foldl max 0
def sumOf (l : List Ou) : Su := ⟨cnt Ou.kind l 0, cnt Ou.kind l 1, cnt Ou.kind l 2, cnt Ou.kind l 3, cnt Ou.kind l 4, cnt Ou.cause l 0, cnt Ou.cause l 1, cnt Ou.cause l 2, cnt Ou.cause l 3, cnt Ou.cause l 4, lastOf l⟩
def optK (s : Su) (k : Int) : Su := if 0 ≤ k ∧ k < 5 then s.incK k.toNat else s
def optC (s : Su) (k : Int) : Su := if 0 ≤ k ∧ k < 5 then s.incC k.toNat else s
theorem cnt_le (f : Ou → Int) (l : List Ou) (k : Int) : cnt f l k ≤ l.length := List.length_filter_le _ _
theorem cnt_snoc (f : Ou → Int) (l : List Ou) (o : Ou) (k : Int) : cnt f (l ++ [o]) k = if f o = k then cnt f l k + 1 else cnt f l k := by
  unfold cnt
  rw [List.filter_append, List.length_append]
  by_cases h : f o = k <;> simp [h]
theorem optK_in {s : Su} {k : Nat} (h : k < 5) : s.incK k = optK s k := by unfold optK; rw [if_pos (by omega)]; rfl
theorem optC_in {s : Su} {k : Nat} (h : k < 5) : s.incC k = optC s k := by unfold optC; rw [if_pos (by omega)]; rfl
theorem optK_out {s : Su} {k : Int} (h : ¬ (0 ≤ k ∧ k < 5)) : s = optK s k := by unfold optK; rw [if_neg h]
theorem optC_out {s : Su} {k : Int} (h : ¬ (0 ≤ k ∧ k < 5)) : s = optC s k := by unfold optC; rw [if_neg h]
theorem optK_eq (s : Su) (k : Int) : optK s k = { s with k0 := if k = 0 then s.k0 + 1 else s.k0, k1 := if k = 1 then s.k1 + 1 else s.k1, k2 := if k = 2 then s.k2 + 1 else s.k2, k3 := if k = 3 then s.k3 + 1 else s.k3, k4 := if k = 4 then s.k4 + 1 else s.k4 } := by
  unfold optK
  by_cases h : 0 ≤ k ∧ k < 5
  · obtain ⟨n, rfl⟩ := Int.eq_ofNat_of_zero_le h.1
    rw [if_pos h]
    unfold Su.incK
    simp only [Int.toNat_natCast]
    congr 1 <;> (congr 1; exact propext (by omega))
  · rw [if_neg h, if_neg (by omega), if_neg (by omega), if_neg (by omega), if_neg (by omega), if_neg (by omega)]
theorem optC_eq (s : Su) (k : Int) : optC s k = { s with c0 := if k = 0 then s.c0 + 1 else s.c0, c1 := if k = 1 then s.c1 + 1 else s.c1, c2 := if k = 2 then s.c2 + 1 else s.c2, c3 := if k = 3 then s.c3 + 1 else s.c3, c4 := if k = 4 then s.c4 + 1 else s.c4 } := by
  unfold optC
  by_cases h : 0 ≤ k ∧ k < 5
  · obtain ⟨n, rfl⟩ := Int.eq_ofNat_of_zero_le h.1
    rw [if_pos h]
    unfold Su.incC
    simp only [Int.toNat_natCast]
    congr 1 <;> (congr 1; exact propext (by omega))
  · rw [if_neg h, if_neg (by omega), if_neg (by omega), if_neg (by omega), if_neg (by omega), if_neg (by omega)]
theorem optK_getC (s : Su) (k : Int) (j : Nat) : (optK s k).getC j = s.getC j := by rw [optK_eq]; rfl
theorem optK_l (s : Su) (k : Int) : (optK s k).l = s.l := by rw [optK_eq]
theorem optC_l (s : Su) (k : Int) : (optC s k).l = s.l := by rw [optC_eq]
theorem sumOf_snoc (l : List Ou) (o : Ou) : sumOf (l ++ [o]) = (optC (optK (sumOf l) o.kind) o.cause).setL (max (lastOf l) o.tm) := by
  rw [optC_eq, optK_eq]
  unfold sumOf Su.setL
  simp only [cnt_snoc]
  simp [lastOf]
theorem Su.getK_le (l : List Ou) (k : Nat) : (sumOf l).getK k ≤ l.length := by
  unfold Su.getK sumOf
  match k with
  | 0 => exact cnt_le _ _ _
  | 1 => exact cnt_le _ _ _
  | 2 => exact cnt_le _ _ _
  | 3 => exact cnt_le _ _ _
  | 4 => exact cnt_le _ _ _
  | k + 5 => exact Nat.zero_le _
theorem Su.getC_le (l : List Ou) (k : Nat) : (sumOf l).getC k ≤ l.length := by
  unfold Su.getC sumOf
  match k with
  | 0 => exact cnt_le _ _ _
  | 1 => exact cnt_le _ _ _
  | 2 => exact cnt_le _ _ _
  | 3 => exact cnt_le _ _ _
  | 4 => exact cnt_le _ _ _
  | k + 5 => exact Nat.zero_le _

theorem ret_boolM {a b : Bool} (h : a = b) : Ending.returned (.bool a) = .returned (.bool b) := by rw [h]
theorem in_spec (k : Int) (w : World) : Calls Tryd.prog 25 #[.int .i64 k] w fun e w' => e = .returned (.bool (decide (0 ≤ k ∧ k < 5))) ∧ w' = w := by
  obtain ⟨d, hd⟩ : ∃ d, d = decide (0 ≤ k ∧ k < 5) := ⟨_, rfl⟩
  rw [← hd]
  by_cases h : 0 ≤ k
  · by_cases h2 : k < 5
    · have HD : Hid (d = true) := Lib.hid (by simp [hd, h, h2])
      clear hd
      go_enter Tryd.func25, Tryd.ntmps25
      go_wp2_with fail
      go_ret
      exact ⟨by rw [HD.out]; rfl, rfl⟩
    · have HD : Hid (d = false) := Lib.hid (by simp [hd, h2])
      clear hd
      go_enter Tryd.func25, Tryd.ntmps25
      go_wp2_with fail
      go_ret
      exact ⟨by rw [HD.out]; rfl, rfl⟩
  · have HD : Hid (d = false) := Lib.hid (by simp [hd, h])
    clear hd
    go_enter Tryd.func25, Tryd.ntmps25
    go_wp2_with fail
    go_ret
    exact ⟨by rw [HD.out]; rfl, rfl⟩

theorem eleven {w : World} {b : Nat} {E : TypeId} {fr : Nat × Nat} {v0 v1 v2 v3 v4 v5 v6 v7 v8 v9 v10 : Value} (h : w.heap[b]? = some (.cells #[v0, v1, v2, v3, v4, v5, v6, v7, v8, v9, v10] E fr)) :
    w.cell? ⟨b, 0, none⟩ = some v0 ∧ w.cell? ⟨b, 1, none⟩ = some v1 ∧ w.cell? ⟨b, 2, none⟩ = some v2 ∧ w.cell? ⟨b, 3, none⟩ = some v3 ∧ w.cell? ⟨b, 4, none⟩ = some v4 ∧ w.cell? ⟨b, 5, none⟩ = some v5 ∧ w.cell? ⟨b, 6, none⟩ = some v6 ∧ w.cell? ⟨b, 7, none⟩ = some v7 ∧ w.cell? ⟨b, 8, none⟩ = some v8 ∧ w.cell? ⟨b, 9, none⟩ = some v9 ∧ w.cell? ⟨b, 10, none⟩ = some v10 :=
  ⟨by rw [cell_of_block h]; rfl, by rw [cell_of_block h]; rfl, by rw [cell_of_block h]; rfl, by rw [cell_of_block h]; rfl, by rw [cell_of_block h]; rfl, by rw [cell_of_block h]; rfl, by rw [cell_of_block h]; rfl, by rw [cell_of_block h]; rfl, by rw [cell_of_block h]; rfl, by rw [cell_of_block h]; rfl, by rw [cell_of_block h]; rfl⟩
theorem free11 {w : World} {b : Nat} {c : Array Value} {E : TypeId} (h : w.heap[b]? = some (.cells c E (0, 0))) :
    w.frozen? ⟨b, 0, none⟩ = false ∧ w.frozen? ⟨b, 1, none⟩ = false ∧ w.frozen? ⟨b, 2, none⟩ = false ∧ w.frozen? ⟨b, 3, none⟩ = false ∧ w.frozen? ⟨b, 4, none⟩ = false ∧ w.frozen? ⟨b, 5, none⟩ = false ∧ w.frozen? ⟨b, 6, none⟩ = false ∧ w.frozen? ⟨b, 7, none⟩ = false ∧ w.frozen? ⟨b, 8, none⟩ = false ∧ w.frozen? ⟨b, 9, none⟩ = false ∧ w.frozen? ⟨b, 10, none⟩ = false :=
  ⟨free_of_block h 0, free_of_block h 1, free_of_block h 2, free_of_block h 3, free_of_block h 4, free_of_block h 5, free_of_block h 6, free_of_block h 7, free_of_block h 8, free_of_block h 9, free_of_block h 10⟩
theorem set11 {w : World} {b : Nat} {E : TypeId} {fr : Nat × Nat} {v0 v1 v2 v3 v4 v5 v6 v7 v8 v9 v10 : Value} (h : w.heap[b]? = some (.cells #[v0, v1, v2, v3, v4, v5, v6, v7, v8, v9, v10] E fr)) (u0 u1 u2 u3 u4 u5 u6 u7 u8 u9 u10 : Value) :
    (((((((((((w.setCell ⟨b, 0, none⟩ u0).setCell ⟨b, 1, none⟩ u1).setCell ⟨b, 2, none⟩ u2).setCell ⟨b, 3, none⟩ u3).setCell ⟨b, 4, none⟩ u4).setCell ⟨b, 5, none⟩ u5).setCell ⟨b, 6, none⟩ u6).setCell ⟨b, 7, none⟩ u7).setCell ⟨b, 8, none⟩ u8).setCell ⟨b, 9, none⟩ u9).setCell ⟨b, 10, none⟩ u10).heap[b]? = some (.cells #[u0, u1, u2, u3, u4, u5, u6, u7, u8, u9, u10] E fr) := by
  have h0 : (w.setCell ⟨b, 0, none⟩ u0).heap[b]? = some (.cells #[u0, v1, v2, v3, v4, v5, v6, v7, v8, v9, v10] E fr) := block_setCell h 0 u0
  have h1 : ((w.setCell ⟨b, 0, none⟩ u0).setCell ⟨b, 1, none⟩ u1).heap[b]? = some (.cells #[u0, u1, v2, v3, v4, v5, v6, v7, v8, v9, v10] E fr) := block_setCell h0 1 u1
  have h2 : (((w.setCell ⟨b, 0, none⟩ u0).setCell ⟨b, 1, none⟩ u1).setCell ⟨b, 2, none⟩ u2).heap[b]? = some (.cells #[u0, u1, u2, v3, v4, v5, v6, v7, v8, v9, v10] E fr) := block_setCell h1 2 u2
  have h3 : ((((w.setCell ⟨b, 0, none⟩ u0).setCell ⟨b, 1, none⟩ u1).setCell ⟨b, 2, none⟩ u2).setCell ⟨b, 3, none⟩ u3).heap[b]? = some (.cells #[u0, u1, u2, u3, v4, v5, v6, v7, v8, v9, v10] E fr) := block_setCell h2 3 u3
  have h4 : (((((w.setCell ⟨b, 0, none⟩ u0).setCell ⟨b, 1, none⟩ u1).setCell ⟨b, 2, none⟩ u2).setCell ⟨b, 3, none⟩ u3).setCell ⟨b, 4, none⟩ u4).heap[b]? = some (.cells #[u0, u1, u2, u3, u4, v5, v6, v7, v8, v9, v10] E fr) := block_setCell h3 4 u4
  have h5 : ((((((w.setCell ⟨b, 0, none⟩ u0).setCell ⟨b, 1, none⟩ u1).setCell ⟨b, 2, none⟩ u2).setCell ⟨b, 3, none⟩ u3).setCell ⟨b, 4, none⟩ u4).setCell ⟨b, 5, none⟩ u5).heap[b]? = some (.cells #[u0, u1, u2, u3, u4, u5, v6, v7, v8, v9, v10] E fr) := block_setCell h4 5 u5
  have h6 : (((((((w.setCell ⟨b, 0, none⟩ u0).setCell ⟨b, 1, none⟩ u1).setCell ⟨b, 2, none⟩ u2).setCell ⟨b, 3, none⟩ u3).setCell ⟨b, 4, none⟩ u4).setCell ⟨b, 5, none⟩ u5).setCell ⟨b, 6, none⟩ u6).heap[b]? = some (.cells #[u0, u1, u2, u3, u4, u5, u6, v7, v8, v9, v10] E fr) := block_setCell h5 6 u6
  have h7 : ((((((((w.setCell ⟨b, 0, none⟩ u0).setCell ⟨b, 1, none⟩ u1).setCell ⟨b, 2, none⟩ u2).setCell ⟨b, 3, none⟩ u3).setCell ⟨b, 4, none⟩ u4).setCell ⟨b, 5, none⟩ u5).setCell ⟨b, 6, none⟩ u6).setCell ⟨b, 7, none⟩ u7).heap[b]? = some (.cells #[u0, u1, u2, u3, u4, u5, u6, u7, v8, v9, v10] E fr) := block_setCell h6 7 u7
  have h8 : (((((((((w.setCell ⟨b, 0, none⟩ u0).setCell ⟨b, 1, none⟩ u1).setCell ⟨b, 2, none⟩ u2).setCell ⟨b, 3, none⟩ u3).setCell ⟨b, 4, none⟩ u4).setCell ⟨b, 5, none⟩ u5).setCell ⟨b, 6, none⟩ u6).setCell ⟨b, 7, none⟩ u7).setCell ⟨b, 8, none⟩ u8).heap[b]? = some (.cells #[u0, u1, u2, u3, u4, u5, u6, u7, u8, v9, v10] E fr) := block_setCell h7 8 u8
  have h9 : ((((((((((w.setCell ⟨b, 0, none⟩ u0).setCell ⟨b, 1, none⟩ u1).setCell ⟨b, 2, none⟩ u2).setCell ⟨b, 3, none⟩ u3).setCell ⟨b, 4, none⟩ u4).setCell ⟨b, 5, none⟩ u5).setCell ⟨b, 6, none⟩ u6).setCell ⟨b, 7, none⟩ u7).setCell ⟨b, 8, none⟩ u8).setCell ⟨b, 9, none⟩ u9).heap[b]? = some (.cells #[u0, u1, u2, u3, u4, u5, u6, u7, u8, u9, v10] E fr) := block_setCell h8 9 u9
  have h10 : (((((((((((w.setCell ⟨b, 0, none⟩ u0).setCell ⟨b, 1, none⟩ u1).setCell ⟨b, 2, none⟩ u2).setCell ⟨b, 3, none⟩ u3).setCell ⟨b, 4, none⟩ u4).setCell ⟨b, 5, none⟩ u5).setCell ⟨b, 6, none⟩ u6).setCell ⟨b, 7, none⟩ u7).setCell ⟨b, 8, none⟩ u8).setCell ⟨b, 9, none⟩ u9).setCell ⟨b, 10, none⟩ u10).heap[b]? = some (.cells #[u0, u1, u2, u3, u4, u5, u6, u7, u8, u9, u10] E fr) := block_setCell h9 10 u10
  exact h10
theorem fr11 {a w : World} {b : Nat} (h : Fr [] a w) (hb : a.heap.size ≤ b) (u0 u1 u2 u3 u4 u5 u6 u7 u8 u9 u10 : Value) : Fr [] a (((((((((((w.setCell ⟨b, 0, none⟩ u0).setCell ⟨b, 1, none⟩ u1).setCell ⟨b, 2, none⟩ u2).setCell ⟨b, 3, none⟩ u3).setCell ⟨b, 4, none⟩ u4).setCell ⟨b, 5, none⟩ u5).setCell ⟨b, 6, none⟩ u6).setCell ⟨b, 7, none⟩ u7).setCell ⟨b, 8, none⟩ u8).setCell ⟨b, 9, none⟩ u9).setCell ⟨b, 10, none⟩ u10) :=
  (Fr.setCell (Fr.setCell (Fr.setCell (Fr.setCell (Fr.setCell (Fr.setCell (Fr.setCell (Fr.setCell (Fr.setCell (Fr.setCell (Fr.setCell h (.inr hb) u0) (.inr hb) u1) (.inr hb) u2) (.inr hb) u3) (.inr hb) u4) (.inr hb) u5) (.inr hb) u6) (.inr hb) u7) (.inr hb) u8) (.inr hb) u9) (.inr hb) u10)
abbrev sum0 : Obj := .cells #[.int .u64 0, .int .u64 0, .int .u64 0, .int .u64 0, .int .u64 0, .int .u64 0, .int .u64 0, .int .u64 0, .int .u64 0, .int .u64 0, .int .u64 0] 37
set_option maxHeartbeats 4000000 in
set_option maxRecDepth 20000 in
theorem of_spec {w : World} {v : Value} {l : List Ou} (hl : Ous w 0 v l) (h63 : l.length ≤ 9223372036854775807) :
    Calls Tryd.prog 15 #[v] w fun e w' => e = .returned (.agg (sumOf l).vals) ∧ Fr [] w w' := by
  obtain ⟨ao, cap, rfl, hcap, -, hA⟩ := hl
  have HA := Lib.hid hA
  clear hA
  have HI := Lib.hid (fun (wx : World) (k : Int) => in_spec k wx)
  have HB := Lib.hid (block_alloc_new (w.alloc sum0) sum0)
  have HB0 := Lib.hid (((Fr.refl [] _).alloc sum0).keep (block_alloc_new w sum0) (by simp))
  have HF := Lib.hid (((Fr.refl [] w).alloc sum0).alloc sum0)
  have hsz : ((w.alloc sum0).alloc sum0).heap.size = w.heap.size + 2 := by simp
  obtain ⟨W, hW⟩ : ∃ W, W = (w.alloc sum0).alloc sum0 := ⟨_, rfl⟩
  rw [← hW] at HB HB0 HF hsz
  rw [World.size_alloc] at HB
  have HW := Lib.hid hW
  clear hW
  go_enter Tryd.func15, Tryd.ntmps15
  go_wp2_with fail
  rw [← HW.out]
  go_loopw [8] (fun x wr => ∃ i : Nat, i ≤ l.length ∧ x = .int .i64 i ∧ Hid (wr.heap[w.heap.size + 1]? = some (.cells (sumOf (l.take i)).vals 37)) ∧ Hid (wr.heap[w.heap.size]? = some sum0) ∧ Hid (Fr [] w wr) ∧ w.heap.size + 2 ≤ wr.heap.size) (fun x _ => l.length - (Go.RowKit.intOf x).toNat)
  case atStart => exact ⟨0, by omega, rfl, HB, HB0, HF, by omega⟩
  case round =>
    obtain ⟨i, hi, rfl, HBi, HB0i, HFi, hszi⟩ := hrel
    by_cases hlt : i < l.length
    · obtain ⟨b, o, rfl, -, h5⟩ := HA.out i hlt
      have h5' := h5.fr HFi.out (by simp)
      obtain ⟨e0, e1, e2, e3, e4⟩ := h5'
      clear h5
      have b0 : (0 : Int) ≤ (i : Int) := by omega
      have b1 : (i : Int) < (l.length : Int) := by omega
      have HS := Lib.hid (sumOf_snoc (l.take i) (l.getD i default))
      rw [← take_snoc_ou hlt] at HS
      have hk0 : ∀ k, (sumOf (l.take i)).getK k < 9223372036854775808 := fun k => by have := Su.getK_le (l.take i) k; have := List.length_take_le i l; omega
      have hc0 : ∀ k, (sumOf (l.take i)).getC k < 9223372036854775808 := fun k => by have := Su.getC_le (l.take i) k; have := List.length_take_le i l; omega
      have HK0 := Lib.hid hk0
      have HC0 := Lib.hid hc0
      clear hk0 hc0
      have HLA : Hid ((sumOf (l.take i)).l = lastOf (l.take i)) := Lib.hid rfl
      generalize lastOf (l.take i) = la at *
      generalize sumOf (l.take i) = s at *
      generalize l.getD i default = E at *
      obtain ⟨eid, kind, cause, val, tm⟩ := E
      simp only at e0 e1 e2 e3 e4 HS
      go_wp2_with fail
      have HF5 := Lib.hid (HFi.out.alloc (.cells #[.int .i64 eid, .int .i64 kind, .int .i64 cause, .int .i64 val, .int .u64 tm] 35))
      have HE5 := Lib.hid (block_alloc_new wr (.cells #[.int .i64 eid, .int .i64 kind, .int .i64 cause, .int .i64 val, .int .u64 tm] 35))
      have HB5 := Lib.hid (((Fr.refl [] _).alloc (.cells #[.int .i64 eid, .int .i64 kind, .int .i64 cause, .int .i64 val, .int .u64 tm] 35)).keep HBi.out (by simp))
      have HZ5 := Lib.hid (((Fr.refl [] _).alloc (.cells #[.int .i64 eid, .int .i64 kind, .int .i64 cause, .int .i64 val, .int .u64 tm] 35)).keep HB0i.out (by simp))
      obtain ⟨W5, hW5⟩ : ∃ W5, W5 = wr.alloc (.cells #[.int .i64 eid, .int .i64 kind, .int .i64 cause, .int .i64 val, .int .u64 tm] 35) := ⟨_, rfl⟩
      have hs5 : W5.heap.size = wr.heap.size + 1 := by rw [hW5]; simp
      rw [← hW5] at HF5 HE5 HB5 HZ5 ⊢
      clear hW5 e0 e1 e2 e3 e4 HBi HFi HB0i
      have hne : w.heap.size + 1 ≠ wr.heap.size := by omega
      obtain ⟨c1, c2, c4⟩ : W5.cell? ⟨wr.heap.size, 1, none⟩ = some (.int .i64 kind) ∧ W5.cell? ⟨wr.heap.size, 2, none⟩ = some (.int .i64 cause) ∧ W5.cell? ⟨wr.heap.size, 4, none⟩ = some (.int .u64 tm) := ⟨by rw [cell_of_block HE5.out]; rfl, by rw [cell_of_block HE5.out]; rfl, by rw [cell_of_block HE5.out]; rfl⟩
      refine (HI.out _ _).mono ?_
      rintro e w6 ⟨rfl, rfl⟩
      by_cases hk : 0 ≤ kind ∧ kind < 5
      case' pos =>
        rw [decide_eq_true hk]
        obtain ⟨k, rfl⟩ := Int.eq_ofNat_of_zero_le hk.1
        have hk5 : k < 5 := by omega
        have hkb : (0 : Int) ≤ (k : Int) := hk.1
        have hkb2 : (k : Int) < 5 := hk.2
        clear hk
        have d1 : w6.cell? ⟨w.heap.size + 1, k, none⟩ = some (.int .u64 (s.getK k)) := by rw [cell_of_block HB5.out, Su.cellK hk5]
        have f1 := free_of_block HB5.out k
        have hw1 : IntKind.u64.wrap ((s.getK k : Int) + 1) = (s.getK k : Int) + 1 := by have := HK0.out k; rw [IntKind.wrap_u64]; omega
        have HB6 := Lib.hid (block_setCell HB5.out k (.int .u64 ((s.getK k : Int) + 1)))
        rw [Su.putK hk5, optK_in hk5] at HB6
        have HE6 := Lib.hid (block_setCell_other HE5.out (p := ⟨w.heap.size + 1, k, none⟩) hne (.int .u64 ((s.getK k : Int) + 1)))
        have HZ6 := Lib.hid (block_setCell_other HZ5.out (p := ⟨w.heap.size + 1, k, none⟩) (by simp) (.int .u64 ((s.getK k : Int) + 1)))
        have HF6 := Lib.hid (Fr.setCell HF5.out (p := ⟨w.heap.size + 1, k, none⟩) (.inr (by simp)) (.int .u64 ((s.getK k : Int) + 1)))
        go_wp2_with fail
        obtain ⟨w7, hw7⟩ : ∃ w7, w7 = w6.setCell ⟨w.heap.size + 1, k, none⟩ (.int .u64 ((s.getK k : Int) + 1)) := ⟨_, rfl⟩
        have hs7 : w7.heap.size = wr.heap.size + 1 := by rw [hw7]; simpa using hs5
        rw [← hw7] at HB6 HE6 HZ6 HF6 ⊢
        clear hw7 hw1 d1 f1 c1 c2 c4 HB5 HE5 HZ5 HF5 hs5 hk5 hkb hkb2
        generalize (k : Int) = kind at *
      case' neg =>
        rw [decide_eq_false hk]
        have HB6 := HB5
        rw [optK_out (s := s) hk] at HB6
        have HE6 := HE5
        have HZ6 := HZ5
        have HF6 := HF5
        have hs7 := hs5
        go_wp2_with fail
        clear hk c1 c2 c4 hs5 HB5 HE5 HZ5 HF5
        generalize w6 = w7 at *
      all_goals (
        have HL7 : Hid ((optK s kind).l = la) := Lib.hid (by rw [optK_l, HLA.out])
        have HC7 : Hid (∀ k, (optK s kind).getC k < 9223372036854775808) := Lib.hid (fun k => by rw [optK_getC]; exact HC0.out k)
        generalize optK s kind = s7 at *
        clear HK0 HC0 HLA
        refine (HI.out _ _).mono ?_
        rintro e w8 ⟨rfl, rfl⟩
        obtain ⟨c2, c4⟩ : w8.cell? ⟨wr.heap.size, 2, none⟩ = some (.int .i64 cause) ∧ w8.cell? ⟨wr.heap.size, 4, none⟩ = some (.int .u64 tm) := ⟨by rw [cell_of_block HE6.out]; rfl, by rw [cell_of_block HE6.out]; rfl⟩
        by_cases hk : 0 ≤ cause ∧ cause < 5
        case' pos =>
          rw [decide_eq_true hk]
          obtain ⟨k, rfl⟩ := Int.eq_ofNat_of_zero_le hk.1
          have hk5 : k < 5 := by omega
          have hkb : (0 : Int) ≤ (k : Int) := hk.1
          have hkb2 : (k : Int) < 5 := hk.2
          clear hk
          have d1 : w8.cell? ⟨w.heap.size + 1, 5 + k, none⟩ = some (.int .u64 (s7.getC k)) := by rw [cell_of_block HB6.out, Su.cellC hk5]
          have f1 := free_of_block HB6.out (5 + k)
          have hw1 : IntKind.u64.wrap ((s7.getC k : Int) + 1) = (s7.getC k : Int) + 1 := by have := HC7.out k; rw [IntKind.wrap_u64]; omega
          have HB8 := Lib.hid (block_setCell HB6.out (5 + k) (.int .u64 ((s7.getC k : Int) + 1)))
          rw [Su.putC hk5, optC_in hk5] at HB8
          have HE8 := Lib.hid (block_setCell_other HE6.out (p := ⟨w.heap.size + 1, 5 + k, none⟩) hne (.int .u64 ((s7.getC k : Int) + 1)))
          have HZ8 := Lib.hid (block_setCell_other HZ6.out (p := ⟨w.heap.size + 1, 5 + k, none⟩) (by simp) (.int .u64 ((s7.getC k : Int) + 1)))
          have HF8 := Lib.hid (Fr.setCell HF6.out (p := ⟨w.heap.size + 1, 5 + k, none⟩) (.inr (by simp)) (.int .u64 ((s7.getC k : Int) + 1)))
          have d10 : w8.cell? ⟨w.heap.size + 1, 10, none⟩ = some (.int .u64 la) := by rw [cell_of_block HB6.out, ← HL7.out]; rfl
          have f10 := free_of_block HB6.out 10
          have n1 : ¬ 5 + k = 10 := by omega
          have n2 : ¬ k = 5 := by omega
          have n3 : ¬ 5 = k := by omega
          have hne2 : ¬ wr.heap.size = w.heap.size + 1 := by omega
          go_wp2_with fail
        case' neg =>
          have HB8 := HB6
          rw [optC_out (s := s7) hk] at HB8
          have HE8 := HE6
          have HZ8 := HZ6
          have HF8 := HF6
          rw [decide_eq_false hk]
          have d10 : w8.cell? ⟨w.heap.size + 1, 10, none⟩ = some (.int .u64 la) := by rw [cell_of_block HB6.out, ← HL7.out]; rfl
          have f10 := free_of_block HB6.out 10
          go_wp2_with fail
        all_goals (
          have HB9 := Lib.hid (block_setCell HB8.out 10 (.int .u64 (max la tm)))
          rw [Su.putL] at HB9
          refine ⟨⟨i + 1, by omega, by go_num, by rw [HS.out]; exact HB9, Lib.hid (block_setCell_other HZ8.out (by simp) _), Lib.hid (Fr.setCell HF8.out (.inr (by simp)) _), by have := hs7; simp; omega⟩, ?_⟩
          simp [Go.RowKit.intOf]
          omega))
    · obtain rfl : i = l.length := by omega
      have HD : Hid (sumOf (l.take l.length) = sumOf l) := Lib.hid (by rw [List.take_length])
      rw [HD.out] at HBi
      clear HD
      obtain ⟨⟨k0, k1, k2, k3, k4, c0, c1, c2, c3, c4, la⟩, hs⟩ : ∃ s, s = sumOf l := ⟨_, rfl⟩
      rw [← hs] at HBi
      have HSL := Lib.hid hs
      clear hs
      obtain ⟨y0, y1, y2, y3, y4, y5, y6, y7, y8, y9, y10⟩ := eleven HBi.out
      obtain ⟨z0, z1, z2, z3, z4, z5, z6, z7, z8, z9, z10⟩ := eleven HB0i.out
      obtain ⟨f0, f1, f2, f3, f4, f5, f6, f7, f8, f9, f10⟩ := free11 HB0i.out
      go_wp2_with fail
      have HB9 := set11 HB0i.out (.int .u64 k0) (.int .u64 k1) (.int .u64 k2) (.int .u64 k3) (.int .u64 k4) (.int .u64 c0) (.int .u64 c1) (.int .u64 c2) (.int .u64 c3) (.int .u64 c4) (.int .u64 la)
      have HF9 := fr11 HFi.out (Nat.le_refl _) (.int .u64 k0) (.int .u64 k1) (.int .u64 k2) (.int .u64 k3) (.int .u64 k4) (.int .u64 c0) (.int .u64 c1) (.int .u64 c2) (.int .u64 c3) (.int .u64 c4) (.int .u64 la)
      clear y0 y1 y2 y3 y4 y5 y6 y7 y8 y9 y10 z0 z1 z2 z3 z4 z5 z6 z7 z8 z9 z10 f0 f1 f2 f3 f4 f5 f6 f7 f8 f9 f10
      revert HB9 HF9
      generalize (((((((((((wr.setCell ⟨w.heap.size, 0, none⟩ (.int .u64 k0)).setCell ⟨w.heap.size, 1, none⟩ (.int .u64 k1)).setCell ⟨w.heap.size, 2, none⟩ (.int .u64 k2)).setCell ⟨w.heap.size, 3, none⟩ (.int .u64 k3)).setCell ⟨w.heap.size, 4, none⟩ (.int .u64 k4)).setCell ⟨w.heap.size, 5, none⟩ (.int .u64 c0)).setCell ⟨w.heap.size, 6, none⟩ (.int .u64 c1)).setCell ⟨w.heap.size, 7, none⟩ (.int .u64 c2)).setCell ⟨w.heap.size, 8, none⟩ (.int .u64 c3)).setCell ⟨w.heap.size, 9, none⟩ (.int .u64 c4)).setCell ⟨w.heap.size, 10, none⟩ (.int .u64 la)) = w9
      intro HB9 HF9
      obtain ⟨y0, y1, y2, y3, y4, y5, y6, y7, y8, y9, y10⟩ := eleven HB9
      refine bodyPost_ret (v := .agg #[.int .u64 k0, .int .u64 k1, .int .u64 k2, .int .u64 k3, .int .u64 k4, .int .u64 c0, .int .u64 c1, .int .u64 c2, .int .u64 c3, .int .u64 c4, .int .u64 la]) (by simp [results, Tryd.results15, go_sem, y0, y1, y2, y3, y4, y5, y6, y7, y8, y9, y10]) rfl ?_
      exact ⟨by rw [← HSL.out]; rfl, HF9⟩
end Go.Proofs.YtfegdmhfmhaneaaDoor
