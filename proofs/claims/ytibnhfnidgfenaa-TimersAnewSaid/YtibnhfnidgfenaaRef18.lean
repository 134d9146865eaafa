/-
  The document's clock: Set, Stop, Go, Next.
-/
import Derived.Test.YtibnhfnidgfenaaTim
namespace Go.Proofs.Ytibnhfnidgfenaa
open Go.RowKit

variable {w : World} {v : Value} {l : List On}
/-- Without a timer. -/
abbrev lessO (k : Int × Int) (l : List On) : List On := l.filter fun e => decide (e.key ≠ k)
theorem lessO_none {k : Int × Int} (h : onOf l k = none) : lessO k l = l := by
  unfold lessO
  rw [List.filter_eq_self]
  unfold onOf at h
  rw [List.find?_eq_none] at h
  intro x hx
  simpa using h x hx
theorem onOf_less (k : Int × Int) : onOf (lessO k l) k = none := by
  unfold onOf lessO
  rw [List.find?_filter, List.find?_eq_none]
  intro x _
  simp
/-- Where that lay, or from B on, below C. -/
def OwnB (B C : Nat) (v v' : Value) : Prop := ∀ g, v'.ownBlock = some g → v.ownBlock = some g ∨ (B ≤ g ∧ g < C)
theorem OwnB.trans {B C D : Nat} {v0 v1 v2 : Value} (h : OwnB B C v0 v1) (k : OwnB B D v1 v2) (hc : C ≤ D) : OwnB B D v0 v2 := fun g hg => by
  rcases k g hg with h2 | h2
  · exact (h g h2).imp id (fun h => by omega)
  · exact .inr h2
theorem OwnOf.b {w1 w2 : World} {v0 v1 : Value} (h : OwnOf w1 w2 v0 v1) {B C : Nat} (h0 : B ≤ w1.heap.size) (h1 : w2.heap.size ≤ C) : OwnB B C v0 v1 := fun g hg => (h g hg).imp id (fun h => by omega)
theorem OwnB.of {B C : Nat} {v0 v1 : Value} (h : OwnB B C v0 v1) {w1 w2 : World} (h0 : w1.heap.size ≤ B) (h1 : C ≤ w2.heap.size) : OwnOf w1 w2 v0 v1 := fun g hg => (h g hg).imp id (fun h => by omega)

theorem refcancel_any (h : Ons w v l) (hn : l.length ≤ 60000) (hk : (l.map On.key).Nodup) (now : Nat) (k1 k2 : Int) :
    Calls Try.prog 46 #[.agg #[.int .u64 now, v], .agg #[.int .i64 k1, .int .i64 k2]] w fun e w' => ∃ v', e = .returned (.tuple #[.agg #[.int .u64 now, v'], .bool (onOf l (k1, k2)).isSome]) ∧ Ons w' v' (lessO (k1, k2) l) ∧ OwnOf w w' v v' ∧ Fr [] w w' := by
  refine (refcancel_spec h hn now k1 k2).mono ?_
  rintro e w' ⟨v', l', h1, h2, h3, h4, h5, h6⟩
  refine ⟨v', h1, ?_, h3, h4⟩
  cases ho : onOf l (k1, k2) with
  | none => rw [lessO_none ho, ← h5 ho]; exact h2
  | some x =>
    obtain ⟨q1, q2⟩ := h6 x ho
    have := filter_one hk q1 q2
    rw [this] at h2
    exact h2
theorem less_len {k : Int × Int} : (lessO k l).length ≤ l.length := List.length_filter_le _ _
theorem refput_none (h : Ons w v l) (hn : l.length ≤ 60000) (now : Nat) (k1 k2 : Int) (due : Nat) (ho : onOf l (k1, k2) = none) :
    Calls Try.prog 45 #[.agg #[.int .u64 now, v], .agg #[.int .i64 k1, .int .i64 k2], .int .u64 due] w fun e w' => ∃ v', e = .returned (.tuple #[.agg #[.int .u64 now, v'], .int .i64 0]) ∧ Ons w' v' (insO ⟨k1, k2, max due now⟩ l) ∧ OwnOf w w' v v' ∧ Fr [] w w' := by
  refine (refput_spec h hn now k1 k2 due).mono ?_
  rintro e w' ⟨v', l', r, h1, h2, h3, h4, -, h6⟩
  obtain ⟨rfl, rfl⟩ := h6 ho
  exact ⟨v', h1, h2, h3, h4⟩
abbrev wbx (now : Nat) (v : Value) : Obj := .cells #[.int .u64 now, v] 44
abbrev cbox (now : Nat) (v : Value) (goal : Nat) : Obj := .cells #[.int .u64 now, v, .int .u64 goal] 61
theorem three_cells {w : World} {p : Nat} {x y z : Value} {t : TypeId} {s : Nat × Nat} (h : w.heap[p]? = some (.cells #[x, y, z] t s)) :
    w.cell? ⟨p, 0, none⟩ = some x ∧ w.cell? ⟨p, 1, none⟩ = some y ∧ w.cell? ⟨p, 2, none⟩ = some z := ⟨by rw [cell_of_block h]; rfl, by rw [cell_of_block h]; rfl, by rw [cell_of_block h]; rfl⟩

theorem set3 {w : World} {Z : Nat} {x y z : Value} {t : TypeId} {fr : Nat × Nat} (h : w.heap[Z]? = some (.cells #[x, y, z] t fr)) (a b c : Value) : (((w.setCell ⟨Z, 0, none⟩ a).setCell ⟨Z, 1, none⟩ b).setCell ⟨Z, 2, none⟩ c).heap[Z]? = some (.cells #[a, b, c] t fr) := by
  rw [block_setCell (block_setCell (block_setCell h 0 _) 1 _) 2 _]
  rfl
theorem set3_fr (w : World) (Z : Nat) (a b c : Value) : Fr [Z] w (((w.setCell ⟨Z, 0, none⟩ a).setCell ⟨Z, 1, none⟩ b).setCell ⟨Z, 2, none⟩ c) := Fr.setCell (Fr.setCell (Fr.setCell (Fr.refl _ _) (.inl (by simp)) _) (.inl (by simp)) _) (.inl (by simp)) _
set_option maxHeartbeats 4000000 in
theorem refset18 (h : Ons w v l) (hn : l.length ≤ 60000) (hk : (l.map On.key).Nodup) (hv : ∀ g, v.ownBlock = some g → g < w.heap.size) (now goal : Nat) (k1 k2 : Int) (due : Nat) :
    Calls Try.prog 49 #[.agg #[.int .u64 now, v, .int .u64 goal], .agg #[.int .i64 k1, .int .i64 k2], .int .u64 due] w fun e w' => ∃ v', e = .returned (.agg #[.int .u64 now, v', .int .u64 goal]) ∧ Ons w' v' (insO ⟨k1, k2, max due now⟩ (lessO (k1, k2) l)) ∧ OwnOf w w' v v' ∧ Fr [] w w' := by
  have HC := Lib.hid (fun (wx : World) (F : Fr [] w wx) => refcancel_any (h.fr F) hn hk now k1 k2)
  have hpl : (lessO (k1, k2) l).length ≤ 60000 := Nat.le_trans less_len hn
  have hno := onOf_less (l := l) (k1, k2)
  obtain ⟨ao, cap, rfl, -⟩ := h
  generalize lessO (k1, k2) l = l1 at *
  have HP := Lib.hid (fun (wx : World) (v1 : Value) (h1 : Ons wx v1 l1) => refput_none h1 hpl now k1 k2 due hno)
  clear hno hpl hk
  have HF0 := Lib.hid ((((Fr.refl [] w).alloc (cbox now (.slice ao l.length cap) goal)).alloc (.cells #[.int .i64 k1, .int .i64 k2] 31)).alloc (cbox 0 (.slice none 0 0) 0))
  have HB0 := Lib.hid (And.intro ((((Fr.refl [] _).alloc (.cells #[.int .i64 k1, .int .i64 k2] 31)).alloc (cbox 0 (.slice none 0 0) 0)).keep (block_alloc_new w (cbox now (.slice ao l.length cap) goal)) (by simp)) (((Fr.refl [] _).alloc (cbox 0 (.slice none 0 0) 0)).keep (block_alloc_new (w.alloc (cbox now (.slice ao l.length cap) goal)) (.cells #[.int .i64 k1, .int .i64 k2] 31)) (by simp)))
  have HZ0 := Lib.hid (block_alloc_new ((w.alloc (cbox now (.slice ao l.length cap) goal)).alloc (.cells #[.int .i64 k1, .int .i64 k2] 31)) (cbox 0 (.slice none 0 0) 0))
  rw [show (w.alloc (cbox now (.slice ao l.length cap) goal)).heap.size = w.heap.size + 1 by simp] at HB0
  rw [show ((w.alloc (cbox now (.slice ao l.length cap) goal)).alloc (.cells #[.int .i64 k1, .int .i64 k2] 31)).heap.size = w.heap.size + 2 by simp] at HZ0
  go_enter Try.func49, Try.ntmps49
  go_wp2_with fail
  refine (HC.out _ HF0.out).mono ?_
  rintro r w1 ⟨v1, rfl, h1, h2, F1⟩
  obtain ⟨a1, c1, rfl, -⟩ := id h1
  have FW := F1.trans ((Fr.refl [] w1).alloc (wbx now (.slice a1 l1.length c1)))
  obtain ⟨x0, x1, x2⟩ := three_cells (FW.keep HB0.out.1 (by simp))
  obtain ⟨y0, y1⟩ := two_cells' (FW.keep HB0.out.2 (by simp))
  obtain ⟨z0, z1, z2⟩ := three_cells (FW.keep HZ0.out (by simp))
  have hzf := free_of_block (FW.keep HZ0.out (by simp))
  have HF1 := Lib.hid (HF0.out.trans FW)
  have HW1 := Lib.hid (And.intro (FW.keep HB0.out.1 (by simp)) (FW.keep HZ0.out (by simp)))
  have HO1 := Lib.hid (OwnOf.b h2 (B := w.heap.size + 3) (C := w1.heap.size) (by simp) (Nat.le_refl _))
  have HP1 := Lib.hid (HP.out _ _ (h1.fr ((Fr.refl [] w1).alloc (wbx now (.slice a1 l1.length c1)))))
  clear F1 FW h1 h2
  simp only [wbx] at x0 x1 x2 y0 y1 z0 z1 z2 hzf
  go_wp2_with fail
  refine HP1.out.mono ?_
  rintro r w2 ⟨v2, rfl, h1, h2, F2⟩
  obtain ⟨a2, c2, rfl, -⟩ := id h1
  have FW := F2.trans ((Fr.refl [] w2).alloc (wbx now (.slice a2 (insO ⟨k1, k2, max due now⟩ l1).length c2)))
  obtain ⟨x0, x1, x2⟩ := three_cells (FW.keep HW1.out.1 (by simp))
  obtain ⟨z0, z1, z2⟩ := three_cells (FW.keep HW1.out.2 (by simp))
  have hzf := free_of_block (FW.keep HW1.out.2 (by simp))
  obtain ⟨zz0, zz1, zz2⟩ := three_cells (F2.keep HW1.out.2 (by simp))
  have hzzf := free_of_block (F2.keep HW1.out.2 (by simp))
  have HF2 := Lib.hid (HF1.out.trans FW)
  have HO2 := Lib.hid (HO1.out.trans (OwnOf.b h2 (C := w2.heap.size) (by have := lt_of_block HW1.out.2; simp at this ⊢; omega) (Nat.le_refl _)) (by have := F2.size; simp at this; omega))
  have HL2 := Lib.hid h1
  have HF2 := Lib.hid (HF1.out.trans F2)
  have HZ2 := Lib.hid (F2.keep HW1.out.2 (by simp))
  have hs1 := HF1.out.size
  have hz2 : w.heap.size + 2 < w2.heap.size := Nat.lt_of_lt_of_le (lt_of_block HW1.out.2) F2.size
  clear F2 FW h1 h2 y0 y1
  simp only [wbx] at x0 x1 x2 z0 z1 z2 hzf
  go_wp2_with fail
  have hB := ((Fr.refl [] _).alloc (wbx now (.slice a2 (insO ⟨k1, k2, max due now⟩ l1).length c2))).keep (set3 HZ2.out (.int .u64 now) (.slice a2 (insO ⟨k1, k2, max due now⟩ l1).length c2) (.int .u64 goal)) (by simp)
  have FZ := (set3_fr w2 (w.heap.size + 2) (.int .u64 now) (.slice a2 (insO ⟨k1, k2, max due now⟩ l1).length c2) (.int .u64 goal)).trans (((Fr.refl [] _).alloc (wbx now (.slice a2 (insO ⟨k1, k2, max due now⟩ l1).length c2))).mono (by simp))
  obtain ⟨s0, s1, s2⟩ := three_cells hB
  simp only [wbx] at s0 s1 s2
  refine bodyPost_ret (v := .agg #[.int .u64 now, .slice a2 (insO ⟨k1, k2, max due now⟩ l1).length c2, .int .u64 goal]) (by simp [results, Try.results49, go_sem, s0, s1, s2]) rfl ⟨_, rfl, HL2.out.frB FZ (fun g hg hm => ?_), HO2.out.of (by omega) (by simp), HF2.out.trans' FZ (fun x hx => .inr (by simp at hx; omega))⟩
  simp only [List.mem_singleton] at hm
  rcases HO2.out _ hg with h | h
  · have := hv _ h; omega
  · omega
set_option maxHeartbeats 4000000 in
theorem refstop18 (h : Ons w v l) (hn : l.length ≤ 60000) (hk : (l.map On.key).Nodup) (hv : ∀ g, v.ownBlock = some g → g < w.heap.size) (now goal : Nat) (k1 k2 : Int) :
    Calls Try.prog 50 #[.agg #[.int .u64 now, v, .int .u64 goal], .agg #[.int .i64 k1, .int .i64 k2]] w fun e w' => ∃ v', e = .returned (.tuple #[.agg #[.int .u64 now, v', .int .u64 goal], .bool (onOf l (k1, k2)).isSome]) ∧ Ons w' v' (lessO (k1, k2) l) ∧ OwnOf w w' v v' ∧ Fr [] w w' := by
  have HC := Lib.hid (fun (wx : World) (F : Fr [] w wx) => refcancel_any (h.fr F) hn hk now k1 k2)
  obtain ⟨ao, cap, rfl, -⟩ := h
  have HF0 := Lib.hid ((((Fr.refl [] w).alloc (cbox now (.slice ao l.length cap) goal)).alloc (.cells #[.int .i64 k1, .int .i64 k2] 31)).alloc (cbox 0 (.slice none 0 0) 0))
  have HB0 := Lib.hid ((((Fr.refl [] _).alloc (.cells #[.int .i64 k1, .int .i64 k2] 31)).alloc (cbox 0 (.slice none 0 0) 0)).keep (block_alloc_new w (cbox now (.slice ao l.length cap) goal)) (by simp))
  have HZ0 := Lib.hid (block_alloc_new ((w.alloc (cbox now (.slice ao l.length cap) goal)).alloc (.cells #[.int .i64 k1, .int .i64 k2] 31)) (cbox 0 (.slice none 0 0) 0))
  rw [show ((w.alloc (cbox now (.slice ao l.length cap) goal)).alloc (.cells #[.int .i64 k1, .int .i64 k2] 31)).heap.size = w.heap.size + 2 by simp] at HZ0
  clear hk
  go_enter Try.func50, Try.ntmps50
  go_wp2_with fail
  refine (HC.out _ HF0.out).mono ?_
  rintro r w2 ⟨v1, rfl, h1, h2, F1⟩
  obtain ⟨a2, c2, rfl, -⟩ := id h1
  have FW := F1.trans ((Fr.refl [] w2).alloc (wbx now (.slice a2 (lessO (k1, k2) l).length c2)))
  obtain ⟨x0, x1, x2⟩ := three_cells (FW.keep HB0.out (by simp))
  obtain ⟨z0, z1, z2⟩ := three_cells (FW.keep HZ0.out (by simp))
  have hzf := free_of_block (FW.keep HZ0.out (by simp))
  obtain ⟨zz0, zz1, zz2⟩ := three_cells (F1.keep HZ0.out (by simp))
  have hzzf := free_of_block (F1.keep HZ0.out (by simp))
  have HO2 := Lib.hid (OwnOf.b h2 (B := w.heap.size + 3) (C := w2.heap.size) (by simp) (Nat.le_refl _))
  have HL2 := Lib.hid h1
  have HF2 := Lib.hid (HF0.out.trans F1)
  have HZ2 := Lib.hid (F1.keep HZ0.out (by simp))
  have hz2 : w.heap.size + 2 < w2.heap.size := lt_of_block HZ2.out
  clear F1 FW h1 h2
  simp only [wbx] at x0 x1 x2 z0 z1 z2 hzf
  go_wp2_with fail
  have hB := ((Fr.refl [] _).alloc (wbx now (.slice a2 (lessO (k1, k2) l).length c2))).keep (set3 HZ2.out (.int .u64 now) (.slice a2 (lessO (k1, k2) l).length c2) (.int .u64 goal)) (by simp)
  have FZ := (set3_fr w2 (w.heap.size + 2) (.int .u64 now) (.slice a2 (lessO (k1, k2) l).length c2) (.int .u64 goal)).trans (((Fr.refl [] _).alloc (wbx now (.slice a2 (lessO (k1, k2) l).length c2))).mono (by simp))
  obtain ⟨s0, s1, s2⟩ := three_cells hB
  simp only [wbx] at s0 s1 s2
  refine bodyPost_ret (v := .tuple #[.agg #[.int .u64 now, .slice a2 (lessO (k1, k2) l).length c2, .int .u64 goal], .bool (onOf l (k1, k2)).isSome]) (by simp [results, Try.results50, go_sem, s0, s1, s2]) rfl ⟨_, rfl, HL2.out.frB FZ (fun g hg hm => ?_), HO2.out.of (by omega) (by simp), HF2.out.trans' FZ (fun x hx => .inr (by simp at hx; omega))⟩
  simp only [List.mem_singleton] at hm
  rcases HO2.out _ hg with h | h
  · have := hv _ h; omega
  · omega
set_option maxHeartbeats 4000000 in
theorem refgo18 (h : Ons w v l) (now goal n : Nat) (hg : goal < 18446744073709551616) (hn : n < 18446744073709551616) :
    Calls Try.prog 51 #[.agg #[.int .u64 now, v, .int .u64 goal], .int .u64 n] w fun e w' => e = .returned (.agg #[.int .u64 now, v, .int .u64 (sadd goal n : Nat)]) ∧ Fr [] w w' := by
  have HA := Lib.hid (fun wx => refadd_spec wx goal n hg hn)
  obtain ⟨ao, cap, rfl, -⟩ := h
  have HF0 := Lib.hid (((Fr.refl [] w).alloc (cbox now (.slice ao l.length cap) goal)).alloc (cbox 0 (.slice none 0 0) 0))
  have hx := three_cells ((((Fr.refl [] _).alloc (cbox 0 (.slice none 0 0) 0)).keep (block_alloc_new w (cbox now (.slice ao l.length cap) goal)) (by simp)))
  have HZ0 := Lib.hid (block_alloc_new (w.alloc (cbox now (.slice ao l.length cap) goal)) (cbox 0 (.slice none 0 0) 0))
  rw [show (w.alloc (cbox now (.slice ao l.length cap) goal)).heap.size = w.heap.size + 1 by simp] at HZ0
  obtain ⟨W, hW⟩ : ∃ W, W = (w.alloc (cbox now (.slice ao l.length cap) goal)).alloc (cbox 0 (.slice none 0 0) 0) := ⟨_, rfl⟩
  rw [← hW] at HF0 hx HZ0
  obtain ⟨x0, x1, x2⟩ := hx
  obtain ⟨z0, z1, z2⟩ := three_cells HZ0.out
  have hzf := free_of_block HZ0.out
  have HW : Hid (W = (w.alloc (.cells #[.int .u64 now, .slice ao l.length cap, .int .u64 goal] 61)).alloc (.cells #[.int .u64 0, .slice none 0 0, .int .u64 0] 61)) := Lib.hid hW
  clear hW
  clear hg hn
  go_enter Try.func51, Try.ntmps51
  go_wp2_with fail
  rw [← HW.out]
  go_region_with ((go_at_call 39; refine (HA.out _).mono ?_; rintro r w1 ⟨rfl, hw1⟩; subst hw1))
  all_goals (
    go_wp2_with fail
    obtain ⟨s0, s1, s2⟩ := three_cells (set3 HZ0.out (.int .u64 now) (.slice ao l.length cap) (.int .u64 (sadd goal n : Nat)))
    exact bodyPost_ret (v := .agg #[.int .u64 now, .slice ao l.length cap, .int .u64 (sadd goal n : Nat)]) (by simp [results, Try.results51, go_sem, s0, s1, s2]) rfl ⟨rfl, (HF0.out.trans' (set3_fr W (w.heap.size + 1) _ _ _) (fun x hx => .inr (by simp at hx; omega))).drew⟩)
set_option maxHeartbeats 4000000 in
set_option maxRecDepth 20000 in
theorem refnext18_no (h : Ons w v l) (now goal : Nat) (hno : ∀ e ∈ l, goal < e.due) :
    Calls Try.prog 52 #[.agg #[.int .u64 now, v, .int .u64 goal]] w fun e w' => e = .returned (.tuple #[.agg #[.int .u64 (max now goal : Nat), v, .int .u64 goal], .agg #[.int .i64 0, .int .i64 0], .bool false]) ∧ Fr [] w w' := by
  have HS := Lib.hid (fun (wx : World) (F : Fr [] w wx) => refstep_no (h.fr F) now goal hno)
  obtain ⟨ao, cap, rfl, -⟩ := h
  generalize max now goal = N at *
  have HF0 := Lib.hid ((((Fr.refl [] w).alloc (cbox now (.slice ao l.length cap) goal)).alloc (cbox 0 (.slice none 0 0) 0)).alloc (.cells #[.int .i64 0, .int .i64 0] 31))
  have HB0 := Lib.hid ((((Fr.refl [] _).alloc (cbox 0 (.slice none 0 0) 0)).alloc (.cells #[.int .i64 0, .int .i64 0] 31)).keep (block_alloc_new w (cbox now (.slice ao l.length cap) goal)) (by simp))
  have HZ0 := Lib.hid (((Fr.refl [] _).alloc (.cells #[.int .i64 0, .int .i64 0] 31)).keep (block_alloc_new (w.alloc (cbox now (.slice ao l.length cap) goal)) (cbox 0 (.slice none 0 0) 0)) (by simp))
  have HT0 := Lib.hid (block_alloc_new ((w.alloc (cbox now (.slice ao l.length cap) goal)).alloc (cbox 0 (.slice none 0 0) 0)) (.cells #[.int .i64 0, .int .i64 0] 31))
  rw [show (w.alloc (cbox now (.slice ao l.length cap) goal)).heap.size = w.heap.size + 1 by simp] at HZ0
  rw [show ((w.alloc (cbox now (.slice ao l.length cap) goal)).alloc (cbox 0 (.slice none 0 0) 0)).heap.size = w.heap.size + 2 by simp] at HT0
  go_enter Try.func52, Try.ntmps52
  go_wp2_with fail
  refine (HS.out _ HF0.out).mono ?_
  rintro r w1 ⟨rfl, F1⟩
  go_wp2_with fail
  obtain ⟨w9, hw9⟩ : ∃ w9, w9 = (w1.alloc (.cells #[.int .u64 N, .slice ao l.length cap] 44)).alloc (.cells #[.int .i64 0, .int .i64 0] 31) := ⟨_, rfl⟩
  have F9 : Fr [] w1 w9 := hw9 ▸ (((Fr.refl [] _).alloc _).alloc _)
  have HY9 : w9.heap[w1.heap.size]? = some (.cells #[.int .u64 N, .slice ao l.length cap] 44) := hw9 ▸ (((Fr.refl [] _).alloc _).keep (block_alloc_new w1 _) (by simp))
  have HM9 : w9.heap[w1.heap.size + 1]? = some (.cells #[.int .i64 0, .int .i64 0] 31) := by
    have := block_alloc_new (w1.alloc (.cells #[.int .u64 N, .slice ao l.length cap] 44)) (.cells #[.int .i64 0, .int .i64 0] 31)
    rw [← hw9] at this
    simpa using this
  have HZ9 := Lib.hid ((F1.trans F9).keep HZ0.out (by simp))
  have HT9 := Lib.hid ((F1.trans F9).keep HT0.out (by simp))
  obtain ⟨y0, y1⟩ := two_cells' HY9
  obtain ⟨m0, m1⟩ := two_cells' HM9
  obtain ⟨x0, x1, x2⟩ := three_cells ((F1.trans F9).keep HB0.out (by simp))
  obtain ⟨z0, z1, z2⟩ := three_cells HZ9.out
  have hzf := free_of_block HZ9.out
  obtain ⟨t0, t1⟩ := two_cells' HT9.out
  have htf := free_of_block HT9.out
  have HF9 := Lib.hid (HF0.out.trans (F1.trans F9))
  have hs1 : w.heap.size + 2 < w1.heap.size := lt_of_block (F1.keep HT0.out (by simp))
  clear F1 F9 HY9 HM9
  rw [← hw9]
  clear hw9
  go_region
  all_goals (
    go_wp2_with fail
    have hB := set3 HZ9.out (.int .u64 N) (.slice ao l.length cap) (.int .u64 goal)
    have FZ := set3_fr w9 (w.heap.size + 1) (.int .u64 N) (.slice ao l.length cap) (.int .u64 goal)
    have FT : Fr [w.heap.size + 2] (((w9.setCell ⟨w.heap.size + 1, 0, none⟩ (.int .u64 N)).setCell ⟨w.heap.size + 1, 1, none⟩ (.slice ao l.length cap)).setCell ⟨w.heap.size + 1, 2, none⟩ (.int .u64 goal)) (((((w9.setCell ⟨w.heap.size + 1, 0, none⟩ (.int .u64 N)).setCell ⟨w.heap.size + 1, 1, none⟩ (.slice ao l.length cap)).setCell ⟨w.heap.size + 1, 2, none⟩ (.int .u64 goal)).setCell ⟨w.heap.size + 2, 0, none⟩ (.int .i64 0)).setCell ⟨w.heap.size + 2, 1, none⟩ (.int .i64 0)) := Fr.setCell (Fr.setCell (Fr.refl _ _) (.inl (by simp)) _) (.inl (by simp)) _
    have hB2 := FT.keep hB (by simp)
    have hT2 : (((((w9.setCell ⟨w.heap.size + 1, 0, none⟩ (.int .u64 N)).setCell ⟨w.heap.size + 1, 1, none⟩ (.slice ao l.length cap)).setCell ⟨w.heap.size + 1, 2, none⟩ (.int .u64 goal)).setCell ⟨w.heap.size + 2, 0, none⟩ (.int .i64 0)).setCell ⟨w.heap.size + 2, 1, none⟩ (.int .i64 0)).heap[w.heap.size + 2]? = some (.cells #[.int .i64 0, .int .i64 0] 31) := by
      rw [block_setCell (block_setCell (FZ.keep HT9.out (by simp)) 0 _) 1 _]; rfl
    obtain ⟨s0, s1, s2⟩ := three_cells hB2
    obtain ⟨q0, q1⟩ := two_cells' hT2
    have FE : Fr [w.heap.size + 1, w.heap.size + 2] w9 (((((w9.setCell ⟨w.heap.size + 1, 0, none⟩ (.int .u64 N)).setCell ⟨w.heap.size + 1, 1, none⟩ (.slice ao l.length cap)).setCell ⟨w.heap.size + 1, 2, none⟩ (.int .u64 goal)).setCell ⟨w.heap.size + 2, 0, none⟩ (.int .i64 0)).setCell ⟨w.heap.size + 2, 1, none⟩ (.int .i64 0)) := (FZ.mono (fun x hx => .inl (by simp at hx; simp [hx]))).trans (FT.mono (fun x hx => .inl (by simp at hx; simp [hx])))
    refine bodyPost_ret (v := .tuple #[.agg #[.int .u64 N, .slice ao l.length cap, .int .u64 goal], .agg #[.int .i64 0, .int .i64 0], .bool false]) (by simp [results, Try.results52, go_sem, s0, s1, s2, q0, q1]) rfl ?_
    exact ⟨rfl, (HF9.out.trans' FE (fun x hx => .inr (by simp at hx; omega))).drew⟩)
set_option maxHeartbeats 4000000 in
set_option maxRecDepth 20000 in
theorem refnext18_yes {e : On} (h : Ons w v (e :: l)) (hn : l.length ≤ 60000) (now goal : Nat) (hv : ∀ g, v.ownBlock = some g → g < w.heap.size) (hyes : e.due ≤ goal) :
    Calls Try.prog 52 #[.agg #[.int .u64 now, v, .int .u64 goal]] w fun r w' => ∃ v', r = .returned (.tuple #[.agg #[.int .u64 e.due, v', .int .u64 goal], .agg #[.int .i64 e.kind, .int .i64 e.id], .bool true]) ∧ Ons w' v' l ∧ OwnOf w w' v v' ∧ Fr [] w w' := by
  have HS := Lib.hid (fun (wx : World) (F : Fr [] w wx) => refstep_yes (h.fr F) hn now goal hyes)
  obtain ⟨ao, cap, rfl, -⟩ := h
  generalize (e :: l).length = ln at *
  have HF0 := Lib.hid ((((Fr.refl [] w).alloc (cbox now (.slice ao ln cap) goal)).alloc (cbox 0 (.slice none 0 0) 0)).alloc (.cells #[.int .i64 0, .int .i64 0] 31))
  have HB0 := Lib.hid ((((Fr.refl [] _).alloc (cbox 0 (.slice none 0 0) 0)).alloc (.cells #[.int .i64 0, .int .i64 0] 31)).keep (block_alloc_new w (cbox now (.slice ao ln cap) goal)) (by simp))
  have HZ0 := Lib.hid (((Fr.refl [] _).alloc (.cells #[.int .i64 0, .int .i64 0] 31)).keep (block_alloc_new (w.alloc (cbox now (.slice ao ln cap) goal)) (cbox 0 (.slice none 0 0) 0)) (by simp))
  have HT0 := Lib.hid (block_alloc_new ((w.alloc (cbox now (.slice ao ln cap) goal)).alloc (cbox 0 (.slice none 0 0) 0)) (.cells #[.int .i64 0, .int .i64 0] 31))
  rw [show (w.alloc (cbox now (.slice ao ln cap) goal)).heap.size = w.heap.size + 1 by simp] at HZ0
  rw [show ((w.alloc (cbox now (.slice ao ln cap) goal)).alloc (cbox 0 (.slice none 0 0) 0)).heap.size = w.heap.size + 2 by simp] at HT0
  go_enter Try.func52, Try.ntmps52
  go_wp2_with fail
  refine (HS.out _ HF0.out).mono ?_
  rintro r w1 ⟨v1, rfl, h1, h2, F1⟩
  obtain ⟨a2, c2, rfl, -⟩ := id h1
  have HO := Lib.hid (And.intro h1 (OwnOf.b h2 (B := w.heap.size + 3) (C := w1.heap.size) (by simp) (Nat.le_refl _)))
  clear h1 h2
  go_wp2_with fail
  obtain ⟨w9, hw9⟩ : ∃ w9, w9 = (w1.alloc (.cells #[.int .u64 e.due, .slice a2 l.length c2] 44)).alloc (.cells #[.int .i64 e.kind, .int .i64 e.id] 31) := ⟨_, rfl⟩
  have F9 : Fr [] w1 w9 := hw9 ▸ (((Fr.refl [] _).alloc _).alloc _)
  have HY9 : w9.heap[w1.heap.size]? = some (.cells #[.int .u64 e.due, .slice a2 l.length c2] 44) := hw9 ▸ (((Fr.refl [] _).alloc _).keep (block_alloc_new w1 _) (by simp))
  have HM9 : w9.heap[w1.heap.size + 1]? = some (.cells #[.int .i64 e.kind, .int .i64 e.id] 31) := by
    have := block_alloc_new (w1.alloc (.cells #[.int .u64 e.due, .slice a2 l.length c2] 44)) (.cells #[.int .i64 e.kind, .int .i64 e.id] 31)
    rw [← hw9] at this
    simpa using this
  have HZ9 := Lib.hid ((F1.trans F9).keep HZ0.out (by simp))
  have HT9 := Lib.hid ((F1.trans F9).keep HT0.out (by simp))
  obtain ⟨y0, y1⟩ := two_cells' HY9
  obtain ⟨m0, m1⟩ := two_cells' HM9
  obtain ⟨x0, x1, x2⟩ := three_cells ((F1.trans F9).keep HB0.out (by simp))
  obtain ⟨z0, z1, z2⟩ := three_cells HZ9.out
  have hzf := free_of_block HZ9.out
  obtain ⟨t0, t1⟩ := two_cells' HT9.out
  have htf := free_of_block HT9.out
  have HF9 := Lib.hid (HF0.out.trans (F1.trans F9))
  have hs1 : w.heap.size + 2 < w1.heap.size := lt_of_block (F1.keep HT0.out (by simp))
  have HO9 := Lib.hid (HO.out.1.fr F9)
  have hs9 := F9.size
  clear F1 F9 HY9 HM9
  rw [← hw9]
  clear hw9
  go_region
  all_goals (
    go_wp2_with fail
    have hB := set3 HZ9.out (.int .u64 e.due) (.slice a2 l.length c2) (.int .u64 goal)
    have FZ := set3_fr w9 (w.heap.size + 1) (.int .u64 e.due) (.slice a2 l.length c2) (.int .u64 goal)
    have FT : Fr [w.heap.size + 2] (((w9.setCell ⟨w.heap.size + 1, 0, none⟩ (.int .u64 e.due)).setCell ⟨w.heap.size + 1, 1, none⟩ (.slice a2 l.length c2)).setCell ⟨w.heap.size + 1, 2, none⟩ (.int .u64 goal)) (((((w9.setCell ⟨w.heap.size + 1, 0, none⟩ (.int .u64 e.due)).setCell ⟨w.heap.size + 1, 1, none⟩ (.slice a2 l.length c2)).setCell ⟨w.heap.size + 1, 2, none⟩ (.int .u64 goal)).setCell ⟨w.heap.size + 2, 0, none⟩ (.int .i64 e.kind)).setCell ⟨w.heap.size + 2, 1, none⟩ (.int .i64 e.id)) := Fr.setCell (Fr.setCell (Fr.refl _ _) (.inl (by simp)) _) (.inl (by simp)) _
    have hB2 := FT.keep hB (by simp)
    have hT2 : (((((w9.setCell ⟨w.heap.size + 1, 0, none⟩ (.int .u64 e.due)).setCell ⟨w.heap.size + 1, 1, none⟩ (.slice a2 l.length c2)).setCell ⟨w.heap.size + 1, 2, none⟩ (.int .u64 goal)).setCell ⟨w.heap.size + 2, 0, none⟩ (.int .i64 e.kind)).setCell ⟨w.heap.size + 2, 1, none⟩ (.int .i64 e.id)).heap[w.heap.size + 2]? = some (.cells #[.int .i64 e.kind, .int .i64 e.id] 31) := by
      rw [block_setCell (block_setCell (FZ.keep HT9.out (by simp)) 0 _) 1 _]; rfl
    obtain ⟨s0, s1, s2⟩ := three_cells hB2
    obtain ⟨q0, q1⟩ := two_cells' hT2
    have FE : Fr [w.heap.size + 1, w.heap.size + 2] w9 (((((w9.setCell ⟨w.heap.size + 1, 0, none⟩ (.int .u64 e.due)).setCell ⟨w.heap.size + 1, 1, none⟩ (.slice a2 l.length c2)).setCell ⟨w.heap.size + 1, 2, none⟩ (.int .u64 goal)).setCell ⟨w.heap.size + 2, 0, none⟩ (.int .i64 e.kind)).setCell ⟨w.heap.size + 2, 1, none⟩ (.int .i64 e.id)) := (FZ.mono (fun x hx => .inl (by simp at hx; simp [hx]))).trans (FT.mono (fun x hx => .inl (by simp at hx; simp [hx])))
    refine bodyPost_ret (v := .tuple #[.agg #[.int .u64 e.due, .slice a2 l.length c2, .int .u64 goal], .agg #[.int .i64 e.kind, .int .i64 e.id], .bool true]) (by simp [results, Try.results52, go_sem, s0, s1, s2, q0, q1]) rfl ?_
    refine ⟨_, rfl, HO9.out.frB (FE.trans (Fr.refl _ _).drew) (fun g hg hm => ?_), HO.out.2.of (by omega) (by have := hs9; simp; omega), (HF9.out.trans' FE (fun x hx => .inr (by simp at hx; omega))).drew⟩
    simp only [List.mem_cons, List.not_mem_nil, or_false] at hm
    rcases HO.out.2 _ hg with h | h
    · have := hv _ h; omega
    · omega)
end Go.Proofs.Ytibnhfnidgfenaa
