/-
  run and wait of porpoiseref10: one more in a list of the document's bulk.
-/
import Derived.Test.YthbhkmhmiplikaaRef10
namespace Go.Proofs.Ythbhkmhmiplikaa
open Go.RowKit

theorem owns_empty' {w : World} {g : Nat} (hg : w.heap.size = g) (base : Nat) (E : TypeId) (size : Nat) (h : base ≤ w.heap.size) : (w.alloc (.cells #[] E)).ownsRow base E size (.slice (some ⟨g, 0, none⟩) 0 0) 0 [] := by
  subst hg; exact owns_empty w base E size h
theorem Src.one' {w : World} {g : Nat} (hg : w.heap.size = g) (E : TypeId) (v : Value) (hv : v.oneCell' = true) : Src (w.alloc (.cells #[v] E)) 1 (.slice (some ⟨g, 0, none⟩) 1 1) 1 [v] := by
  subst hg; exact Src.one w E v hv
/-- A block of four cells. -/
theorem four {w : World} {b : Nat} {x0 x1 x2 x3 : Value} {E : TypeId} (h : w.heap[b]? = some (.cells #[x0, x1, x2, x3] E (0, 0))) :
    w.cell? ⟨b, 0, none⟩ = some x0 ∧ w.cell? ⟨b, 1, none⟩ = some x1 ∧ w.cell? ⟨b, 2, none⟩ = some x2 ∧ w.cell? ⟨b, 3, none⟩ = some x3 ∧ ∀ i, w.frozen? ⟨b, i, none⟩ = false :=
  ⟨by rw [cell_of_block h]; rfl, by rw [cell_of_block h]; rfl, by rw [cell_of_block h]; rfl, by rw [cell_of_block h]; rfl, free_of_block h⟩

theorem ownsForm {w : World} {base : Nat} {e : TypeId} {size : Nat} {v : Value} {n : Nat} {xs : List Value} (h : w.ownsRow base e size v n xs) : ∃ ao cap, v = .slice ao n cap := by
  rcases h.2 with ⟨rfl, rfl⟩ | ⟨g, cap, _, rfl, _⟩
  · exact ⟨none, 0, rfl⟩
  · exact ⟨_, cap, rfl⟩

def boxB (m q : Nat) (vr vw : Value) : Obj := .cells #[.int .i64 m, .int .i64 q, vr, vw] 49
def zeroB : Obj := .cells #[.int .i64 0, .int .i64 0, .slice none 0 0, .slice none 0 0] 49

set_option maxHeartbeats 2000000 in
theorem ref10_run {w : World} {vr : Value} {hs : List Int} {m q : Nat} (hr : RdInts w vr hs) (aw : Option Addr) (nw cw : Nat) (hl : hs.length ≤ 1000) (x : Int) :
    Calls Try.prog 56 #[.agg #[.int .i64 m, .int .i64 q, vr, .slice aw nw cw], .int .i64 x] w fun e w' => ∃ vr', e = .returned (.agg #[.int .i64 m, .int .i64 q, vr', .slice aw nw cw]) ∧ Lst w' w.heap.size vr' (hs ++ [x]) ∧ Fr [] w w' := by
  obtain ⟨i0, hi, hz0, hz1, hz2⟩ := info_parts Try.info_int
  obtain ⟨ar, cr, rfl, _, _, _⟩ := id hr
  generalize hvr : Value.slice ar hs.length cr = vr at *
  generalize hvw : Value.slice aw nw cw = vw at *
  obtain ⟨W2, hW2⟩ : ∃ W2, W2 = (w.alloc (boxB m q vr vw)).alloc zeroB := ⟨_, rfl⟩
  have F2 : Fr [] w W2 := by rw [hW2]; exact ((Fr.refl _ _).alloc _).alloc _
  have s2 : W2.heap.size = w.heap.size + 1 + 1 := by rw [hW2]; simp
  have B2 : W2.heap[w.heap.size]? = some (boxB m q vr vw) := by rw [hW2]; exact block_alloc (block_alloc_new _ _) _
  have Z2 : W2.heap[w.heap.size + 1]? = some zeroB := by rw [hW2]; have := block_alloc_new (w.alloc (boxB m q vr vw)) zeroB; simpa using this
  have f3 : Fr [] W2 (W2.alloc (.cells #[] 3)) := (Fr.refl _ _).alloc _
  obtain ⟨b0, b1, b2, b3, bf⟩ := four (f3.keep B2 (by simp))
  have S3 := Lib.hid (hr.src.fr (F2.trans f3) (fun _ _ => List.not_mem_nil))
  have E3 := Lib.hid (owns_empty' s2 W2.heap.size 3 1 (Nat.le_refl _))
  have HW2 := Lib.hid hW2
  unfold boxB zeroB at HW2
  subst hvr hvw
  clear hr hW2 f3
  go_enter Try.func56, Try.ntmps56
  go_wp2_with (first
      | (rw [← HW2.out])
      | (at_builtin; refine wpList_app rfl (.tmp 6) (.tmp 8) 26 rfl W2.heap.size 3 i0 (.int .i64 0) 1 8 Try.underlying26 hi hz0 hz1 hz2 rfl (by decide) _ 0 [] rfl E3.out _ hs.length _ rfl S3.out (by unfold maxLen; omega) (by omega) (by simp) ?_; intro v1 w1 hown1 hg1; have F1 := Fr.of_grown (S := []) ((Fr.refl [] W2).alloc (.cells #[] 3)) hg1 (fun k hk => Or.inr (E3.out.lt k hk).1); have O1 := hown1; clear hown1 hg1; have hs1 := F1.size)
      | (at_builtin; refine wpList_app rfl (.tmp 10) (.tmp 12) 26 rfl W2.heap.size 3 i0 (.int .i64 0) 1 8 Try.underlying26 hi hz0 hz1 hz2 rfl (by decide) _ _ _ rfl (O1.alloc _) _ 1 _ rfl (Src.one _ _ _ rfl) (by unfold maxLen; omega) (by omega) (by simp; omega) ?_; intro v2 w2 hown2 hg2; have F3 := Fr.of_grown (S := []) (F1.alloc (.cells #[.int .i64 x] 3)) hg2 (fun k hk => Or.inr (O1.lt k hk).1); have O2 := hown2; clear hown2 hg2; simp only [Nat.zero_add, List.nil_append] at O2; obtain ⟨ao2, cap2, rfl⟩ := ownsForm O2; have F4 := F2.trans F3; obtain ⟨d0, d1, d2, d3, df⟩ := four (F3.keep B2 (by simp)); obtain ⟨z0, z1, z2, z3, zf⟩ := four (F3.keep Z2 (by simp)); have hs2 := F3.size))
  have F5 : ∀ u2 u3 u4 u5 u6 : Value, Fr [w.heap.size, w.heap.size + 1] w2 (((((w2.setCell ⟨w.heap.size, 2, none⟩ u2).setCell ⟨w.heap.size + 1, 0, none⟩ u3).setCell ⟨w.heap.size + 1, 1, none⟩ u4).setCell ⟨w.heap.size + 1, 2, none⟩ u5).setCell ⟨w.heap.size + 1, 3, none⟩ u6) :=
    fun _ _ _ _ _ => (((((Fr.refl _ _).setCell (.inl (by simp)) _).setCell (.inl (by simp)) _).setCell (.inl (by simp)) _).setCell (.inl (by simp)) _).setCell (.inl (by simp)) _
  have F6 := fun u2 u3 u4 u5 u6 => F4.trans' (F5 u2 u3 u4 u5 u6) (fun x hx => Or.inr (by simp at hx; omega))
  have O6 := fun u2 u3 u4 u5 u6 => ownsRow_fr O2 (F5 u2 u3 u4 u5 u6) (fun k hk => by have := (O2.lt k hk).1; simp; omega)
  refine bodyPost_ret (v := .agg #[.int .i64 m, .int .i64 q, .slice ao2 (hs.length + 1) cap2, .slice aw nw cw]) (by simp [results, Try.results56, go_sem, z0, z1, z2, z3]) rfl ⟨_, rfl, ?_, F6 _ _ _ _ _⟩
  · exact (Lst.of_owns' (xs := hs ++ [x]) (O6 _ _ _ _ _) (by simp) (by simp)).mono F2.size

set_option maxHeartbeats 2000000 in
theorem ref10_wait {w : World} {vw : Value} {ws : List Int} {m q : Nat} (hw : RdInts w vw ws) (ar : Option Addr) (nr cr : Nat) (hl : ws.length ≤ 1000) (x : Int) :
    Calls Try.prog 57 #[.agg #[.int .i64 m, .int .i64 q, .slice ar nr cr, vw], .int .i64 x] w fun e w' => ∃ vw', e = .returned (.agg #[.int .i64 m, .int .i64 q, .slice ar nr cr, vw']) ∧ Lst w' w.heap.size vw' (ws ++ [x]) ∧ Fr [] w w' := by
  obtain ⟨i0, hi, hz0, hz1, hz2⟩ := info_parts Try.info_int
  obtain ⟨aw, cw, rfl, _, _, _⟩ := id hw
  generalize hvr : Value.slice ar nr cr = vr at *
  generalize hvw : Value.slice aw ws.length cw = vw at *
  obtain ⟨W2, hW2⟩ : ∃ W2, W2 = (w.alloc (boxB m q vr vw)).alloc zeroB := ⟨_, rfl⟩
  have F2 : Fr [] w W2 := by rw [hW2]; exact ((Fr.refl _ _).alloc _).alloc _
  have s2 : W2.heap.size = w.heap.size + 1 + 1 := by rw [hW2]; simp
  have B2 : W2.heap[w.heap.size]? = some (boxB m q vr vw) := by rw [hW2]; exact block_alloc (block_alloc_new _ _) _
  have Z2 : W2.heap[w.heap.size + 1]? = some zeroB := by rw [hW2]; have := block_alloc_new (w.alloc (boxB m q vr vw)) zeroB; simpa using this
  have f3 : Fr [] W2 (W2.alloc (.cells #[] 3)) := (Fr.refl _ _).alloc _
  obtain ⟨b0, b1, b2, b3, bf⟩ := four (f3.keep B2 (by simp))
  have S3 := Lib.hid (hw.src.fr (F2.trans f3) (fun _ _ => List.not_mem_nil))
  have E3 := Lib.hid (owns_empty' s2 W2.heap.size 3 1 (Nat.le_refl _))
  have HW2 := Lib.hid hW2
  unfold boxB zeroB at HW2
  subst hvr hvw
  clear hw hW2 f3
  go_enter Try.func57, Try.ntmps57
  go_wp2_with (first
      | (rw [← HW2.out])
      | (at_builtin; refine wpList_app rfl (.tmp 6) (.tmp 8) 26 rfl W2.heap.size 3 i0 (.int .i64 0) 1 8 Try.underlying26 hi hz0 hz1 hz2 rfl (by decide) _ 0 [] rfl E3.out _ ws.length _ rfl S3.out (by unfold maxLen; omega) (by omega) (by simp) ?_; intro v1 w1 hown1 hg1; have F1 := Fr.of_grown (S := []) ((Fr.refl [] W2).alloc (.cells #[] 3)) hg1 (fun k hk => Or.inr (E3.out.lt k hk).1); have O1 := hown1; clear hown1 hg1; have hs1 := F1.size)
      | (at_builtin; refine wpList_app rfl (.tmp 10) (.tmp 12) 26 rfl W2.heap.size 3 i0 (.int .i64 0) 1 8 Try.underlying26 hi hz0 hz1 hz2 rfl (by decide) _ _ _ rfl (O1.alloc _) _ 1 _ rfl (Src.one _ _ _ rfl) (by unfold maxLen; omega) (by omega) (by simp; omega) ?_; intro v2 w2 hown2 hg2; have F3 := Fr.of_grown (S := []) (F1.alloc (.cells #[.int .i64 x] 3)) hg2 (fun k hk => Or.inr (O1.lt k hk).1); have O2 := hown2; clear hown2 hg2; simp only [Nat.zero_add, List.nil_append] at O2; obtain ⟨ao2, cap2, rfl⟩ := ownsForm O2; have F4 := F2.trans F3; obtain ⟨d0, d1, d2, d3, df⟩ := four (F3.keep B2 (by simp)); obtain ⟨z0, z1, z2, z3, zf⟩ := four (F3.keep Z2 (by simp)); have hs2 := F3.size))
  have F5 : ∀ u2 u3 u4 u5 u6 : Value, Fr [w.heap.size, w.heap.size + 1] w2 (((((w2.setCell ⟨w.heap.size, 3, none⟩ u2).setCell ⟨w.heap.size + 1, 0, none⟩ u3).setCell ⟨w.heap.size + 1, 1, none⟩ u4).setCell ⟨w.heap.size + 1, 2, none⟩ u5).setCell ⟨w.heap.size + 1, 3, none⟩ u6) :=
    fun _ _ _ _ _ => (((((Fr.refl _ _).setCell (.inl (by simp)) _).setCell (.inl (by simp)) _).setCell (.inl (by simp)) _).setCell (.inl (by simp)) _).setCell (.inl (by simp)) _
  have F6 := fun u2 u3 u4 u5 u6 => F4.trans' (F5 u2 u3 u4 u5 u6) (fun x hx => Or.inr (by simp at hx; omega))
  have O6 := fun u2 u3 u4 u5 u6 => ownsRow_fr O2 (F5 u2 u3 u4 u5 u6) (fun k hk => by have := (O2.lt k hk).1; simp; omega)
  refine bodyPost_ret (v := .agg #[.int .i64 m, .int .i64 q, .slice ar nr cr, .slice ao2 (ws.length + 1) cap2]) (by simp [results, Try.results57, go_sem, z0, z1, z2, z3]) rfl ⟨_, rfl, ?_, F6 _ _ _ _ _⟩
  · exact (Lst.of_owns' (xs := ws ++ [x]) (O6 _ _ _ _ _) (by simp) (by simp)).mono F2.size

end Go.Proofs.Ythbhkmhmiplikaa
