/-
  Drop, Free of porpoiseref10.
-/
import Derived.Test.YthbhkmhmiplikaaRef10b
namespace Go.Proofs.Ythbhkmhmiplikaa
open Go.RowKit

set_option maxHeartbeats 2000000 in
theorem ref10_Drop {w : World} {vw : Value} {ws : List Int} {m q : Nat} (hw : RdInts w vw ws) (ar : Option Addr) (nr cr : Nat) (hl : ws.length ≤ 1000) (x : Int) :
    Calls Try.prog 47 #[.agg #[.int .i64 m, .int .i64 q, .slice ar nr cr, vw], .int .i64 x] w fun e w' => ∃ vw', e = .returned (.tuple #[.agg #[.int .i64 m, .int .i64 q, .slice ar nr cr, vw'], .bool (decide (x ∈ ws))]) ∧ Lst w' w.heap.size vw' (rem x ws) ∧ Fr [] w w' := by
  obtain ⟨aw, cw, rfl, _, _, _⟩ := id hw
  generalize hvr : Value.slice ar nr cr = vr at *
  generalize hvw : Value.slice aw ws.length cw = vw at *
  obtain ⟨W2, hW2⟩ : ∃ W2, W2 = (w.alloc (boxB m q vr vw)).alloc zeroB := ⟨_, rfl⟩
  have F2 : Fr [] w W2 := by rw [hW2]; exact ((Fr.refl _ _).alloc _).alloc _
  have s2 : W2.heap.size = w.heap.size + 1 + 1 := by rw [hW2]; simp
  have B2 : W2.heap[w.heap.size]? = some (boxB m q vr vw) := by rw [hW2]; exact block_alloc (block_alloc_new _ _) _
  have Z2 : W2.heap[w.heap.size + 1]? = some zeroB := by rw [hW2]; have := block_alloc_new (w.alloc (boxB m q vr vw)) zeroB; simpa using this
  have HR := Lib.hid (refremove_rd (hw.fr F2 (fun _ _ => List.not_mem_nil)) (by omega) x)
  have HW2 := Lib.hid hW2
  unfold boxB zeroB at HW2
  subst hvr hvw
  clear hw hW2
  go_enter Try.func47, Try.ntmps47
  go_wp2_with fail
  rw [← HW2.out]
  refine (HR.out).mono ?_
  rintro e w2 ⟨v2, rfl, V2, F3⟩
  obtain ⟨d0, d1, d2, d3, df⟩ := four (F3.keep B2 (by simp))
  obtain ⟨z0, z1, z2, z3, zf⟩ := four (F3.keep Z2 (by simp))
  have F4 := F2.trans F3
  have hs2 := F3.size
  obtain ⟨ao2, cap2, rfl, _, _, _⟩ := V2.1
  go_wp2_with fail
  have F5 : ∀ u2 u3 u4 u5 u6 : Value, Fr [w.heap.size, w.heap.size + 1] w2 (((((w2.setCell ⟨w.heap.size, 3, none⟩ u2).setCell ⟨w.heap.size + 1, 0, none⟩ u3).setCell ⟨w.heap.size + 1, 1, none⟩ u4).setCell ⟨w.heap.size + 1, 2, none⟩ u5).setCell ⟨w.heap.size + 1, 3, none⟩ u6) :=
    fun _ _ _ _ _ => (((((Fr.refl _ _).setCell (.inl (by simp)) _).setCell (.inl (by simp)) _).setCell (.inl (by simp)) _).setCell (.inl (by simp)) _).setCell (.inl (by simp)) _
  have F6 := fun u2 u3 u4 u5 u6 => F4.trans' (F5 u2 u3 u4 u5 u6) (fun x hx => Or.inr (by simp at hx; omega))
  have O6 := fun u2 u3 u4 u5 u6 => V2.fr (F5 u2 u3 u4 u5 u6) (fun k hk => by simp at hk; omega)
  refine bodyPost_ret (v := .tuple #[.agg #[.int .i64 m, .int .i64 q, .slice ar nr cr, .slice ao2 (rem x ws).length cap2], .bool (decide (x ∈ ws))]) (by simp [results, Try.results47, go_sem, z0, z1, z2, z3]) rfl ⟨_, rfl, ?_, F6 _ _ _ _ _⟩
  · exact (O6 _ _ _ _ _).mono F2.size

set_option maxHeartbeats 2000000 in
theorem ref10_Free {w : World} {vr : Value} {hs : List Int} {m q : Nat} (hr : RdInts w vr hs) (aw : Option Addr) (nw cw : Nat) (hl : hs.length ≤ 1000) (x : Int) :
    Calls Try.prog 48 #[.agg #[.int .i64 m, .int .i64 q, vr, .slice aw nw cw], .int .i64 x] w fun e w' => ∃ vr', e = .returned (.tuple #[.agg #[.int .i64 m, .int .i64 q, vr', .slice aw nw cw], .bool (decide (x ∈ hs))]) ∧ Lst w' w.heap.size vr' (rem x hs) ∧ Fr [] w w' := by
  obtain ⟨ar, cr, rfl, _, _, _⟩ := id hr
  generalize hvr : Value.slice ar hs.length cr = vr at *
  generalize hvw : Value.slice aw nw cw = vw at *
  obtain ⟨W2, hW2⟩ : ∃ W2, W2 = (w.alloc (boxB m q vr vw)).alloc zeroB := ⟨_, rfl⟩
  have F2 : Fr [] w W2 := by rw [hW2]; exact ((Fr.refl _ _).alloc _).alloc _
  have s2 : W2.heap.size = w.heap.size + 1 + 1 := by rw [hW2]; simp
  have B2 : W2.heap[w.heap.size]? = some (boxB m q vr vw) := by rw [hW2]; exact block_alloc (block_alloc_new _ _) _
  have Z2 : W2.heap[w.heap.size + 1]? = some zeroB := by rw [hW2]; have := block_alloc_new (w.alloc (boxB m q vr vw)) zeroB; simpa using this
  have HR := Lib.hid (refremove_rd (hr.fr F2 (fun _ _ => List.not_mem_nil)) (by omega) x)
  have HW2 := Lib.hid hW2
  unfold boxB zeroB at HW2
  subst hvr hvw
  clear hr hW2
  go_enter Try.func48, Try.ntmps48
  go_wp2_with fail
  rw [← HW2.out]
  refine (HR.out).mono ?_
  rintro e w2 ⟨v2, rfl, V2, F3⟩
  obtain ⟨d0, d1, d2, d3, df⟩ := four (F3.keep B2 (by simp))
  obtain ⟨z0, z1, z2, z3, zf⟩ := four (F3.keep Z2 (by simp))
  have F4 := F2.trans F3
  have hs2 := F3.size
  obtain ⟨ao2, cap2, rfl, _, _, _⟩ := V2.1
  go_wp2_with fail
  have F5 : ∀ u2 u3 u4 u5 u6 : Value, Fr [w.heap.size, w.heap.size + 1] w2 (((((w2.setCell ⟨w.heap.size, 2, none⟩ u2).setCell ⟨w.heap.size + 1, 0, none⟩ u3).setCell ⟨w.heap.size + 1, 1, none⟩ u4).setCell ⟨w.heap.size + 1, 2, none⟩ u5).setCell ⟨w.heap.size + 1, 3, none⟩ u6) :=
    fun _ _ _ _ _ => (((((Fr.refl _ _).setCell (.inl (by simp)) _).setCell (.inl (by simp)) _).setCell (.inl (by simp)) _).setCell (.inl (by simp)) _).setCell (.inl (by simp)) _
  have F6 := fun u2 u3 u4 u5 u6 => F4.trans' (F5 u2 u3 u4 u5 u6) (fun x hx => Or.inr (by simp at hx; omega))
  have O6 := fun u2 u3 u4 u5 u6 => V2.fr (F5 u2 u3 u4 u5 u6) (fun k hk => by simp at hk; omega)
  refine bodyPost_ret (v := .tuple #[.agg #[.int .i64 m, .int .i64 q, .slice ao2 (rem x hs).length cap2, .slice aw nw cw], .bool (decide (x ∈ hs))]) (by simp [results, Try.results48, go_sem, z0, z1, z2, z3]) rfl ⟨_, rfl, ?_, F6 _ _ _ _ _⟩
  · exact (O6 _ _ _ _ _).mono F2.size

end Go.Proofs.Ythbhkmhmiplikaa
