/-
  The wheel: what holds between its calls; New, Now, Len, Due; which of two timers comes first.
-/
import Derived.Test.YtibnhfnidgfenaaWheel7
namespace Go.Proofs.Ytibnhfnidgfenaa
open Go.RowKit

/-- Comes a ahead of c? -/
def Ahead (a c : Ent) : Prop := a.due < c.due ∨ (a.due = c.due ∧ a.seq < c.seq)
/-- What holds between calls: L in the turn in which they come. -/
structure WInv (w : World) (b m1 m2 : Nat) (fp : List Nat) (now seq : Nat) (L : List Ent) (la : List ((Int × Int) × Value)) (f : Int × Int → List Nat) : Prop where
  core : Core w b m1 m2 fp now seq L la f
  all : ∀ k, look la k = (L.find? fun e => decide (e.key = k)).map fun e => ptr e.blk
  len : la.length = L.length
  at_ : ∀ p, (f p).Perm ((L.filter fun e => decide (spotI now e.due = p)).map (·.blk))
  nowlt : now < 18446744073709551616
  due : ∀ e ∈ L, now ≤ e.due ∧ e.due < 18446744073709551616
  sorted : L.Pairwise Ahead
  keys : (L.map Ent.key).Nodup
  seqs : ∀ e ∈ L, e.seq ≤ seq
  few : L.length ≤ seq
def IsWheel (w : World) (b : Nat) (fp : List Nat) (now seq : Nat) (L : List Ent) : Prop := ∃ m1 m2 la f, WInv w b m1 m2 fp now seq L la f

variable {w : World} {b : Nat} {fp : List Nat} {now seq : Nat} {L : List Ent}
theorem IsWheel.fr (h : IsWheel w b fp now seq L) {w' : World} {S : List Nat} (k : Fr S w w') (hS : ∀ x ∈ S, x ∉ fp) : IsWheel w' b fp now seq L := by
  obtain ⟨m1, m2, la, f, h⟩ := h
  exact ⟨m1, m2, la, f, { h with core := h.core.fr k hS }⟩
theorem IsWheel.fr0 (h : IsWheel w b fp now seq L) {w' : World} (k : Fr [] w w') : IsWheel w' b fp now seq L := h.fr k (by simp)
theorem IsWheel.lt (h : IsWheel w b fp now seq L) : ∀ x ∈ fp, x < w.heap.size := by
  obtain ⟨m1, m2, la, f, h⟩ := h
  exact h.core.lt
theorem IsWheel.bin (h : IsWheel w b fp now seq L) : b ∈ fp := by
  obtain ⟨m1, m2, la, f, h⟩ := h
  exact h.core.foot b (by simp [ownW])

theorem wheel_new (w : World) (now : Nat) (hn : now < 18446744073709551616) :
    Calls Try.prog 17 #[.int .u64 now] w fun e w' => ∃ b fp, e = .returned (.pointer (some ⟨b, 0, none⟩)) ∧ IsWheel w' b fp now 0 [] ∧ (∀ x ∈ fp, w.heap.size ≤ x) ∧ Fr [] w w' := by
  have hmm := @run_makeMap Try.prog
  go_enter Try.func17, Try.ntmps17
  go_wp2
  go_ret
  have F1 : Fr [] w (w.alloc (.map #[] 0)) := (Fr.refl _ _).alloc _
  have F2 := F1.alloc (.map #[] 0)
  have F3 := F2.alloc (.cells #[.int .u64 now, .int .i64 0, .map (some w.heap.size), .map (some (w.heap.size + 1))] 81)
  refine ⟨w.heap.size + 1 + 1, [w.heap.size + 1 + 1, w.heap.size, w.heap.size + 1], rfl, ⟨w.heap.size, w.heap.size + 1, [], fun _ => [], ⟨⟨?_, ?_, by simp, ⟨[], ?_, fun p => World.ownsRow_nil _ _ _ _, fun p q k h => by simp [rowAt, look, Value.ownBlock] at h, fun p k h => by simp [rowAt, look, Value.ownBlock] at h⟩, by simp [ownW]; omega, by simp [ownW], ?_⟩, fun k => rfl, rfl, fun p => by simp, hn, by simp, by simp, by simp, by simp, by simp⟩⟩, ?_, F3⟩
  · have := block_alloc_new ((w.alloc (.map #[] 0)).alloc (.map #[] 0)) (.cells #[.int .u64 now, .int .i64 0, .map (some w.heap.size), .map (some (w.heap.size + 1))] 81)
    simpa using this
  · exact ((MapKV.new enc2 w).fr ((Fr.refl [] _).alloc _) (by simp)).fr ((Fr.refl [] _).alloc _) (by simp)
  · have := (MapB.new enc2 (w.alloc (.map #[] 0))).fr ((Fr.refl [] _).alloc (.cells #[.int .u64 now, .int .i64 0, .map (some w.heap.size), .map (some (w.heap.size + 1))] 81)) (by simp)
    simpa using this
  · intro x hx
    simp at hx ⊢
    omega
  · intro x hx
    simp at hx
    omega

theorem now_nil (w : World) : Calls Try.prog 22 #[.pointer none] w fun e w' => e = .returned (.int .u64 0) ∧ w' = w := by
  go_enter Try.func22, Try.ntmps22
  go_wp2
  go_ret
  exact ⟨rfl, rfl⟩
theorem IsWheel.nowOf (h : IsWheel w b fp now seq L) : Calls Try.prog 22 #[.pointer (some ⟨b, 0, none⟩)] w fun e w' => e = .returned (.int .u64 now) ∧ w' = w := by
  obtain ⟨m1, m2, la, f, h⟩ := h
  have c0 := h.core.c0
  clear h
  go_enter Try.func22, Try.ntmps22
  go_wp2
  go_ret
  exact ⟨rfl, rfl⟩
theorem wlen_nil (w : World) : Calls Try.prog 23 #[.pointer none] w fun e w' => e = .returned (.int .i64 0) ∧ w' = w := by
  go_enter Try.func23, Try.ntmps23
  go_wp2
  go_ret
  exact ⟨rfl, rfl⟩
theorem IsWheel.lenOf (h : IsWheel w b fp now seq L) : Calls Try.prog 23 #[.pointer (some ⟨b, 0, none⟩)] w fun e w' => e = .returned (.int .i64 L.length) ∧ w' = w := by
  obtain ⟨m1, m2, la, f, h⟩ := h
  have c2 := h.core.c2
  have hl := run_len_map (ty := 3) Try.underlying78 h.core.all
  rw [h.len] at hl
  clear h
  go_enter Try.func23, Try.ntmps23
  go_wp2
  go_ret
  exact ⟨rfl, rfl⟩

/-- The timer of a key. -/
def entOf (L : List Ent) (k : Int × Int) : Option Ent := L.find? fun e => decide (e.key = k)
theorem entOf_mem {L : List Ent} {k : Int × Int} {e : Ent} (h : entOf L k = some e) : e ∈ L ∧ e.key = k :=
  ⟨List.mem_of_find?_eq_some h, by simpa using List.find?_some h⟩
theorem due_nil (w : World) (k1 k2 : Int) : Calls Try.prog 24 #[.pointer none, .agg #[.int .i64 k1, .int .i64 k2]] w fun e w' => e = .returned (.tuple #[.int .u64 0, .bool false]) ∧ Fr [] w w' := by
  go_enter Try.func24, Try.ntmps24
  go_wp2
  go_quiet (fail)
  go_wp2
  go_ret2
  exact ⟨rfl, ((Fr.refl _ _).alloc _).drewN _⟩
set_option maxHeartbeats 2000000 in
theorem IsWheel.dueOf (h : IsWheel w b fp now seq L) (k1 k2 : Int) : Calls Try.prog 24 #[.pointer (some ⟨b, 0, none⟩), .agg #[.int .i64 k1, .int .i64 k2]] w fun e w' => e = .returned (.tuple #[.int .u64 (((entOf L (k1, k2)).map (·.due)).getD 0 : Nat), .bool (entOf L (k1, k2)).isSome]) ∧ Fr [] w w' := by
  obtain ⟨m1, m2, la, f, h⟩ := h
  have F : Fr [] w (w.alloc (.cells #[.int .i64 k1, .int .i64 k2] 31)) := (Fr.refl _ _).alloc _
  have h0 := h.core.fr0 F
  have c2 := h0.c2
  have k0 : (w.alloc (.cells #[.int .i64 k1, .int .i64 k2] 31)).cell? ⟨w.heap.size, 0, none⟩ = some (.int .i64 k1) := by simp
  have k1' : (w.alloc (.cells #[.int .i64 k1, .int .i64 k2] 31)).cell? ⟨w.heap.size, 1, none⟩ = some (.int .i64 k2) := by simp
  have hl : ∀ q, (Instr.lookup 78 (.map (some m1)) (.agg #[.int .i64 k1, .int .i64 k2]) false).run Try.prog ((w.alloc (.cells #[.int .i64 k1, .int .i64 k2] 31)).drewN q) = .ok (((entOf L (k1, k2)).map fun e => ptr e.blk).getD (.pointer none)) ((w.alloc (.cells #[.int .i64 k1, .int .i64 k2] 31)).drewN q) := fun q => by
    have := run_look keyTimer Try.underlying78 zeroEnt (h0.all.drewN q) (k1, k2) false
    simp only [Bool.false_eq_true, if_false, enc2, h.all] at this
    exact this
  have HE := Lib.hid (fun (e : Ent) (he : entOf L (k1, k2) = some e) => (ent_cells (h0.ents e (entOf_mem he).1)).2.2.1)
  have HF := Lib.hid F
  clear h h0 F
  cases he : entOf L (k1, k2) with
  | none =>
    rw [he] at hl
    simp only [Option.map_none, Option.getD_none] at hl
    clear he HE
    go_enter Try.func24, Try.ntmps24
    go_wp2
    go_quiet (fail)
    go_wp2
    go_ret2
    exact ⟨rfl, HF.out.drewN _⟩
  | some e =>
    rw [he] at hl
    have hd := HE.out e he
    simp only [Option.map_some, Option.getD_some, ptr] at hl
    clear he HE
    go_enter Try.func24, Try.ntmps24
    go_wp2
    go_quiet (fail)
    go_wp2
    go_quiet (fail)
    go_wp2
    go_ret2
    exact ⟨rfl, by first | exact HF.out.drewN _ | exact (HF.out.drewN _).drewN _⟩
end Go.Proofs.Ytibnhfnidgfenaa
