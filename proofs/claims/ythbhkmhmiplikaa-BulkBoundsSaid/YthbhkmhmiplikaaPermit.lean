/-
  The permits of package permit: who holds one.
-/
import Derived.Test.YthbhkmhmiplikaaKeys
import Derived.Laws.Rows
namespace Go.Proofs.Ythbhkmhmiplikaa
open Go.RowKit

theorem keyHolder : KeyOk Try.prog 85 enc2 :=
  keyOk_2 Try.underlying85 Try.underlying3 rfl rfl rfl rfl (by simp) (by simp) (by kernel_rfl)
theorem zeroBool (w : World) : (zeroValue 4).run Try.prog w = .ok (.bool false) w := by kernel_rfl

/-- A set as the entries of a map of bools. -/
def yes {α : Type} (hs : List α) : List (α × Value) := hs.map fun a => (a, .bool true)
theorem yes_keys {α : Type} (hs : List α) : (yes hs).map (·.1) = hs := by simp [yes, Function.comp_def]
theorem look_yes {α : Type} [DecidableEq α] (a : α) : ∀ hs : List α, (look (yes hs) a).getD (.bool false) = .bool (decide (a ∈ hs))
  | [] => by simp [look, yes]
  | b :: hs => by
    have ih := look_yes a hs
    simp only [look, yes, List.map_cons, List.find?_cons] at ih ⊢
    by_cases h : b = a
    · simp [h]
    · have h' : ¬ a = b := fun e => h e.symm
      simp only [h, decide_false, List.mem_cons, h', false_or]
      exact ih
theorem put_yes {α : Type} [DecidableEq α] {hs : List α} {a : α} (h : a ∉ hs) : put (yes hs) a (.bool true) = yes (hs ++ [a]) := by
  rw [put, if_neg (by rw [yes_keys]; exact h)]
  simp [yes]
theorem del_yes {α : Type} [DecidableEq α] (hs : List α) (a : α) : del (yes hs) a = yes (hs.filter fun b => decide (b ≠ a)) := by
  simp [del, yes, List.filter_map, Function.comp_def]

/-- Block s is a set of m permits, its map in block r, held by hs. -/
def IsSet (w : World) (s r : Nat) (hs : List (Int × Int)) (m : Nat) : Prop :=
  w.heap[s]? = some (.cells #[.int .i64 m, .map (some r)] 89 (0, 0)) ∧ MapKV enc2 w r (yes hs) ∧ hs.length ≤ m ∧ m ≤ 8

theorem IsSet.fr {w w' : World} {s r : Nat} {hs : List (Int × Int)} {m : Nat} (h : IsSet w s r hs m) {S : List Nat} (k : Fr S w w') (h1 : s ∉ S) (h2 : r ∉ S) : IsSet w' s r hs m :=
  ⟨k.keep h.1 h1, h.2.1.fr k h2, h.2.2⟩
theorem IsSet.dr {w w' : World} {s r : Nat} {hs : List (Int × Int)} {m : Nat} (h : IsSet w s r hs m) (k : ∃ q, w' = w.drewN q) : IsSet w' s r hs m := by obtain ⟨q, rfl⟩ := k; exact h
theorem IsSet.nodup {w : World} {s r : Nat} {hs : List (Int × Int)} {m : Nat} (h : IsSet w s r hs m) : hs.Nodup := by have := h.2.1.1; rwa [yes_keys] at this
theorem IsSet.lts {w : World} {s r : Nat} {hs : List (Int × Int)} {m : Nat} (h : IsSet w s r hs m) : s < w.heap.size := lt_of_block h.1
theorem IsSet.ltr {w : World} {s r : Nat} {hs : List (Int × Int)} {m : Nat} (h : IsSet w s r hs m) : r < w.heap.size := h.2.1.lt
theorem IsSet.ne {w : World} {s r : Nat} {hs : List (Int × Int)} {m : Nat} (h : IsSet w s r hs m) : s ≠ r := by
  intro e
  obtain ⟨_, _, _, h2, _⟩ := h.2.1
  have h1 := h.1
  rw [e, h2] at h1
  cases h1
theorem IsSet.c0 {w : World} {s r : Nat} {hs : List (Int × Int)} {m : Nat} (h : IsSet w s r hs m) : w.cell? ⟨s, 0, none⟩ = some (.int .i64 m) := by rw [cell_of_block h.1]; rfl
theorem IsSet.c1 {w : World} {s r : Nat} {hs : List (Int × Int)} {m : Nat} (h : IsSet w s r hs m) : w.cell? ⟨s, 1, none⟩ = some (.map (some r)) := by rw [cell_of_block h.1]; rfl
theorem IsSet.lookup {w : World} {s r : Nat} {hs : List (Int × Int)} {m : Nat} (h : IsSet w s r hs m) (a : Int × Int) :
    (Instr.lookup 87 (.map (some r)) (enc2 a) false).run Try.prog w = .ok (.bool (decide (a ∈ hs))) w := by
  rw [run_look keyHolder Try.underlying87 zeroBool h.2.1 a false]
  simp only [Bool.false_eq_true, if_false, look_yes]
  exact congrArg (fun x => Result.ok (Value.bool x) w) (decide_eq_decide.2 Iff.rfl)

theorem used_nil (w : World) : Calls Try.prog 49 #[.pointer none] w fun e w' => e = .returned (.int .i64 0) ∧ w' = w := by
  go_enter Try.func49, Try.ntmps49
  go_wp2
  go_ret
  exact ⟨rfl, rfl⟩
theorem IsSet.used {w : World} {s r : Nat} {hs : List (Int × Int)} {m : Nat} (h : IsSet w s r hs m) :
    Calls Try.prog 49 #[.pointer (some ⟨s, 0, none⟩)] w fun e w' => e = .returned (.int .i64 hs.length) ∧ w' = w := by
  have c1 := h.c1
  have hl := run_len_map (ty := 3) Try.underlying87 h.2.1
  rw [show (yes hs).length = hs.length by simp [yes]] at hl
  clear h
  go_enter Try.func49, Try.ntmps49
  go_wp2
  go_ret
  exact ⟨rfl, rfl⟩

theorem room_nil (w : World) : Calls Try.prog 54 #[.pointer none] w fun e w' => e = .returned (.bool false) ∧ ∃ q, w' = w.drewN q := by
  go_enter Try.func54, Try.ntmps54
  go_wp2
  go_quiet (fail)
  go_wp2
  go_ret
  exact ⟨rfl, _, rfl⟩
theorem IsSet.room {w : World} {s r : Nat} {hs : List (Int × Int)} {m : Nat} (h : IsSet w s r hs m) :
    Calls Try.prog 54 #[.pointer (some ⟨s, 0, none⟩)] w fun e w' => e = .returned (.bool (decide (hs.length < m))) ∧ ∃ q, w' = w.drewN q := by
  have c0 := h.c0
  have c1 := h.c1
  have hl : ∀ q, (Builtin.len_ #[87] 3 #[.map (some r)]).run Try.prog (w.drewN q) = .ok (.int .i64 hs.length) (w.drewN q) := by
    intro q
    have := run_len_map (P := Try.prog) (ty := 3) Try.underlying87 (h.2.1.drewN q)
    rwa [show (yes hs).length = hs.length by simp [yes]] at this
  clear h
  go_enter Try.func54, Try.ntmps54
  go_wp2
  go_quiet (fail)
  go_wp2
  go_ret
  exact ⟨ret_bool (by simp), _, rfl⟩

theorem holds_nil (w : World) (a b : Int) : Calls Try.prog 50 #[.pointer none, .agg #[.int .i64 a, .int .i64 b]] w fun e w' => e = .returned (.bool false) ∧ Fr [] w w' := by
  go_enter Try.func50, Try.ntmps50
  go_wp2
  go_quiet (fail)
  go_wp2
  go_ret
  exact ⟨rfl, ((Fr.refl _ _).alloc _).drewN _⟩
theorem IsSet.holds {w : World} {s r : Nat} {hs : List (Int × Int)} {m : Nat} (h : IsSet w s r hs m) (a b : Int) :
    Calls Try.prog 50 #[.pointer (some ⟨s, 0, none⟩), .agg #[.int .i64 a, .int .i64 b]] w fun e w' => e = .returned (.bool (decide ((a, b) ∈ hs))) ∧ Fr [] w w' := by
  have F : Fr [] w (w.alloc (.cells #[.int .i64 a, .int .i64 b] 85)) := (Fr.refl _ _).alloc _
  have h0 := h.fr F (by simp) (by simp)
  have hl : ∀ q, (Instr.lookup 87 (.map (some r)) (.agg #[.int .i64 a, .int .i64 b]) false).run Try.prog ((w.alloc (.cells #[.int .i64 a, .int .i64 b] 85)).drewN q) = .ok (.bool (decide ((a, b) ∈ hs))) ((w.alloc (.cells #[.int .i64 a, .int .i64 b] 85)).drewN q) :=
    fun q => (h0.dr ⟨q, rfl⟩).lookup (a, b)
  have c1 := h0.c1
  have k0 : (w.alloc (.cells #[.int .i64 a, .int .i64 b] 85)).cell? ⟨w.heap.size, 0, none⟩ = some (.int .i64 a) := by simp
  have k1 : (w.alloc (.cells #[.int .i64 a, .int .i64 b] 85)).cell? ⟨w.heap.size, 1, none⟩ = some (.int .i64 b) := by simp
  clear h h0 F
  go_enter Try.func50, Try.ntmps50
  go_wp2
  go_quiet (fail)
  go_wp2
  go_ret
  exact ⟨rfl, ((Fr.refl _ _).alloc _).drewN _⟩

theorem keepSet {w w' : World} {s r : Nat} {hs : List (Int × Int)} {m : Nat} (h : IsSet w s r hs m) (k : Fr [r] w w') {hs' : List (Int × Int)} (hm : MapKV enc2 w' r (yes hs')) (hl : hs'.length ≤ m) : IsSet w' s r hs' m :=
  ⟨k.keep h.1 (by simpa using h.ne), hm, hl, h.2.2.2⟩

theorem IsSet.take_no {w : World} {s r : Nat} {hs : List (Int × Int)} {m : Nat} (h : IsSet w s r hs m) (a b : Int) (hno : hs.length = m ∨ (a, b) ∈ hs) :
    Calls Try.prog 53 #[.pointer (some ⟨s, 0, none⟩), .agg #[.int .i64 a, .int .i64 b]] w fun e w' => e = .returned (.bool false) ∧ Fr [] w w' := by
  have F : Fr [] w (w.alloc (.cells #[.int .i64 a, .int .i64 b] 85)) := (Fr.refl _ _).alloc _
  have h0 := h.fr F (by simp) (by simp)
  have hl : ∀ q, (Instr.lookup 87 (.map (some r)) (.agg #[.int .i64 a, .int .i64 b]) false).run Try.prog ((w.alloc (.cells #[.int .i64 a, .int .i64 b] 85)).drewN q) = .ok (.bool (decide ((a, b) ∈ hs))) ((w.alloc (.cells #[.int .i64 a, .int .i64 b] 85)).drewN q) :=
    fun q => (h0.dr ⟨q, rfl⟩).lookup (a, b)
  have hR : ∀ q, Calls Try.prog 54 #[.pointer (some ⟨s, 0, none⟩)] ((w.alloc (.cells #[.int .i64 a, .int .i64 b] 85)).drewN q) fun e w' => e = .returned (.bool (decide (hs.length < m))) ∧ ∃ n, w' = ((w.alloc (.cells #[.int .i64 a, .int .i64 b] 85)).drewN q).drewN n :=
    fun q => (h0.dr ⟨q, rfl⟩).room
  have c1 := h0.c1
  have k0 : (w.alloc (.cells #[.int .i64 a, .int .i64 b] 85)).cell? ⟨w.heap.size, 0, none⟩ = some (.int .i64 a) := by simp
  have k1 : (w.alloc (.cells #[.int .i64 a, .int .i64 b] 85)).cell? ⟨w.heap.size, 1, none⟩ = some (.int .i64 b) := by simp
  by_cases hm : hs.length < m
  · have hin : (a, b) ∈ hs := by rcases hno with h1 | h1; omega; exact h1
    rw [decide_eq_true hm] at hR
    rw [decide_eq_true hin] at hl
    have HR := Lib.hid hR
    clear h h0 F hno hm hin hR
    go_enter Try.func53, Try.ntmps53
    go_wp2
    go_quiet ((go_at_call 54; exact Calls.quiet_of (HR.out _)))
    go_wp2
    go_ret
    exact ⟨rfl, ((Fr.refl _ _).alloc _).drewN _⟩
  · rw [decide_eq_false hm] at hR
    have HR := Lib.hid hR
    clear h h0 F hno hm hR
    go_enter Try.func53, Try.ntmps53
    go_wp2
    go_quiet ((go_at_call 54; exact Calls.quiet_of (HR.out _)))
    go_wp2
    go_ret
    exact ⟨rfl, ((Fr.refl _ _).alloc _).drewN _⟩

set_option maxHeartbeats 1000000 in
theorem IsSet.take_yes {w : World} {s r : Nat} {hs : List (Int × Int)} {m : Nat} (h : IsSet w s r hs m) (a b : Int) (hm : hs.length < m) (hin : (a, b) ∉ hs) :
    Calls Try.prog 53 #[.pointer (some ⟨s, 0, none⟩), .agg #[.int .i64 a, .int .i64 b]] w fun e w' => e = .returned (.bool true) ∧ IsSet w' s r (hs ++ [(a, b)]) m ∧ Fr [r] w w' := by
  have F : Fr [r] w (w.alloc (.cells #[.int .i64 a, .int .i64 b] 85)) := (Fr.refl _ _).alloc _
  have h0 := h.fr ((Fr.refl [] w).alloc (.cells #[.int .i64 a, .int .i64 b] 85)) (by simp) (by simp)
  have hl : ∀ q, (Instr.lookup 87 (.map (some r)) (.agg #[.int .i64 a, .int .i64 b]) false).run Try.prog ((w.alloc (.cells #[.int .i64 a, .int .i64 b] 85)).drewN q) = .ok (.bool (decide ((a, b) ∈ hs))) ((w.alloc (.cells #[.int .i64 a, .int .i64 b] 85)).drewN q) :=
    fun q => (h0.dr ⟨q, rfl⟩).lookup (a, b)
  have hR : ∀ q, Calls Try.prog 54 #[.pointer (some ⟨s, 0, none⟩)] ((w.alloc (.cells #[.int .i64 a, .int .i64 b] 85)).drewN q) fun e w' => e = .returned (.bool (decide (hs.length < m))) ∧ ∃ n, w' = ((w.alloc (.cells #[.int .i64 a, .int .i64 b] 85)).drewN q).drewN n :=
    fun q => (h0.dr ⟨q, rfl⟩).room
  have c1 := h0.c1
  have k0 : (w.alloc (.cells #[.int .i64 a, .int .i64 b] 85)).cell? ⟨w.heap.size, 0, none⟩ = some (.int .i64 a) := by simp
  have k1 : (w.alloc (.cells #[.int .i64 a, .int .i64 b] 85)).cell? ⟨w.heap.size, 1, none⟩ = some (.int .i64 b) := by simp
  rw [decide_eq_true hm] at hR
  rw [decide_eq_false hin] at hl
  have HR := Lib.hid hR
  have H0 := Lib.hid h0
  have HF := Lib.hid F
  have hI := Lib.hid hin
  clear h h0 F hR hin
  go_enter Try.func53, Try.ntmps53
  go_wp2
  go_quiet ((go_at_call 54; exact Calls.quiet_of (HR.out _)))
  go_wp2
  clear hl
  obtain ⟨w2, hu, hM, hF2⟩ := put_run keyHolder Try.underlying87 (H0.out.dr ⟨nq + 1, rfl⟩).2.1 (a, b) (.bool true)
  simp only [enc2] at hu
  have HM := Lib.hid hM
  clear hM
  go_region
  all_goals go_wp2
  all_goals go_ret
  all_goals (have e := put_yes hI.out; have hM := HM.out; rw [e] at hM)
  all_goals (have F2 : Fr [r] w w2 := (HF.out.drewN (nq + 1)).trans hF2)
  all_goals exact ⟨rfl, ⟨hF2.keep (H0.out.dr ⟨nq + 1, rfl⟩).1 (by simpa using H0.out.ne), hM, by simp; omega, H0.out.2.2.2⟩, F2⟩

theorem IsSet.free_no {w : World} {s r : Nat} {hs : List (Int × Int)} {m : Nat} (h : IsSet w s r hs m) (a b : Int) (hin : (a, b) ∉ hs) :
    Calls Try.prog 55 #[.pointer (some ⟨s, 0, none⟩), .agg #[.int .i64 a, .int .i64 b]] w fun e w' => e = .returned (.bool false) ∧ Fr [] w w' := by
  have h0 := h.fr ((Fr.refl [] w).alloc (.cells #[.int .i64 a, .int .i64 b] 85)) (by simp) (by simp)
  have k0 : (w.alloc (.cells #[.int .i64 a, .int .i64 b] 85)).cell? ⟨w.heap.size, 0, none⟩ = some (.int .i64 a) := by simp
  have k1 : (w.alloc (.cells #[.int .i64 a, .int .i64 b] 85)).cell? ⟨w.heap.size, 1, none⟩ = some (.int .i64 b) := by simp
  have HH := Lib.hid (h0.holds a b)
  rw [decide_eq_false hin] at HH
  have HF := Lib.hid ((Fr.refl [] w).alloc (.cells #[.int .i64 a, .int .i64 b] 85))
  clear h h0 hin
  go_enter Try.func55, Try.ntmps55
  go_wp2_with fail
  refine (HH.out).mono ?_
  rintro e w1 ⟨rfl, F⟩
  go_wp2_with fail
  go_ret
  exact ⟨rfl, HF.out.trans F⟩

set_option maxHeartbeats 1000000 in
theorem IsSet.free_yes {w : World} {s r : Nat} {hs : List (Int × Int)} {m : Nat} (h : IsSet w s r hs m) (a b : Int) (hin : (a, b) ∈ hs) :
    Calls Try.prog 55 #[.pointer (some ⟨s, 0, none⟩), .agg #[.int .i64 a, .int .i64 b]] w fun e w' => e = .returned (.bool true) ∧ IsSet w' s r (hs.filter fun x => decide (x ≠ (a, b))) m ∧ Fr [r] w w' := by
  have h0 := h.fr ((Fr.refl [] w).alloc (.cells #[.int .i64 a, .int .i64 b] 85)) (by simp) (by simp)
  have k0 : (w.alloc (.cells #[.int .i64 a, .int .i64 b] 85)).cell? ⟨w.heap.size, 0, none⟩ = some (.int .i64 a) := by simp
  have k1 : (w.alloc (.cells #[.int .i64 a, .int .i64 b] 85)).cell? ⟨w.heap.size, 1, none⟩ = some (.int .i64 b) := by simp
  have HH := Lib.hid (h0.holds a b)
  rw [decide_eq_true hin] at HH
  have HF := Lib.hid ((Fr.refl [r] w).alloc (.cells #[.int .i64 a, .int .i64 b] 85))
  have hrw := h.ltr
  clear h hin
  go_enter Try.func55, Try.ntmps55
  go_wp2_with fail
  refine (HH.out).mono ?_
  rintro e w1 ⟨rfl, F⟩
  have k0' := (F.cell (p := ⟨w.heap.size, 0, none⟩) (by simp) (by simp)).trans k0
  have k1' := (F.cell (p := ⟨w.heap.size, 1, none⟩) (by simp) (by simp)).trans k1
  have h1 := h0.fr F (by simp) (by simp)
  have c1 := h1.c1
  have HF1 := Lib.hid (HF.out.trans' F (fun x hx => by simp at hx))
  have H1 := Lib.hid h1
  clear h0 F k0 k1 h1
  go_wp2_with fail
  obtain ⟨w2, hu, hM, hF2⟩ := del_run (K' := 85) (ty := 0) keyHolder Try.underlying87 (H1.out.dr (w' := w1.drew) ⟨1, rfl⟩).2.1 (a, b)
  simp only [enc2] at hu
  have HM := Lib.hid hM
  clear hM
  go_region
  all_goals go_wp2
  all_goals go_ret
  all_goals (have hM := HM.out; rw [del_yes] at hM)
  all_goals (have F2 : Fr [r] w w2 := (HF1.out.drew).trans hF2)
  all_goals exact ⟨rfl, ⟨hF2.keep (w := w1.drew) H1.out.1 (by simpa using H1.out.ne), hM, Nat.le_trans (List.length_filter_le _ _) H1.out.2.2.1, H1.out.2.2.2⟩, F2⟩

theorem permit_new_none (m : Int) (w : World) (h : m < 0 ∨ 8 < m) : Calls Try.prog 44 #[.int .i64 m] w fun e w' => e = .returned (.pointer none) ∧ w' = w := by
  rcases h with h | h
  · go_enter Try.func44, Try.ntmps44
    go_wp2
    go_ret
    exact ⟨rfl, rfl⟩
  · have h' : ¬ m < 0 := by omega
    go_enter Try.func44, Try.ntmps44
    go_wp2
    go_ret
    exact ⟨rfl, rfl⟩
theorem permit_new (m : Nat) (w : World) (h : m ≤ 8) : Calls Try.prog 44 #[.int .i64 m] w fun e w' => e = .returned (.pointer (some ⟨w.heap.size + 1, 0, none⟩)) ∧ IsSet w' (w.heap.size + 1) w.heap.size [] m ∧ Fr [] w w' := by
  have hmm := @run_makeMap Try.prog
  go_enter Try.func44, Try.ntmps44
  go_wp2
  go_ret
  refine ⟨rfl, ⟨?_, ?_, by simp, h⟩, ((Fr.refl _ _).alloc _).alloc _⟩
  · have := block_alloc_new (w.alloc (.map #[] 0)) (.cells #[.int .i64 m, .map (some w.heap.size)] 89)
    simpa using this
  · exact (MapKV.new enc2 w).fr ((Fr.refl [] _).alloc _) (by simp)
end Go.Proofs.Ythbhkmhmiplikaa
