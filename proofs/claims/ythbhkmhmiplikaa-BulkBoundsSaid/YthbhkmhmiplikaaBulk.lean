/-
  The bulk of package bulk: who runs, and who waits.
-/
import Derived.Test.YthbhkmhmiplikaaPermit
import Derived.Test.YthbhkmhmiplikaaRef04
import Derived.Deep.RegionWith
namespace Go.Proofs.Ythbhkmhmiplikaa
open Go.RowKit

/-- Holders of calls. -/
def own0 (hs : List Int) : List (Int × Int) := hs.map fun x => (x, 0)
theorem mem_own0 (x : Int) (hs : List Int) : ((x, (0 : Int)) ∈ own0 hs) ↔ x ∈ hs := by simp [own0]
theorem own0_filter (x : Int) (hs : List Int) : (own0 hs).filter (fun y => decide (y ≠ (x, 0))) = own0 (hs.filter fun y => decide (y ≠ x)) := by
  simp [own0, List.filter_map, Function.comp_def]
theorem rem_nodup {x : Int} : ∀ {l : List Int}, l.Nodup → rem x l = l.filter fun y => decide (y ≠ x)
  | [], _ => rfl
  | y :: l, h => by
    simp only [List.nodup_cons] at h
    by_cases hy : y = x
    · subst hy
      rw [rem, if_pos rfl, List.filter_cons_of_neg (by simp), List.filter_eq_self.2]
      intro z hz
      exact decide_eq_true fun e => h.1 (e ▸ hz)
    · rw [rem, if_neg hy, List.filter_cons_of_pos (by simp [hy]), rem_nodup h.2]

/-- Block b is a bulk: its set in the blocks s and r, its ring in g; hs run, m at most; ws wait, q at most; nobody twice. -/
structure IsBulk (w : World) (b s r g : Nat) (hs ws : List Int) (m q : Nat) : Prop where
  blk : w.heap[b]? = some (.cells #[.pointer (some ⟨s, 0, none⟩), .pointer (some ⟨g, 0, none⟩)] 77 (0, 0))
  set : IsSet w s r (own0 hs) m
  ring : IsRing w g ws q
  nodup : (hs ++ ws).Nodup

theorem IsRing.obj {w : World} {b : Nat} {xs : List Int} {m : Nat} (h : IsRing w b xs m) : ∃ c, w.heap[b]? = some (.cells c 68 (0, 0)) := by
  obtain ⟨l, f, _, _, _, _, _, h6⟩ := h
  exact ⟨_, h6⟩
theorem IsRing.le {w : World} {b : Nat} {xs : List Int} {m : Nat} (h : IsRing w b xs m) : xs.length ≤ m ∧ m ≤ 8 := by
  obtain ⟨l, f, _, _, h3, h4, _, _⟩ := h
  exact ⟨h4, h3⟩
theorem MapKV.obj {α : Type} {enc : α → Value} {w : World} {r : Nat} {l : List (α × Value)} (h : MapKV enc w r l) : ∃ es c, w.heap[r]? = some (.map es c) := by
  obtain ⟨_, es, c, h1, _⟩ := h
  exact ⟨es, c, h1⟩

section
variable {w : World} {b s r g : Nat} {hs ws : List Int} {m q : Nat} (h : IsBulk w b s r g hs ws m q)
include h
theorem IsBulk.apart : b ≠ s ∧ b ≠ r ∧ b ≠ g ∧ s ≠ r ∧ s ≠ g ∧ r ≠ g := by
  obtain ⟨c, hc⟩ := h.ring.obj
  obtain ⟨es, c', hm⟩ := h.set.2.1.obj
  have hb := h.blk
  have hs := h.set.1
  refine ⟨?_, ?_, ?_, h.set.ne, ?_, ?_⟩ <;> intro e <;> subst e <;> simp_all
theorem IsBulk.c0 : w.cell? ⟨b, 0, none⟩ = some (.pointer (some ⟨s, 0, none⟩)) := by rw [cell_of_block h.blk]; rfl
theorem IsBulk.c1 : w.cell? ⟨b, 1, none⟩ = some (.pointer (some ⟨g, 0, none⟩)) := by rw [cell_of_block h.blk]; rfl
theorem IsBulk.lt : b < w.heap.size := lt_of_block h.blk
theorem IsBulk.fr {w' : World} {S : List Nat} (k : Fr S w w') (hS : b ∉ S ∧ s ∉ S ∧ r ∉ S ∧ g ∉ S) : IsBulk w' b s r g hs ws m q :=
  ⟨k.keep h.blk hS.1, h.set.fr k hS.2.1 hS.2.2.1, h.ring.fr k hS.2.2.2, h.nodup⟩
theorem IsBulk.fr0 {w' : World} (k : Fr [] w w') : IsBulk w' b s r g hs ws m q := h.fr k (by simp)
theorem IsBulk.dr {w' : World} (k : ∃ n, w' = w.drewN n) : IsBulk w' b s r g hs ws m q := h.fr0 ((Fr.refl _ _).dr k)
end

theorem own_spec (x : Int) (w : World) : Calls Try.prog 51 #[.int .i64 x] w fun e w' => e = .returned (.agg #[.int .i64 x, .int .i64 0]) ∧ Fr [] w w' := by
  go_enter Try.func51, Try.ntmps51
  go_wp2
  refine bodyPost_ret (v := .agg #[.int .i64 x, .int .i64 0]) (by simp [results, Try.results51, go_sem]) rfl ⟨rfl, (Fr.refl _ _).alloc _⟩

theorem busy_nil (w : World) : Calls Try.prog 31 #[.pointer none] w fun e w' => e = .returned (.int .i64 0) ∧ w' = w := by
  go_enter Try.func31, Try.ntmps31
  go_wp2
  go_ret
  exact ⟨rfl, rfl⟩
theorem IsBulk.busy {w : World} {b s r g : Nat} {hs ws : List Int} {m q : Nat} (h : IsBulk w b s r g hs ws m q) :
    Calls Try.prog 31 #[.pointer (some ⟨b, 0, none⟩)] w fun e w' => e = .returned (.int .i64 hs.length) ∧ w' = w := by
  have c0 := h.c0
  have hU := h.set.used
  rw [show (own0 hs).length = hs.length by simp [own0]] at hU
  have HU := Lib.hid hU
  clear hU
  go_enter Try.func31, Try.ntmps31
  go_wp2_with fail
  refine (HU.out).mono ?_
  rintro e w1 ⟨rfl, rfl⟩
  go_wp2
  go_ret
  exact ⟨rfl, rfl⟩
theorem waiting_nil (w : World) : Calls Try.prog 33 #[.pointer none] w fun e w' => e = .returned (.slice none 0 0) ∧ w' = w := by
  go_enter Try.func33, Try.ntmps33
  go_wp2
  go_ret
  exact ⟨rfl, rfl⟩
theorem IsBulk.waiting {w : World} {b s r g : Nat} {hs ws : List Int} {m q : Nat} (h : IsBulk w b s r g hs ws m q) :
    Calls Try.prog 33 #[.pointer (some ⟨b, 0, none⟩)] w fun e w' => ∃ v, e = .returned v ∧ Lst w' w.heap.size v ws ∧ Fr [] w w' := by
  have c1 := h.c1
  have HU := Lib.hid h.ring.list
  go_enter Try.func33, Try.ntmps33
  go_wp2_with fail
  refine (HU.out).mono ?_
  rintro e w1 ⟨v, rfl, O, F⟩
  go_wp2
  go_ret
  exact ⟨_, rfl, Lst.of_owns O, F⟩

theorem runs_nil (w : World) (x : Int) : Calls Try.prog 32 #[.pointer none, .int .i64 x] w fun e w' => e = .returned (.bool false) ∧ Fr [] w w' := by
  go_enter Try.func32, Try.ntmps32
  go_wp2_with fail
  go_quiet (fail)
  go_wp2
  go_ret
  exact ⟨rfl, Fr.of_drewN _ _⟩

set_option maxHeartbeats 1000000 in
theorem IsBulk.runs {w : World} {b s r g : Nat} {hs ws : List Int} {m q : Nat} (h : IsBulk w b s r g hs ws m q) (x : Int) :
    Calls Try.prog 32 #[.pointer (some ⟨b, 0, none⟩), .int .i64 x] w fun e w' => e = .returned (.bool (decide (x ∈ hs))) ∧ Fr [] w w' := by
  have c0 := h.c0
  have hlt := h.lt
  have HH := Lib.hid (fun (w1 : World) (F : Fr [] w w1) => (h.fr0 F).set.holds x 0)
  go_enter Try.func32, Try.ntmps32
  go_wp2_with fail
  go_region_with (first
    | (go_at_call 51; refine (own_spec x _).mono ?_; rintro e w1 ⟨rfl, F⟩; have F1 := (Fr.refl [] w).drew.trans F; have c0' := (F1.cell (p := ⟨b, 0, none⟩) hlt (by simp)).trans c0; clear F)
    | (go_at_call 50; refine (HH.out _ F1).mono ?_; rintro e w2 ⟨rfl, F⟩; have F2 := F1.trans F; clear F))
  all_goals go_wp2
  all_goals go_ret
  all_goals exact ⟨ret_bool (decide_eq_decide.2 (mem_own0 _ _)), F2⟩
end Go.Proofs.Ythbhkmhmiplikaa
