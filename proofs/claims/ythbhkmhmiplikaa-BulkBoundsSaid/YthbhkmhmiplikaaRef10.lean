/-
  The functions of porpoiseref10, and New of package bulk.
-/
import Derived.Test.YthbhkmhmiplikaaBulk5
namespace Go.Proofs.Ythbhkmhmiplikaa
open Go.RowKit

/-- A configuration: its numbers, in the order of the fields. -/
structure CF where
  (mode pool queue sem fb ch t ft vo pe sl bu wi wd ba fo : Int)
/-- .. as a value. -/
abbrev CF.val (c : CF) : Value := .agg #[.int .i64 c.mode, .int .i64 c.pool, .int .i64 c.queue, .int .i64 c.sem, .int .i64 c.fb, .int .i64 c.ch, .int .u64 c.t, .int .u64 c.ft, .int .i64 c.vo, .int .i64 c.pe, .int .u64 c.sl, .int .i64 c.bu, .int .u64 c.wi, .int .u64 c.wd, .int .i64 c.ba, .int .i64 c.fo]
/-- How many may run, and wait. -/
def CF.most (c : CF) : Int := if c.mode = 2 then c.sem else c.pool
def CF.que (c : CF) : Int := if c.mode = 2 then 0 else c.queue
def CF.ok (c : CF) : Bool := decide (1 ≤ c.mode ∧ c.mode ≤ 2 ∧ 0 ≤ c.most ∧ c.most ≤ 8 ∧ 0 ≤ c.que ∧ c.que ≤ 8)
/-- What New tells. -/
def RefNew (c : CF) (w : World) (e : Ending) (w' : World) : Prop :=
  e = .returned (.tuple #[.agg #[.int .i64 c.most, .int .i64 c.que, .slice none 0 0, .slice none 0 0], .bool c.ok]) ∧ Fr [] w w'

theorem RefNew.mk {c : CF} {w w' : World} {m q : Int} {b : Bool} (hm : c.most = m) (hq : c.que = q) (hb : c.ok = b) (hF : Fr [] w w') :
    RefNew c w (.returned (.tuple #[.agg #[.int .i64 m, .int .i64 q, .slice none 0 0, .slice none 0 0], .bool b])) w' := by
  subst hm; subst hq; subst hb
  exact ⟨rfl, hF⟩

set_option maxHeartbeats 2000000 in
theorem ref10_new (c : CF) (w : World) : Calls Try.prog 29 #[c.val] w (RefNew c w) := by
  obtain ⟨mode, pool, queue, sem, fb, ch, t, ft, vo, pe, sl, bu, wi, wd, ba, fo⟩ := c
  simp only [CF.val]
  by_cases hm : mode = 2
  · subst hm
    go_enter Try.func29, Try.ntmps29
    go_wp2
    · refine bodyPost_ret (v := .tuple #[.agg #[.int .i64 sem, .int .i64 0, .slice none 0 0, .slice none 0 0], .bool true]) (by simp [results, Try.results29, go_sem]) rfl (RefNew.mk rfl rfl (by simp [CF.ok, CF.most, CF.que]; omega) ?_)
      exact (((Fr.refl _ _).alloc _).alloc _).alloc _
    all_goals refine bodyPost_ret (v := .tuple #[.agg #[.int .i64 sem, .int .i64 0, .slice none 0 0, .slice none 0 0], .bool false]) (by simp [results, Try.results29, go_sem]) rfl (RefNew.mk rfl rfl (by simp [CF.ok, CF.most, CF.que]; omega) ?_)
    all_goals exact (((Fr.refl _ _).alloc _).alloc _).alloc _
  · have h1 : (mode == 2) = false := by simpa using hm
    go_enter Try.func29, Try.ntmps29
    go_wp2
    · exact bodyPost_ret (v := .tuple #[.agg #[.int .i64 pool, .int .i64 queue, .slice none 0 0, .slice none 0 0], .bool (decide (queue ≤ 8))]) (by simp [results, Try.results29, go_sem]) rfl (RefNew.mk (by simp [CF.most, hm]) (by simp [CF.que, hm]) (by simp only [CF.ok, CF.most, CF.que, hm, if_false]; exact decide_eq_decide.2 ⟨fun h => h.2.2.2.2.2, fun h => ⟨by omega, by omega, by omega, by omega, by omega, h⟩⟩) ((((Fr.refl _ _).alloc _).alloc _).alloc _))
    all_goals exact bodyPost_ret (v := .tuple #[.agg #[.int .i64 pool, .int .i64 queue, .slice none 0 0, .slice none 0 0], .bool false]) (by simp [results, Try.results29, go_sem]) rfl (RefNew.mk (by simp [CF.most, hm]) (by simp [CF.que, hm]) (by simp [CF.ok, CF.most, CF.que, hm]; omega) ((((Fr.refl _ _).alloc _).alloc _).alloc _))

/-- V is the document's bulk: hs run, m at most, ws wait, q at most; its lists lie in no block below base. -/
def RB (w : World) (base : Nat) (V : Value) (hs ws : List Int) (m q : Nat) : Prop :=
  ∃ vr vw, V = .agg #[.int .i64 m, .int .i64 q, vr, vw] ∧ Lst w base vr hs ∧ Lst w base vw ws
theorem RB.fr {w w' : World} {base : Nat} {V : Value} {hs ws : List Int} {m q : Nat} (h : RB w base V hs ws m q) {S : List Nat} (k : Fr S w w') (hS : ∀ x ∈ S, x < base) : RB w' base V hs ws m q := by
  obtain ⟨vr, vw, h1, h2, h3⟩ := h
  exact ⟨vr, vw, h1, h2.fr k hS, h3.fr k hS⟩

end Go.Proofs.Ythbhkmhmiplikaa
