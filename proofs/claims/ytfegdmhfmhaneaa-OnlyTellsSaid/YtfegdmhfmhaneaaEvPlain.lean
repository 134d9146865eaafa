/-
  Plain: events, who owns a command, and which events play a part for a dependency.
-/
import Derived.Test.YtfegdmhfmhaneaaBase
namespace Go.Proofs.Ytfegdmhfmhaneaa

/-- An event, as its cells. -/
structure Ev where
  kind : Int
  id : Int
  dep : Int
  scope : Int
  arg : Int
  step : Int
  n : Int
  ok : Bool
  va : Option Addr
  vn : Nat
  vc : Nat
def Ev.cells (e : Ev) : List Value := [.int .i64 e.kind, .int .i64 e.id, .int .i64 e.dep, .int .i64 e.scope, .int .i64 e.arg, .int .i64 e.step, .int .u64 e.n, .bool e.ok, .slice e.va e.vn e.vc]
/-- May a submission be? -/
def mayB (deps : Int) (e : Ev) : Bool := decide (1 ≤ e.id ∧ e.id ≤ 1000 ∧ 0 ≤ e.arg ∧ e.arg ≤ 99 ∧ 0 ≤ e.scope ∧ e.scope ≤ 9 ∧ 0 ≤ e.dep ∧ e.dep < deps)
def ownsB (deps id : Int) (e : Ev) : Bool := decide (e.kind = 1) && (decide (e.id = id) && mayB deps e)
def ownerOf (l : List Ev) (deps id : Int) : Int := ((l.find? (ownsB deps id)).map (·.dep)).getD (-1)
def playsB (l : List Ev) (deps d : Int) (e : Ev) : Bool :=
  if e.kind = 1 then decide (e.dep = d) && decide (ownerOf l deps e.id = d)
  else if e.kind = 2 ∨ e.kind = 6 then true
  else if e.kind = 3 then decide (e.dep = d)
  else if e.kind = 4 ∨ e.kind = 5 then decide (ownerOf l deps e.id = d)
  else false
def onlyOf (l : List Ev) (deps d : Int) : List Ev := l.filter (playsB l deps d)

theorem ownsB_iff {deps id : Int} {e : Ev} : ownsB deps id e = true ↔ e.kind = 1 ∧ e.id = id ∧ mayB deps e = true := by simp [ownsB]
/-- Who owns: the first that submits it. -/
theorem ownerOf_some {l : List Ev} {deps id x : Int} (h : ownerOf l deps id = x) (hx : 0 ≤ x) : ∃ e ∈ l, ownsB deps id e = true ∧ e.dep = x := by
  unfold ownerOf at h
  cases hf : l.find? (ownsB deps id) with
  | none => rw [hf] at h; simp at h; omega
  | some e =>
    rw [hf] at h
    exact ⟨e, List.mem_of_find?_eq_some hf, List.find?_some hf, by simpa using h⟩
theorem ownerOf_nil (deps id : Int) : ownerOf [] deps id = -1 := rfl
theorem ownerOf_zero (l : List Ev) (id : Int) : ownerOf l 0 id = -1 := by
  unfold ownerOf
  cases hf : l.find? (ownsB 0 id) with
  | none => rfl
  | some e =>
    have := (ownsB_iff.1 (List.find?_some hf)).2.2
    simp only [mayB, decide_eq_true_eq] at this
    omega
/-- All that submit it are of one dependency, and one does: that owns it. -/
theorem ownerOf_all {l : List Ev} {deps id x : Int} (h : ∃ e ∈ l, ownsB deps id e = true) (ha : ∀ e ∈ l, e.kind = 1 → e.dep = x) : ownerOf l deps id = x := by
  unfold ownerOf
  cases hf : l.find? (ownsB deps id) with
  | none =>
    obtain ⟨e, h1, h2⟩ := h
    exact absurd h2 (by simpa using List.find?_eq_none.1 hf e h1)
  | some e => simpa using ha e (List.mem_of_find?_eq_some hf) (ownsB_iff.1 (List.find?_some hf)).1

theorem onlyOf_dep {l : List Ev} {deps d : Int} {e : Ev} (h : e ∈ onlyOf l deps d) : e ∈ l ∧ (e.kind = 1 ∨ e.kind = 3 → e.dep = d) ∧ (e.kind = 1 ∨ e.kind = 4 ∨ e.kind = 5 → ownerOf l deps e.id = d) ∧ 1 ≤ e.kind ∧ e.kind ≤ 6 := by
  unfold onlyOf at h
  rw [List.mem_filter] at h
  obtain ⟨h1, h2⟩ := h
  unfold playsB at h2
  by_cases k1 : e.kind = 1
  · rw [if_pos k1] at h2
    simp only [Bool.and_eq_true, decide_eq_true_eq] at h2
    exact ⟨h1, fun _ => h2.1, fun _ => h2.2, by omega, by omega⟩
  · rw [if_neg k1] at h2
    by_cases k2 : e.kind = 2 ∨ e.kind = 6
    · exact ⟨h1, fun h => by omega, fun h => by omega, by omega, by omega⟩
    · rw [if_neg k2] at h2
      by_cases k3 : e.kind = 3
      · rw [if_pos k3] at h2
        exact ⟨h1, fun _ => by simpa using h2, fun h => by omega, by omega, by omega⟩
      · rw [if_neg k3] at h2
        by_cases k4 : e.kind = 4 ∨ e.kind = 5
        · rw [if_pos k4] at h2
          exact ⟨h1, fun h => by omega, fun _ => by simpa using h2, by omega, by omega⟩
        · rw [if_neg k4] at h2; exact absurd h2 (by simp)
theorem onlyOf_owner {l : List Ev} {deps d id : Int} (hd : 0 ≤ d) (h : ownerOf l deps id = d) : ownerOf (onlyOf l deps d) deps id = d := by
  obtain ⟨e, h1, h2, h3⟩ := ownerOf_some h hd
  have h4 := ownsB_iff.1 h2
  refine ownerOf_all ⟨e, ?_, h2⟩ (fun e' he' hk => (onlyOf_dep he').2.1 (.inl hk))
  unfold onlyOf
  rw [List.mem_filter]
  refine ⟨h1, ?_⟩
  unfold playsB
  rw [if_pos h4.1, h3, h4.2.1, h]
  simp
theorem onlyOf_again {l : List Ev} {deps d : Int} (hd : 0 ≤ d) : onlyOf (onlyOf l deps d) deps d = onlyOf l deps d := by
  show (onlyOf l deps d).filter (playsB (onlyOf l deps d) deps d) = _
  rw [List.filter_eq_self]
  intro e he
  obtain ⟨h1, h2, h3, h4, h5⟩ := onlyOf_dep he
  unfold playsB
  by_cases k1 : e.kind = 1
  · rw [if_pos k1, h2 (.inl k1), onlyOf_owner hd (h3 (.inl k1))]; simp
  · rw [if_neg k1]
    by_cases k2 : e.kind = 2 ∨ e.kind = 6
    · rw [if_pos k2]
    · rw [if_neg k2]
      by_cases k3 : e.kind = 3
      · rw [if_pos k3, h2 (.inr k3)]; simp
      · rw [if_neg k3]
        have k4 : e.kind = 4 ∨ e.kind = 5 := by omega
        rw [if_pos k4, onlyOf_owner hd (h3 (.inr k4))]; simp
/-- Of another dependency only what is of all is left. -/
theorem onlyOf_other {l : List Ev} {deps d y : Int} (hd : 0 ≤ d) (hne : y ≠ d) {e : Ev} (h : e ∈ onlyOf (onlyOf l deps d) deps y) : e.kind = 2 ∨ e.kind = 6 := by
  obtain ⟨h1, h2, h3, h4, h5⟩ := onlyOf_dep h
  obtain ⟨g1, g2, g3, _, _⟩ := onlyOf_dep h1
  by_cases k1 : e.kind = 1 ∨ e.kind = 3
  · exact absurd ((h2 k1).symm.trans (g2 k1)) hne
  · by_cases k4 : e.kind = 4 ∨ e.kind = 5
    · have := onlyOf_owner hd (g3 (.inr k4))
      have := h3 (.inr k4)
      omega
    · omega
/-- Ticks and closings. -/
def sharedB (e : Ev) : Bool := decide (e.kind = 2 ∨ e.kind = 6)
theorem onlyOf_shared (l : List Ev) (deps d : Int) : (onlyOf l deps d).filter sharedB = l.filter sharedB := by
  unfold onlyOf
  rw [List.filter_filter]
  apply List.filter_congr
  intro e _
  unfold sharedB playsB
  by_cases k : e.kind = 2 ∨ e.kind = 6
  · have : e.kind ≠ 1 := by omega
    simp [k, this]
  · simp [k]
theorem onlyOf_len (l : List Ev) (deps d : Int) : (onlyOf l deps d).length ≤ l.length := List.length_filter_le _ _
end Go.Proofs.Ytfegdmhfmhaneaa
