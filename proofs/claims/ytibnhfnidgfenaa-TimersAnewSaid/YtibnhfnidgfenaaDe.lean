/-
  Slices of deeds of a wheel, or a clock: rows of four cells.
-/
import Derived.Test.YtibnhfnidgfenaaOn
namespace Go.Proofs.Ytibnhfnidgfenaa
open Go.RowKit

/-- A deed: its kind, a timer, and a time. -/
structure De where
  kind : Int
  k1 : Int
  k2 : Int
  t : Nat
deriving Inhabited
def At4 (w : World) (b o : Nat) (e : De) : Prop :=
  w.cell? ⟨b, o, none⟩ = some (.int .i64 e.kind) ∧ w.cell? ⟨b, o + 1, none⟩ = some (.int .i64 e.k1) ∧ w.cell? ⟨b, o + 2, none⟩ = some (.int .i64 e.k2) ∧ w.cell? ⟨b, o + 3, none⟩ = some (.int .u64 e.t)
theorem At4.fr {w w' : World} {b o : Nat} {e : De} (h : At4 w b o e) {S : List Nat} (k : Fr S w w') (hn : b ∉ S) : At4 w' b o e := by
  obtain ⟨h0, h1, h2, h3⟩ := h
  exact ⟨k.on h0 hn, k.on h1 hn, k.on h2 hn, k.on h3 hn⟩
/-- v is a slice that reads as the deeds l. -/
def De4s (w : World) (v : Value) (l : List De) : Prop :=
  ∃ ao cap, v = .slice ao l.length cap ∧ l.length ≤ 9223372036854775807 ∧ (∀ e ∈ l, e.t < 18446744073709551616) ∧ ∀ i, i < l.length → ∃ b o, ao = some ⟨b, o, none⟩ ∧ At4 w b (o + i * 4) (l.getD i default)
theorem De4s.fr {w w' : World} {v : Value} {l : List De} (h : De4s w v l) (k : Fr [] w w') : De4s w' v l := by
  obtain ⟨ao, cap, rfl, h2, h3, h4⟩ := h
  refine ⟨ao, cap, rfl, h2, h3, fun i hi => ?_⟩
  obtain ⟨b, o, h5, h6⟩ := h4 i hi
  exact ⟨b, o, h5, h6.fr k (by simp)⟩
theorem De4s.at {w : World} {ao : Option Addr} {cap n : Nat} {l : List De} (h : De4s w (.slice ao n cap) l) {i : Nat} (hi : i < l.length) : ∃ b o e, ao = some ⟨b, o, none⟩ ∧ At4 w b (o + i * 4) e ∧ e.t < 18446744073709551616 ∧ l.getD i default = e := by
  obtain ⟨a1, c1, he, _, h3, h4⟩ := h
  simp only [Value.slice.injEq] at he
  obtain ⟨rfl, _, rfl⟩ := he
  obtain ⟨b, o, h5, h6⟩ := h4 i hi
  refine ⟨b, o, _, h5, h6, h3 _ ?_, rfl⟩
  rw [show l.getD i default = l[i] by simp [List.getD, hi]]
  exact List.getElem_mem hi
end Go.Proofs.Ytibnhfnidgfenaa
