/-
  Slices of outcomes: what one reads as; a copy; rows of five cells; the closure of Outs.
-/
import Derived.Test.YtfegdmhfmhaneaaEv6
namespace Go.Proofs.Ytfegdmhfmhaneaa
open Go.RowKit

/-- An outcome, as its cells. -/
structure Ou where
  id : Int
  kind : Int
  cause : Int
  val : Int
  tm : Int
deriving DecidableEq
def Ou.cells (e : Ou) : List Value := [.int .i64 e.id, .int .i64 e.kind, .int .i64 e.cause, .int .i64 e.val, .int .u64 e.tm]
def Ou.vl (e : Ou) : Value := .agg #[.int .i64 e.id, .int .i64 e.kind, .int .i64 e.cause, .int .i64 e.val, .int .u64 e.tm]
def Ou.obj (e : Ou) : Obj := .cells #[.int .i64 e.id, .int .i64 e.kind, .int .i64 e.cause, .int .i64 e.val, .int .u64 e.tm] 41
instance : Inhabited Ou := ⟨⟨0, 0, 0, 0, 0⟩⟩

/-- The five cells from an address on. -/
def At5 (w : World) (b o : Nat) (e : Ou) : Prop :=
  w.cell? ⟨b, o, none⟩ = some (.int .i64 e.id) ∧ w.cell? ⟨b, o + 1, none⟩ = some (.int .i64 e.kind) ∧ w.cell? ⟨b, o + 2, none⟩ = some (.int .i64 e.cause) ∧ w.cell? ⟨b, o + 3, none⟩ = some (.int .i64 e.val) ∧
  w.cell? ⟨b, o + 4, none⟩ = some (.int .u64 e.tm)
theorem At5.fr {w w' : World} {b o : Nat} {e : Ou} (h : At5 w b o e) {S : List Nat} (k : Fr S w w') (hn : b ∉ S) : At5 w' b o e := by
  obtain ⟨h0, h1, h2, h3, h4⟩ := h
  have key : ∀ {i : Nat} {v : Value}, w.cell? ⟨b, i, none⟩ = some v → w'.cell? ⟨b, i, none⟩ = some v := fun h => (k.cell (World.block_lt_of_cell? _ _ h) hn).trans h
  exact ⟨key h0, key h1, key h2, key h3, key h4⟩
theorem At5.lt {w : World} {b o : Nat} {e : Ou} (h : At5 w b o e) : b < w.heap.size := World.block_lt_of_cell? _ _ h.1
/-- A box that holds an outcome. -/
theorem At5.box {w : World} {b : Nat} {e : Ou} (h : w.heap[b]? = some e.obj) : At5 w b 0 e :=
  ⟨by rw [cell_of_block h]; rfl, by rw [cell_of_block h]; rfl, by rw [cell_of_block h]; rfl, by rw [cell_of_block h]; rfl, by rw [cell_of_block h]; rfl⟩

/-- v is a slice of outcomes that reads as l, and lies in no block below base. -/
def Ous (w : World) (base : Nat) (v : Value) (l : List Ou) : Prop :=
  ∃ ao cap, v = .slice ao l.length cap ∧ l.length ≤ cap ∧ (ao = none → cap = 0) ∧ ∀ i, i < l.length → ∃ b o, ao = some ⟨b, o, none⟩ ∧ base ≤ b ∧ At5 w b (o + i * 5) (l.getD i default)
theorem Ous.fr {w w' : World} {base : Nat} {v : Value} {l : List Ou} (h : Ous w base v l) {S : List Nat} (k : Fr S w w') (hS : ∀ x ∈ S, x < base) : Ous w' base v l := by
  obtain ⟨ao, cap, h1, h2, h3, h4⟩ := h
  refine ⟨ao, cap, h1, h2, h3, fun i hi => ?_⟩
  obtain ⟨b, o, h5, h6, h7⟩ := h4 i hi
  exact ⟨b, o, h5, h6, h7.fr k (fun hb => by have := hS b hb; omega)⟩
theorem Ous.fr0 {w w' : World} {base : Nat} {v : Value} {l : List Ou} (h : Ous w base v l) (k : Fr [] w w') : Ous w' base v l := h.fr k (by simp)

/-- The outcomes of a dependency. -/
def mineB (l : List Ev) (deps d : Int) (o : Ou) : Bool := decide (ownerOf l deps o.id = d)
def outsOf (os : List Ou) (l : List Ev) (deps d : Int) : List Ou := os.filter (mineB l deps d)
theorem take_snoc_ou {l : List Ou} {i : Nat} (h : i < l.length) : l.take (i + 1) = l.take i ++ [l.getD i default] := by
  rw [List.take_succ_eq_append_getElem h]
  simp [List.getD, h]

/-- What the closure captured: two boxes. -/
def OutsCap (w : World) (p5 p7 r : Nat) (l : List Ev) (deps d : Int) : Prop :=
  w.cell? ⟨p7, 0, none⟩ = some (.int .i64 d) ∧ w.cell? ⟨p5, 0, none⟩ = some (.map (some r)) ∧ OwnMap w r l deps
theorem OutsCap.fr {w w' : World} {p5 p7 r : Nat} {l : List Ev} {deps d : Int} (h : OutsCap w p5 p7 r l deps d) {S : List Nat} (k : Fr S w w') (hS : p5 ∉ S ∧ p7 ∉ S ∧ r ∉ S) : OutsCap w' p5 p7 r l deps d :=
  ⟨(k.cell (World.block_lt_of_cell? _ _ h.1) hS.2.1).trans h.1, (k.cell (World.block_lt_of_cell? _ _ h.2.1) hS.1).trans h.2.1, h.2.2.fr k hS.2.2⟩

set_option maxHeartbeats 4000000 in
theorem drops_ou {w : World} {p5 p7 r : Nat} {l : List Ev} {deps d : Int} (h : OutsCap w p5 p7 r l deps d) (e : Ou) :
    Calls Try.prog 26 #[e.vl, .pointer (some ⟨p5, 0, none⟩), .pointer (some ⟨p7, 0, none⟩)] w fun x w' => x = .returned (.bool (!mineB l deps d e)) ∧ Fr [] w w' := by
  have F : Fr [] w (w.alloc e.obj) := (Fr.refl _ _).alloc _
  have h' := h.fr F (by simp)
  obtain ⟨c5, c7, hM⟩ := h'
  have HM := Lib.hid hM
  have HF := Lib.hid F
  clear h hM F
  obtain ⟨eid, kind, cause, val, tm⟩ := e
  simp only [Ou.vl, Ou.obj, mineB] at *
  have HOW := Lib.hid (fun (w' : World) (M : OwnMap w' r l deps) => owner_spec M eid)
  generalize ownerOf l deps eid = own at *
  go_enter Try.func26, Try.ntmps26
  go_wp2_with fail
  go_quiet ((go_at_call 18; exact Calls.quiet_of ((HOW.out _ (HM.out.fr (S := []) ((Fr.refl _ _).drewN _) (by simp))).mono (fun e w' h => ⟨h.1, 0, by rw [h.2]; rfl⟩))))
  go_wp2_with fail
  go_ret
  exact ⟨ret_bool (by by_cases h : own = d <;> simp [h]), HF.out.drewN _⟩
end Go.Proofs.Ytfegdmhfmhaneaa
