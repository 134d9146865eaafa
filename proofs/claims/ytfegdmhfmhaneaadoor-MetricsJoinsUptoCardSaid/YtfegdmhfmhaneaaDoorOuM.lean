/-
  Slices of outcomes: what one reads as; rows of five cells (lines of Ou and Ou2).
-/
import Derived.Test.YtfegdmhfmhaneaaDoorApp
namespace Go.Proofs.YtfegdmhfmhaneaaDoor
open Go.RowKit

/-- An outcome, as its cells. -/
structure Ou where
  id : Int
  kind : Int
  cause : Int
  val : Int
  tm : Int
deriving DecidableEq
def Ou.cells (e : Ou) : List Value := [.int .i64 e.id, .int .i64 e.kind, .int .i64 e.cause, .int .i64 e.val, .int .u64 e.tm]
def Ou.vl (e : Ou) : Value := .agg #[.int .i64 e.id, .int .i64 e.kind, .int .i64 e.cause, .int .i64 e.val, .int .u64 e.tm]
def Ou.obj (e : Ou) : Obj := .cells #[.int .i64 e.id, .int .i64 e.kind, .int .i64 e.cause, .int .i64 e.val, .int .u64 e.tm] 35
instance : Inhabited Ou := ⟨⟨0, 0, 0, 0, 0⟩⟩

/-- The five cells from an address on. -/
def At5 (w : World) (b o : Nat) (e : Ou) : Prop :=
  w.cell? ⟨b, o, none⟩ = some (.int .i64 e.id) ∧ w.cell? ⟨b, o + 1, none⟩ = some (.int .i64 e.kind) ∧ w.cell? ⟨b, o + 2, none⟩ = some (.int .i64 e.cause) ∧ w.cell? ⟨b, o + 3, none⟩ = some (.int .i64 e.val) ∧
  w.cell? ⟨b, o + 4, none⟩ = some (.int .u64 e.tm)
theorem At5.fr {w w' : World} {b o : Nat} {e : Ou} (h : At5 w b o e) {S : List Nat} (k : Fr S w w') (hn : b ∉ S) : At5 w' b o e := by
  obtain ⟨h0, h1, h2, h3, h4⟩ := h
  have key : ∀ {i : Nat} {v : Value}, w.cell? ⟨b, i, none⟩ = some v → w'.cell? ⟨b, i, none⟩ = some v := fun h => (k.cell (World.block_lt_of_cell? _ _ h) hn).trans h
  exact ⟨key h0, key h1, key h2, key h3, key h4⟩
theorem At5.lt {w : World} {b o : Nat} {e : Ou} (h : At5 w b o e) : b < w.heap.size := World.block_lt_of_cell? _ _ h.1
/-- A box that holds an outcome. -/
theorem At5.box {w : World} {b : Nat} {e : Ou} (h : w.heap[b]? = some e.obj) : At5 w b 0 e :=
  ⟨by rw [cell_of_block h]; rfl, by rw [cell_of_block h]; rfl, by rw [cell_of_block h]; rfl, by rw [cell_of_block h]; rfl, by rw [cell_of_block h]; rfl⟩

/-- v is a slice of outcomes that reads as l, and lies in no block below base. -/
def Ous (w : World) (base : Nat) (v : Value) (l : List Ou) : Prop :=
  ∃ ao cap, v = .slice ao l.length cap ∧ l.length ≤ cap ∧ (ao = none → cap = 0) ∧ ∀ i, i < l.length → ∃ b o, ao = some ⟨b, o, none⟩ ∧ base ≤ b ∧ At5 w b (o + i * 5) (l.getD i default)
theorem Ous.fr {w w' : World} {base : Nat} {v : Value} {l : List Ou} (h : Ous w base v l) {S : List Nat} (k : Fr S w w') (hS : ∀ x ∈ S, x < base) : Ous w' base v l := by
  obtain ⟨ao, cap, h1, h2, h3, h4⟩ := h
  refine ⟨ao, cap, h1, h2, h3, fun i hi => ?_⟩
  obtain ⟨b, o, h5, h6, h7⟩ := h4 i hi
  exact ⟨b, o, h5, h6, h7.fr k (fun hb => by have := hS b hb; omega)⟩
theorem Ous.fr0 {w w' : World} {base : Nat} {v : Value} {l : List Ou} (h : Ous w base v l) (k : Fr [] w w') : Ous w' base v l := h.fr k (by simp)

theorem take_snoc_ou {l : List Ou} {i : Nat} (h : i < l.length) : l.take (i + 1) = l.take i ++ [l.getD i default] := by
  rw [List.take_succ_eq_append_getElem h]
  simp [List.getD, h]


theorem cellsO_len (e : Ou) : e.cells.length = 5 := rfl
theorem flatO_len (l : List Ou) : (l.flatMap Ou.cells).length = l.length * 5 := by
  induction l with
  | nil => rfl
  | cons x l ih => rw [List.flatMap_cons, List.length_append, ih, cellsO_len, List.length_cons]; omega
theorem flatO_get : ∀ (l : List Ou) (i k : Nat), i < l.length → k < 5 → (l.flatMap Ou.cells)[i * 5 + k]? = (l.getD i default).cells[k]?
  | [], i, k, hi, _ => by simp at hi
  | x :: l, 0, k, _, hk => by
    rw [List.flatMap_cons, List.getElem?_append_left (by rw [cellsO_len]; omega)]
    simp
  | x :: l, i + 1, k, hi, hk => by
    rw [List.flatMap_cons, List.getElem?_append_right (by rw [cellsO_len]; omega), cellsO_len, show (i + 1) * 5 + k - 5 = i * 5 + k by omega, flatO_get l i k (by simpa using hi) hk]
    simp
theorem At5.get {w : World} {b o : Nat} {e : Ou} (h : At5 w b o e) {k : Nat} {u : Value} (hu : e.cells[k]? = some u) : w.cell? ⟨b, o + k, none⟩ = some u := by
  obtain ⟨h0, h1, h2, h3, h4⟩ := h
  unfold Ou.cells at hu
  match k, hu with
  | 0, hu => simp at hu; subst hu; exact h0
  | 1, hu => simp at hu; subst hu; exact h1
  | 2, hu => simp at hu; subst hu; exact h2
  | 3, hu => simp at hu; subst hu; exact h3
  | 4, hu => simp at hu; subst hu; exact h4
  | k + 5, hu => simp at hu
theorem At5.mk {w : World} {b o : Nat} {e : Ou} (h : ∀ k u, e.cells[k]? = some u → w.cell? ⟨b, o + k, none⟩ = some u) : At5 w b o e :=
  ⟨h 0 _ rfl, h 1 _ rfl, h 2 _ rfl, h 3 _ rfl, h 4 _ rfl⟩
theorem cellsO_one {e : Ou} {u : Value} (h : u ∈ e.cells) : u.oneCell' = true := by
  unfold Ou.cells at h
  simp only [List.mem_cons, List.not_mem_nil, or_false] at h
  rcases h with h | h | h | h | h <;> subst h <;> rfl

/-- Events as what is appended. -/
theorem Ous.src {w : World} {base : Nat} {v : Value} {l : List Ou} (h : Ous w base v l) : Src w 5 v l.length (l.flatMap Ou.cells) := by
  obtain ⟨ao, cap, rfl, h2, h3, h4⟩ := h
  refine ⟨ao, cap, rfl, flatO_len l, h2, fun h => ⟨by have := h3 h; omega, h3 h⟩, fun u hu => ?_, fun j u hj => ?_⟩
  · obtain ⟨e, _, he⟩ := List.mem_flatMap.1 hu
    exact cellsO_one he
  · have hlt : j < l.length * 5 := by
      rw [← flatO_len]
      exact (List.getElem?_eq_some_iff.1 hj).1
    have hi : j / 5 < l.length := by omega
    have e : j = j / 5 * 5 + j % 5 := by omega
    rw [e, flatO_get l _ _ hi (by omega)] at hj
    obtain ⟨b, o, h5, _, h7⟩ := h4 _ hi
    refine ⟨b, o, h5, ?_⟩
    have := h7.get hj
    rw [Nat.add_assoc, ← e] at this
    exact this
/-- What the call owns reads so. -/
theorem Ous.of_owns {w : World} {base : Nat} {v : Value} {l : List Ou} (h : w.ownsRow base 35 5 v l.length (l.flatMap Ou.cells)) : Ous w base v l := by
  obtain ⟨h1, h2⟩ := h
  rcases h2 with ⟨rfl, hn⟩ | ⟨g, cap, cur, rfl, hg, hh, hc, hm, hs, ht⟩
  · obtain rfl := List.eq_nil_of_length_eq_zero hn
    exact ⟨none, 0, rfl, by simp, fun _ => rfl, fun i hi => by simp at hi⟩
  · refine ⟨some ⟨g, 0, none⟩, cap, rfl, hc, fun e => by simp at e, fun i hi => ⟨g, 0, rfl, hg, At5.mk fun k u hu => ?_⟩⟩
    have hk : k < 5 := by
      rw [← cellsO_len (l.getD i default)]
      exact (List.getElem?_eq_some_iff.1 hu).1
    rw [Nat.zero_add, cell_of_block hh]
    have : (cur.toList.take (l.length * 5))[i * 5 + k]? = some u := by rw [ht, flatO_get l i k hi hk, hu]
    rw [List.getElem?_take, if_pos (by omega)] at this
    simpa using this
theorem Tryd.info_ou : (Tryd.prog.info? 35).map (fun i => (i.zero, i.size, i.bytes)) = some (some (.agg #[.int .i64 0, .int .i64 0, .int .i64 0, .int .i64 0, .int .u64 0]), 5, 40) := by kernel_rfl
end Go.Proofs.YtfegdmhfmhaneaaDoor
