/-
  The wheel's memory: what it is, and what stays.
-/
import Derived.Test.YtibnhfnidgfenaaWBits
import Derived.Test.YtibnhfnidgfenaaMapB
import Derived.Test.YtibnhfnidgfenaaApp
namespace Go.Proofs.Ytibnhfnidgfenaa
open Go.RowKit

/-- A timer, when it is due, when it was put, and the block it lies in. -/
structure Ent where
  kind : Int
  id : Int
  due : Nat
  seq : Nat
  blk : Nat
def Ent.key (e : Ent) : Int × Int := (e.kind, e.id)
def Ent.obj (e : Ent) : Obj := .cells #[.int .i64 e.kind, .int .i64 e.id, .int .u64 e.due, .int .i64 e.seq] 84
def ptr (b : Nat) : Value := .pointer (some ⟨b, 0, none⟩)
/-- The place as the map's key. -/
def spotI (now due : Nat) : Int × Int := (((spot now due).1 : Int), ((spot now due).2 : Int))
theorem spotI_inj {a b c d : Nat} : spotI a b = spotI c d ↔ spot a b = spot c d := by
  unfold spotI
  constructor
  · intro h
    simp only [Prod.mk.injEq] at h
    exact Prod.ext (by omega) (by omega)
  · intro h; rw [h]

/-- A slice that the wheel owns, of the entries in these blocks. -/
def Row (w : World) (v : Value) (xs : List Nat) : Prop := w.ownsRow 0 82 1 v xs.length (xs.map ptr)
def rowAt (lb : List ((Int × Int) × Value)) (p : Int × Int) : Value := (look lb p).getD (.slice none 0 0)
/-- The wheel's own blocks but the rows'. -/
def ownW (b m1 m2 : Nat) (L : List Ent) : List Nat := b :: m1 :: m2 :: L.map (·.blk)

/-- Block b is a wheel: the time, how many were put, the timers, and in which slots they stand. -/
structure Core (w : World) (b m1 m2 : Nat) (fp : List Nat) (now seq : Nat) (L : List Ent) (la : List ((Int × Int) × Value)) (f : Int × Int → List Nat) : Prop where
  blk : w.heap[b]? = some (.cells #[.int .u64 now, .int .i64 seq, .map (some m1), .map (some m2)] 81 (0, 0))
  all : MapKV enc2 w m1 la
  ents : ∀ e ∈ L, w.heap[e.blk]? = some e.obj
  rows : ∃ lb, MapB enc2 w m2 lb ∧ (∀ p, Row w (rowAt lb p) (f p)) ∧ (∀ p q k, (rowAt lb p).ownBlock = some k → (rowAt lb q).ownBlock = some k → p = q) ∧ ∀ p k, (rowAt lb p).ownBlock = some k → k ∈ fp ∧ k ∉ ownW b m1 m2 L
  dist : (ownW b m1 m2 L).Nodup
  foot : ∀ x ∈ ownW b m1 m2 L, x ∈ fp
  lt : ∀ x ∈ fp, x < w.heap.size

/-- What it held, or new. -/
def Sub (fp' fp : List Nat) (w : World) : Prop := ∀ x ∈ fp', x ∈ fp ∨ w.heap.size ≤ x
theorem Sub.refl (fp : List Nat) (w : World) : Sub fp fp w := fun _ h => .inl h
theorem Sub.trans {a b c : List Nat} {w w' : World} (h : Sub b a w) (k : Sub c b w') (hw : w.heap.size ≤ w'.heap.size) : Sub c a w := fun x hx => by
  rcases k x hx with h1 | h1
  · exact h x h1
  · exact .inr (by omega)
theorem Fr.sub {fp fp' : List Nat} {w w1 w2 : World} (h : Fr fp w w1) (k : Fr fp' w1 w2) (s : Sub fp' fp w) : Fr fp w w2 := h.trans' k s

variable {w : World} {b m1 m2 : Nat} {fp : List Nat} {now seq : Nat} {L : List Ent} {la : List ((Int × Int) × Value)} {f : Int × Int → List Nat}

theorem Row.fr {w' : World} {v : Value} {xs : List Nat} (h : Row w v xs) {S : List Nat} (k : Fr S w w') (hS : ∀ g, v.ownBlock = some g → g ∉ S) : Row w' v xs := ownsRow_fr h k hS
theorem Core.fr (h : Core w b m1 m2 fp now seq L la f) {w' : World} {S : List Nat} (k : Fr S w w') (hS : ∀ x ∈ S, x ∉ fp) : Core w' b m1 m2 fp now seq L la f := by
  have hn : ∀ x ∈ ownW b m1 m2 L, x ∉ S := fun x hx hs => hS x hs (h.foot x hx)
  obtain ⟨lb, h1, h2, h3, h4⟩ := h.rows
  refine ⟨k.keep h.blk (hn b (by simp [ownW])), h.all.fr k (hn m1 (by simp [ownW])), fun e he => k.keep (h.ents e he) (hn _ (by simp only [ownW, List.mem_cons, List.mem_map]; exact .inr (.inr (.inr ⟨e, he, rfl⟩)))), ⟨lb, h1.fr k (hn m2 (by simp [ownW])), fun p => (h2 p).fr k (fun g hg hs => hS g hs (h4 p g hg).1), h3, h4⟩, h.dist, h.foot, fun x hx => Nat.lt_of_lt_of_le (h.lt x hx) k.size⟩
theorem Core.fr0 (h : Core w b m1 m2 fp now seq L la f) {w' : World} (k : Fr [] w w') : Core w' b m1 m2 fp now seq L la f := h.fr k (by simp)
theorem Core.c0 (h : Core w b m1 m2 fp now seq L la f) : w.cell? ⟨b, 0, none⟩ = some (.int .u64 now) := by rw [cell_of_block h.blk]; rfl
theorem Core.c1 (h : Core w b m1 m2 fp now seq L la f) : w.cell? ⟨b, 1, none⟩ = some (.int .i64 seq) := by rw [cell_of_block h.blk]; rfl
theorem Core.c2 (h : Core w b m1 m2 fp now seq L la f) : w.cell? ⟨b, 2, none⟩ = some (.map (some m1)) := by rw [cell_of_block h.blk]; rfl
theorem Core.c3 (h : Core w b m1 m2 fp now seq L la f) : w.cell? ⟨b, 3, none⟩ = some (.map (some m2)) := by rw [cell_of_block h.blk]; rfl
theorem ent_cells {e : Ent} (h : w.heap[e.blk]? = some e.obj) : w.cell? ⟨e.blk, 0, none⟩ = some (.int .i64 e.kind) ∧ w.cell? ⟨e.blk, 1, none⟩ = some (.int .i64 e.id) ∧ w.cell? ⟨e.blk, 2, none⟩ = some (.int .u64 e.due) ∧ w.cell? ⟨e.blk, 3, none⟩ = some (.int .i64 e.seq) :=
  ⟨by rw [cell_of_block h]; rfl, by rw [cell_of_block h]; rfl, by rw [cell_of_block h]; rfl, by rw [cell_of_block h]; rfl⟩

theorem look_put {α : Type} [DecidableEq α] (kv : List (α × Value)) (a b : α) (v : Value) : look (put kv a v) b = if b = a then some v else look kv b := by
  unfold put
  by_cases h : a ∈ kv.map (·.1)
  · rw [if_pos h]
    induction kv with
    | nil => simp at h
    | cons p kv ih =>
      simp only [look, List.map_cons, List.find?_cons] at ih ⊢
      by_cases hp : p.1 = a
      · rw [if_pos hp]
        by_cases hb : b = a
        · subst hb; simp
        · have h1 : ¬ a = b := fun e => hb e.symm
          have h2 : ¬ p.1 = b := fun e => h1 (hp.symm.trans e)
          simp only [h1, h2, hb, decide_false, if_false]
          by_cases h3 : a ∈ kv.map (·.1)
          · rw [ih h3, if_neg hb]
          · have : (kv.map fun p => if p.1 = a then (a, v) else p) = kv := by
              conv => rhs; rw [← List.map_id kv]
              apply List.map_congr_left
              intro x hx
              rw [if_neg (fun e => h3 (List.mem_map.2 ⟨x, hx, e⟩))]; rfl
            rw [this]
      · have h3 : a ∈ kv.map (·.1) := by simpa [Ne.symm hp] using h
        rw [if_neg hp]
        by_cases hb : p.1 = b
        · have : ¬ b = a := fun e => hp (hb.trans e)
          simp [hb, this]
        · simp only [hb, decide_false]
          exact ih h3
  · rw [if_neg h]
    simp only [look, List.find?_append]
    by_cases hb : b = a
    · subst hb
      have : kv.find? (fun p => decide (p.1 = b)) = none := by
        rw [List.find?_eq_none]
        intro x hx
        simp only [decide_eq_true_eq]
        exact fun e => h (List.mem_map.2 ⟨x, hx, e⟩)
      rw [this]; simp
    · have : ¬ a = b := fun e => hb e.symm
      simp [this, hb]
theorem look_del {α : Type} [DecidableEq α] (kv : List (α × Value)) (a b : α) : look (del kv a) b = if b = a then none else look kv b := by
  unfold look del
  rw [List.find?_filter]
  by_cases hb : b = a
  · subst hb
    rw [if_pos rfl]
    have : kv.find? (fun x => decide (decide (x.1 ≠ b) = true ∧ decide (x.1 = b) = true)) = none := by
      rw [List.find?_eq_none]
      intro x _
      simp only [decide_eq_true_eq]
      exact fun h => h.1 h.2
    rw [this]; rfl
  · rw [if_neg hb]
    congr 1
    congr 1
    funext x
    by_cases hx : x.1 = b
    · simp [hx, hb]
    · simp [hx]
theorem rowAt_put (lb : List ((Int × Int) × Value)) (a p : Int × Int) (v : Value) : rowAt (put lb a v) p = if p = a then v else rowAt lb p := by
  unfold rowAt
  rw [look_put]
  split <;> rfl
theorem rowAt_del (lb : List ((Int × Int) × Value)) (a p : Int × Int) : rowAt (del lb a) p = if p = a then .slice none 0 0 else rowAt lb p := by
  unfold rowAt
  rw [look_del]
  split <;> rfl
def upd (f : Int × Int → List Nat) (p : Int × Int) (xs : List Nat) : Int × Int → List Nat := fun q => if q = p then xs else f q
end Go.Proofs.Ytibnhfnidgfenaa
