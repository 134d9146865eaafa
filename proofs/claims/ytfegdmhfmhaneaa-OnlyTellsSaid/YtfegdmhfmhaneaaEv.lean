/-
  Slices of events: what one reads as; who owns a command, by the document.
-/
import Derived.Test.YtfegdmhfmhaneaaApp
import Derived.Test.YtfegdmhfmhaneaaKeys
import Derived.Test.YtfegdmhfmhaneaaEvPlain
namespace Go.Proofs.Ytfegdmhfmhaneaa
open Go.RowKit

def Ev.val (e : Ev) : Value := .agg #[.int .i64 e.kind, .int .i64 e.id, .int .i64 e.dep, .int .i64 e.scope, .int .i64 e.arg, .int .i64 e.step, .int .u64 e.n, .bool e.ok, .slice e.va e.vn e.vc]
def Ev.obj (e : Ev) : Obj := .cells #[.int .i64 e.kind, .int .i64 e.id, .int .i64 e.dep, .int .i64 e.scope, .int .i64 e.arg, .int .i64 e.step, .int .u64 e.n, .bool e.ok, .slice e.va e.vn e.vc] 36
instance : Inhabited Ev := ⟨⟨0, 0, 0, 0, 0, 0, 0, false, none, 0, 0⟩⟩

/-- The nine cells from an address on. -/
def At9 (w : World) (b o : Nat) (e : Ev) : Prop :=
  w.cell? ⟨b, o, none⟩ = some (.int .i64 e.kind) ∧ w.cell? ⟨b, o + 1, none⟩ = some (.int .i64 e.id) ∧ w.cell? ⟨b, o + 2, none⟩ = some (.int .i64 e.dep) ∧ w.cell? ⟨b, o + 3, none⟩ = some (.int .i64 e.scope) ∧
  w.cell? ⟨b, o + 4, none⟩ = some (.int .i64 e.arg) ∧ w.cell? ⟨b, o + 5, none⟩ = some (.int .i64 e.step) ∧ w.cell? ⟨b, o + 6, none⟩ = some (.int .u64 e.n) ∧ w.cell? ⟨b, o + 7, none⟩ = some (.bool e.ok) ∧ w.cell? ⟨b, o + 8, none⟩ = some (.slice e.va e.vn e.vc)
theorem At9.fr {w w' : World} {b o : Nat} {e : Ev} (h : At9 w b o e) {S : List Nat} (k : Fr S w w') (hn : b ∉ S) : At9 w' b o e := by
  obtain ⟨h0, h1, h2, h3, h4, h5, h6, h7, h8⟩ := h
  have key : ∀ {i : Nat} {v : Value}, w.cell? ⟨b, i, none⟩ = some v → w'.cell? ⟨b, i, none⟩ = some v := fun h => (k.cell (World.block_lt_of_cell? _ _ h) hn).trans h
  exact ⟨key h0, key h1, key h2, key h3, key h4, key h5, key h6, key h7, key h8⟩
theorem At9.lt {w : World} {b o : Nat} {e : Ev} (h : At9 w b o e) : b < w.heap.size := World.block_lt_of_cell? _ _ h.1
/-- A box that holds an event. -/
theorem At9.box {w : World} {b : Nat} {e : Ev} (h : w.heap[b]? = some e.obj) : At9 w b 0 e :=
  ⟨by rw [cell_of_block h]; rfl, by rw [cell_of_block h]; rfl, by rw [cell_of_block h]; rfl, by rw [cell_of_block h]; rfl, by rw [cell_of_block h]; rfl, by rw [cell_of_block h]; rfl, by rw [cell_of_block h]; rfl, by rw [cell_of_block h]; rfl, by rw [cell_of_block h]; rfl⟩

/-- v is a slice of events that reads as l, and lies in no block below base. -/
def Evs (w : World) (base : Nat) (v : Value) (l : List Ev) : Prop :=
  ∃ ao cap, v = .slice ao l.length cap ∧ l.length ≤ cap ∧ (ao = none → cap = 0) ∧ ∀ i, i < l.length → ∃ b o, ao = some ⟨b, o, none⟩ ∧ base ≤ b ∧ At9 w b (o + i * 9) (l.getD i default)
theorem Evs.fr {w w' : World} {base : Nat} {v : Value} {l : List Ev} (h : Evs w base v l) {S : List Nat} (k : Fr S w w') (hS : ∀ x ∈ S, x < base) : Evs w' base v l := by
  obtain ⟨ao, cap, h1, h2, h3, h4⟩ := h
  refine ⟨ao, cap, h1, h2, h3, fun i hi => ?_⟩
  obtain ⟨b, o, h5, h6, h7⟩ := h4 i hi
  exact ⟨b, o, h5, h6, h7.fr k (fun hb => by have := hS b hb; omega)⟩
theorem Evs.fr0 {w w' : World} {base : Nat} {v : Value} {l : List Ev} (h : Evs w base v l) (k : Fr [] w w') : Evs w' base v l := h.fr k (by simp)
theorem Evs.dr {w w' : World} {base : Nat} {v : Value} {l : List Ev} (h : Evs w base v l) (k : ∃ q, w' = w.drewN q) : Evs w' base v l := h.fr0 ((Fr.refl [] w).dr k)

theorem find_snoc {α : Type} {p : α → Bool} : ∀ {l : List α} {x : α}, (l ++ [x]).find? p = (l.find? p).or (if p x then some x else none)
  | [], x => by simp [List.find?]
  | y :: l, x => by
    simp only [List.cons_append, List.find?_cons]
    cases p y with
    | true => rfl
    | false => exact find_snoc
theorem take_snoc_ev {l : List Ev} {i : Nat} (h : i < l.length) : l.take (i + 1) = l.take i ++ [l.getD i default] := by
  rw [List.take_succ_eq_append_getElem h]
  simp [List.getD, h]
/-- Up to i nobody submits it. -/
theorem ownerOf_here {l : List Ev} {deps id : Int} {i : Nat} (h : i < l.length) (hn : (l.take i).find? (ownsB deps id) = none) (hy : ownsB deps id (l.getD i default) = true) : ownerOf l deps id = (l.getD i default).dep := by
  unfold ownerOf
  have e : l = l.take (i + 1) ++ l.drop (i + 1) := (List.take_append_drop _ _).symm
  have : l.find? (ownsB deps id) = some (l.getD i default) := by
    generalize hx : l.getD i default = x at *
    rw [e, List.find?_append, take_snoc_ev h, find_snoc, hn, hx, hy]
    rfl
  rw [this]
  rfl
theorem none_step {l : List Ev} {deps id : Int} {i : Nat} (h : i < l.length) (hn : (l.take i).find? (ownsB deps id) = none) (hy : ownsB deps id (l.getD i default) = false) : (l.take (i + 1)).find? (ownsB deps id) = none := by
  rw [take_snoc_ev h, find_snoc, hn, hy]
  rfl

set_option maxHeartbeats 4000000 in
theorem refOwner_spec {w : World} {base : Nat} {v : Value} {l : List Ev} (hl : Evs w base v l) (hn : l.length ≤ 1000) (deps id : Int) :
    Calls Try.prog 10 #[v, .int .i64 deps, .int .i64 id] w fun e w' => e = .returned (.int .i64 (ownerOf l deps id)) ∧ Fr [] w w' := by
  obtain ⟨ao, cap, rfl, hc, ha, h4⟩ := hl
  have H4 := Lib.hid h4
  clear h4 ha
  go_enter Try.func10, Try.ntmps10
  go_wp2_with fail
  go_loopw [7] (fun x wr => ∃ i : Nat, i ≤ l.length ∧ x = .int .i64 i ∧ Hid ((l.take i).find? (ownsB deps id) = none) ∧ Hid (Fr [] w wr)) (fun x _ => l.length - (intOf x).toNat)
  case atStart => exact ⟨0, Nat.zero_le _, rfl, Lib.hid (by simp), Lib.hid (Fr.refl _ _)⟩
  case round =>
    obtain ⟨i, hi, rfl, HI, HF⟩ := hrel
    by_cases hlt : i < l.length
    · obtain ⟨b, o, rfl, hb, h9⟩ := H4.out i hlt
      have HH := Lib.hid (ownerOf_here hlt HI.out)
      have HS := Lib.hid (none_step hlt HI.out)
      obtain ⟨k0, k1, k2, k3, k4, k5, k6, k7, k8⟩ := h9.fr HF.out (by simp)
      clear h9
      generalize hev : l.getD i default = ev at *
      obtain ⟨kind, eid, dep, scope, arg, step, n, ok, va, vn, vc⟩ := ev
      clear hev
      have HE := Lib.hid (@ownsB_iff deps id ⟨kind, eid, dep, scope, arg, step, n, ok, va, vn, vc⟩)
      simp only at k0 k1 k2 k3 k4 k5 k6 k7 k8
      cases hw : ownsB deps id ⟨kind, eid, dep, scope, arg, step, n, ok, va, vn, vc⟩ with
      | true =>
        have HH := Lib.hid (HH.out hw)
        obtain ⟨q1, q2, q3⟩ := HE.out.1 hw
        simp only [mayB, decide_eq_true_eq] at q1 q2 q3
        obtain ⟨j1, j2, j3, j4, j5, j6, j7, j8⟩ := q3
        subst q1 q2
        clear hw HE HS
        go_wp2_with fail
        go_ret
        exact ⟨ret_int HH.out.symm, HF.out.alloc _⟩
      | false =>
        have HS := Lib.hid (HS.out hw)
        have HW := Lib.hid hw
        clear hw HH HE
        go_wp2_with fail
        all_goals first
          | (exfalso; exact Bool.eq_false_iff.1 HW.out (ownsB_iff.2 ⟨by first | rfl | assumption | omega, by first | rfl | assumption | omega, by simp only [mayB, decide_eq_true_eq]; omega⟩))
          | (go_roundw
             case rel => exact ⟨i + 1, by omega, by go_num, HS, Lib.hid (HF.out.alloc _)⟩
             case measure => simp [intOf]; omega)
    · go_wp2_with fail
      go_ret
      have : ownerOf l deps id = -1 := by
        have h := HI.out
        rw [List.take_of_length_le (by omega)] at h
        unfold ownerOf
        rw [h]; rfl
      exact ⟨ret_int this.symm, HF.out⟩
end Go.Proofs.Ytfegdmhfmhaneaa
