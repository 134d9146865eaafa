/-
  IndexFunc and DeleteFunc on a row of events that the call owns, by the program's closure.
-/
import Derived.Test.YtfegdmhfmhaneaaEv4
namespace Go.Proofs.Ytfegdmhfmhaneaa
open Go.RowKit

/-- Block g holds the events cur, nine cells each, from its beginning on. -/
def EvBlk (w : World) (g : Nat) (cur : List Ev) : Prop := (∀ t, t < cur.length → At9 w g (t * 9) (cur.getD t default)) ∧ ∀ i, w.frozen? ⟨g, i, none⟩ = false
theorem EvBlk.fr {w w' : World} {g : Nat} {cur : List Ev} (h : EvBlk w g cur) (hg : g < w.heap.size) {S : List Nat} (k : Fr S w w') (hn : g ∉ S) : EvBlk w' g cur :=
  ⟨fun t ht => (h.1 t ht).fr k hn, fun i => (k.frozen (p := ⟨g, i, none⟩) hg hn).trans (h.2 i)⟩
/-- The predicate, in whatever world that has come of w by writing into g alone. -/
def DropsIn (w : World) (g : Nat) (p5 p7 : Nat) (l : List Ev) (deps d : Int) : Prop :=
  ∀ wx, Fr [g] w wx → ∀ e : Ev, Calls Try.prog 22 #[e.val, .pointer (some ⟨p5, 0, none⟩), .pointer (some ⟨p7, 0, none⟩)] wx fun x w' => x = .returned (.bool (!playsB l deps d e)) ∧ Fr [] wx w'
theorem DropsIn.step {w w1 : World} {g p5 p7 : Nat} {l : List Ev} {deps d : Int} (h : DropsIn w g p5 p7 l deps d) (F : Fr [g] w w1) : DropsIn w1 g p5 p7 l deps d := fun wx Fx => h wx (F.trans Fx)

def FirstDrop (l0 : List Ev) (deps d : Int) (l : List Ev) (r : Int) : Prop :=
  (r = -1 ∧ ∀ t, t < l.length → playsB l0 deps d (l.getD t default) = true) ∨ ∃ k : Nat, k < l.length ∧ r = k ∧ playsB l0 deps d (l.getD k default) = false ∧ ∀ t, t < k → playsB l0 deps d (l.getD t default) = true

set_option maxHeartbeats 4000000 in
theorem index_ev {w : World} {g cap p5 p7 : Nat} {l l0 : List Ev} {deps d : Int} (hb : EvBlk w g l) (hd : DropsIn w g p5 p7 l0 deps d) (hn : l.length ≤ 1000) :
    Calls Try.prog 28 #[.slice (some ⟨g, 0, none⟩) l.length cap, .func (.func 22) #[] #[.pointer (some ⟨p5, 0, none⟩), .pointer (some ⟨p7, 0, none⟩)]] w fun e w' => (∃ r, e = .returned (.int .i64 r) ∧ FirstDrop l0 deps d l r) ∧ Fr [] w w' := by
  have HB := Lib.hid hb.1
  have HD := Lib.hid hd
  clear hb hd
  go_enter Try.func28, Try.ntmps28
  go_wp2_with fail
  go_loopw [8] (fun x wr => ∃ i : Nat, i ≤ l.length ∧ x = .int .i64 i ∧ Hid (∀ t, t < i → playsB l0 deps d (l.getD t default) = true) ∧ Hid (Fr [] w wr)) (fun x _ => l.length - (intOf x).toNat)
  case atStart => exact ⟨0, Nat.zero_le _, rfl, Lib.hid (fun t ht => by omega), Lib.hid (Fr.refl _ _)⟩
  case round =>
    obtain ⟨i, hi, rfl, HI, HF⟩ := hrel
    by_cases hlt : i < l.length
    · obtain ⟨k0, k1, k2, k3, k4, k5, k6, k7, k8⟩ := (HB.out i hlt).fr HF.out (by simp)
      have HS := Lib.hid (fun (h : playsB l0 deps d (l.getD i default) = true) => (fun t (ht : t < i + 1) => if e : t = i then e ▸ h else HI.out t (by omega) : ∀ t, t < i + 1 → playsB l0 deps d (l.getD t default) = true))
      have HE := Lib.hid (fun (h : playsB l0 deps d (l.getD i default) = false) => (show FirstDrop l0 deps d l i from .inr ⟨i, hlt, rfl, h, HI.out⟩))
      have HC := Lib.hid (HD.out wr (HF.out.mono (by simp)) (l.getD i default))
      generalize hev : l.getD i default = ev at *
      clear hev
      obtain ⟨kind, eid, dep, scope, arg, step, n, ok, va, vn, vc⟩ := ev
      simp only [Ev.val] at *
      cases hp : playsB l0 deps d ⟨kind, eid, dep, scope, arg, step, n, ok, va, vn, vc⟩ with
      | true =>
        rw [hp] at HC
        have HS := Lib.hid (HS.out hp)
        clear hp HE
        go_wp2_with fail
        refine HC.out.mono ?_
        rintro e w1 ⟨rfl, F⟩
        have HF1 := Lib.hid (HF.out.trans F)
        clear F
        go_wp2_with fail
        go_roundw
        case rel => exact ⟨i + 1, by omega, by go_num, HS, HF1⟩
        case measure => simp [intOf]; omega
      | false =>
        rw [hp] at HC
        have HE := Lib.hid (HE.out hp)
        clear hp HS
        go_wp2_with fail
        refine HC.out.mono ?_
        rintro e w1 ⟨rfl, F⟩
        have HF1 := Lib.hid (HF.out.trans F)
        clear F
        go_wp2_with fail
        go_ret
        exact ⟨⟨_, rfl, HE.out⟩, HF1.out⟩
    · obtain rfl : i = l.length := by omega
      go_wp2_with fail
      go_ret
      exact ⟨⟨_, rfl, .inl ⟨rfl, HI.out⟩⟩, HF.out⟩

/-- Nine cells laid. -/
def lay9 (w : World) (g o : Nat) (e : Ev) : World :=
  ((((((((w.setCell ⟨g, o, none⟩ (.int .i64 e.kind)).setCell ⟨g, o + 1, none⟩ (.int .i64 e.id)).setCell ⟨g, o + 2, none⟩ (.int .i64 e.dep)).setCell ⟨g, o + 3, none⟩ (.int .i64 e.scope)).setCell ⟨g, o + 4, none⟩ (.int .i64 e.arg)).setCell ⟨g, o + 5, none⟩ (.int .i64 e.step)).setCell ⟨g, o + 6, none⟩ (.int .u64 e.n)).setCell ⟨g, o + 7, none⟩ (.bool e.ok)).setCell ⟨g, o + 8, none⟩ (.slice e.va e.vn e.vc)
theorem lay9_eq (w : World) (g o : Nat) (e : Ev) : lay9 w g o e = w.setCells g o e.cells := rfl
theorem Fr.setCells {S : List Nat} {a : World} {g : Nat} (hg : g ∈ S ∨ a.heap.size ≤ g) : ∀ (vs : List Value) (o : Nat) {w : World}, Fr S a w → Fr S a (w.setCells g o vs)
  | [], _, _, h => h
  | v :: vs, o, _, h => Fr.setCells hg vs (o + 1) (h.setCell hg v)
theorem frozen_setCells (g : Nat) (p : Addr) : ∀ (vs : List Value) (o : Nat) (w : World), (w.setCells g o vs).frozen? p = w.frozen? p
  | [], _, _ => rfl
  | v :: vs, o, w => by rw [World.setCells, frozen_setCells g p vs (o + 1), World.frozen?_setCell]
theorem lay9_fr (w : World) (g o : Nat) (e : Ev) : Fr [g] w (lay9 w g o e) := Fr.setCells (.inl (by simp)) e.cells o (Fr.refl _ _)
theorem At9.out {w : World} {b o o2 : Nat} {e : Ev} (h : At9 w b o e) (vs : List Value) (ho : o + 9 ≤ o2 ∨ o2 + vs.length ≤ o) : At9 (w.setCells b o2 vs) b o e :=
  At9.mk fun k u hu => by
    have hk : k < 9 := by
      rw [← cells_len e]
      exact (List.getElem?_eq_some_iff.1 hu).1
    rw [World.cell?_setCells_out _ _ _ _ _ (fun _ _ => by simp; omega)]
    exact h.get hu
theorem At9.lay {w : World} {b o : Nat} {e0 : Ev} (h : At9 w b o e0) (e : Ev) : At9 (lay9 w b o e) b o e := by
  rw [lay9_eq]
  refine At9.mk fun k u hu => ?_
  obtain ⟨hk, rfl⟩ := List.getElem?_eq_some_iff.1 hu
  refine World.cell?_setCells_in b e.cells o w (fun j hj => ?_) k hk
  have hj' : j < e0.cells.length := by simpa [cells_len] using hj
  rw [h.get (List.getElem?_eq_getElem hj')]
  rfl
/-- An event laid into the block. -/
theorem EvBlk.lay {w : World} {g : Nat} {cur : List Ev} (h : EvBlk w g cur) {i : Nat} (hi : i < cur.length) (e : Ev) : EvBlk (lay9 w g (i * 9) e) g (cur.set i e) := by
  refine ⟨fun t ht => ?_, fun j => by rw [lay9_eq, frozen_setCells]; exact h.2 j⟩
  rw [List.length_set] at ht
  by_cases hti : t = i
  · subst hti
    have : (cur.set t e).getD t default = e := by simp [List.getD, hi]
    rw [this]
    exact (h.1 t ht).lay e
  · have : (cur.set i e).getD t default = cur.getD t default := by simp [List.getD, List.getElem?_set_ne (Ne.symm hti)]
    rw [this, lay9_eq]
    exact (h.1 t ht).out _ (by rw [cells_len]; omega)
end Go.Proofs.Ytfegdmhfmhaneaa
