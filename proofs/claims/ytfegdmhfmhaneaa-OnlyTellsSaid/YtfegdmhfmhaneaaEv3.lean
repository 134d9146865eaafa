/-
  Whose events: the program's closure; a copy of a slice of events.
-/
import Derived.Test.YtfegdmhfmhaneaaEv2
namespace Go.Proofs.Ytfegdmhfmhaneaa
open Go.RowKit

theorem Owner_spec {w : World} {base : Nat} {v : Value} {l : List Ev} (hl : Evs w base v l) (hn : l.length ≤ 1000) (deps id : Int) :
    Calls Try.prog 9 #[v, .int .i64 deps, .int .i64 id] w fun e w' => e = .returned (.int .i64 (ownerOf l deps id)) ∧ Fr [] w w' := by
  have HO := Lib.hid (owners_spec hl hn deps)
  obtain ⟨ao, cap, rfl, -⟩ := hl
  go_enter Try.func9, Try.ntmps9
  go_wp2_with fail
  refine HO.out.mono ?_
  rintro e w1 ⟨r, rfl, hr, hM, F⟩
  have HF := Lib.hid F
  have HM := Lib.hid hM
  clear F hM
  go_wp2_with fail
  refine (owner_spec HM.out id).mono ?_
  rintro e w2 ⟨rfl, rfl⟩
  go_wp2_with fail
  go_ret
  exact ⟨rfl, HF.out⟩

/-- What the closure captured: two boxes. -/
def OnlyCap (w : World) (p5 p7 r : Nat) (l : List Ev) (deps d : Int) : Prop :=
  w.cell? ⟨p5, 0, none⟩ = some (.int .i64 d) ∧ w.cell? ⟨p7, 0, none⟩ = some (.map (some r)) ∧ OwnMap w r l deps
theorem OnlyCap.fr {w w' : World} {p5 p7 r : Nat} {l : List Ev} {deps d : Int} (h : OnlyCap w p5 p7 r l deps d) {S : List Nat} (k : Fr S w w') (hS : p5 ∉ S ∧ p7 ∉ S ∧ r ∉ S) : OnlyCap w' p5 p7 r l deps d :=
  ⟨(k.cell (World.block_lt_of_cell? _ _ h.1) hS.1).trans h.1, (k.cell (World.block_lt_of_cell? _ _ h.2.1) hS.2.1).trans h.2.1, h.2.2.fr k hS.2.2⟩

set_option maxHeartbeats 4000000 in
theorem drops_spec {w : World} {p5 p7 r : Nat} {l : List Ev} {deps d : Int} (h : OnlyCap w p5 p7 r l deps d) (e : Ev) :
    Calls Try.prog 22 #[e.val, .pointer (some ⟨p5, 0, none⟩), .pointer (some ⟨p7, 0, none⟩)] w fun x w' => x = .returned (.bool (!playsB l deps d e)) ∧ Fr [] w w' := by
  have F : Fr [] w (w.alloc e.obj) := (Fr.refl _ _).alloc _
  have h' := h.fr F (by simp)
  obtain ⟨c5, c7, hM⟩ := h'
  have HM := Lib.hid hM
  have HF := Lib.hid F
  have HP := Lib.hid (rfl : playsB l deps d e = playsB l deps d e)
  have HO := Lib.hid (fun w' => owner_spec (w := w') (r := r) (l := l) (deps := deps))
  clear h hM F
  obtain ⟨kind, eid, dep, scope, arg, step, n, ok, va, vn, vc⟩ := e
  simp only [Ev.val, Ev.obj] at *
  have HPV : Hid (playsB l deps d ⟨kind, eid, dep, scope, arg, step, n, ok, va, vn, vc⟩ = if kind = 1 then decide (dep = d) && decide (ownerOf l deps eid = d) else if kind = 2 ∨ kind = 6 then true else if kind = 3 then decide (dep = d) else if kind = 4 ∨ kind = 5 then decide (ownerOf l deps eid = d) else false) := Lib.hid rfl
  rw [HPV.out]
  have HOW := Lib.hid (fun (w' : World) (M : OwnMap w' r l deps) => owner_spec M eid)
  generalize ownerOf l deps eid = own at *
  clear HP HO HPV
  by_cases k2 : kind = 2
  · subst k2
    go_enter Try.func22, Try.ntmps22
    go_wp2_with fail
    go_ret
    exact ⟨rfl, HF.out⟩
  by_cases k6 : kind = 6
  · subst k6
    go_enter Try.func22, Try.ntmps22
    go_wp2_with fail
    go_ret
    exact ⟨rfl, HF.out⟩
  by_cases k3 : kind = 3
  · subst k3
    go_enter Try.func22, Try.ntmps22
    go_wp2_with fail
    go_ret
    exact ⟨ret_bool (by by_cases h : dep = d <;> simp [h]), HF.out⟩
  by_cases k1 : kind = 1
  · subst k1
    by_cases hd : dep = d
    · subst hd
      go_enter Try.func22, Try.ntmps22
      go_wp2_with fail
      go_quiet ((go_at_call 18; exact Calls.quiet_of ((HOW.out _ (HM.out.fr (S := []) ((Fr.refl _ _).drewN _) (by simp))).mono (fun e w' h => ⟨h.1, 0, by rw [h.2]; rfl⟩))))
      go_wp2_with fail
      go_ret
      exact ⟨ret_bool (by by_cases h : own = dep <;> simp [h]), HF.out.drewN _⟩
    · go_enter Try.func22, Try.ntmps22
      go_wp2_with fail
      go_quiet (fail)
      go_wp2_with fail
      go_ret
      exact ⟨ret_bool (by simp), HF.out.drewN _⟩
  by_cases k4 : kind = 4
  · subst k4
    go_enter Try.func22, Try.ntmps22
    go_wp2_with fail
    go_quiet ((go_at_call 18; exact Calls.quiet_of ((HOW.out _ (HM.out.fr (S := []) ((Fr.refl _ _).drewN _) (by simp))).mono (fun e w' h => ⟨h.1, 0, by rw [h.2]; rfl⟩))))
    go_wp2_with fail
    go_ret
    exact ⟨ret_bool (by by_cases h : own = d <;> simp [h]), HF.out.drewN _⟩
  by_cases k5 : kind = 5
  · subst k5
    go_enter Try.func22, Try.ntmps22
    go_wp2_with fail
    go_quiet ((go_at_call 18; exact Calls.quiet_of ((HOW.out _ (HM.out.fr (S := []) ((Fr.refl _ _).drewN _) (by simp))).mono (fun e w' h => ⟨h.1, 0, by rw [h.2]; rfl⟩))))
    go_wp2_with fail
    go_ret
    exact ⟨ret_bool (by by_cases h : own = d <;> simp [h]), HF.out.drewN _⟩
  · go_enter Try.func22, Try.ntmps22
    go_wp2_with fail
    go_ret
    exact ⟨ret_bool (by simp [*]), HF.out⟩
end Go.Proofs.Ytfegdmhfmhaneaa
