/-
  The bulk of package bulk: Admit.
-/
import Derived.Test.YthbhkmhmiplikaaBulk2
namespace Go.Proofs.Ythbhkmhmiplikaa
open Go.RowKit

/-- What becomes of who runs and who waits when x wants in; what is told; who runs by that. -/
def admitM (m q : Nat) (hs ws : List Int) (x : Int) : List Int × List Int × Int × List Int :=
  if x ∈ hs ∨ x ∈ ws then (hs, ws, 3, []) else
  if hs.length < m ∧ ws = [] then (hs ++ [x], ws, 1, []) else
  if ws.length < q then (hs, ws ++ [x], 2, []) else
  if hs.length < m ∧ ws ≠ [] then (hs ++ [el ws 0], ws.tail ++ [x], 2, [el ws 0]) else (hs, ws, 3, [])

theorem admit_nil (w : World) (x : Int) : Calls Try.prog 36 #[.pointer none, .int .i64 x] w fun e w' => e = .returned (.tuple #[.int .i64 3, .slice none 0 0]) ∧ w' = w := by
  go_enter Try.func36, Try.ntmps36
  go_wp2
  go_ret2
  exact ⟨rfl, rfl⟩

section
variable {w : World} {b s r g : Nat} {hs ws : List Int} {m q : Nat} (h : IsBulk w b s r g hs ws m q) (x : Int)
include h

theorem IsBulk.lens : hs.length ≤ m ∧ ws.length ≤ q ∧ m ≤ 8 ∧ q ≤ 8 := by
  have h1 := h.set.2.2
  have h2 := h.ring.le
  simp only [own0, List.length_map] at h1
  exact ⟨h1.1, h2.1, h1.2, h2.2⟩

set_option maxHeartbeats 1000000 in
theorem IsBulk.admit_there (hx : x ∈ hs ∨ x ∈ ws) :
    Calls Try.prog 36 #[.pointer (some ⟨b, 0, none⟩), .int .i64 x] w fun e w' => e = .returned (.tuple #[.int .i64 3, .slice none 0 0]) ∧ Fr [] w w' := by
  have hl := h.lens
  have HR := Lib.hid (h.runs x)
  have HW := Lib.hid (fun (w1 : World) (F : Fr [] w w1) => (h.fr0 F).waiting)
  by_cases hh : x ∈ hs
  · rw [decide_eq_true hh] at HR
    clear hx hh
    go_enter Try.func36, Try.ntmps36
    go_wp2_with fail
    refine (HR.out).mono ?_
    rintro e w1 ⟨rfl, F1⟩
    go_wp2
    go_ret2
    exact ⟨rfl, F1⟩
  · have hw : x ∈ ws := by rcases hx with h1 | h1; exact absurd h1 hh; exact h1
    rw [decide_eq_false hh] at HR
    have HX := Lib.hid hw
    clear hx hh hw
    go_enter Try.func36, Try.ntmps36
    go_wp2_with fail
    refine (HR.out).mono ?_
    rintro e w1 ⟨rfl, F1⟩
    go_wp2_with fail
    refine (HW.out _ F1).mono ?_
    rintro e w2 ⟨v, rfl, V, F2⟩
    go_wp2_with fail
    refine (index_spec V.1 (by omega) x).mono ?_
    rintro e w3 ⟨rfl, rfl⟩
    rw [decide_eq_true HX.out]
    go_wp2
    go_ret2
    exact ⟨rfl, F1.trans F2⟩

set_option maxHeartbeats 2000000 in
theorem IsBulk.admit_run (hh : x ∉ hs) (hw : ws = []) (hm : hs.length < m) :
    Calls Try.prog 36 #[.pointer (some ⟨b, 0, none⟩), .int .i64 x] w fun e w' => e = .returned (.tuple #[.int .i64 1, .slice none 0 0]) ∧ IsBulk w' b s r g (hs ++ [x]) ws m q ∧ Fr [r, g] w w' := by
  have hl := h.lens
  have HR := Lib.hid (h.runs x)
  have HW := Lib.hid (fun (w1 : World) (F : Fr [] w w1) => (h.fr0 F).waiting)
  have HL := Lib.hid (fun (w1 : World) (F : Fr [] w w1) => (h.fr0 F).ring.len)
  have HT := Lib.hid (fun (w1 : World) (F : Fr [] w w1) => (h.fr0 F).set.take_yes x 0 (by simpa [own0] using hm) (fun e => hh ((mem_own0 _ _).1 e)))
  rw [decide_eq_false hh] at HR
  have c0 := h.c0
  have c1 := h.c1
  have hlt := h.lt
  have hap := h.apart
  have hnd : (hs ++ [x]).Nodup := by
    have := h.nodup
    subst hw
    rw [List.append_nil] at this
    rw [List.nodup_append]
    exact ⟨this, by simp, fun y hy z hz e => by simp at hz; subst hz; subst e; exact hh hy⟩
  subst hw
  have HX := Lib.hid hh
  clear hh
  go_enter Try.func36, Try.ntmps36
  go_wp2_with fail
  refine (HR.out).mono ?_
  rintro e w1 ⟨rfl, F1⟩
  go_wp2_with fail
  refine (HW.out _ F1).mono ?_
  rintro e w2 ⟨v, rfl, V, F2⟩
  go_wp2_with fail
  refine (index_spec V.1 (by omega) x).mono ?_
  rintro e w3 ⟨rfl, rfl⟩
  rw [decide_eq_false (show x ∉ [] by simp)]
  have F3 := F1.trans F2
  have c0' := (F3.cell (p := ⟨b, 0, none⟩) hlt (by simp)).trans c0
  have c1' := (F3.cell (p := ⟨b, 1, none⟩) hlt (by simp)).trans c1
  clear F1 F2 V
  go_wp2_with fail
  go_region_with (first
    | (go_at_call 20; refine (HL.out _ (by first | exact F3.drew | assumption)).mono ?_; rintro e w1 ⟨rfl, rfl⟩)
    | (go_at_call 51; refine (own_spec x _).mono ?_; rintro e w4 ⟨rfl, F⟩; have F4 := F3.drew.trans F; have c0'' := (F4.cell (p := ⟨b, 0, none⟩) hlt (by simp)).trans c0; clear F)
    | (go_at_call 53; refine (HT.out _ F4).mono ?_; rintro e w5 ⟨rfl, S5, F5⟩))
  all_goals go_wp2
  all_goals go_ret2
  all_goals (have F6 : Fr [r] w w5 := (F4.mono (S' := [r]) (fun x hx => by cases hx)).trans F5)
  all_goals exact ⟨rfl, ⟨F6.keep h.blk (by simp; exact hap.2.1), by simpa [own0] using S5, h.ring.fr F6 (by simp; exact fun e => hap.2.2.2.2.2 e.symm), by simpa using hnd⟩, F6.mono (fun x hx => Or.inl (by simp at hx; simp [hx]))⟩
end
end Go.Proofs.Ythbhkmhmiplikaa
