/-
  The bulk of package bulk: Admit, where nobody runs at once; all cases together.
-/
import Derived.Test.YthbhkmhmiplikaaBulk3
namespace Go.Proofs.Ythbhkmhmiplikaa
open Go.RowKit

section
variable {w : World} {b s r g : Nat} {hs ws : List Int} {m q : Nat} (h : IsBulk w b s r g hs ws m q) (x : Int)
include h

set_option maxHeartbeats 4000000 in
/-- Up to the push: x doesn't run at once. -/
theorem IsBulk.admit_late (hh : x ∉ hs) (hw : x ∉ ws) (hno : ¬ (hs.length < m ∧ ws = [])) (hp : ws.length < q ∨ hs.length = m) :
    Calls Try.prog 36 #[.pointer (some ⟨b, 0, none⟩), .int .i64 x] w fun e w' =>
      e = .returned (.tuple #[.int .i64 (if ws.length < q then 2 else 3), .slice none 0 0]) ∧ IsBulk w' b s r g hs (if ws.length < q then ws ++ [x] else ws) m q ∧ Fr [r, g] w w' := by
  have hl := h.lens
  have HR := Lib.hid (h.runs x)
  have HW := Lib.hid (fun (w1 : World) (F : Fr [] w w1) => (h.fr0 F).waiting)
  have HL := Lib.hid (fun (w1 : World) (F : Fr [] w w1) => (h.fr0 F).ring.len)
  have HP := Lib.hid (fun (w1 : World) (F : Fr [] w w1) => (h.fr0 F).ring.push x)
  rw [decide_eq_false hh] at HR
  have c0 := h.c0
  have c1 := h.c1
  have hlt := h.lt
  have hap := h.apart
  have hnd : (hs ++ (ws ++ [x])).Nodup := by
    have := h.nodup
    rw [← List.append_assoc, List.nodup_append]
    refine ⟨this, by simp, fun y hy z hz e => ?_⟩
    simp at hz; subst hz; subst e
    rcases List.mem_append.1 hy with h1 | h1
    · exact hh h1
    · exact hw h1
  have fin : ∀ (w4 w5 : World), Fr [] w w4 → IsRing w5 g (if ws.length < q then ws ++ [x] else ws) q → Fr [g] w4 w5 → IsBulk w5 b s r g hs (if ws.length < q then ws ++ [x] else ws) m q ∧ Fr [r, g] w w5 := by
    intro w4 w5 F4 R F
    have F6 : Fr [g] w w5 := (F4.mono (S' := [g]) (fun x hx => by cases hx)).trans F
    refine ⟨⟨F6.keep h.blk (by simp; exact hap.2.2.1), h.set.fr F6 (by simp; exact hap.2.2.2.2.1) (by simp; exact hap.2.2.2.2.2), R, ?_⟩, F6.mono (fun x hx => Or.inl (by simp at hx; simp [hx]))⟩
    split
    · exact hnd
    · exact h.nodup
  have FIN := Lib.hid fin
  have HB := Lib.hid h
  clear fin hnd
  have HX := Lib.hid hh
  have HY := Lib.hid hw
  clear hh hw
  have HPK := Lib.hid (fun (w1 : World) (F : Fr [] w w1) (hm : hs.length = m) (hq : ¬ ws.length < q) => (h.fr0 F).pick_no (Or.inl hm))
  by_cases hwe : ws = []
  · have hm : ¬ hs.length < m := fun e => hno ⟨e, hwe⟩
    have HT := Lib.hid (fun (w1 : World) (F : Fr [] w w1) => (h.fr0 F).set.take_no x 0 (Or.inl (by simp [own0]; omega)))
    subst hwe
    clear hno
    go_enter Try.func36, Try.ntmps36
    go_wp2_with fail
    refine (HR.out).mono ?_
    rintro e w1 ⟨rfl, F1⟩
    go_wp2_with fail
    refine (HW.out _ F1).mono ?_
    rintro e w2 ⟨v, rfl, V, F2⟩
    go_wp2_with fail
    refine (index_spec V.1 (by omega) x).mono ?_
    rintro e w3 ⟨rfl, rfl⟩
    rw [decide_eq_false (show x ∉ [] by simp)]
    have F3 := F1.trans F2
    have c0' := (F3.cell (p := ⟨b, 0, none⟩) hlt (by simp)).trans c0
    have c1' := (F3.cell (p := ⟨b, 1, none⟩) hlt (by simp)).trans c1
    clear F1 F2 V
    go_wp2_with fail
    go_region_with (first
      | (go_at_call 20; refine (HL.out _ (by first | exact F3.drew | assumption)).mono ?_; rintro e w1 ⟨rfl, rfl⟩)
      | (go_at_call 51; refine (own_spec x _).mono ?_; rintro e w4 ⟨rfl, F⟩; have F4 := F3.drew.trans F; have c0'' := (F4.cell (p := ⟨b, 0, none⟩) hlt (by simp)).trans c0; clear F)
      | (go_at_call 53; refine (HT.out _ F4).mono ?_; rintro e w5 ⟨rfl, F⟩; have F5 := F4.trans F; have c0'' := (F5.cell (p := ⟨b, 0, none⟩) hlt (by simp)).trans c0; have c1'' := (F5.cell (p := ⟨b, 1, none⟩) hlt (by simp)).trans c1; clear F))
    all_goals go_wp2_with fail
    all_goals (refine (HP.out _ F5).mono ?_; rintro e w6 ⟨rfl, R, F⟩)
    all_goals have K := FIN.out _ _ F5 R F
    all_goals
      by_cases hq : 0 < q
      · have hq' : ([] : List Int).length < q := hq
        rw [decide_eq_true hq']
        go_wp2
        go_ret2
        rw [if_pos hq'] at K
        exact ⟨rfl, K⟩
      · have hq' : ¬ ([] : List Int).length < q := hq
        rw [decide_eq_false hq']
        rw [if_neg hq'] at K
        have HK := Lib.hid (K.1.pick_no (Or.inl (show hs.length = m by omega)))
        go_wp2_with fail
        refine (HK.out).mono ?_
        rintro e w7 ⟨rfl, B, F7⟩
        go_wp2
        go_ret2
        exact ⟨rfl, B, K.2.trans F7⟩
  · have hlen : ((ws.length : Int) == 0) = false := by
      have : ws.length ≠ 0 := fun e => hwe (List.eq_nil_of_length_eq_zero e)
      simp; exact hwe
    clear hwe hno
    go_enter Try.func36, Try.ntmps36
    go_wp2_with fail
    refine (HR.out).mono ?_
    rintro e w1 ⟨rfl, F1⟩
    go_wp2_with fail
    refine (HW.out _ F1).mono ?_
    rintro e w2 ⟨v, rfl, V, F2⟩
    go_wp2_with fail
    refine (index_spec V.1 (by omega) x).mono ?_
    rintro e w3 ⟨rfl, rfl⟩
    rw [decide_eq_false HY.out]
    have F3 := F1.trans F2
    have c0' := (F3.cell (p := ⟨b, 0, none⟩) hlt (by simp)).trans c0
    have c1' := (F3.cell (p := ⟨b, 1, none⟩) hlt (by simp)).trans c1
    clear F1 F2 V
    go_wp2_with fail
    go_quiet ((go_at_call 20; exact Calls.quiet_of_same (HL.out _ (F3.drewN _))))
    have F5 := F3.drewN nq
    go_wp2_with fail
    refine (HP.out _ F5).mono ?_
    rintro e w6 ⟨rfl, R, F⟩
    have K := FIN.out _ _ F5 R F
    by_cases hq' : ws.length < q
    · rw [decide_eq_true hq']
      have HQ := Lib.hid hq'
      go_wp2
      go_ret2
      rw [if_pos hq'] at K
      exact ⟨rfl, K⟩
    · rw [decide_eq_false hq']
      rw [if_neg hq'] at K
      have HK := Lib.hid (K.1.pick_no (Or.inl (show hs.length = m by omega)))
      go_wp2_with fail
      refine (HK.out).mono ?_
      rintro e w7 ⟨rfl, B, F7⟩
      go_wp2
      go_ret2
      exact ⟨rfl, B, K.2.trans F7⟩
end
end Go.Proofs.Ythbhkmhmiplikaa
