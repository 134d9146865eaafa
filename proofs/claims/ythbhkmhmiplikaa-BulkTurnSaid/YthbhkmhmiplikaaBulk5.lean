/-
  The bulk of package bulk: Admit, all cases; New.
-/
import Derived.Test.YthbhkmhmiplikaaBulk4
namespace Go.Proofs.Ythbhkmhmiplikaa
open Go.RowKit

set_option maxHeartbeats 4000000 in
/-- The first one that waits runs, x waits. -/
theorem IsBulk.admit_turn {w : World} {b s r g : Nat} {hs ws : List Int} {m q : Nat} {y : Int} (h : IsBulk w b s r g hs (y :: ws) m q) (x : Int) (hh : x ∉ hs) (hw : x ∉ y :: ws) (hm : hs.length < m) (hq : ¬ (y :: ws).length < q) :
    Calls Try.prog 36 #[.pointer (some ⟨b, 0, none⟩), .int .i64 x] w fun e w' =>
      ∃ v, e = .returned (.tuple #[.int .i64 2, v]) ∧ Lst w' w.heap.size v [y] ∧ IsBulk w' b s r g (hs ++ [y]) (ws ++ [x]) m q ∧ Fr [r, g] w w' := by
  have hl := h.lens
  simp only [List.length_cons] at hl
  have HR := Lib.hid (h.runs x)
  have HW := Lib.hid (fun (w1 : World) (F : Fr [] w w1) => (h.fr0 F).waiting)
  have HL := Lib.hid (fun (w1 : World) (F : Fr [] w w1) => (h.fr0 F).ring.len)
  have HP := Lib.hid (fun (w1 : World) (F : Fr [] w w1) => (h.fr0 F).ring.push x)
  rw [decide_eq_false hh] at HR
  rw [if_neg hq, decide_eq_false hq] at HP
  have c0 := h.c0
  have c1 := h.c1
  have hlt := h.lt
  have hap := h.apart
  have hnd : (hs ++ [y] ++ (ws ++ [x])).Nodup := by
    have h1 : (hs ++ y :: ws).Nodup := h.nodup
    rw [show hs ++ [y] ++ (ws ++ [x]) = (hs ++ y :: ws) ++ [x] by simp, List.nodup_append]
    refine ⟨h1, by simp, fun z hz z' hz' e => ?_⟩
    simp at hz'; subst hz'; subst e
    rcases List.mem_append.1 hz with h1 | h1
    · exact hh h1
    · exact hw h1
  have HB := Lib.hid h
  have HY := Lib.hid hw
  have hq1 : ¬ ws.length + 1 < q := by simpa using hq
  have hlen : (((ws.length : Int) + 1) == 0) = false := by simp; omega
  have HPK := Lib.hid (fun (w1 : World) (B : IsBulk w1 b s r g hs (y :: ws) m q) => B.pick_yes hm)
  clear hh hw hq
  go_enter Try.func36, Try.ntmps36
  go_wp2_with fail
  refine (HR.out).mono ?_
  rintro e w1 ⟨rfl, F1⟩
  go_wp2_with fail
  refine (HW.out _ F1).mono ?_
  rintro e w2 ⟨v, rfl, V, F2⟩
  go_wp2_with fail
  refine (index_spec V.1 (by simp; omega) x).mono ?_
  rintro e w3 ⟨rfl, rfl⟩
  rw [decide_eq_false HY.out]
  have F3 := F1.trans F2
  have c0' := (F3.cell (p := ⟨b, 0, none⟩) hlt (by simp)).trans c0
  have c1' := (F3.cell (p := ⟨b, 1, none⟩) hlt (by simp)).trans c1
  clear F1 F2 V
  go_wp2_with fail
  go_quiet ((go_at_call 20; exact Calls.quiet_of_same (HL.out _ (F3.drewN _))))
  have F5 := F3.drewN nq
  go_wp2_with fail
  refine (HP.out _ F5).mono ?_
  rintro e w6 ⟨rfl, R, F⟩
  have F6 : Fr [g] w w6 := (F5.mono (S' := [g]) (fun x hx => by cases hx)).trans F
  have B6 : IsBulk w6 b s r g hs (y :: ws) m q := ⟨F6.keep HB.out.blk (by simp; exact hap.2.2.1), HB.out.set.fr F6 (by simp; exact hap.2.2.2.2.1) (by simp; exact hap.2.2.2.2.2), R, HB.out.nodup⟩
  clear R F F5 F3 c0' c1'
  go_wp2_with fail
  refine (HPK.out _ B6).mono ?_
  rintro e w7 ⟨rfl, B7, F7⟩
  have c1' := B7.c1
  have hl7 := B7.lens
  have HP7 := Lib.hid (B7.ring.push x)
  go_wp2_with fail
  refine (HP7.out).mono ?_
  rintro e w8 ⟨rfl, R8, F8⟩
  have hq8 : ws.length < q := by omega
  rw [if_pos hq8] at R8
  have F9 : Fr [r, g] w w8 := ((F6.mono (S' := [r, g]) (fun x hx => Or.inl (by simp at hx; simp [hx]))).trans F7).trans (F8.mono (fun x hx => Or.inl (by simp at hx; simp [hx])))
  have hs8 := F9.size
  go_wp2
  go_ret2
  refine ⟨_, rfl, ⟨⟨_, 1, rfl, by simp, fun e => by simp at e, fun j hj => ⟨w8.heap.size, 0, rfl, ?_⟩⟩, fun k hk => by simp [Value.ownBlock] at hk; omega⟩, ⟨?_, ?_, ?_, hnd⟩, F9.alloc _⟩
  · have : j = 0 := by simpa using hj
    subst this
    exact World.cell?_alloc_new w8 _ _ 0
  · exact block_alloc (F8.keep B7.blk (by simp; exact hap.2.2.1)) _
  · exact (B7.set.fr F8 (by simp; exact hap.2.2.2.2.1) (by simp; exact hap.2.2.2.2.2)).fr ((Fr.refl [] _).alloc _) (by simp) (by simp)
  · exact R8.fr ((Fr.refl [] _).alloc _) (by simp)

/-- Admit, whatever the case. -/
theorem IsBulk.admitM {w : World} {b s r g : Nat} {hs ws : List Int} {m q : Nat} (h : IsBulk w b s r g hs ws m q) (x : Int) :
    Calls Try.prog 36 #[.pointer (some ⟨b, 0, none⟩), .int .i64 x] w fun e w' =>
      ∃ v, e = .returned (.tuple #[.int .i64 (admitM m q hs ws x).2.2.1, v]) ∧ Lst w' w.heap.size v (admitM m q hs ws x).2.2.2 ∧ IsBulk w' b s r g (admitM m q hs ws x).1 (admitM m q hs ws x).2.1 m q ∧ Fr [r, g] w w' := by
  have hl := h.lens
  unfold Proofs.Ythbhkmhmiplikaa.admitM
  by_cases h1 : x ∈ hs ∨ x ∈ ws
  · rw [if_pos h1]
    exact (h.admit_there x h1).mono fun e w' ⟨k1, k2⟩ => ⟨_, k1, Lst.nil _ _, h.fr0 k2, k2.mono (fun _ hx => by cases hx)⟩
  · rw [if_neg h1]
    simp only [not_or] at h1
    by_cases h2 : hs.length < m ∧ ws = []
    · rw [if_pos h2]
      exact (h.admit_run x h1.1 h2.2 h2.1).mono fun e w' ⟨k1, k2, k3⟩ => ⟨_, k1, Lst.nil _ _, k2, k3⟩
    · rw [if_neg h2]
      by_cases h3 : ws.length < q
      · rw [if_pos h3]
        refine (h.admit_late x h1.1 h1.2 h2 (Or.inl h3)).mono fun e w' ⟨k1, k2, k3⟩ => ?_
        rw [if_pos h3] at k1 k2
        exact ⟨_, k1, Lst.nil _ _, k2, k3⟩
      · rw [if_neg h3]
        by_cases h4 : hs.length < m ∧ ws ≠ []
        · rw [if_pos h4]
          cases ws with
          | nil => exact absurd rfl h4.2
          | cons y ws => exact h.admit_turn x h1.1 h1.2 h4.1 h3
        · rw [if_neg h4]
          have hm : hs.length = m := by
            by_cases hm : hs.length < m
            · by_cases hw : ws = []
              · exact absurd ⟨hm, hw⟩ h2
              · exact absurd ⟨hm, hw⟩ h4
            · omega
          refine (h.admit_late x h1.1 h1.2 h2 (Or.inr hm)).mono fun e w' ⟨k1, k2, k3⟩ => ?_
          rw [if_neg h3] at k1 k2
          exact ⟨_, k1, Lst.nil _ _, k2, k3⟩
end Go.Proofs.Ythbhkmhmiplikaa
