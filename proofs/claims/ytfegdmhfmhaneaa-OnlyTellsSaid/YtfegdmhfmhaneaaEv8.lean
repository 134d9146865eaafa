/-
  Only and Outs of the document.
-/
import Derived.Test.YtfegdmhfmhaneaaOu3
namespace Go.Proofs.Ytfegdmhfmhaneaa
open Go.RowKit

set_option maxHeartbeats 4000000 in
theorem plays_spec {w : World} {base : Nat} {v : Value} {l : List Ev} (hl : Evs w base v l) (hn : l.length ≤ 1000) (deps d : Int) (e : Ev) :
    Calls Try.prog 23 #[v, .int .i64 deps, .int .i64 d, e.val] w fun x w' => x = .returned (.bool (playsB l deps d e)) ∧ Fr [] w w' := by
  have F : Fr [] w (w.alloc e.obj) := (Fr.refl _ _).alloc _
  have HOW := Lib.hid (fun w' (F : Fr [] w w') => refOwner_spec (hl.fr0 F) hn deps e.id)
  have HF := Lib.hid F
  obtain ⟨ao, cap, rfl, -⟩ := hl
  clear F
  obtain ⟨kind, eid, dep, scope, arg, step, n, ok, va, vn, vc⟩ := e
  simp only [Ev.val, Ev.obj] at *
  have HPV : Hid (playsB l deps d ⟨kind, eid, dep, scope, arg, step, n, ok, va, vn, vc⟩ = if kind = 1 then decide (dep = d) && decide (ownerOf l deps eid = d) else if kind = 2 ∨ kind = 6 then true else if kind = 3 then decide (dep = d) else if kind = 4 ∨ kind = 5 then decide (ownerOf l deps eid = d) else false) := Lib.hid rfl
  rw [HPV.out]
  clear HPV
  generalize ownerOf l deps eid = own at *
  by_cases k2 : kind = 2
  · subst k2
    go_enter Try.func23, Try.ntmps23
    go_wp2_with fail
    go_ret
    exact ⟨rfl, HF.out⟩
  by_cases k6 : kind = 6
  · subst k6
    go_enter Try.func23, Try.ntmps23
    go_wp2_with fail
    go_ret
    exact ⟨rfl, HF.out⟩
  by_cases k3 : kind = 3
  · subst k3
    go_enter Try.func23, Try.ntmps23
    go_wp2_with fail
    go_ret
    exact ⟨ret_bool (by by_cases h : dep = d <;> simp [h]), HF.out⟩
  by_cases k1 : kind = 1
  · subst k1
    by_cases hd : dep = d
    · subst hd
      go_enter Try.func23, Try.ntmps23
      go_wp2_with fail
      refine (HOW.out _ HF.out).mono ?_
      rintro x w1 ⟨rfl, F⟩
      have HF1 := Lib.hid (HF.out.trans F)
      clear F
      go_wp2_with fail
      go_ret
      exact ⟨ret_bool (by by_cases h : own = dep <;> simp [h]), HF1.out⟩
    · go_enter Try.func23, Try.ntmps23
      go_wp2_with fail
      go_ret
      exact ⟨ret_bool (by simp), HF.out⟩
  by_cases k45 : kind = 4 ∨ kind = 5
  · rcases k45 with k4 | k5
    all_goals
      first | subst k4 | subst k5
      go_enter Try.func23, Try.ntmps23
      go_wp2_with fail
      refine (HOW.out _ HF.out).mono ?_
      rintro x w1 ⟨rfl, F⟩
      have HF1 := Lib.hid (HF.out.trans F)
      clear F
      go_wp2_with fail
      go_ret
      exact ⟨ret_bool (by by_cases h : own = d <;> simp [h]), HF1.out⟩
  · have k4 : ¬ kind = 4 := fun h => k45 (.inl h)
    have k5 : ¬ kind = 5 := fun h => k45 (.inr h)
    go_enter Try.func23, Try.ntmps23
    go_wp2_with fail
    go_ret
    exact ⟨ret_bool (by simp [*]), HF.out⟩

theorem Src.one9 (w : World) (e : Ev) : Src (w.alloc e.obj) 9 (.slice (some ⟨w.heap.size, 0, none⟩) 1 1) 1 e.cells :=
  ⟨_, _, rfl, rfl, Nat.le_refl _, (fun h => by cases h), (fun _ hu => cells_one hu), (fun j u hj => ⟨w.heap.size, 0, rfl, (At9.box (block_alloc_new w e.obj)).get hj⟩)⟩
theorem ownsForm9 {w : World} {base : Nat} {e : TypeId} {size : Nat} {v : Value} {n : Nat} {xs : List Value} (h : w.ownsRow base e size v n xs) : ∃ ao cap, v = .slice ao n cap := by
  rcases h.2 with ⟨h, h0⟩ | ⟨g, c, cur, h, _⟩
  · exact ⟨none, 0, by rw [h, h0]⟩
  · exact ⟨_, _, h⟩
theorem keptOf_eq (l0 : List Ev) (deps d : Int) (l : List Ev) : keptOf l0 deps d l = l.filter (playsB l0 deps d) := rfl

set_option maxHeartbeats 4000000 in
theorem refOnly_spec {w : World} {base : Nat} {v : Value} {l : List Ev} (hl : Evs w base v l) (hn : l.length ≤ 1000) (deps d : Int) :
    Calls Try.prog 13 #[v, .int .i64 deps, .int .i64 d] w fun e w' => ∃ v', e = .returned v' ∧ Evs w' w.heap.size v' (onlyOf l deps d) ∧ Fr [] w w' := by
  obtain ⟨i0, hi, hz0, hz1, hz2⟩ := info_parts9 Try.info_ev
  have HPL := Lib.hid (fun w' (F : Fr [] w w') e => plays_spec (hl.fr0 F) hn deps d e)
  obtain ⟨ao, cap, rfl, hc, hnone, h4⟩ := hl
  have H4 := Lib.hid h4
  clear h4 hnone
  go_enter Try.func13, Try.ntmps13
  go_wp2_with fail
  go_loopw [7, 8] (fun rv x wr => ∃ (i : Nat) (k : List Ev), i ≤ l.length ∧ x = .int .i64 i ∧ k.length ≤ i ∧ Hid (keptOf l deps d (l.take i) = k) ∧ Hid (wr.ownsRow w.heap.size 36 9 rv k.length (k.flatMap Ev.cells)) ∧ Hid (Fr [] w wr)) (fun _ x _ => l.length - (intOf x).toNat)
  case atStart => exact ⟨0, [], Nat.zero_le _, rfl, Nat.le_refl _, Lib.hid rfl, Lib.hid (World.ownsRow_nil _ _ _ _), Lib.hid (Fr.refl _ _)⟩
  case round =>
    obtain ⟨i, k, hi2, rfl, hki, HK, HO, HF⟩ := hrel
    obtain ⟨ao2, cap2, hrv⟩ := ownsForm9 HO.out
    subst hrv
    by_cases hlt : i < l.length
    · obtain ⟨b, o, rfl, hb, h9⟩ := H4.out i hlt
      obtain ⟨k0, k1, k2, k3, k4, k5, k6, k7, k8⟩ := h9.fr HF.out (by simp)
      have HSN := Lib.hid (keptOf_snoc (l0 := l) (deps := deps) (d := d) hlt)
      have HP := Lib.hid (HPL.out wr HF.out (l.getD i default))
      have h9' := Lib.hid h9
      clear h9
      generalize hev : l.getD i default = ev at *
      clear hev
      have HP' := HP
      obtain ⟨kind, eid, dep, scope, arg, step, n, ok, va, vn, vc⟩ := ev
      simp only [Ev.val] at HP k0 k1 k2 k3 k4 k5 k6 k7 k8
      cases hp : playsB l deps d ⟨kind, eid, dep, scope, arg, step, n, ok, va, vn, vc⟩ with
      | true =>
        rw [hp] at HP
        have HK2 := Lib.hid (show keptOf l deps d (l.take (i + 1)) = k ++ [⟨kind, eid, dep, scope, arg, step, n, ok, va, vn, vc⟩] by rw [HSN.out, HK.out, hp]; rfl)
        clear hp HSN HP'
        go_wp2_with fail
        refine HP.out.mono ?_
        rintro e w1 ⟨rfl, F⟩
        obtain ⟨x0, x1, x2, x3, x4, x5, x6, x7, x8⟩ := (h9'.out.fr HF.out (by simp)).fr F (by simp)
        have HF1 := Lib.hid (HF.out.trans F)
        have HO1 := Lib.hid (ownsRow_fr HO.out F (by simp))
        have hs1 := HF1.out.size
        clear F k0 k1 k2 k3 k4 k5 k6 k7 k8
        go_wp2_with (at_builtin; refine wpList_app rfl (.tmp 23) (.tmp 28) 22 rfl w.heap.size 36 i0 _ 9 88 Try.underlying22 hi hz0 hz1 hz2 rfl (by decide) (.slice ao2 k.length cap2) k.length _ rfl (ownsRow_fr HO1.out ((Fr.refl [] _).alloc _) (by simp)) _ 1 _ rfl (Src.one9 w1 ⟨kind, eid, dep, scope, arg, step, n, ok, va, vn, vc⟩) (by unfold maxLen; omega) (by omega) (by simp; omega) ?_; intro v8 w8 hown hg)
        have HO8 := Lib.hid hown
        have HF8 := Lib.hid (Fr.of_grown9 (HF1.out.alloc (Ev.obj ⟨kind, eid, dep, scope, arg, step, n, ok, va, vn, vc⟩)) hg (fun q hq => .inr (World.ownsRow.lt HO1.out q hq).1))
        clear hown hg
        go_wp2_with fail
        go_roundw
        case rel => exact ⟨i + 1, k ++ [⟨kind, eid, dep, scope, arg, step, n, ok, va, vn, vc⟩], by omega, by go_num, by simp; omega, HK2, Lib.hid (by rw [List.flatMap_append, List.length_append]; simpa using HO8.out), HF8⟩
        case measure => simp [intOf]; omega
      | false =>
        rw [hp] at HP
        have HK2 := Lib.hid (show keptOf l deps d (l.take (i + 1)) = k by rw [HSN.out, HK.out, hp]; simp)
        clear hp HSN HP'
        go_wp2_with fail
        refine HP.out.mono ?_
        rintro e w1 ⟨rfl, F⟩
        have HF1 := Lib.hid (HF.out.trans F)
        have HO1 := Lib.hid (ownsRow_fr HO.out F (by simp))
        clear F
        go_wp2_with fail
        go_roundw
        case rel => exact ⟨i + 1, k, by omega, by go_num, by omega, HK2, HO1, HF1⟩
        case measure => simp [intOf]; omega
    · go_wp2_with fail
      go_ret
      have e : onlyOf l deps d = k := by
        have := HK.out
        rw [List.take_of_length_le (by omega)] at this
        exact this
      rw [e]
      exact ⟨_, rfl, Evs.of_owns HO.out, HF.out⟩
end Go.Proofs.Ytfegdmhfmhaneaa
