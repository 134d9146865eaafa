/-
  BulkLeaves and BulkNobody, each as a contract of its function: it answers true, and what was there stays.
-/
import Derived.Test.YthbhkmhmiplikaaLaw10e
namespace Go.Proofs.Ythbhkmhmiplikaa
open Go.RowKit

/-- The configuration of two bytes. -/
theorem confOf_pool (n0 n1 : Nat) : (confOf true n0 n1).most = ((1 + n0 % 8 : Nat) : Int) ∧ (confOf true n0 n1).que = ((n1 % 9 : Nat) : Int) ∧ (confOf true n0 n1).mode = 1 := by
  simp [confOf, CF.most, CF.que]
theorem confOf_sem (n0 n1 : Nat) : (confOf false n0 n1).most = ((1 + n0 % 8 : Nat) : Int) ∧ (confOf false n0 n1).que = ((0 : Nat) : Int) ∧ (confOf false n0 n1).mode = 2 := by
  simp [confOf, CF.most, CF.que]

theorem not_mem_rem {x : Int} {l : List Int} (h : l.Nodup) : x ∉ rem x l := by
  rw [rem_nodup h]
  simp
theorem rem_length {x : Int} : ∀ {l : List Int}, x ∈ l → (rem x l).length + 1 = l.length
  | y :: l, h => by
    by_cases hy : y = x
    · simp [rem, hy]
    · simp only [rem, if_neg hy, List.length_cons]
      rw [rem_length (by simpa [Ne.symm hy] using h)]

set_option maxHeartbeats 4000000 in
theorem bulkLeaves_spec {w : World} {v : Value} {ds : List (Int × Int)} (hd : Deeds w v ds) (n0 n1 : Nat) (h0 : n0 < 256) (h1 : n1 < 256) (x : Int) :
    Calls Try.prog 13 #[.agg #[.int .u8 n0, .int .u8 n1], v, .int .i64 x] w fun e w' => e = .returned (.bool true) ∧ Fr [] w w' := by
  obtain ⟨k1, k2, k3⟩ := confOf_pool n0 n1
  have HC := Lib.hid (fun w => conf_spec true n0 n1 (by omega) (by omega) w)
  have HN := Lib.hid (fun (w1 : World) (F : Fr [] w w1) => ran10 (hd.fr F) (confOf true n0 n1) (1 + n0 % 8) (n1 % 9) k1 k2 (.inl k3) (by omega))
  clear k1 k2 k3
  generalize 1 + n0 % 8 = m at *
  generalize n1 % 9 = q at *
  generalize confOf true (n0 : Int) (n1 : Int) = cf at *
  generalize afterB m q (ds.take 100) = P at *
  obtain ⟨hs, ws⟩ := P
  obtain ⟨av, cv, rfl, _⟩ := hd
  go_enter Try.func13, Try.ntmps13
  go_wp2_with fail
  refine (awake10 _).mono ?_
  rintro e w1 ⟨rfl, F⟩
  have c0 := (F.cell (p := ⟨w.heap.size, 0, none⟩) (by simp) (by simp)).trans (World.cell?_alloc_new _ _ _ 0)
  have c1 := (F.cell (p := ⟨w.heap.size, 1, none⟩) (by simp) (by simp)).trans (World.cell?_alloc_new _ _ _ 1)
  have HF := Lib.hid (((Fr.refl [] w).alloc _).trans F)
  clear F
  go_wp2_with fail
  refine (HC.out _).mono ?_
  rintro e w2 ⟨rfl, F⟩
  have HF := Lib.hid (HF.out.trans F)
  clear F c0 c1
  go_wp2_with fail
  refine (HN.out _ HF.out).mono ?_
  rintro e w3 ⟨b, s, r, g, rfl, B, hr, hg, hr2, hg2, F⟩
  have hrg := Lib.hid (show w.heap.size ≤ r ∧ w.heap.size ≤ g from ⟨Nat.le_trans HF.out.size hr, Nat.le_trans HF.out.size hg⟩)
  have HF := Lib.hid (HF.out.trans F)
  have HB := Lib.hid B
  have HND := Lib.hid B.nodup
  clear B F hr hg
  simp only at HB HND
  have hl := HB.out.lens
  go_wp2_with fail
  refine (HB.out.runs x).mono ?_
  rintro e w4 ⟨rfl, F⟩
  have HF := Lib.hid (HF.out.trans F)
  have HB := Lib.hid (HB.out.fr0 F)
  have hs4 := F.size
  clear F
  go_wp2_with fail
  refine (HB.out.busy).mono ?_
  rintro e w5 ⟨rfl, rfl⟩
  go_wp2_with fail
  refine (HB.out.waiting).mono ?_
  rintro e w6 ⟨v6, rfl, V, F⟩
  have HF := Lib.hid (HF.out.trans F)
  have HB := Lib.hid (HB.out.fr0 F)
  have HV := Lib.hid (V.mono (show w3.heap.size ≤ _ from hs4))
  clear V F
  obtain ⟨a6, c6, rfl, _⟩ := HV.out.1
  go_wp2_with fail
  refine (has_spec HV.out.1 (by omega) x).mono ?_
  rintro e w7 ⟨rfl, rfl⟩
  go_wp2_with fail
  refine (HB.out.drop x).mono ?_
  rintro e w8 ⟨rfl, B, F⟩
  have HF := Lib.hid (HF.out.ownB F hrg.out)
  have HV := Lib.hid (HV.out.fr F (by simp; omega))
  have HB := Lib.hid B
  clear B F
  go_wp2_with fail
  refine (HB.out.free x).mono ?_
  rintro e w9 ⟨rfl, B, F⟩
  have HF := Lib.hid (HF.out.ownB F hrg.out)
  have HV := Lib.hid (HV.out.fr F (by simp; omega))
  have HB := Lib.hid B
  have hs9 := Lib.hid B.lts
  clear B F
  go_wp2_with fail
  refine (refremove_rd HV.out.1 (by omega) x).mono ?_
  rintro e w10 ⟨v10, rfl, V, F⟩
  have HF := Lib.hid (HF.out.trans F)
  have HB := Lib.hid (HB.out.fr0 F)
  have HV10 := Lib.hid V
  clear V F
  have hlr := rem_len x ws
  have HXW := Lib.hid (not_mem_rem (x := x) (List.nodup_append.1 HND.out).2.1)
  have HXH := Lib.hid (not_mem_rem (x := x) (List.nodup_append.1 HND.out).1)
  have hlen : ∀ less : Int, (if x ∈ hs then (1 : Int) else 0) = less → ((((rem x hs).length : Int)) == ((hs.length : Int) - less)) = true := by
    intro less h
    subst h
    by_cases hx : x ∈ hs
    · have := rem_length hx
      simp [hx]; omega
    · simp [hx, rem_of_not hx]
  have HLEN := Lib.hid hlen
  clear hlen
  by_cases hx : x ∈ hs
  all_goals
    have hlen := HLEN.out _ (by simp [hx]; rfl)
    try simp only [Int.sub_zero] at hlen
    have HX := Lib.hid hx
    clear HLEN
    clear hx
    first | rw [decide_eq_true HX.out] | rw [decide_eq_false HX.out]
    go_wp2_with fail
    refine (HB.out.busy).mono ?_
    rintro e w11 ⟨rfl, rfl⟩
    go_wp2_with fail
    refine (HB.out.waiting).mono ?_
    rintro e w11 ⟨v11, rfl, V, F⟩
    have HF := Lib.hid (HF.out.trans F)
    have HB := Lib.hid (HB.out.fr0 F)
    have HV10 := Lib.hid (HV10.out.fr F (by simp))
    have HV := Lib.hid V
    clear V F
    go_wp2_with fail
    refine (same_spec HV.out.1 HV10.out.1 (by omega)).mono ?_
    rintro e w12 ⟨rfl, q12, rfl⟩
    rw [show same (rem x ws) (rem x ws) = true by simp [same]]
    have HF := Lib.hid (HF.out.drewN q12)
    have HB := Lib.hid (HB.out.fr0 ((Fr.refl [] _).drewN q12))
    go_wp2_with fail
    refine (HB.out.drop x).mono ?_
    rintro e w13 ⟨rfl, B, F⟩
    rw [decide_eq_false HXW.out]
    have HF := Lib.hid (HF.out.ownB F hrg.out)
    have HB := Lib.hid B
    clear B F
    go_wp2_with fail
    refine (HB.out.free x).mono ?_
    rintro e w14 ⟨rfl, B, F⟩
    rw [decide_eq_false HXH.out]
    have HF := Lib.hid (HF.out.ownB F hrg.out)
    clear B F
    go_wp2_with fail
    go_ret
    exact ⟨rfl, HF.out⟩

set_option maxHeartbeats 4000000 in
theorem bulkNobody_spec (w : World) (x mo : Int) :
    Calls Try.prog 14 #[.int .i64 x, .int .i64 mo] w fun e w' => e = .returned (.bool true) ∧ Fr [] w w' := by
  have key : ∀ w, Calls Try.prog 28 #[(⟨mo, 1, 0, 1, 0, 0, 0, 0, 0, 0, 0, 0, 0, 0, 0, 0⟩ : CF).val] w (fun e w' => ∃ p, e = .returned (.pointer p) ∧ (p != none) = ((mo == 1) || (mo == 2)) ∧ Fr [] w w') := by
    intro w
    by_cases h : mo = 1 ∨ mo = 2
    · refine (bulk_new_yes _ w 1 (if mo = 2 then 0 else 0) (by simp [CF.most]) (by simp [CF.que]) h (by simp)).mono ?_
      rintro e w1 ⟨b, s, r, g, rfl, _, _, _, _, _, F⟩
      refine ⟨_, rfl, ?_, F⟩
      rcases h with rfl | rfl <;> rfl
    · simp only [not_or] at h
      refine (bulk_new_mode _ w h.1 h.2).mono ?_
      rintro e w1 ⟨rfl, F⟩
      refine ⟨_, rfl, ?_, F⟩
      simp [h.1, h.2]
  have HK := Lib.hid key
  have HK2 := Lib.hid (fun w => bulk_new_no ⟨1, 9, 0, 0, 0, 0, 0, 0, 0, 0, 0, 0, 0, 0, 0, 0⟩ w (by simp [CF.most, CF.que]))
  have HK3 := Lib.hid (fun w => bulk_new_no ⟨1, 1, -1, 0, 0, 0, 0, 0, 0, 0, 0, 0, 0, 0, 0, 0⟩ w (by simp [CF.most, CF.que]))
  clear key
  simp only [CF.val] at HK HK2 HK3
  go_enter Try.func14, Try.ntmps14
  go_wp2_with fail
  refine (awake10 _).mono ?_
  rintro e w1 ⟨rfl, F⟩
  have HF := Lib.hid F
  clear F
  go_wp2_with fail
  refine (admit_nil _ x).mono ?_
  rintro e w2 ⟨rfl, rfl⟩
  go_wp2_with fail
  refine (pick_nil _).mono ?_
  rintro e w2 ⟨rfl, rfl⟩
  go_wp2_with fail
  refine (HK.out _).mono ?_
  rintro e w3 ⟨p, rfl, hp, F⟩
  have HF := Lib.hid (HF.out.trans F)
  have HP := Lib.hid hp
  clear F hp
  go_wp2_with fail
  refine (drop_nil _ x).mono ?_
  rintro e w4 ⟨rfl, rfl⟩
  go_wp2_with fail
  refine (bfree_nil _ x).mono ?_
  rintro e w5 ⟨rfl, F⟩
  have HF := Lib.hid (HF.out.trans F)
  clear F
  go_wp2_with fail
  refine (runs_nil _ x).mono ?_
  rintro e w6 ⟨rfl, F⟩
  have HF := Lib.hid (HF.out.trans F)
  clear F
  go_wp2_with fail
  refine (busy_nil _).mono ?_
  rintro e w7 ⟨rfl, rfl⟩
  go_wp2_with fail
  refine (waiting_nil _).mono ?_
  rintro e w7 ⟨rfl, rfl⟩
  by_cases h1 : mo = 1
  · subst h1
    obtain ⟨p, rfl⟩ : ∃ a, p = some a := by
      have := HP.out
      cases p with
      | none => simp at this
      | some a => exact ⟨a, rfl⟩
    clear HP
    go_wp2_with fail
    refine (HK2.out _).mono ?_
    rintro e w8 ⟨rfl, F⟩
    have HF := Lib.hid (HF.out.trans F)
    clear F
    go_wp2_with fail
    refine (HK3.out _).mono ?_
    rintro e w9 ⟨rfl, F⟩
    have HF := Lib.hid (HF.out.trans F)
    clear F
    go_wp2_with fail
    go_ret
    exact ⟨rfl, HF.out⟩
  · have e1 : (mo == 1) = false := by simpa using h1
    have HE1 := Lib.hid e1
    clear h1
    by_cases h2 : mo = 2
    · subst h2
      obtain ⟨p, rfl⟩ : ∃ a, p = some a := by
        have := HP.out
        cases p with
        | none => simp at this
        | some a => exact ⟨a, rfl⟩
      clear HP
      go_wp2_with fail
      refine (HK2.out _).mono ?_
      rintro e w8 ⟨rfl, F⟩
      have HF := Lib.hid (HF.out.trans F)
      clear F
      go_wp2_with fail
      refine (HK3.out _).mono ?_
      rintro e w9 ⟨rfl, F⟩
      have HF := Lib.hid (HF.out.trans F)
      clear F
      go_wp2_with fail
      go_ret
      exact ⟨rfl, HF.out⟩
    · have e2 : (mo == 2) = false := by simpa using h2
      obtain rfl : p = none := by
        have := HP.out
        rw [e1, e2] at this
        cases p with
        | none => rfl
        | some a => simp at this
      clear HP h2
      go_wp2_with fail
      refine (HK2.out _).mono ?_
      rintro e w8 ⟨rfl, F⟩
      have HF := Lib.hid (HF.out.trans F)
      clear F
      go_wp2_with fail
      refine (HK3.out _).mono ?_
      rintro e w9 ⟨rfl, F⟩
      have HF := Lib.hid (HF.out.trans F)
      clear F
      go_wp2_with fail
      go_ret
      exact ⟨rfl, HF.out⟩
end Go.Proofs.Ythbhkmhmiplikaa
