/-
  next: its walk.
-/
import Derived.Test.YtibnhfnidgfenaaWheel11
namespace Go.Proofs.Ytibnhfnidgfenaa
open Go.RowKit

variable {w : World} {b m1 m2 : Nat} {fp : List Nat} {now seq : Nat} {L : List Ent} {la : List ((Int × Int) × Value)} {f : Int × Int → List Nat}

theorem perm_map {α β : Type} {g : α → β} {xs ys : List β} (h : xs.Perm ys) : ∀ l : List α, l.map g = ys → ∃ l' : List α, l'.Perm l ∧ l'.map g = xs := by
  induction h with
  | nil => intro l hl; exact ⟨l, .refl _, hl⟩
  | cons x _ ih =>
    intro l hl
    cases l with
    | nil => cases hl
    | cons a t =>
      simp only [List.map_cons, List.cons.injEq] at hl
      obtain ⟨t', h1, h2⟩ := ih t hl.2
      exact ⟨a :: t', h1.cons a, by simp [h2, hl.1]⟩
  | swap x y l0 =>
    intro l hl
    match l, hl with
    | a :: c :: t, hl =>
      simp only [List.map_cons, List.cons.injEq] at hl
      exact ⟨c :: a :: t, .swap _ _ _, by simp [hl]⟩
  | trans _ _ ih1 ih2 =>
    intro l hl
    obtain ⟨l2, h1, h2⟩ := ih2 l hl
    obtain ⟨l3, h3, h4⟩ := ih1 l2 h2
    exact ⟨l3, h3.trans h1, h4⟩

/-- MinFunc at a place of the wheel. -/
theorem WInv.minAt (h : WInv w b m1 m2 fp now seq L la f) {lb : List ((Int × Int) × Value)} (hR : ∀ p, Row w (rowAt lb p) (f p)) (p : Int × Int) (hne : inPlace now L p ≠ []) (hsq : seq ≤ 60000) :
    ∃ g cap n, rowAt lb p = .slice (some ⟨g, 0, none⟩) n cap ∧ 0 < n ∧ ∀ w', Fr [] w w' → Calls Try.prog 58 #[.slice (some ⟨g, 0, none⟩) n cap, .func (.func 59) #[] #[]] w' fun r w2 => (∃ e ∈ inPlace now L p, r = .returned (.pointer (some ⟨e.blk, 0, none⟩)) ∧ ∀ c ∈ inPlace now L p, ¬ Ahead c e) ∧ Fr [] w' w2 := by
  obtain ⟨es, h1, h2⟩ := perm_map (h.at_ p) (inPlace now L p) rfl
  have hlen : es.length = (inPlace now L p).length := h1.length_eq
  have hpos : 0 < es.length := by rw [hlen]; exact List.length_pos_iff.2 hne
  have hle : es.length ≤ 60000 := by
    rw [hlen]
    have := List.length_filter_le (fun e => decide (spotI now e.due = p)) L
    have := h.few
    unfold inPlace
    omega
  have hr := hR p
  rw [← h2] at hr
  obtain ⟨g, cap, hv, hP, -, -, -, hg⟩ := hr.parts (by intro h0; have := congrArg List.length h0; simp at this; simp [this] at hpos)
  rw [List.length_map] at hv
  refine ⟨g, cap, es.length, hv, hpos, fun w' F => (min_spec (hP.fr hg F (by simp)) (fun e he => F.keep (h.core.ents e (List.mem_filter.1 (h1.mem_iff.1 he)).1) (by simp)) hpos (by omega)).mono ?_⟩
  rintro r w2 ⟨⟨e, he, hr, hmin⟩, F2⟩
  exact ⟨⟨e, h1.mem_iff.1 he, hr, fun c hc => hmin c (h1.mem_iff.2 hc)⟩, F2⟩

set_option maxHeartbeats 4000000 in
set_option maxRecDepth 20000 in
theorem WInv.next (h : WInv w b m1 m2 fp now seq L la f) (hsq : seq ≤ 60000) :
    Calls Try.prog 43 #[.pointer (some ⟨b, 0, none⟩)] w fun r w' => r = .returned (.pointer (L.head?.map fun e => ⟨e.blk, 0, none⟩)) ∧ Fr [] w w' := by
  obtain ⟨lb, hM, hR, -, -⟩ := h.core.rows
  have HLK := Lib.hid (fun (p : Int × Int) => (by
    have := run_look keyPlace Try.underlying79 zeroRow hM.kv p false
    simp only [Bool.false_eq_true, if_false, enc2] at this
    exact this : (Instr.lookup 79 (.map (some m2)) (.agg #[.int .i64 p.1, .int .i64 p.2]) false).run Try.prog w = .ok (rowAt lb p) w))
  have HMin := Lib.hid (fun p hne => h.minAt hR p hne hsq)
  have HEm := Lib.hid (fun p (he : inPlace now L p = []) => (by
    have h1 : f p = [] := by
      have := (h.at_ p).length_eq
      have h2 : (L.filter fun e => decide (spotI now e.due = p)) = [] := he
      rw [h2] at this
      exact List.eq_nil_of_length_eq_zero (by simpa using this)
    have h2 := hR p
    rw [h1] at h2
    rcases h2.2 with ⟨h3, _⟩ | ⟨g, cap, cur, h3, _⟩
    · exact ⟨none, 0, h3⟩
    · exact ⟨_, cap, h3⟩ : ∃ a c, rowAt lb p = .slice a 0 c))
  have HSl := Lib.hid (fun w' (n : Nat) (hn : n ≤ 5) => slot_spec w' now n hn h.nowlt)
  have HD := Lib.hid h.due
  have HS := Lib.hid h.sorted
  have c0 := h.core.c0
  have c3 := h.core.c3
  clear hM hR h hsq
  generalize rowAt lb = ra at *
  go_enter Try.func43, Try.ntmps43
  go_wp2_with fail
  go_loopw [7] (fun v wr => ∃ n : Nat, n ≤ 4 ∧ v = .int .i64 n ∧ w = wr ∧ Hid (Seen now L n 0)) (fun v _ => 4 - (intOf v).toNat)
  case atStart => exact ⟨0, by omega, rfl, by trivial, Lib.hid Seen.start⟩
  case round =>
    obtain ⟨n, hn, rfl, rfl, HN⟩ := hrel
    by_cases h4 : n < 4
    · have HSn := Lib.hid (HSl.out w n (by omega))
      have HEn := Lib.hid (HN.out.enter h4 HD.out)
      have hsl := slot_lt now n
      generalize slot now n = s0 at *
      go_wp2_with fail
      refine HSn.out.mono ?_
      rintro r w1 ⟨rfl, hw1⟩
      subst hw1
      go_wp2_with fail
      go_loopw [4] (fun v wr => ∃ i : Nat, i ≤ 64 ∧ v = .int .i64 i ∧ w1 = wr ∧ Hid (Seen now L n i)) (fun v _ => 64 - (intOf v).toNat)
      case atStart => exact ⟨s0, by omega, rfl, by trivial, HEn⟩
      case round =>
        obtain ⟨i, hi, rfl, hwr, HI⟩ := hrel
        subst hwr
        by_cases h64 : i < 64
        · have hlk := HLK.out ((n : Int), (i : Int))
          simp only at hlk
          by_cases he : inPlace now L ((n : Int), (i : Int)) = []
          · obtain ⟨a, c, hv⟩ := HEm.out _ he
            rw [hv] at hlk
            have HI2 := Lib.hid (HI.out.step h4 he)
            clear he hv
            go_wp2_with fail
            go_roundw
            case rel => exact ⟨i + 1, by omega, by go_num, by trivial, HI2⟩
            case measure => simp [intOf]; omega
          · obtain ⟨g, cap, len, hv, hpos, HMC⟩ := HMin.out _ he
            rw [hv] at hlk
            have HMC := Lib.hid (HMC w1 (Fr.refl _ _))
            have HFo := Lib.hid (fun e => head_found (e := e) h4 HI.out HD.out HS.out)
            have hpos' : (0 : Int) < (len : Int) := by omega
            clear he hv hpos
            go_wp2_with fail
            refine HMC.out.mono ?_
            rintro r w2 ⟨⟨e, he, rfl, hmin⟩, F⟩
            have HH := Lib.hid (HFo.out e he hmin)
            have HF := Lib.hid F
            clear he hmin F hlk
            go_wp2_with fail
            go_ret
            exact ⟨by rw [HH.out]; rfl, HF.out⟩
        · obtain rfl : i = 64 := by omega
          have HN2 := Lib.hid HI.out.leave
          go_wp2_with fail
          go_roundw
          case rel => exact ⟨n + 1, by omega, by go_num, by trivial, HN2⟩
          case measure => simp [intOf]; omega
    · obtain rfl : n = 4 := by omega
      have hlk := HLK.out (4, 0)
      simp only at hlk
      by_cases he : inPlace now L (4, 0) = []
      · obtain ⟨a, c, hv⟩ := HEm.out _ he
        rw [hv] at hlk
        have HL := Lib.hid (head_none HN.out he)
        clear he hv
        go_wp2_with fail
        go_ret
        exact ⟨by rw [HL.out]; rfl, Fr.refl _ _⟩
      · obtain ⟨g, cap, len, hv, hpos, HMC⟩ := HMin.out _ he
        rw [hv] at hlk
        have HMC := Lib.hid (HMC w (Fr.refl _ _))
        have HFo := Lib.hid (fun e => head_far (e := e) HN.out HS.out)
        have hpos' : (0 : Int) < (len : Int) := by omega
        clear he hv hpos
        go_wp2_with fail
        refine HMC.out.mono ?_
        rintro r w2 ⟨⟨e, he, rfl, hmin⟩, F⟩
        have HH := Lib.hid (HFo.out e he hmin)
        have HF := Lib.hid F
        clear he hmin F hlk
        go_wp2_with fail
        go_ret
        exact ⟨by rw [HH.out]; rfl, HF.out⟩
end Go.Proofs.Ytibnhfnidgfenaa
