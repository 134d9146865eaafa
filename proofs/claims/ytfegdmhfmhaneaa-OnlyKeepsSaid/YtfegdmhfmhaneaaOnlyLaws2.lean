/-
  OnlyKeeps, as a contract of its function.
-/
import Derived.Test.YtfegdmhfmhaneaaOnlyLaws
namespace Go.Proofs.Ytfegdmhfmhaneaa
open Go.RowKit

set_option maxHeartbeats 4000000 in
set_option maxRecDepth 20000 in
theorem onlyKeeps_spec {w : World} {base : Nat} {v : Value} {l : List Ev} (hl : Evs w base v l) (hn : l.length ≤ 9223372036854775807) (hv : EvVals w l) (n1 n2 : Nat) (h1 : n1 < 256) (h2 : n2 < 256) :
    Calls Try.prog 5 #[v, .int .u8 n1, .int .u8 n2] w fun e w' => e = .returned (.bool true) ∧ Fr [] w w' := by
  have HL := Lib.hid hl
  have HV := Lib.hid hv
  obtain ⟨ao, cap, rfl, -⟩ := hl
  clear hv
  have hm0 : 1 + n1 % 4 ≠ 0 := by omega
  go_enter Try.func5, Try.ntmps5
  go_wp2_with fail
  refine (awake21 _).mono ?_
  rintro e w1 ⟨rfl, F⟩
  have HF1 := Lib.hid F
  have HL1 := Lib.hid (HL.out.fr0 F)
  clear F
  go_wp2_with fail
  refine (few_spec HL1.out hn).mono ?_
  rintro e w2 ⟨⟨fb, rfl, hfb⟩, rfl⟩
  cases fb with
  | false =>
    go_wp2_with fail
    go_ret
    exact ⟨rfl, HF1.out⟩
  | true =>
    have h80 := hfb rfl
    clear hfb
    go_wp2_with fail
    have hX : 0 ≤ (n2 : Int) % (1 + (n1 : Int) % 4) ∧ (n2 : Int) % (1 + (n1 : Int) % 4) < 1 + (n1 : Int) % 4 := ⟨Int.emod_nonneg _ (by omega), Int.emod_lt_of_pos _ (by omega)⟩
    clear hm0
    generalize (n2 : Int) % (1 + (n1 : Int) % 4) = X at *
    generalize 1 + (n1 : Int) % 4 = M at *
    refine (only_spec HL1.out (by omega) M X).mono ?_
    rintro e w3 ⟨v3, rfl, hk, F⟩
    have HF3 := Lib.hid (HF1.out.trans F)
    have HL3 := Lib.hid (HL1.out.fr0 F)
    have HK3 := Lib.hid hk
    have hkl := onlyOf_len l M X
    have HDE := Lib.hid (fun (e : Ev) (h : e ∈ onlyOf l M X) => onlyOf_dep h)
    have HSH := Lib.hid (onlyOf_shared l M X)
    generalize onlyOf l M X = k at *
    obtain ⟨ak, ck, rfl, -⟩ := hk
    clear F
    go_wp2_with fail
    refine (shared_spec HK3.out (by omega)).mono ?_
    rw [HSH.out]
    rintro e w4 ⟨v4, rfl, hs1, F⟩
    have HF4 := Lib.hid (HF3.out.trans F)
    have HL4 := Lib.hid (HL3.out.fr0 F)
    have HK4 := Lib.hid (HK3.out.fr0 F)
    have HS4 := Lib.hid hs1
    obtain ⟨a4, c4, rfl, -⟩ := hs1
    clear F
    go_wp2_with fail
    refine (shared_spec HL4.out (by omega)).mono ?_
    rintro e w5 ⟨v5, rfl, hs2, F⟩
    have HF5 := Lib.hid (HF4.out.trans F)
    have HL5 := Lib.hid (HL4.out.fr0 F)
    have HK5 := Lib.hid (HK4.out.fr0 F)
    have HS5 := Lib.hid (HS4.out.fr0 F)
    have HT5 := Lib.hid hs2
    have HVS := Lib.hid (EvVals.sub (HV.out.fr HF5.out) (fun e (he : e ∈ l.filter sharedB) => (List.mem_filter.1 he).1))
    have hsl : (l.filter sharedB).length ≤ 80 := Nat.le_trans (List.length_filter_le _ _) h80
    obtain ⟨a5, c5, rfl, -⟩ := hs2
    clear F
    go_wp2_with fail
    refine (events_spec HS5.out HT5.out (by omega) HVS.out).mono ?_
    rintro e w6 ⟨rfl, F⟩
    have HF6 := Lib.hid (HF5.out.trans F)
    have HL6 := Lib.hid (HL5.out.fr0 F)
    have HK6 := Lib.hid (HK5.out.fr0 F)
    obtain ⟨ak', ck', hkv, -, -, h9k⟩ := HK6.out
    simp only [Value.slice.injEq, true_and] at hkv
    obtain ⟨rfl, rfl⟩ := hkv
    have H9K := Lib.hid h9k
    clear F h9k
    have hk80 : k.length ≤ 80 := by omega
    have HKL := Lib.hid hkl
    clear hkl hsl
    go_wp2_with fail
    go_loopw [11] (fun x wr => ∃ (i : Nat), i ≤ k.length ∧ x = .int .i64 i ∧ Hid (Fr [] w6 wr)) (fun x _ => k.length - (intOf x).toNat)
    case atStart => exact ⟨0, Nat.zero_le _, rfl, Lib.hid (Fr.refl _ _)⟩
    case round =>
      obtain ⟨j, hj2, rfl, HFj⟩ := hrel
      by_cases hltj : j < k.length
      · obtain ⟨b, o, rfl, -, h9⟩ := H9K.out j hltj
        obtain ⟨q0, q1, -⟩ := h9.fr HFj.out (by simp)
        have HDJ := Lib.hid (HDE.out _ (mem_getD hltj))
        clear h9
        generalize k.getD j default = ev at *
        obtain ⟨kind, eid, dep, scope, arg, step, n, ok, va, vn, vc⟩ := ev
        simp only at HDJ
        have hk16 := HDJ.out.2.2.2
        by_cases hk1 : kind = 4 ∨ kind = 5
        · have HO1 := Lib.hid (HDJ.out.2.2.1 (.inr hk1))
          rcases hk1 with hk1 | hk1
          all_goals
            subst hk1
            go_wp2_with fail
            refine (Owner_spec (HL6.out.fr0 HFj.out) (by omega) M eid).mono ?_
            rw [HO1.out]
            rintro e w7 ⟨rfl, F⟩
            have q0' := F.on q0 (by simp)
            have HF7 := Lib.hid (HFj.out.trans F)
            clear F
            go_wp2_with fail
            go_roundw
            case rel => exact ⟨j + 1, by omega, by go_num, HF7⟩
            case measure => simp [intOf]; omega
        · have hk4 : (kind == 4) = false := by simpa using fun h => hk1 (.inl h)
          have hk5 : (kind == 5) = false := by simpa using fun h => hk1 (.inr h)
          have ha : ¬ kind < 1 := by omega
          have hb : ¬ 6 < kind := by omega
          clear hk1
          go_wp2_with fail
          go_roundw
          case rel => exact ⟨j + 1, by omega, by go_num, HFj⟩
          case measure => simp [intOf]; omega
      · have hle := HKL.out
        have hle2 : (k.length : Int) ≤ l.length := by omega
        go_wp2_with fail
        go_ret
        exact ⟨by first | rfl | (congr 2; exact decide_eq_true hle2), HF6.out.trans HFj.out⟩
end Go.Proofs.Ytfegdmhfmhaneaa
