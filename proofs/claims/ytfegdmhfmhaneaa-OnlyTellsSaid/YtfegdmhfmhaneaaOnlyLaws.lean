/-
  OnlyAgain, OnlyKeeps and OnlyTells, as contracts of their functions.
-/
import Derived.Test.YtfegdmhfmhaneaaOnlyAwake
namespace Go.Proofs.Ytfegdmhfmhaneaa
open Go.RowKit

set_option maxHeartbeats 4000000 in
set_option maxRecDepth 20000 in
theorem onlyAgain_spec {w : World} {base : Nat} {v : Value} {l : List Ev} (hl : Evs w base v l) (hn : l.length ≤ 9223372036854775807) (hv : EvVals w l) (n1 n2 : Nat) (h1 : n1 < 256) (h2 : n2 < 256) :
    Calls Try.prog 4 #[v, .int .u8 n1, .int .u8 n2] w fun e w' => e = .returned (.bool true) ∧ Fr [] w w' := by
  have HL := Lib.hid hl
  have HV := Lib.hid hv
  obtain ⟨ao, cap, rfl, -⟩ := hl
  clear hv
  have hm0 : 1 + n1 % 4 ≠ 0 := by omega
  go_enter Try.func4, Try.ntmps4
  go_wp2_with fail
  refine (awake21 _).mono ?_
  rintro e w1 ⟨rfl, F⟩
  have HF1 := Lib.hid F
  have HL1 := Lib.hid (HL.out.fr0 F)
  clear F
  go_wp2_with fail
  refine (few_spec HL1.out hn).mono ?_
  rintro e w2 ⟨⟨fb, rfl, hfb⟩, rfl⟩
  cases fb with
  | false =>
    go_wp2_with fail
    go_ret
    exact ⟨rfl, HF1.out⟩
  | true =>
    have h80 := hfb rfl
    clear hfb
    go_wp2_with fail
    have hM : 1 ≤ 1 + (n1 : Int) % 4 ∧ 1 + (n1 : Int) % 4 ≤ 4 := by omega
    have hX : 0 ≤ (n2 : Int) % (1 + (n1 : Int) % 4) ∧ (n2 : Int) % (1 + (n1 : Int) % 4) < 1 + (n1 : Int) % 4 := ⟨Int.emod_nonneg _ (by omega), Int.emod_lt_of_pos _ (by omega)⟩
    clear hm0
    generalize (n2 : Int) % (1 + (n1 : Int) % 4) = X at *
    generalize 1 + (n1 : Int) % 4 = M at *
    refine (only_spec HL1.out (by omega) M X).mono ?_
    rintro e w3 ⟨v3, rfl, hk, F⟩
    have HF3 := Lib.hid (HF1.out.trans F)
    have HL3 := Lib.hid (HL1.out.fr0 F)
    have HK3 := Lib.hid hk
    have hkl := onlyOf_len l M X
    obtain ⟨ak, ck, rfl, -⟩ := hk
    clear F
    have hXM : M ≠ 0 := by omega
    have hwr : I64 (X + 1) := by unfold I64; omega
    go_wp2_with fail
    have hY : 0 ≤ (X + 1) % M ∧ (M > 1 → (X + 1) % M ≠ X) := by
      refine ⟨Int.emod_nonneg _ hXM, fun h1 h => ?_⟩
      by_cases h2 : X + 1 < M
      · rw [Int.emod_eq_of_lt (by omega) h2] at h; omega
      · have : X + 1 = M := by omega
        rw [this, Int.emod_self] at h; omega
    generalize (X + 1) % M = Y at *
    refine (only_spec HK3.out (by omega) M Y).mono ?_
    rintro e w4 ⟨v4, rfl, ho, F⟩
    have HF4 := Lib.hid (HF3.out.trans F)
    have HL4 := Lib.hid (HL3.out.fr0 F)
    have HK4 := Lib.hid (HK3.out.fr0 F)
    have hol := onlyOf_len (onlyOf l M X) M Y
    have HOT := Lib.hid (fun (e : Ev) (h : e ∈ onlyOf (onlyOf l M X) M Y) (h1 : M > 1) => onlyOf_other hX.1 (hY.2 h1) h)
    have HDE := Lib.hid (fun (e : Ev) (h : e ∈ onlyOf l M X) => onlyOf_dep h)
    have HOWN := Lib.hid (fun (id : Int) (h : ownerOf l M id = X) => onlyOf_owner hX.1 h)
    have HAG := Lib.hid (onlyOf_again (l := l) (deps := M) hX.1)
    have HVK := Lib.hid (EvVals.sub (HV.out.fr HF4.out) (fun e (he : e ∈ onlyOf l M X) => (onlyOf_dep he).1))
    generalize onlyOf (onlyOf l M X) M Y = k2 at *
    generalize hkk : onlyOf l M X = k at *
    have HKK := Lib.hid hkk
    obtain ⟨a2, c2, rfl, -, -, h9⟩ := ho
    have H9 := Lib.hid h9
    obtain ⟨ak', ck', hkv, -, -, h9k⟩ := HK4.out
    simp only [Value.slice.injEq, true_and] at hkv
    obtain ⟨rfl, rfl⟩ := hkv
    have H9K := Lib.hid h9k
    clear F h9 h9k hkk hY hwr hXM
    have hk2 : k2.length ≤ 80 := by omega
    have hk80 : k.length ≤ 80 := by omega
    clear hkl hol
    go_wp2_with fail
    go_loopw [12] (fun x wr => ∃ (i : Nat), i ≤ k2.length ∧ x = .int .i64 i ∧ w4 = wr) (fun x _ => k2.length - (intOf x).toNat)
    case atStart => exact ⟨0, Nat.zero_le _, rfl, by trivial⟩
    case round =>
      obtain ⟨i, hi2, rfl, rfl⟩ := hrel
      by_cases hlt : i < k2.length
      · obtain ⟨b, o, rfl, -, h9⟩ := H9.out i hlt
        obtain ⟨q0, -⟩ := h9
        have hor : M = 1 ∨ ((k2.getD i default).kind = 2 ∨ (k2.getD i default).kind = 6) := by
          by_cases h1 : M > 1
          · exact .inr (HOT.out _ (mem_getD hlt) h1)
          · exact .inl (by omega)
        generalize (k2.getD i default).kind = kd at *
        rcases hor with h1 | h1 | h1
        all_goals
          subst h1
          go_wp2_with fail
          all_goals (
            go_roundw
            case rel => exact ⟨i + 1, by omega, by go_num, by trivial⟩
            case measure => simp [intOf]; omega)
      · obtain rfl : i = k2.length := by omega
        clear hlt
        go_wp2_with fail
        go_loopw [13] (fun x wr => ∃ (i : Nat), i ≤ k.length ∧ x = .int .i64 i ∧ Hid (Fr [] w4 wr)) (fun x _ => k.length - (intOf x).toNat)
        case atStart => exact ⟨0, Nat.zero_le _, rfl, Lib.hid (Fr.refl _ _)⟩
        case round =>
          obtain ⟨j, hj2, rfl, HFj⟩ := hrel
          by_cases hltj : j < k.length
          · obtain ⟨b, o, rfl, -, h9⟩ := H9K.out j hltj
            obtain ⟨q0, q1, -⟩ := h9.fr HFj.out (by simp)
            have HDJ := Lib.hid (HDE.out _ (mem_getD hltj))
            clear h9
            generalize k.getD j default = ev at *
            obtain ⟨kind, eid, dep, scope, arg, step, n, ok, va, vn, vc⟩ := ev
            simp only at HDJ
            by_cases hk1 : kind = 1
            · have HO1 := Lib.hid (HDJ.out.2.2.1 (.inl hk1))
              have HO2 := Lib.hid (HOWN.out eid HO1.out)
              subst hk1
              go_wp2_with fail
              refine (Owner_spec (HK4.out.fr0 HFj.out) (by omega) M eid).mono ?_
              rw [HO2.out]
              rintro e w5 ⟨rfl, F⟩
              have q1' := F.on q1 (by simp)
              have HF5 := Lib.hid (HFj.out.trans F)
              clear F
              go_wp2_with fail
              refine (Owner_spec (HL4.out.fr0 HF5.out) (by omega) M eid).mono ?_
              rw [HO1.out]
              rintro e w6 ⟨rfl, F⟩
              have HF6 := Lib.hid (HF5.out.trans F)
              clear F
              go_wp2_with fail
              go_roundw
              case rel => exact ⟨j + 1, by omega, by go_num, HF6⟩
              case measure => simp [intOf]; omega
            · have hk1' : (kind == 1) = false := by simpa using hk1
              clear hk1
              go_wp2_with fail
              go_roundw
              case rel => exact ⟨j + 1, by omega, by go_num, HFj⟩
              case measure => simp [intOf]; omega
          · go_wp2_with fail
            refine (only_spec (HK4.out.fr0 HFj.out) (by omega) M X).mono ?_
            rw [HAG.out]
            rintro e w5 ⟨v5, rfl, hk5, F⟩
            have HF5 := Lib.hid (HFj.out.trans F)
            have HK5 := Lib.hid hk5
            obtain ⟨a5, c5, rfl, -⟩ := hk5
            clear F
            go_wp2_with fail
            refine (events_spec HK5.out (HK4.out.fr0 HF5.out) (by omega) (HVK.out.fr HF5.out)).mono ?_
            rintro e w6 ⟨rfl, F⟩
            have HF6 := Lib.hid (HF5.out.trans F)
            clear F
            go_wp2_with fail
            go_ret
            exact ⟨rfl, HF4.out.trans HF6.out⟩
end Go.Proofs.Ytfegdmhfmhaneaa
