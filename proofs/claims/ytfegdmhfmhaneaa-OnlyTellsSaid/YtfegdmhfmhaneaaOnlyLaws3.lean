/-
  OnlyTells, as a contract of its function.
-/
import Derived.Test.YtfegdmhfmhaneaaOnlyLaws
import Derived.Deep.RegionHeld3
namespace Go.Proofs.Ytfegdmhfmhaneaa
open Go.RowKit

set_option maxHeartbeats 8000000 in
set_option maxRecDepth 20000 in
theorem onlyTells_spec {w : World} {base base2 : Nat} {v u : Value} {l : List Ev} {os : List Ou} (hl : Evs w base v l) (hn : l.length ≤ 9223372036854775807) (hv : EvVals w l) (ho : Ous w base2 u os) (hn2 : os.length ≤ 9223372036854775807) (a b c : Int) :
    Calls Try.prog 3 #[v, .agg #[.int .i64 a, .int .i64 b, .int .i64 c], u] w fun e w' => e = .returned (.bool true) ∧ Fr [] w w' := by
  have HL := Lib.hid hl
  have HV := Lib.hid hv
  have HO := Lib.hid ho
  obtain ⟨ao, cap, rfl, -⟩ := hl
  obtain ⟨ao2, cap2, rfl, -⟩ := ho
  clear hv
  go_enter Try.func3, Try.ntmps3
  go_wp2_with fail
  refine (awake21 _).mono ?_
  rintro e w1 ⟨rfl, F⟩
  have KB := F.keep (block_alloc_new _ _) (by simp)
  have x0 : w1.cell? ⟨w.heap.size, 0, none⟩ = some (.int .i64 a) := by rw [cell_of_block KB]; rfl
  have x1 : w1.cell? ⟨w.heap.size, 1, none⟩ = some (.int .i64 b) := by rw [cell_of_block KB]; rfl
  have x2 : w1.cell? ⟨w.heap.size, 2, none⟩ = some (.int .i64 c) := by rw [cell_of_block KB]; rfl
  have HF1 := Lib.hid (((Fr.refl [] w).alloc _).trans F)
  have HL1 := Lib.hid (HL.out.fr0 HF1.out)
  have HO1 := Lib.hid (HO.out.fr0 HF1.out)
  have HV1 := Lib.hid (HV.out.fr HF1.out)
  clear F KB
  go_wp2_with fail
  refine (few_spec HL1.out hn).mono ?_
  rintro e w2 ⟨⟨fb, rfl, hfb⟩, rfl⟩
  cases fb with
  | false =>
    go_wp2_with fail
    go_ret
    exact ⟨rfl, HF1.out⟩
  | true =>
    have h80 := hfb rfl
    clear hfb
    by_cases h100 : os.length ≤ 100
    · have hle : ¬ (100 : Int) < os.length := by omega
      have HOw := Lib.hid (fun (wx : World) (F : Fr [] w2 wx) => Owner_spec (HL1.out.fr0 F) (by omega) a b)
      have HRw := Lib.hid (fun (wx : World) (F : Fr [] w2 wx) => refOwner_spec (HL1.out.fr0 F) (by omega) a b)
      have HOn := Lib.hid (fun (wx : World) (F : Fr [] w2 wx) => only_spec (HL1.out.fr0 F) (by omega) a c)
      have HRn := Lib.hid (fun (wx : World) (F : Fr [] w2 wx) => refOnly_spec (HL1.out.fr0 F) (by omega) a c)
      have HOu := Lib.hid (fun (wx : World) (F : Fr [] w2 wx) => outs_spec (HL1.out.fr0 F) (by omega) (HO1.out.fr0 F) (by omega) a c)
      have HRu := Lib.hid (fun (wx : World) (F : Fr [] w2 wx) => refOuts_spec (HL1.out.fr0 F) (by omega) (HO1.out.fr0 F) (by omega) a c)
      have hkl : (onlyOf l a c).length ≤ 80 := Nat.le_trans (onlyOf_len l a c) h80
      have hol : (outsOf os l a c).length ≤ 100 := Nat.le_trans (List.length_filter_le _ _) h100
      have HVK := Lib.hid (fun (wx : World) (F : Fr [] w2 wx) => EvVals.sub (HV1.out.fr F) (fun e (he : e ∈ onlyOf l a c) => (onlyOf_dep he).1))
      generalize ownerOf l a b = own at *
      generalize onlyOf l a c = k at *
      generalize outsOf os l a c = k2 at *
      have KS := Lib.hid (fun (w' : World) (F : Fr [] w2 w') => (⟨F.on x0 (by simp), F.on x1 (by simp), F.on x2 (by simp)⟩ : w'.cell? ⟨w.heap.size, 0, none⟩ = some (.int .i64 a) ∧ w'.cell? ⟨w.heap.size, 1, none⟩ = some (.int .i64 b) ∧ w'.cell? ⟨w.heap.size, 2, none⟩ = some (.int .i64 c)))
      clear x0 x1 x2
      have FX := Fr.refl [] w2
      go_wp2_with fail
      go_region_held3 (fun w' => w'.cell? ⟨w.heap.size, 0, none⟩ = some (.int .i64 a) ∧ w'.cell? ⟨w.heap.size, 1, none⟩ = some (.int .i64 b) ∧ w'.cell? ⟨w.heap.size, 2, none⟩ = some (.int .i64 c)) (exact KS.out _ (by repeat (first | exact FX | exact Fr.refl _ _ | apply Fr.drew | apply Fr.drewN | apply Fr.alloc))) (first
        | (go_at_call 9; refine (HOw.out _ (by repeat (first | exact FX | exact Fr.refl _ _ | apply Fr.drew | apply Fr.drewN | apply Fr.alloc))).mono ?_; rintro e w8 ⟨rfl, F⟩; have FX : Fr [] w2 w8 := Fr.trans (by repeat (first | exact FX | exact Fr.refl _ _ | apply Fr.drew | apply Fr.drewN | apply Fr.alloc)) F; clear F)
        | (go_at_call 10; refine (HRw.out _ FX).mono ?_; rintro e w8 ⟨rfl, F⟩; have FX := FX.trans F; clear F)
        | (go_at_call 12; refine (HOn.out _ FX).mono ?_; rintro e w8 ⟨v8, rfl, E3, F⟩; have FX := FX.trans F; have HE3 := Lib.hid E3; obtain ⟨a3, c3, rfl, -⟩ := E3; clear F)
        | (go_at_call 13; refine (HRn.out _ FX).mono ?_; rintro e w8 ⟨v8, rfl, E4, F⟩; have FX := FX.trans F; have HE3 := Lib.hid (HE3.out.fr0 F); have HE4 := Lib.hid E4; obtain ⟨a4, c4, rfl, -⟩ := E4; clear F)
        | (go_at_call 11; refine (events_spec HE3.out HE4.out (by omega) (HVK.out _ FX)).mono ?_; rintro e w8 ⟨rfl, F⟩; have FX := FX.trans F; clear F)
        | (go_at_call 15; refine (HOu.out _ FX).mono ?_; rintro e w8 ⟨v8, rfl, E5, F⟩; have FX := FX.trans F; have HE5 := Lib.hid E5; obtain ⟨a5, c5, rfl, -⟩ := E5; clear F)
        | (go_at_call 16; refine (HRu.out _ FX).mono ?_; rintro e w8 ⟨v8, rfl, E6, F⟩; have FX := FX.trans F; have HE5 := Lib.hid (HE5.out.fr0 F); have HE6 := Lib.hid E6; obtain ⟨a6, c6, rfl, -⟩ := E6; clear F)
        | (go_at_call 14; refine (same_ou HE5.out HE6.out (by omega)).mono ?_; rintro e w8 ⟨rfl, F⟩; have FX := FX.trans F; clear F))
      all_goals go_wp2_with fail
      all_goals go_ret
      all_goals exact ⟨by first | rfl | simp, HF1.out.trans FX⟩
    · have hle : (100 : Int) < os.length := by omega
      go_wp2_with fail
      go_ret
      exact ⟨rfl, HF1.out⟩
end Go.Proofs.Ytfegdmhfmhaneaa
