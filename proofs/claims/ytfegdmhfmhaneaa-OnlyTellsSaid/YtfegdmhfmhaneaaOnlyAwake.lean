/-
  awake of porpoiselaw21; OnlyNobody, as a contract of its function.
-/
import Derived.Test.YtfegdmhfmhaneaaEv9
namespace Go.Proofs.Ytfegdmhfmhaneaa
open Go.RowKit

def ev1 : Ev := ⟨1, 1, 0, 0, 0, 0, 0, false, none, 0, 0⟩
def ev2 : Ev := ⟨1, 2, 1, 0, 0, 0, 0, false, none, 0, 0⟩
def ev3 : Ev := ⟨4, 1, 0, 0, 0, 0, 0, false, none, 0, 0⟩
def ev4 : Ev := ⟨2, 0, 0, 0, 0, 0, 1, false, none, 0, 0⟩
def evs4 : List Ev := [ev1, ev2, ev3, ev4]
theorem evs4_only : onlyOf evs4 2 1 = [ev2, ev4] := by rfl
theorem evs4_own1 : ownerOf evs4 2 1 = 0 := by decide
theorem evs4_own3 : ownerOf evs4 2 3 = -1 := by decide
theorem evs4_outs : outsOf [⟨2, 0, 0, 0, 0⟩, ⟨1, 0, 0, 0, 0⟩] evs4 2 0 = [⟨1, 0, 0, 0, 0⟩] := by decide
def obj4 : Obj := .cells #[.int .i64 1, .int .i64 1, .int .i64 0, .int .i64 0, .int .i64 0, .int .i64 0, .int .u64 0, .bool false, .slice none 0 0,
  .int .i64 1, .int .i64 2, .int .i64 1, .int .i64 0, .int .i64 0, .int .i64 0, .int .u64 0, .bool false, .slice none 0 0,
  .int .i64 4, .int .i64 1, .int .i64 0, .int .i64 0, .int .i64 0, .int .i64 0, .int .u64 0, .bool false, .slice none 0 0,
  .int .i64 2, .int .i64 0, .int .i64 0, .int .i64 0, .int .i64 0, .int .i64 0, .int .u64 1, .bool false, .slice none 0 0] 36
theorem evs4_made (w : World) : Evs (w.alloc obj4) w.heap.size (.slice (some ⟨w.heap.size, 0, none⟩) 4 4) evs4 :=
  Evs.of_owns (l := evs4) ⟨rfl, .inr ⟨w.heap.size, 4, _, rfl, Nat.le_refl _, block_alloc_new _ _, Nat.le_refl _, by decide, rfl, rfl⟩⟩
def obj2 : Obj := .cells #[.int .i64 2, .int .i64 0, .int .i64 0, .int .i64 0, .int .u64 0, .int .i64 1, .int .i64 0, .int .i64 0, .int .i64 0, .int .u64 0] 41
theorem ous2_made (w : World) : Ous (w.alloc obj2) w.heap.size (.slice (some ⟨w.heap.size, 0, none⟩) 2 2) [⟨2, 0, 0, 0, 0⟩, ⟨1, 0, 0, 0, 0⟩] :=
  Ous.of_owns (l := [⟨2, 0, 0, 0, 0⟩, ⟨1, 0, 0, 0, 0⟩]) ⟨rfl, .inr ⟨w.heap.size, 2, _, rfl, Nat.le_refl _, block_alloc_new _ _, Nat.le_refl _, by decide, rfl, rfl⟩⟩

set_option maxHeartbeats 4000000 in
theorem awake21 (w : World) : Calls Try.prog 7 #[] w fun e w' => e = .returned (.bool true) ∧ Fr [] w w' := by
  have HE := Lib.hid (evs4_made w)
  have HF0 : Hid (Fr [] w (w.alloc obj4)) := Lib.hid ((Fr.refl _ _).alloc _)
  have HO2 := Lib.hid (fun w' : World => ous2_made w')
  unfold obj4 at HE HF0
  unfold obj2 at HO2
  go_enter Try.func7, Try.ntmps7
  go_wp2_with fail
  refine (only_spec HE.out (by decide) 2 1).mono ?_
  rintro e w1 ⟨v1, rfl, hk, F⟩
  rw [evs4_only] at hk
  obtain ⟨ao, cap, rfl, -, -, h9⟩ := hk
  obtain ⟨b, o, rfl, -, h9⟩ := h9 0 (by decide)
  obtain ⟨k0, k1, -⟩ := h9
  have HF1 := Lib.hid (HF0.out.trans F)
  have HE1 := Lib.hid (HE.out.fr0 F)
  clear F
  simp only [Nat.zero_mul, Nat.add_zero] at k0 k1
  have k1' : w1.cell? ⟨b, o + 1, none⟩ = some (.int .i64 2) := k1
  clear k0 k1
  simp only [List.length_cons, List.length_nil]
  go_wp2_with fail
  refine (Owner_spec HE1.out (by decide) 2 1).mono ?_
  rw [evs4_own1]
  rintro e w2 ⟨rfl, F⟩
  have HF2 := Lib.hid (HF1.out.trans F)
  have HE2 := Lib.hid (HE1.out.fr0 F)
  clear F
  go_wp2_with fail
  refine (Owner_spec HE2.out (by decide) 2 3).mono ?_
  rw [evs4_own3]
  rintro e w3 ⟨rfl, F⟩
  have HF3 := Lib.hid (HF2.out.trans F)
  have HE3 := Lib.hid (HE2.out.fr0 F)
  clear F
  go_wp2_with fail
  refine (outs_spec (HE3.out.fr0 ((Fr.refl _ _).alloc _)) (by decide) (HO2.out w3) (by decide) 2 0).mono ?_
  rw [evs4_outs]
  rintro e w4 ⟨v4, rfl, hk, F⟩
  obtain ⟨ao4, cap4, rfl, -⟩ := hk
  have HF4 := Lib.hid ((HF3.out.alloc _).trans F)
  clear F
  simp only [List.length_cons, List.length_nil]
  go_wp2_with fail
  go_ret
  exact ⟨rfl, HF4.out⟩

set_option maxHeartbeats 4000000 in
theorem onlyNobody_spec {w : World} {base : Nat} {v : Value} {l : List Ev} (hl : Evs w base v l) (hn : l.length ≤ 9223372036854775807) (id : Int) :
    Calls Try.prog 6 #[v, .int .i64 id] w fun e w' => e = .returned (.bool true) ∧ Fr [] w w' := by
  have HL := Lib.hid hl
  obtain ⟨ao, cap, rfl, -⟩ := hl
  have HNil := Lib.hid (fun w : World => (⟨none, 0, rfl, Nat.le_refl _, fun _ => rfl, fun i hi => by simp at hi⟩ : Evs w 0 (.slice none 0 0) []))
  have HNilO := Lib.hid (fun w : World => (⟨none, 0, rfl, Nat.le_refl _, fun _ => rfl, fun i hi => by simp at hi⟩ : Ous w 0 (.slice none 0 0) []))
  go_enter Try.func6, Try.ntmps6
  go_wp2_with fail
  refine (awake21 _).mono ?_
  rintro e w1 ⟨rfl, F⟩
  have HF1 := Lib.hid F
  have HL1 := Lib.hid (HL.out.fr0 F)
  clear F
  go_wp2_with fail
  refine (few_spec HL1.out hn).mono ?_
  rintro e w2 ⟨⟨fb, rfl, hfb⟩, rfl⟩
  cases fb with
  | false =>
    go_wp2_with fail
    go_ret
    exact ⟨rfl, HF1.out⟩
  | true =>
    have h80 := hfb rfl
    clear hfb
    go_wp2_with fail
    refine (Owner_spec HL1.out (by omega) 0 id).mono ?_
    rw [ownerOf_zero]
    rintro e w3 ⟨rfl, F⟩
    have HF3 := Lib.hid (HF1.out.trans F)
    have HL3 := Lib.hid (HL1.out.fr0 F)
    clear F
    go_wp2_with fail
    refine (Owner_spec (HNil.out _) (by decide) 4 id).mono ?_
    rw [ownerOf_nil]
    rintro e w4 ⟨rfl, F⟩
    have HF4 := Lib.hid (HF3.out.trans F)
    have HL4 := Lib.hid (HL3.out.fr0 F)
    clear F
    go_wp2_with fail
    refine (only_spec (HNil.out _) (by decide) 4 0).mono ?_
    rintro e w5 ⟨v5, rfl, hk, F⟩
    obtain ⟨ao5, cap5, rfl, -⟩ := hk
    have HF5 := Lib.hid (HF4.out.trans F)
    have HL5 := Lib.hid (HL4.out.fr0 F)
    clear F
    rw [show (onlyOf [] 4 0).length = 0 from rfl]
    go_wp2_with fail
    refine (outs_spec HL5.out (by omega) (HNilO.out _) (by decide) 4 0).mono ?_
    rintro e w6 ⟨v6, rfl, hk, F⟩
    obtain ⟨ao6, cap6, rfl, -⟩ := hk
    have HF6 := Lib.hid (HF5.out.trans F)
    clear F
    rw [show (outsOf [] l 4 0).length = 0 from rfl]
    go_wp2_with fail
    go_ret
    exact ⟨rfl, HF6.out⟩
end Go.Proofs.Ytfegdmhfmhaneaa
