/-
  awake, ran of porpoiselaw10.
-/
import Derived.Test.YthbhkmhmiplikaaLaw10c
namespace Go.Proofs.Ythbhkmhmiplikaa
open Go.RowKit

/-- Changes of a bulk that is new are none of what was there. -/
theorem Fr.ownB {r g : Nat} {w w1 w2 : World} (h : Fr [] w w1) (k : Fr [r, g] w1 w2) (hb : w.heap.size ≤ r ∧ w.heap.size ≤ g) : Fr [] w w2 := h.trans' k (fun x hx => Or.inr (by simp at hx; omega))

theorem one_list {w : World} {n : Nat} {y : Int} (hn : n = w.heap.size) : Lst (w.alloc (.cells #[.int .i64 y] 3)) w.heap.size (.slice (some ⟨n, 0, none⟩) 1 1) [y] := by
  subst hn
  refine ⟨⟨_, 1, rfl, by simp, fun e => by simp at e, fun j hj => ⟨w.heap.size, 0, rfl, ?_⟩⟩, fun k hk => by simp [Value.ownBlock] at hk; omega⟩
  have : j = 0 := by simpa using hj
  subst this
  exact World.cell?_alloc_new w _ _ 0

set_option maxHeartbeats 4000000 in
theorem awake10 (w : World) : Calls Try.prog 27 #[] w fun e w' => e = .returned (.bool true) ∧ Fr [] w w' := by
  go_enter Try.func27, Try.ntmps27
  go_wp2_with fail
  refine (conf_spec true 0 1 (by omega) (by omega) _).mono ?_
  rintro e w1 ⟨rfl, F1⟩
  have HF := Lib.hid F1
  clear F1
  go_wp2_with fail
  refine (bulk_new_yes (confOf true 0 1) _ 1 1 rfl rfl (.inl rfl) (by omega)).mono ?_
  rintro e w2 ⟨b, s, r, g, rfl, B, hr, hg, _, _, F⟩
  have hsz := HF.out.size
  have hrg := Lib.hid (show w.heap.size ≤ r ∧ w.heap.size ≤ g by omega)
  have HF := Lib.hid (HF.out.trans F)
  have HB := Lib.hid B
  clear B F hr hg hsz
  go_wp2_with fail
  refine (HB.out.admitM 1).mono ?_
  rw [show admitM 1 1 [] [] 1 = ([1], [], 1, []) by decide]
  rintro e w3 ⟨v1, rfl, V, B, F⟩
  have HF := Lib.hid (HF.out.ownB F hrg.out)
  have HB := Lib.hid B
  clear B F V
  go_wp2_with fail
  refine (HB.out.admitM 2).mono ?_
  rw [show admitM 1 1 [1] [] 2 = ([1], [2], 2, []) by decide]
  rintro e w4 ⟨v2, rfl, V, B, F⟩
  have HF := Lib.hid (HF.out.ownB F hrg.out)
  have HB := Lib.hid B
  clear B F V
  go_wp2_with fail
  refine (HB.out.admitM 3).mono ?_
  rw [show admitM 1 1 [1] [2] 3 = ([1], [2], 3, []) by decide]
  rintro e w5 ⟨v3, rfl, V, B, F⟩
  obtain ⟨a3, c3, rfl, _⟩ := V.1
  have HF := Lib.hid (HF.out.ownB F hrg.out)
  have HB := Lib.hid B
  clear B F V
  go_wp2_with fail
  refine (HB.out.free 1).mono ?_
  rw [show decide ((1 : Int) ∈ [1]) = true by decide, show rem 1 [1] = [] by decide]
  rintro e w6 ⟨rfl, B, F⟩
  have HF := Lib.hid (HF.out.ownB F hrg.out)
  have HB := Lib.hid B
  clear B F
  go_wp2_with fail
  refine (HB.out.admitM 3).mono ?_
  rw [show admitM 1 1 [] [2] 3 = ([2], [3], 2, [2]) by decide]
  rintro e w7 ⟨v7, rfl, V, B, F⟩
  have HF := Lib.hid (HF.out.ownB F hrg.out)
  have HB := Lib.hid B
  have HV := Lib.hid V
  clear B F V
  go_wp2_with fail
  refine (same_spec (HV.out.fr ((Fr.refl [] _).alloc _) (by simp)).1 (one_list (y := 2) rfl).1 (by simp)).mono ?_
  rw [show same [2] [2] = true by decide]
  rintro e w8 ⟨rfl, q8, rfl⟩
  have HF := Lib.hid ((HF.out.alloc (.cells #[.int .i64 2] 3)).drewN q8)
  have HB := Lib.hid (HB.out.fr0 (((Fr.refl [] _).alloc (.cells #[.int .i64 2] 3)).drewN q8))
  clear HV
  go_wp2_with fail
  refine (HB.out.busy).mono ?_
  rintro e w9 ⟨rfl, rfl⟩
  go_wp2_with fail
  refine (HB.out.runs 2).mono ?_
  rw [show decide ((2 : Int) ∈ [2]) = true by decide]
  rintro e w9 ⟨rfl, F⟩
  have HF := Lib.hid (HF.out.trans F)
  have HB := Lib.hid (HB.out.fr0 F)
  clear F
  go_wp2_with fail
  refine (HB.out.waiting).mono ?_
  rintro e w10 ⟨v10, rfl, V, F⟩
  have HF := Lib.hid (HF.out.trans F)
  have HV := Lib.hid V
  clear F V
  go_wp2_with fail
  refine (same_spec (HV.out.fr ((Fr.refl [] _).alloc _) (by simp)).1 (one_list (y := 3) rfl).1 (by simp)).mono ?_
  rw [show same [3] [3] = true by decide]
  rintro e w11 ⟨rfl, q11, rfl⟩
  have HF := Lib.hid ((HF.out.alloc (.cells #[.int .i64 3] 3)).drewN q11)
  go_wp2_with fail
  go_ret
  exact ⟨rfl, HF.out⟩
end Go.Proofs.Ythbhkmhmiplikaa
