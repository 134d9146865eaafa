/-
  MetricsOf, as a contract of its function (printed by gen_met10.py).
-/
import Derived.Test.YtfegdmhfmhaneaaDoorMet8
namespace Go.Proofs.YtfegdmhfmhaneaaDoor
open Go.RowKit

set_option maxHeartbeats 4000000 in
set_option maxRecDepth 20000 in
theorem metricsOf_spec {w : World} {v : Value} {l : List Ou} (hl : Ous w 0 v l) (h63 : l.length ≤ 9223372036854775807) (a b : Su) (ha : a.ok) (hb : b.ok) (ht : Tab w) :
    Calls Tryd.prog 6 #[v, .agg a.vals, .agg b.vals] w fun e w' => e = .returned (.bool true) ∧ Fr [] w w' := by
  have HA := Lib.hid (fun (w' : World) (F : Fr [] w w') => awake_spec w' (ht.fr F))
  have HO := Lib.hid (fun (w' : World) (F : Fr [] w w') => of_spec (hl.fr0 F) h63)
  have HP := Lib.hid (fun (w' : World) (F : Fr [] w w') => refof_spec (hl.fr0 F) h63)
  have HJ : Hid (∀ w' : World, Calls Tryd.prog 18 #[.agg #[.int .u64 a.k0, .int .u64 a.k1, .int .u64 a.k2, .int .u64 a.k3, .int .u64 a.k4, .int .u64 a.c0, .int .u64 a.c1, .int .u64 a.c2, .int .u64 a.c3, .int .u64 a.c4, .int .u64 a.l], .agg #[.int .u64 b.k0, .int .u64 b.k1, .int .u64 b.k2, .int .u64 b.k3, .int .u64 b.k4, .int .u64 b.c0, .int .u64 b.c1, .int .u64 b.c2, .int .u64 b.c3, .int .u64 b.c4, .int .u64 b.l]] w' fun e w'' => e = .returned (.agg (joinS a b).vals) ∧ Fr [] w' w'') := Lib.hid (fun w' => join_spec a b ha w')
  have HK : Hid (∀ w' : World, Calls Tryd.prog 19 #[.agg #[.int .u64 a.k0, .int .u64 a.k1, .int .u64 a.k2, .int .u64 a.k3, .int .u64 a.k4, .int .u64 a.c0, .int .u64 a.c1, .int .u64 a.c2, .int .u64 a.c3, .int .u64 a.c4, .int .u64 a.l], .agg #[.int .u64 b.k0, .int .u64 b.k1, .int .u64 b.k2, .int .u64 b.k3, .int .u64 b.k4, .int .u64 b.c0, .int .u64 b.c1, .int .u64 b.c2, .int .u64 b.c3, .int .u64 b.c4, .int .u64 b.l]] w' fun e w'' => e = .returned (.agg (joinS a b).vals) ∧ Fr [] w' w'') := Lib.hid (fun w' => refjoin_spec a b ha hb w')
  have HR1 := Lib.hid (fun w' : World => real_spec (sumOf l) w')
  have HR2 := Lib.hid (fun w' : World => real_spec (joinS a b) w')
  have q1 := eq_sumR (sumOf l)
  have q2 := eq_sumR (joinS a b)
  obtain ⟨ao, cap, rfl, -⟩ := hl
  generalize (sumOf l).vals = s1 at *
  generalize (joinS a b).vals = s2 at *
  rw [show a.vals = #[.int .u64 a.k0, .int .u64 a.k1, .int .u64 a.k2, .int .u64 a.k3, .int .u64 a.k4, .int .u64 a.c0, .int .u64 a.c1, .int .u64 a.c2, .int .u64 a.c3, .int .u64 a.c4, .int .u64 a.l] from rfl, show b.vals = #[.int .u64 b.k0, .int .u64 b.k1, .int .u64 b.k2, .int .u64 b.k3, .int .u64 b.k4, .int .u64 b.c0, .int .u64 b.c1, .int .u64 b.c2, .int .u64 b.c3, .int .u64 b.c4, .int .u64 b.l] from rfl]
  have HF := Lib.hid (((Fr.refl [] w).alloc (.cells #[.int .u64 a.k0, .int .u64 a.k1, .int .u64 a.k2, .int .u64 a.k3, .int .u64 a.k4, .int .u64 a.c0, .int .u64 a.c1, .int .u64 a.c2, .int .u64 a.c3, .int .u64 a.c4, .int .u64 a.l] 41)).alloc (.cells #[.int .u64 b.k0, .int .u64 b.k1, .int .u64 b.k2, .int .u64 b.k3, .int .u64 b.k4, .int .u64 b.c0, .int .u64 b.c1, .int .u64 b.c2, .int .u64 b.c3, .int .u64 b.c4, .int .u64 b.l] 41))
  have HB := Lib.hid (block_alloc (block_alloc_new w (.cells #[.int .u64 a.k0, .int .u64 a.k1, .int .u64 a.k2, .int .u64 a.k3, .int .u64 a.k4, .int .u64 a.c0, .int .u64 a.c1, .int .u64 a.c2, .int .u64 a.c3, .int .u64 a.c4, .int .u64 a.l] 41)) (.cells #[.int .u64 b.k0, .int .u64 b.k1, .int .u64 b.k2, .int .u64 b.k3, .int .u64 b.k4, .int .u64 b.c0, .int .u64 b.c1, .int .u64 b.c2, .int .u64 b.c3, .int .u64 b.c4, .int .u64 b.l] 41))
  have HB2 := Lib.hid (block_alloc_new (w.alloc (.cells #[.int .u64 a.k0, .int .u64 a.k1, .int .u64 a.k2, .int .u64 a.k3, .int .u64 a.k4, .int .u64 a.c0, .int .u64 a.c1, .int .u64 a.c2, .int .u64 a.c3, .int .u64 a.c4, .int .u64 a.l] 41)) (.cells #[.int .u64 b.k0, .int .u64 b.k1, .int .u64 b.k2, .int .u64 b.k3, .int .u64 b.k4, .int .u64 b.c0, .int .u64 b.c1, .int .u64 b.c2, .int .u64 b.c3, .int .u64 b.c4, .int .u64 b.l] 41))
  rw [World.size_alloc] at HB2
  clear ha hb ht h63
  go_enter Tryd.func6, Tryd.ntmps6
  go_wp2_with fail
  refine (HA.out _ HF.out).mono ?_
  rintro e w2 ⟨rfl, F⟩
  have HF2 := Lib.hid (HF.out.trans F)
  have HC := Lib.hid (F.keep HB.out (by simp))
  have HC2 := Lib.hid (F.keep HB2.out (by simp))
  obtain ⟨y0, y1, y2, y3, y4, y5, y6, y7, y8, y9, y10⟩ := eleven HC.out
  obtain ⟨z0, z1, z2, z3, z4, z5, z6, z7, z8, z9, z10⟩ := eleven (block_alloc HC2.out (.cells #[.int .u64 a.k0, .int .u64 a.k1, .int .u64 a.k2, .int .u64 a.k3, .int .u64 a.k4, .int .u64 a.c0, .int .u64 a.c1, .int .u64 a.c2, .int .u64 a.c3, .int .u64 a.c4, .int .u64 a.l] 37))
  clear F HA HB HB2 HF
  go_wp2_with fail
  clear y0 y1 y2 y3 y4 y5 y6 y7 y8 y9 y10 z0 z1 z2 z3 z4 z5 z6 z7 z8 z9 z10
  have G3 := Lib.hid (block_alloc (block_alloc_new w2 (.cells #[.int .u64 a.k0, .int .u64 a.k1, .int .u64 a.k2, .int .u64 a.k3, .int .u64 a.k4, .int .u64 a.c0, .int .u64 a.c1, .int .u64 a.c2, .int .u64 a.c3, .int .u64 a.c4, .int .u64 a.l] 37)) (.cells #[.int .u64 b.k0, .int .u64 b.k1, .int .u64 b.k2, .int .u64 b.k3, .int .u64 b.k4, .int .u64 b.c0, .int .u64 b.c1, .int .u64 b.c2, .int .u64 b.c3, .int .u64 b.c4, .int .u64 b.l] 37))
  have G4 := Lib.hid (block_alloc_new (w2.alloc (.cells #[.int .u64 a.k0, .int .u64 a.k1, .int .u64 a.k2, .int .u64 a.k3, .int .u64 a.k4, .int .u64 a.c0, .int .u64 a.c1, .int .u64 a.c2, .int .u64 a.c3, .int .u64 a.c4, .int .u64 a.l] 37)) (.cells #[.int .u64 b.k0, .int .u64 b.k1, .int .u64 b.k2, .int .u64 b.k3, .int .u64 b.k4, .int .u64 b.c0, .int .u64 b.c1, .int .u64 b.c2, .int .u64 b.c3, .int .u64 b.c4, .int .u64 b.l] 37))
  rw [World.size_alloc] at G4
  have G1 := Lib.hid (block_alloc (block_alloc HC.out (.cells #[.int .u64 a.k0, .int .u64 a.k1, .int .u64 a.k2, .int .u64 a.k3, .int .u64 a.k4, .int .u64 a.c0, .int .u64 a.c1, .int .u64 a.c2, .int .u64 a.c3, .int .u64 a.c4, .int .u64 a.l] 37)) (.cells #[.int .u64 b.k0, .int .u64 b.k1, .int .u64 b.k2, .int .u64 b.k3, .int .u64 b.k4, .int .u64 b.c0, .int .u64 b.c1, .int .u64 b.c2, .int .u64 b.c3, .int .u64 b.c4, .int .u64 b.l] 37))
  have G2 := Lib.hid (block_alloc (block_alloc HC2.out (.cells #[.int .u64 a.k0, .int .u64 a.k1, .int .u64 a.k2, .int .u64 a.k3, .int .u64 a.k4, .int .u64 a.c0, .int .u64 a.c1, .int .u64 a.c2, .int .u64 a.c3, .int .u64 a.c4, .int .u64 a.l] 37)) (.cells #[.int .u64 b.k0, .int .u64 b.k1, .int .u64 b.k2, .int .u64 b.k3, .int .u64 b.k4, .int .u64 b.c0, .int .u64 b.c1, .int .u64 b.c2, .int .u64 b.c3, .int .u64 b.c4, .int .u64 b.l] 37))
  have GF := Lib.hid ((HF2.out.alloc (.cells #[.int .u64 a.k0, .int .u64 a.k1, .int .u64 a.k2, .int .u64 a.k3, .int .u64 a.k4, .int .u64 a.c0, .int .u64 a.c1, .int .u64 a.c2, .int .u64 a.c3, .int .u64 a.c4, .int .u64 a.l] 37)).alloc (.cells #[.int .u64 b.k0, .int .u64 b.k1, .int .u64 b.k2, .int .u64 b.k3, .int .u64 b.k4, .int .u64 b.c0, .int .u64 b.c1, .int .u64 b.c2, .int .u64 b.c3, .int .u64 b.c4, .int .u64 b.l] 37))
  obtain ⟨w4, hw4⟩ : ∃ w4, w4 = (w2.alloc (.cells #[.int .u64 a.k0, .int .u64 a.k1, .int .u64 a.k2, .int .u64 a.k3, .int .u64 a.k4, .int .u64 a.c0, .int .u64 a.c1, .int .u64 a.c2, .int .u64 a.c3, .int .u64 a.c4, .int .u64 a.l] 37)).alloc (.cells #[.int .u64 b.k0, .int .u64 b.k1, .int .u64 b.k2, .int .u64 b.k3, .int .u64 b.k4, .int .u64 b.c0, .int .u64 b.c1, .int .u64 b.c2, .int .u64 b.c3, .int .u64 b.c4, .int .u64 b.l] 37) := ⟨_, rfl⟩
  rw [← hw4] at G1 G2 G3 G4 GF ⊢
  clear hw4 HC HC2 HF2
  have KS : Hid (∀ w' : World, Fr [] w4 w' → w'.heap[w.heap.size]? = some (.cells #[.int .u64 a.k0, .int .u64 a.k1, .int .u64 a.k2, .int .u64 a.k3, .int .u64 a.k4, .int .u64 a.c0, .int .u64 a.c1, .int .u64 a.c2, .int .u64 a.c3, .int .u64 a.c4, .int .u64 a.l] 41) ∧ w'.heap[w.heap.size + 1]? = some (.cells #[.int .u64 b.k0, .int .u64 b.k1, .int .u64 b.k2, .int .u64 b.k3, .int .u64 b.k4, .int .u64 b.c0, .int .u64 b.c1, .int .u64 b.c2, .int .u64 b.c3, .int .u64 b.c4, .int .u64 b.l] 41) ∧ w'.heap[w2.heap.size]? = some (.cells #[.int .u64 a.k0, .int .u64 a.k1, .int .u64 a.k2, .int .u64 a.k3, .int .u64 a.k4, .int .u64 a.c0, .int .u64 a.c1, .int .u64 a.c2, .int .u64 a.c3, .int .u64 a.c4, .int .u64 a.l] 37) ∧ w'.heap[w2.heap.size + 1]? = some (.cells #[.int .u64 b.k0, .int .u64 b.k1, .int .u64 b.k2, .int .u64 b.k3, .int .u64 b.k4, .int .u64 b.c0, .int .u64 b.c1, .int .u64 b.c2, .int .u64 b.c3, .int .u64 b.c4, .int .u64 b.l] 37)) := Lib.hid (fun w' F => ⟨F.keep G1.out (by simp), F.keep G2.out (by simp), F.keep G3.out (by simp), F.keep G4.out (by simp)⟩)
  have HO' := Lib.hid (fun (w' : World) (F : Fr [] w4 w') => HO.out w' (GF.out.trans F))
  have HP' := Lib.hid (fun (w' : World) (F : Fr [] w4 w') => HP.out w' (GF.out.trans F))
  have HJ' := Lib.hid (fun (w' : World) (_ : Fr [] w4 w') => HJ.out w')
  have HK' := Lib.hid (fun (w' : World) (_ : Fr [] w4 w') => HK.out w')
  have HR1' := Lib.hid (fun (w' : World) (_ : Fr [] w4 w') => HR1.out w')
  have HR2' := Lib.hid (fun (w' : World) (_ : Fr [] w4 w') => HR2.out w')
  have hc1 : ∀ (w' : World) (i : Nat), w'.heap[w.heap.size]? = some (.cells #[.int .u64 a.k0, .int .u64 a.k1, .int .u64 a.k2, .int .u64 a.k3, .int .u64 a.k4, .int .u64 a.c0, .int .u64 a.c1, .int .u64 a.c2, .int .u64 a.c3, .int .u64 a.c4, .int .u64 a.l] 41) → w'.cell? ⟨w.heap.size, i, none⟩ = #[.int .u64 a.k0, .int .u64 a.k1, .int .u64 a.k2, .int .u64 a.k3, .int .u64 a.k4, .int .u64 a.c0, .int .u64 a.c1, .int .u64 a.c2, .int .u64 a.c3, .int .u64 a.c4, .int .u64 a.l][i]? := fun w' i h => cell_of_block h i
  have hc2 : ∀ (w' : World) (i : Nat), w'.heap[w.heap.size + 1]? = some (.cells #[.int .u64 b.k0, .int .u64 b.k1, .int .u64 b.k2, .int .u64 b.k3, .int .u64 b.k4, .int .u64 b.c0, .int .u64 b.c1, .int .u64 b.c2, .int .u64 b.c3, .int .u64 b.c4, .int .u64 b.l] 41) → w'.cell? ⟨w.heap.size + 1, i, none⟩ = #[.int .u64 b.k0, .int .u64 b.k1, .int .u64 b.k2, .int .u64 b.k3, .int .u64 b.k4, .int .u64 b.c0, .int .u64 b.c1, .int .u64 b.c2, .int .u64 b.c3, .int .u64 b.c4, .int .u64 b.l][i]? := fun w' i h => cell_of_block h i
  have hc3 : ∀ (w' : World) (i : Nat), w'.heap[w2.heap.size]? = some (.cells #[.int .u64 a.k0, .int .u64 a.k1, .int .u64 a.k2, .int .u64 a.k3, .int .u64 a.k4, .int .u64 a.c0, .int .u64 a.c1, .int .u64 a.c2, .int .u64 a.c3, .int .u64 a.c4, .int .u64 a.l] 37) → w'.cell? ⟨w2.heap.size, i, none⟩ = #[.int .u64 a.k0, .int .u64 a.k1, .int .u64 a.k2, .int .u64 a.k3, .int .u64 a.k4, .int .u64 a.c0, .int .u64 a.c1, .int .u64 a.c2, .int .u64 a.c3, .int .u64 a.c4, .int .u64 a.l][i]? := fun w' i h => cell_of_block h i
  have hc4 : ∀ (w' : World) (i : Nat), w'.heap[w2.heap.size + 1]? = some (.cells #[.int .u64 b.k0, .int .u64 b.k1, .int .u64 b.k2, .int .u64 b.k3, .int .u64 b.k4, .int .u64 b.c0, .int .u64 b.c1, .int .u64 b.c2, .int .u64 b.c3, .int .u64 b.c4, .int .u64 b.l] 37) → w'.cell? ⟨w2.heap.size + 1, i, none⟩ = #[.int .u64 b.k0, .int .u64 b.k1, .int .u64 b.k2, .int .u64 b.k3, .int .u64 b.k4, .int .u64 b.c0, .int .u64 b.c1, .int .u64 b.c2, .int .u64 b.c3, .int .u64 b.c4, .int .u64 b.l][i]? := fun w' i h => cell_of_block h i
  clear HO HP HJ HK HR1 HR2 G1 G2 G3 G4
  have FX := Fr.refl [] w4
  go_region_held3 (fun w' => w'.heap[w.heap.size]? = some (.cells #[.int .u64 a.k0, .int .u64 a.k1, .int .u64 a.k2, .int .u64 a.k3, .int .u64 a.k4, .int .u64 a.c0, .int .u64 a.c1, .int .u64 a.c2, .int .u64 a.c3, .int .u64 a.c4, .int .u64 a.l] 41) ∧ w'.heap[w.heap.size + 1]? = some (.cells #[.int .u64 b.k0, .int .u64 b.k1, .int .u64 b.k2, .int .u64 b.k3, .int .u64 b.k4, .int .u64 b.c0, .int .u64 b.c1, .int .u64 b.c2, .int .u64 b.c3, .int .u64 b.c4, .int .u64 b.l] 41) ∧ w'.heap[w2.heap.size]? = some (.cells #[.int .u64 a.k0, .int .u64 a.k1, .int .u64 a.k2, .int .u64 a.k3, .int .u64 a.k4, .int .u64 a.c0, .int .u64 a.c1, .int .u64 a.c2, .int .u64 a.c3, .int .u64 a.c4, .int .u64 a.l] 37) ∧ w'.heap[w2.heap.size + 1]? = some (.cells #[.int .u64 b.k0, .int .u64 b.k1, .int .u64 b.k2, .int .u64 b.k3, .int .u64 b.k4, .int .u64 b.c0, .int .u64 b.c1, .int .u64 b.c2, .int .u64 b.c3, .int .u64 b.c4, .int .u64 b.l] 37))
    (with_reducible exact KS.out _ (by with_reducible repeat (first | exact FX | exact Fr.refl _ _ | apply Fr.drew | apply Fr.drewN | apply Fr.alloc)))
    (first
      | (go_at_call 15; refine (HO'.out _ (by with_reducible repeat (first | exact FX | exact Fr.refl _ _ | apply Fr.drew | apply Fr.drewN | apply Fr.alloc))).mono ?_; rintro e wA ⟨rfl, F⟩; have FX : Fr [] w4 wA := Fr.trans (by with_reducible repeat (first | exact FX | exact Fr.refl _ _ | apply Fr.drew | apply Fr.drewN | apply Fr.alloc)) F; clear F)
      | (go_at_call 17; refine (HP'.out _ (by with_reducible repeat (first | exact FX | exact Fr.refl _ _ | apply Fr.drew | apply Fr.drewN | apply Fr.alloc))).mono ?_; rintro e wA ⟨rfl, F⟩; have FX : Fr [] w4 wA := Fr.trans (by with_reducible repeat (first | exact FX | exact Fr.refl _ _ | apply Fr.drew | apply Fr.drewN | apply Fr.alloc)) F; clear F)
      | (go_at_call 18; refine (HJ'.out _ (by with_reducible repeat (first | exact FX | exact Fr.refl _ _ | apply Fr.drew | apply Fr.drewN | apply Fr.alloc))).mono ?_; rintro e wA ⟨rfl, F⟩; have FX : Fr [] w4 wA := Fr.trans (by with_reducible repeat (first | exact FX | exact Fr.refl _ _ | apply Fr.drew | apply Fr.drewN | apply Fr.alloc)) F; clear F)
      | (go_at_call 19; refine (HK'.out _ (by with_reducible repeat (first | exact FX | exact Fr.refl _ _ | apply Fr.drew | apply Fr.drewN | apply Fr.alloc))).mono ?_; rintro e wA ⟨rfl, F⟩; have FX : Fr [] w4 wA := Fr.trans (by with_reducible repeat (first | exact FX | exact Fr.refl _ _ | apply Fr.drew | apply Fr.drewN | apply Fr.alloc)) F; clear F)
      | (go_at_call_of 16 (Value.agg s1); refine (HR1'.out _ (by with_reducible repeat (first | exact FX | exact Fr.refl _ _ | apply Fr.drew | apply Fr.drewN | apply Fr.alloc))).mono ?_; rintro e wA ⟨rfl, F⟩; have FX : Fr [] w4 wA := Fr.trans (by with_reducible repeat (first | exact FX | exact Fr.refl _ _ | apply Fr.drew | apply Fr.drewN | apply Fr.alloc)) F; clear F)
      | (go_at_call_of 16 (Value.agg s2); refine (HR2'.out _ (by with_reducible repeat (first | exact FX | exact Fr.refl _ _ | apply Fr.drew | apply Fr.drewN | apply Fr.alloc))).mono ?_; rintro e wA ⟨rfl, F⟩; have FX : Fr [] w4 wA := Fr.trans (by with_reducible repeat (first | exact FX | exact Fr.refl _ _ | apply Fr.drew | apply Fr.drewN | apply Fr.alloc)) F; clear F))
  all_goals (
    clear KS hc1 hc2 hc3 hc4 HO' HP' HJ' HK' HR1' HR2'
    go_wp2_with fail
    go_ret
    exact ⟨rfl, GF.out.trans (by with_reducible repeat (first | exact FX | exact Fr.refl _ _ | apply Fr.drew | apply Fr.drewN | apply Fr.alloc))⟩)
end Go.Proofs.YtfegdmhfmhaneaaDoor
