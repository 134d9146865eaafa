/-
  MetricsJoins, as a contract of its function: the sum of two lists is both sums joined.
-/
import Derived.Test.YtfegdmhfmhaneaaDoorMet13
namespace Go.Proofs.YtfegdmhfmhaneaaDoor
open Go.RowKit

theorem cnt_app (f : Ou → Int) (l m : List Ou) (k : Int) : cnt f (l ++ m) k = cnt f l k + cnt f m k := by
  unfold cnt; rw [List.filter_append, List.length_append]
theorem foldl_max (l : List Int) (a : Int) (h : 0 ≤ a) : l.foldl max a = max a (l.foldl max 0) := by
  induction l generalizing a with
  | nil => simp; omega
  | cons x l ih => simp only [List.foldl_cons]; rw [ih (max a x) (by omega), ih (max 0 x) (by omega)]; omega
theorem foldl_max0 (l : List Int) : 0 ≤ l.foldl max 0 := by
  cases l with
  | nil => simp
  | cons x l => simp only [List.foldl_cons]; rw [foldl_max _ _ (by omega)]; omega
theorem last_app (l m : List Ou) : lastOf (l ++ m) = max (lastOf l) (lastOf m) := by
  unfold lastOf; rw [List.map_append, List.foldl_append, foldl_max _ _ (foldl_max0 _)]
theorem sadd_add (a b n m : Nat) (ha : a ≤ n) (hb : b ≤ m) (h : n + m ≤ 18446744073709551615) : sadd a b = a + b := by unfold sadd; omega
theorem sum_app (l m : List Ou) (h : l.length + m.length ≤ 18446744073709551615) : sumOf (l ++ m) = joinS (sumOf l) (sumOf m) := by
  unfold sumOf joinS
  simp only [cnt_app, last_app]
  simp only [sadd_add _ _ _ _ (cnt_le _ _ _) (cnt_le _ _ _) h]
theorem sadd_comm (a b : Nat) : sadd a b = sadd b a := by unfold sadd; omega
theorem join_comm (a b : Su) : joinS a b = joinS b a := by
  unfold joinS
  simp only [sadd_comm a.k0, sadd_comm a.k1, sadd_comm a.k2, sadd_comm a.k3, sadd_comm a.k4, sadd_comm a.c0, sadd_comm a.c1, sadd_comm a.c2, sadd_comm a.c3, sadd_comm a.c4, Int.max_comm a.l]
theorem sum_ok (l : List Ou) (h : l.length < 18446744073709551616) : (sumOf l).ok :=
  ⟨Nat.lt_of_le_of_lt (cnt_le _ _ _) h, Nat.lt_of_le_of_lt (cnt_le _ _ _) h, Nat.lt_of_le_of_lt (cnt_le _ _ _) h, Nat.lt_of_le_of_lt (cnt_le _ _ _) h, Nat.lt_of_le_of_lt (cnt_le _ _ _) h, Nat.lt_of_le_of_lt (cnt_le _ _ _) h, Nat.lt_of_le_of_lt (cnt_le _ _ _) h, Nat.lt_of_le_of_lt (cnt_le _ _ _) h, Nat.lt_of_le_of_lt (cnt_le _ _ _) h, Nat.lt_of_le_of_lt (cnt_le _ _ _) h⟩
theorem join_nil (l : List Ou) (h : l.length < 18446744073709551616) : joinS (sumOf l) (sumOf []) = sumOf l := by
  have := sum_app l [] (by simp; omega)
  rw [List.append_nil] at this
  exact this.symm
theorem Ous.nil (w : World) (base : Nat) : Ous w base (.slice none 0 0) [] := ⟨none, 0, rfl, by simp, fun _ => rfl, fun i hi => by simp at hi⟩
theorem owns_empty_at (w : World) (base : Nat) (E : TypeId) (size g : Nat) (hg : w.heap.size = g) (h : base ≤ g) : (w.alloc (.cells #[] E)).ownsRow base E size (.slice (some ⟨g, 0, none⟩) 0 0) 0 [] := by subst hg; exact owns_empty w base E size h
theorem grown_keep {w w' : World} {row : Option Nat} (hg : w.grownBy w' row) {b : Nat} {o : Obj} (hb : w.heap[b]? = some o) (hne : ∀ k, row = some k → k ≠ b) : w'.heap[b]? = some o :=
  (hg.block b (lt_of_block hb) (fun e => hne b e.symm rfl)).trans hb
theorem owns_sum {w : World} {base : Nat} {v : Value} {n : Nat} {xs : List Value} (h : w.ownsRow base 35 5 v n xs) {b : Nat} {c : Array Value} (hb : w.heap[b]? = some (.cells c 37)) : ∀ k, v.ownBlock = some k → k ≠ b :=
  owns_ne h hb (by decide)
theorem su_form (l : List Ou) : ∃ a0 a1 a2 a3 a4 a5 a6 a7 a8 a9 : Nat, ∃ a10 : Int, (sumOf l).vals = #[.int .u64 a0, .int .u64 a1, .int .u64 a2, .int .u64 a3, .int .u64 a4, .int .u64 a5, .int .u64 a6, .int .u64 a7, .int .u64 a8, .int .u64 a9, .int .u64 a10] :=
  ⟨_, _, _, _, _, _, _, _, _, _, _, rfl⟩

set_option maxHeartbeats 4000000 in
set_option maxRecDepth 20000 in
theorem metricsJoins_spec {w : World} {v v2 : Value} {l m : List Ou} (hl : Ous w 0 v l) (hm : Ous w 0 v2 m) (hr : (l.length + m.length) * 40 ≤ 140737488355328) (ht : Tab w) :
    Calls Tryd.prog 7 #[v, v2] w fun e w' => e = .returned (.bool true) ∧ Fr [] w w' := by
  have HA := Lib.hid (awake_spec w ht)
  have H1 := Lib.hid (fun (w' : World) (F : Fr [] w w') => of_spec (hl.fr0 F) (by omega))
  have H2 := Lib.hid (fun (w' : World) (F : Fr [] w w') => of_spec (hm.fr0 F) (by omega))
  have H3 : Hid (∀ (w' : World) (v' : Value), Ous w' 0 v' (l ++ m) → Calls Tryd.prog 15 #[v'] w' fun e w'' => e = .returned (.agg (joinS (sumOf l) (sumOf m)).vals) ∧ Fr [] w' w'') := Lib.hid (fun w' v' h => by rw [← sum_app l m (by omega)]; exact of_spec h (by simp; omega))
  have H4 := Lib.hid (fun (w' : World) => of_spec (Ous.nil w' 0) (by decide))
  have HJ := Lib.hid (fun (w' : World) => join_spec (sumOf l) (sumOf m) (sum_ok l (by omega)) w')
  have HK : Hid (∀ w' : World, Calls Tryd.prog 18 #[.agg (sumOf m).vals, .agg (sumOf l).vals] w' fun e w'' => e = .returned (.agg (joinS (sumOf l) (sumOf m)).vals) ∧ Fr [] w' w'') := Lib.hid (fun w' => by rw [join_comm]; exact join_spec (sumOf m) (sumOf l) (sum_ok m (by omega)) w')
  have HN : Hid (∀ w' : World, Calls Tryd.prog 18 #[.agg (sumOf l).vals, .agg (sumOf []).vals] w' fun e w'' => e = .returned (.agg (sumOf l).vals) ∧ Fr [] w' w'') := Lib.hid (fun w' => by have := join_spec (sumOf l) (sumOf []) (sum_ok l (by omega)) w'; rw [join_nil l (by omega)] at this; exact this)
  have q1 := eq_sumM (joinS (sumOf l) (sumOf m))
  have q2 := eq_sumM (sumOf l)
  obtain ⟨i0, hi, hz0, hz1, hz2⟩ := info_parts5 Tryd.info_ou
  have HL := Lib.hid hl
  have HM := Lib.hid hm
  obtain ⟨ao, cap, rfl, -⟩ := hl
  obtain ⟨ao2, cap2, rfl, -⟩ := hm
  obtain ⟨a0, a1, a2, a3, a4, a5, a6, a7, a8, a9, a10, ea⟩ := su_form l
  obtain ⟨b0, b1, b2, b3, b4, b5, b6, b7, b8, b9, b10, eb⟩ := su_form m
  rw [ea] at H1 HJ HK HN q2
  rw [eb] at H2 HJ HK
  clear ht ea eb
  generalize (joinS (sumOf l) (sumOf m)).vals = sj at *
  generalize (sumOf []).vals = sn at *
  go_enter Tryd.func7, Tryd.ntmps7
  go_wp2_with fail
  refine HA.out.mono ?_
  rintro e w2 ⟨rfl, F⟩
  have HF2 := Lib.hid F
  clear F HA
  go_wp2_with fail
  refine (H1.out _ HF2.out).mono ?_
  rintro e w3 ⟨rfl, F⟩
  have HF3 := Lib.hid (HF2.out.trans F)
  clear F HF2
  go_wp2_with fail
  refine (H2.out _ (HF3.out.alloc _)).mono ?_
  rintro e w4 ⟨rfl, F⟩
  have HF4 := Lib.hid ((HF3.out.alloc _).trans F)
  have HB := Lib.hid (F.keep (block_alloc_new w3 _) (by simp))
  have hs4 : w3.heap.size + 1 ≤ w4.heap.size := by have := F.size; rw [World.size_alloc] at this; exact this
  clear F HF3
  have HF5 := Lib.hid ((HF4.out.alloc (.cells #[.int .u64 b0, .int .u64 b1, .int .u64 b2, .int .u64 b3, .int .u64 b4, .int .u64 b5, .int .u64 b6, .int .u64 b7, .int .u64 b8, .int .u64 b9, .int .u64 b10] 37)).alloc (.cells #[] 35))
  have HO5 : Hid (((w4.alloc (.cells #[.int .u64 b0, .int .u64 b1, .int .u64 b2, .int .u64 b3, .int .u64 b4, .int .u64 b5, .int .u64 b6, .int .u64 b7, .int .u64 b8, .int .u64 b9, .int .u64 b10] 37)).alloc (.cells #[] 35)).ownsRow w.heap.size 35 5 (.slice (some ⟨w4.heap.size + 1, 0, none⟩) 0 0) 0 []) := Lib.hid (owns_empty_at (w4.alloc (.cells #[.int .u64 b0, .int .u64 b1, .int .u64 b2, .int .u64 b3, .int .u64 b4, .int .u64 b5, .int .u64 b6, .int .u64 b7, .int .u64 b8, .int .u64 b9, .int .u64 b10] 37)) w.heap.size 35 5 _ (World.size_alloc _ _) (by have := HF4.out.size; omega))
  have HB5 := Lib.hid (block_alloc (block_alloc HB.out (.cells #[.int .u64 b0, .int .u64 b1, .int .u64 b2, .int .u64 b3, .int .u64 b4, .int .u64 b5, .int .u64 b6, .int .u64 b7, .int .u64 b8, .int .u64 b9, .int .u64 b10] 37)) (.cells #[] 35))
  have HC5 := Lib.hid (block_alloc (block_alloc_new w4 (.cells #[.int .u64 b0, .int .u64 b1, .int .u64 b2, .int .u64 b3, .int .u64 b4, .int .u64 b5, .int .u64 b6, .int .u64 b7, .int .u64 b8, .int .u64 b9, .int .u64 b10] 37)) (.cells #[] 35))
  have HLS := Lib.hid ((HL.out.fr0 HF5.out).src)
  clear HB HF4 HL
  go_wp2_with (first | (at_builtin; refine wpList_app rfl (.tmp 14) (.tmp 15) 33 rfl w.heap.size 35 i0 _ 5 40 Tryd.underlying33 hi hz0 hz1 hz2 rfl (by decide) (.slice (some ⟨w4.heap.size + 1, 0, none⟩) 0 0) 0 [] rfl HO5.out _ l.length _ rfl HLS.out (by unfold maxLen; omega) (by omega) (by simp; have := HF5.out.size; simp at this; omega) ?_; intro v8 w8 hown hg; simp only [Nat.zero_add, List.nil_append] at hown; (have HF8 := Lib.hid (Fr.of_grown5 HF5.out hg (fun q hq => .inr (World.ownsRow.lt HO5.out q hq).1))); (have HKB := Lib.hid (grown_keep hg HB5.out (owns_sum HO5.out HB5.out))); (have HKC := Lib.hid (grown_keep hg HC5.out (owns_sum HO5.out HC5.out))); (have HO8 := Lib.hid hown); (have HMS := Lib.hid ((HM.out.fr0 HF8.out).src)); (obtain ⟨ao8, cap8, hv8⟩ := ownsForm5 hown); subst hv8; clear hown hg) | (at_builtin; refine wpList_app rfl (.tmp 16) (.tmp 17) 33 rfl w.heap.size 35 i0 _ 5 40 Tryd.underlying33 hi hz0 hz1 hz2 rfl (by decide) (.slice ao8 l.length cap8) l.length _ rfl HO8.out _ m.length _ rfl HMS.out (by unfold maxLen; omega) (by omega) (by exact HF8.out.size) ?_; intro v9 w9 hown hg; (have HF9 := Lib.hid (Fr.of_grown5 HF8.out hg (fun q hq => .inr (World.ownsRow.lt HO8.out q hq).1))); (have HKB9 := Lib.hid (grown_keep hg HKB.out (owns_sum HO8.out HKB.out))); (have HKC9 := Lib.hid (grown_keep hg HKC.out (owns_sum HO8.out HKC.out))); (have HO9 := Lib.hid hown); (obtain ⟨ao9, cap9, hv9⟩ := ownsForm5 hown); subst hv9; clear hown hg))
  have HSA := Lib.hid ((Ous.of_owns (by rw [List.length_append, List.flatMap_append]; exact HO9.out)).low)
  have H3' := Lib.hid (fun (w' : World) (F : Fr [] w9 w') => H3.out w' _ (HSA.out.fr0 F))
  have HJ' := Lib.hid (fun (w' : World) (_ : Fr [] w9 w') => HJ.out w')
  have HK' := Lib.hid (fun (w' : World) (_ : Fr [] w9 w') => HK.out w')
  have HN' := Lib.hid (fun (w' : World) (_ : Fr [] w9 w') => HN.out w')
  have H4' := Lib.hid (fun (w' : World) (_ : Fr [] w9 w') => H4.out w')
  have KS : Hid (∀ w' : World, Fr [] w9 w' → w'.heap[w3.heap.size]? = some (.cells #[.int .u64 a0, .int .u64 a1, .int .u64 a2, .int .u64 a3, .int .u64 a4, .int .u64 a5, .int .u64 a6, .int .u64 a7, .int .u64 a8, .int .u64 a9, .int .u64 a10] 37) ∧ w'.heap[w4.heap.size]? = some (.cells #[.int .u64 b0, .int .u64 b1, .int .u64 b2, .int .u64 b3, .int .u64 b4, .int .u64 b5, .int .u64 b6, .int .u64 b7, .int .u64 b8, .int .u64 b9, .int .u64 b10] 37)) := Lib.hid (fun w' F => ⟨F.keep HKB9.out (by simp), F.keep HKC9.out (by simp)⟩)
  have hc1 : ∀ (w' : World) (i : Nat), w'.heap[w3.heap.size]? = some (.cells #[.int .u64 a0, .int .u64 a1, .int .u64 a2, .int .u64 a3, .int .u64 a4, .int .u64 a5, .int .u64 a6, .int .u64 a7, .int .u64 a8, .int .u64 a9, .int .u64 a10] 37) → w'.cell? ⟨w3.heap.size, i, none⟩ = #[.int .u64 a0, .int .u64 a1, .int .u64 a2, .int .u64 a3, .int .u64 a4, .int .u64 a5, .int .u64 a6, .int .u64 a7, .int .u64 a8, .int .u64 a9, .int .u64 a10][i]? := fun w' i h => cell_of_block h i
  have hc2 : ∀ (w' : World) (i : Nat), w'.heap[w4.heap.size]? = some (.cells #[.int .u64 b0, .int .u64 b1, .int .u64 b2, .int .u64 b3, .int .u64 b4, .int .u64 b5, .int .u64 b6, .int .u64 b7, .int .u64 b8, .int .u64 b9, .int .u64 b10] 37) → w'.cell? ⟨w4.heap.size, i, none⟩ = #[.int .u64 b0, .int .u64 b1, .int .u64 b2, .int .u64 b3, .int .u64 b4, .int .u64 b5, .int .u64 b6, .int .u64 b7, .int .u64 b8, .int .u64 b9, .int .u64 b10][i]? := fun w' i h => cell_of_block h i
  have GF := HF9
  clear H1 H2 H3 HJ HK HN H4 HO9 HO8 HMS HKC HKB HF8 HLS HC5 HB5 HO5 HF5 hs4 HF9 HKB9 HKC9 HSA HM
  have FX := Fr.refl [] w9
  go_region_held3 (fun w' => w'.heap[w3.heap.size]? = some (.cells #[.int .u64 a0, .int .u64 a1, .int .u64 a2, .int .u64 a3, .int .u64 a4, .int .u64 a5, .int .u64 a6, .int .u64 a7, .int .u64 a8, .int .u64 a9, .int .u64 a10] 37) ∧ w'.heap[w4.heap.size]? = some (.cells #[.int .u64 b0, .int .u64 b1, .int .u64 b2, .int .u64 b3, .int .u64 b4, .int .u64 b5, .int .u64 b6, .int .u64 b7, .int .u64 b8, .int .u64 b9, .int .u64 b10] 37))
    (with_reducible exact KS.out _ (by with_reducible repeat (first | exact FX | exact Fr.refl _ _ | apply Fr.drew | apply Fr.drewN | apply Fr.alloc)))
    (first
      | (go_at_call_of 15 (Value.slice none 0 0); (with_reducible refine (H4'.out _ (by with_reducible repeat (first | exact FX | exact Fr.refl _ _ | apply Fr.drew | apply Fr.drewN | apply Fr.alloc))).mono ?_); rintro e wA ⟨rfl, F⟩; have FX : Fr [] w9 wA := Fr.trans (by with_reducible repeat (first | exact FX | exact Fr.refl _ _ | apply Fr.drew | apply Fr.drewN | apply Fr.alloc)) F; clear F)
      | (go_at_call 15; (with_reducible refine (H3'.out _ (by with_reducible repeat (first | exact FX | exact Fr.refl _ _ | apply Fr.drew | apply Fr.drewN | apply Fr.alloc))).mono ?_); rintro e wA ⟨rfl, F⟩; have FX : Fr [] w9 wA := Fr.trans (by with_reducible repeat (first | exact FX | exact Fr.refl _ _ | apply Fr.drew | apply Fr.drewN | apply Fr.alloc)) F; clear F)
      | (go_at_call 18; (with_reducible refine (HJ'.out _ (by with_reducible repeat (first | exact FX | exact Fr.refl _ _ | apply Fr.drew | apply Fr.drewN | apply Fr.alloc))).mono ?_); rintro e wA ⟨rfl, F⟩; have FX : Fr [] w9 wA := Fr.trans (by with_reducible repeat (first | exact FX | exact Fr.refl _ _ | apply Fr.drew | apply Fr.drewN | apply Fr.alloc)) F; clear F)
      | (go_at_call 18; (with_reducible refine (HK'.out _ (by with_reducible repeat (first | exact FX | exact Fr.refl _ _ | apply Fr.drew | apply Fr.drewN | apply Fr.alloc))).mono ?_); rintro e wA ⟨rfl, F⟩; have FX : Fr [] w9 wA := Fr.trans (by with_reducible repeat (first | exact FX | exact Fr.refl _ _ | apply Fr.drew | apply Fr.drewN | apply Fr.alloc)) F; clear F)
      | (go_at_call 18; (with_reducible refine (HN'.out _ (by with_reducible repeat (first | exact FX | exact Fr.refl _ _ | apply Fr.drew | apply Fr.drewN | apply Fr.alloc))).mono ?_); rintro e wA ⟨rfl, F⟩; have FX : Fr [] w9 wA := Fr.trans (by with_reducible repeat (first | exact FX | exact Fr.refl _ _ | apply Fr.drew | apply Fr.drewN | apply Fr.alloc)) F; clear F))
  all_goals (
    clear KS hc1 hc2 H3' HJ' HK' HN' H4'
    go_wp2_with fail
    go_ret
    exact ⟨rfl, GF.out.trans (by with_reducible repeat (first | exact FX | exact Fr.refl _ _ | apply Fr.drew | apply Fr.drewN | apply Fr.alloc))⟩)
end Go.Proofs.YtfegdmhfmhaneaaDoor
