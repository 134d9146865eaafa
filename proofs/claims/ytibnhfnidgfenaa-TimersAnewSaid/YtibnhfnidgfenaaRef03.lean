/-
  Due, Step, Cancel of the document's wheel.
-/
import Derived.Test.YtibnhfnidgfenaaOn
namespace Go.Proofs.Ytibnhfnidgfenaa
open Go.RowKit

theorem Ons.frB {w w' : World} {v : Value} {l : List On} (h : Ons w v l) {S : List Nat} (k : Fr S w w') (hS : ∀ g, v.ownBlock = some g → g ∉ S) : Ons w' v l := by
  obtain ⟨ao, cap, rfl, h2, h3, h4⟩ := h
  refine ⟨ao, cap, rfl, h2, h3, fun i hi => ?_⟩
  obtain ⟨b, o, h5, h6⟩ := h4 i hi
  exact ⟨b, o, h5, h6.fr k (hS b (by simp [Value.ownBlock, h5]))⟩
theorem Ons.drop {w : World} {b o cap : Nat} {l : List On} (h : Ons w (.slice (some ⟨b, o, none⟩) l.length cap) l) {k : Nat} (hk : k ≤ l.length) {p : Option Addr} (hp : p = if cap = k then some ⟨b, o, none⟩ else some ⟨b, o + k * 3, none⟩) {n c : Nat} (hn : n = l.length - k) (hcc : c = cap - k) :
    Ons w (.slice p n c) (l.drop k) := by
  obtain ⟨a1, c1, he, h2, h3, h4⟩ := h
  simp only [Value.slice.injEq, true_and] at he
  obtain ⟨rfl, rfl⟩ := he
  have hl : (l.drop k).length = l.length - k := List.length_drop
  refine ⟨p, c, by rw [hl, hn], by omega, (fun hp2 => by rw [hp] at hp2; split at hp2 <;> cases hp2), fun i hi => ?_⟩
  rw [hl] at hi
  obtain ⟨b', o', h5, h6⟩ := h4 (k + i) (by omega)
  simp only [Option.some.injEq, Addr.mk.injEq, and_true] at h5
  obtain ⟨rfl, rfl⟩ := h5
  rw [if_neg (by omega)] at hp
  refine ⟨b, o + k * 3, hp, ?_⟩
  rw [show (l.drop k).getD i default = l.getD (k + i) default by simp [List.getD], show o + k * 3 + i * 3 = o + (k + i) * 3 by omega]
  exact h6
theorem Ons.take {w : World} {ao : Option Addr} {cap : Nat} {l : List On} (h : Ons w (.slice ao l.length cap) l) {k : Nat} (hk : k ≤ l.length) : Ons w (.slice ao k cap) (l.take k) := by
  obtain ⟨a1, c1, he, h2, h3, h4⟩ := h
  simp only [Value.slice.injEq, true_and] at he
  obtain ⟨rfl, rfl⟩ := he
  have hl : (l.take k).length = k := by rw [List.length_take]; omega
  refine ⟨ao, cap, by rw [hl], by omega, h3, fun i hi => ?_⟩
  rw [hl] at hi
  obtain ⟨b', o', h5, h6⟩ := h4 i (by omega)
  refine ⟨b', o', h5, ?_⟩
  rw [show (l.take k).getD i default = l.getD i default by simp [List.getD, hi]]
  exact h6
/-- Where it may lie: where that lay, or in new memory. -/
def OwnOf (w w' : World) (v v' : Value) : Prop := ∀ g, v'.ownBlock = some g → v.ownBlock = some g ∨ (w.heap.size ≤ g ∧ g < w'.heap.size)
/-- A timer of a list. -/
def onOf (l : List On) (k : Int × Int) : Option On := l.find? fun e => decide (e.key = k)
theorem AtI.some {l : List On} {k : Int × Int} {i : Nat} (h : AtI l k i) : i < l.length ∧ onOf l k = some (l.getD i default) ∧ l.filter (fun e => decide (e.key ≠ k)) = (l.take i ++ l.drop (i + 1)).filter (fun e => decide (e.key ≠ k)) ∧ (l.getD i default).key = k := by
  rcases h with ⟨j, h1, h2, h3, h4⟩ | ⟨h1, _⟩
  · obtain rfl : i = j := by omega
    have e : l = l.take i ++ l.getD i default :: l.drop (i + 1) := by
      have h5 : l.getD i default = l[i] := by simp [List.getD, h1]
      rw [h5, ← List.drop_eq_getElem_cons h1, List.take_append_drop]
    refine ⟨h1, ?_, ?_, h3⟩
    · unfold onOf
      rw [List.find?_eq_some_iff_append]
      refine ⟨by simpa using h3, l.take i, l.drop (i + 1), e, fun a ha => ?_⟩
      obtain ⟨j, hj, rfl⟩ := List.getElem_of_mem ha
      rw [List.length_take] at hj
      have := h4 j (by omega)
      rw [List.getElem_take]
      have h5 : l.getD j default = l[j] := by simp [List.getD, show j < l.length by omega]
      rw [h5] at this
      simpa using this
    · have := congrArg (List.filter fun e : On => decide (e.key ≠ k)) e
      rw [this, List.filter_append, List.filter_cons_of_neg (by simpa using h3), ← List.filter_append]
  · omega
theorem AtI.none {l : List On} {k : Int × Int} {r : Int} (h : AtI l k r) (hr : r < 0) : r = -1 ∧ onOf l k = none := by
  rcases h with ⟨j, h1, h2, h3, h4⟩ | ⟨h1, h2⟩
  · omega
  · refine ⟨h1, ?_⟩
    unfold onOf
    rw [List.find?_eq_none]
    intro x hx
    obtain ⟨j, hj, rfl⟩ := List.getElem_of_mem hx
    have := h2 j hj
    have h5 : l.getD j default = l[j] := by simp [List.getD, hj]
    rw [h5] at this
    simpa using this
theorem AtI.cases {l : List On} {k : Int × Int} {r : Int} (h : AtI l k r) : (r = -1 ∧ onOf l k = Option.none) ∨ ∃ i : Nat, r = i ∧ AtI l k i := by
  by_cases hr : r < 0
  · exact .inl (h.none hr)
  · exact .inr ⟨r.toNat, by omega, by rw [show ((r.toNat : Nat) : Int) = r by omega]; exact h⟩

set_option maxHeartbeats 2000000 in
theorem refdue_spec {w : World} {v : Value} {l : List On} (h : Ons w v l) (hn : l.length ≤ 60000) (now : Nat) (k1 k2 : Int) :
    Calls Try.prog 27 #[.agg #[.int .u64 now, v], .agg #[.int .i64 k1, .int .i64 k2]] w fun e w' => e = .returned (.tuple #[.int .u64 (((onOf l (k1, k2)).map (·.due)).getD 0 : Nat), .bool (onOf l (k1, k2)).isSome]) ∧ Fr [] w w' := by
  have F0 : Fr [] w ((w.alloc (.cells #[.int .u64 now, v] 44)).alloc (.cells #[.int .i64 k1, .int .i64 k2] 31)) := ((Fr.refl _ _).alloc _).alloc _
  have HF0 := Lib.hid F0
  have HA := Lib.hid (at_spec (h.fr F0) hn now k1 k2)
  have HX := Lib.hid (((Fr.refl [] _).alloc (.cells #[.int .i64 k1, .int .i64 k2] 31)).keep (block_alloc_new w (.cells #[.int .u64 now, v] 44)) (by simp))
  have HO := Lib.hid (h.fr F0)
  obtain ⟨ao, cap, rfl, hc, h0, -⟩ := h
  clear F0
  go_enter Try.func27, Try.ntmps27
  go_wp2_with fail
  refine HA.out.mono ?_
  rintro e w1 ⟨⟨r, rfl, hr⟩, F⟩
  have HF1 := Lib.hid (HF0.out.trans F)
  rcases hr.cases with ⟨rfl, hnone⟩ | ⟨i, rfl, hi⟩
  · have HE := Lib.hid hnone
    clear F hr hnone
    go_wp2_with fail
    go_ret2
    exact ⟨by rw [HE.out]; rfl, HF1.out⟩
  · obtain ⟨hlt, hsome, -, -⟩ := hi.some
    have HE := Lib.hid hsome
    obtain ⟨a1, c1, he, -, -, h4⟩ := HO.out.fr F
    simp only [Value.slice.injEq, true_and] at he
    obtain ⟨rfl, rfl⟩ := he
    obtain ⟨b, o, rfl, z0, z1, z2⟩ := h4 i hlt
    obtain ⟨x0, x1⟩ := two_cells' (F.keep HX.out (by simp))
    clear F hr hi hsome h4
    generalize l.getD i default = y at *
    obtain ⟨yk, yi, yd⟩ := y
    go_wp2_with fail
    go_ret2
    exact ⟨by rw [HE.out]; rfl, HF1.out⟩

set_option maxHeartbeats 2000000 in
theorem refstep_no {w : World} {v : Value} {l : List On} (h : Ons w v l) (now to : Nat) (hno : ∀ e ∈ l, to < e.due) :
    Calls Try.prog 47 #[.agg #[.int .u64 now, v], .int .u64 to] w fun e w' => e = .returned (.tuple #[.agg #[.int .u64 (max now to : Nat), v], .agg #[.int .i64 0, .int .i64 0], .bool false]) ∧ Fr [] w w' := by
  obtain ⟨ao, cap, rfl, hc, h0, h4⟩ := h
  have hmx : (if now < to then (to : Int) else (now : Int)) = ((max now to : Nat) : Int) := by split <;> omega
  cases l with
  | nil =>
    simp only [List.length_nil]
    go_enter Try.func47, Try.ntmps47
    go_wp2_with fail
    exact bodyPost_ret (v := .tuple #[.agg #[.int .u64 (max now to : Nat), .slice ao 0 cap], .agg #[.int .i64 0, .int .i64 0], .bool false]) (by simp [results, Try.results47, go_sem]) rfl ⟨rfl, (((Fr.refl _ _).alloc _).alloc _).alloc _⟩
  | cons e t =>
    obtain ⟨b, o, rfl, h3⟩ := h4 0 (by simp)
    have HF := Lib.hid ((((Fr.refl [] w).alloc (.cells #[.int .u64 now, .slice (some ⟨b, o, none⟩) (e :: t).length cap] 44)).alloc (.cells #[.int .u64 0, .slice none 0 0] 44)).alloc (.cells #[.int .i64 0, .int .i64 0] 31))
    obtain ⟨z0, z1, z2⟩ := h3.fr HF.out (by simp)
    simp only [Nat.zero_mul, Nat.add_zero, List.getD_cons_zero] at z0 z1 z2
    have hlt := hno e (by simp)
    have hgt : decide ((e.due : Int) > (to : Int)) = true := decide_eq_true (by omega)
    simp only [List.length_cons] at *
    clear h4 h3 hno
    go_enter Try.func47, Try.ntmps47
    go_wp2_with fail
    exact bodyPost_ret (v := .tuple #[.agg #[.int .u64 (max now to : Nat), .slice (some ⟨b, o, none⟩) (t.length + 1) cap], .agg #[.int .i64 0, .int .i64 0], .bool false]) (by simp [results, Try.results47, go_sem]) rfl ⟨rfl, (((Fr.refl _ _).alloc _).alloc _).alloc _⟩
set_option maxHeartbeats 2000000 in
theorem refstep_yes {w : World} {v : Value} {e : On} {l : List On} (h : Ons w v (e :: l)) (hn : l.length ≤ 60000) (now to : Nat) (hyes : e.due ≤ to) :
    Calls Try.prog 47 #[.agg #[.int .u64 now, v], .int .u64 to] w fun r w' => ∃ v', r = .returned (.tuple #[.agg #[.int .u64 e.due, v'], .agg #[.int .i64 e.kind, .int .i64 e.id], .bool true]) ∧ Ons w' v' l ∧ OwnOf w w' v v' ∧ Fr [] w w' := by
  obtain ⟨ao, cap, rfl, hc, h0, h4⟩ := h
  obtain ⟨b, o, rfl, h3⟩ := h4 0 (by simp)
  have HF := Lib.hid ((((Fr.refl [] w).alloc (.cells #[.int .u64 now, .slice (some ⟨b, o, none⟩) (e :: l).length cap] 44)).alloc (.cells #[.int .u64 0, .slice none 0 0] 44)).alloc (.cells #[.int .i64 0, .int .i64 0] 31))
  obtain ⟨z0, z1, z2⟩ := h3.fr HF.out (by simp)
  simp only [Nat.zero_mul, Nat.add_zero, List.getD_cons_zero] at z0 z1 z2
  obtain ⟨pp, hpp⟩ : ∃ pp, (if cap = 1 then some (⟨b, o, none⟩ : Addr) else some ⟨b, o + 3, none⟩) = pp := ⟨_, rfl⟩
  have HF2 := Lib.hid ((((Fr.refl [] w).alloc (.cells #[.int .u64 now, .slice (some ⟨b, o, none⟩) (e :: l).length cap] 44)).alloc (.cells #[.int .u64 e.due, .slice pp l.length (cap - 1)] 44)).alloc (.cells #[.int .i64 0, .int .i64 0] 31))
  obtain ⟨y0, y1, y2⟩ := h3.fr HF2.out (by simp)
  simp only [Nat.zero_mul, Nat.add_zero, List.getD_cons_zero] at y0 y1 y2
  have t1 : (1 : Int) ≤ (l.length : Int) + 1 := by omega
  have H4 := Lib.hid h4
  have hgt : decide (to < e.due) = false := decide_eq_false (by omega)
  have hz : ((l.length : Int) + 1 == 0) = false := by simp; omega
  simp only [List.length_cons] at *
  clear h4 h3
  go_enter Try.func47, Try.ntmps47
  go_wp2_with fail
  go_region
  go_wp2_with fail
  refine bodyPost_ret (v := .tuple #[.agg #[.int .u64 e.due, .slice pp l.length (cap - 1)], .agg #[.int .i64 e.kind, .int .i64 e.id], .bool true]) (by simp [results, Try.results47, go_sem]) rfl ⟨_, rfl, ?_, (fun g hg => .inl (by rw [← hpp] at hg; split at hg <;> exact hg)), ((((Fr.refl _ _).alloc _).alloc _).alloc _).drew⟩
  refine Ons.fr (w := w) ?_ ((((Fr.refl _ _).alloc _).alloc _).alloc _).drew
  exact Ons.drop (l := e :: l) ⟨_, _, rfl, hc, h0, H4.out⟩ (k := 1) (by simp) hpp.symm (by simp) rfl
set_option maxHeartbeats 4000000 in
set_option maxRecDepth 20000 in
theorem refcancel_spec {w : World} {v : Value} {l : List On} (h : Ons w v l) (hn : l.length ≤ 60000) (now : Nat) (k1 k2 : Int) :
    Calls Try.prog 46 #[.agg #[.int .u64 now, v], .agg #[.int .i64 k1, .int .i64 k2]] w fun e w' => ∃ v' l', e = .returned (.tuple #[.agg #[.int .u64 now, v'], .bool (onOf l (k1, k2)).isSome]) ∧ Ons w' v' l' ∧ OwnOf w w' v v' ∧ Fr [] w w' ∧
      (onOf l (k1, k2) = none → l' = l) ∧ (∀ x, onOf l (k1, k2) = some x → l'.length < l.length ∧ l'.filter (fun e => decide (e.key ≠ (k1, k2))) = l.filter (fun e => decide (e.key ≠ (k1, k2)))) := by
  obtain ⟨i0, hi, hz0, hz1, hz2⟩ := info_parts3 Try.info_on
  have F0 : Fr [] w (((w.alloc (.cells #[.int .u64 now, v] 44)).alloc (.cells #[.int .i64 k1, .int .i64 k2] 31)).alloc (.cells #[.int .u64 0, .slice none 0 0] 44)) := (((Fr.refl _ _).alloc _).alloc _).alloc _
  have HF0 := Lib.hid F0
  have HA := Lib.hid (at_spec (h.fr F0) hn now k1 k2)
  have F1 : Fr [] (w.alloc (.cells #[.int .u64 now, v] 44)) (((w.alloc (.cells #[.int .u64 now, v] 44)).alloc (.cells #[.int .i64 k1, .int .i64 k2] 31)).alloc (.cells #[.int .u64 0, .slice none 0 0] 44)) := (((Fr.refl _ _).alloc _).alloc _)
  have HX := Lib.hid (F1.keep (block_alloc_new w (.cells #[.int .u64 now, v] 44)) (by simp))
  have HZ := Lib.hid (block_alloc_new ((w.alloc (.cells #[.int .u64 now, v] 44)).alloc (.cells #[.int .i64 k1, .int .i64 k2] 31)) (.cells #[.int .u64 0, .slice none 0 0] 44))
  rw [show ((w.alloc (.cells #[.int .u64 now, v] 44)).alloc (.cells #[.int .i64 k1, .int .i64 k2] 31)).heap.size = w.heap.size + 2 by simp] at HZ
  have HO := Lib.hid h
  obtain ⟨ao, cap, rfl, hc, h0, -⟩ := h
  clear F0 F1
  go_enter Try.func46, Try.ntmps46
  go_wp2_with fail
  refine HA.out.mono ?_
  rintro e w1 ⟨⟨r, rfl, hr⟩, F⟩
  have HF1 := Lib.hid (HF0.out.trans F)
  obtain ⟨x0, x1⟩ := two_cells' (F.keep HX.out (by simp))
  obtain ⟨y0, y1⟩ := two_cells' (F.keep HZ.out (by simp))
  have hfz := free_of_block (F.keep HZ.out (by simp))
  rcases hr.cases with ⟨rfl, hnone⟩ | ⟨i, rfl, hi2⟩
  · have HE := Lib.hid hnone
    clear F hr hnone
    go_wp2_with fail
    have F2 : Fr [w.heap.size + 2] w1 ((w1.setCell ⟨w.heap.size + 2, 0, none⟩ (.int .u64 now)).setCell ⟨w.heap.size + 2, 1, none⟩ (.slice ao l.length cap)) := Fr.setCell (Fr.setCell (Fr.refl _ _) (.inl (by simp)) _) (.inl (by simp)) _
    have F3 := HF1.out.trans' F2 (fun x hx => .inr (by simp at hx; omega))
    refine bodyPost_ret (v := .tuple #[.agg #[.int .u64 now, .slice ao l.length cap], .bool false]) (by simp [results, Try.results46, go_sem, y0, y1]) rfl ⟨_, l, by rw [HE.out]; rfl, HO.out.fr F3, (fun g hg => .inl hg), F3, fun _ => rfl, fun x hx => by rw [HE.out] at hx; cases hx⟩
  · obtain ⟨hlt, hsome, hfil, -⟩ := hi2.some
    have HE := Lib.hid hsome
    have HFl := Lib.hid hfil
    obtain ⟨b, o, rfl⟩ : ∃ b o, ao = some ⟨b, o, none⟩ := by
      obtain ⟨a1, c1, he, -, -, h4⟩ := HO.out
      simp only [Value.slice.injEq, true_and] at he
      obtain ⟨b, o, h5, -⟩ := h4 i hlt
      exact ⟨b, o, by rw [he.1]; exact h5⟩
    obtain ⟨pp, hpp⟩ : ∃ pp, (if cap = i + 1 then some (⟨b, o, none⟩ : Addr) else some ⟨b, o + (i + 1) * 3, none⟩) = pp := ⟨_, rfl⟩
    have HT : Hid (Src w1 3 (.slice (some ⟨b, o, none⟩) i cap) i ((l.take i).flatMap On.cells)) := Lib.hid (by
      have := ((HO.out.fr HF1.out).take (Nat.le_of_lt hlt)).src
      rwa [show (l.take i).length = i by rw [List.length_take]; omega] at this)
    have HD : Hid (Src w1 3 (.slice pp (l.length - (i + 1)) (cap - (i + 1))) (l.length - (i + 1)) ((l.drop (i + 1)).flatMap On.cells)) := Lib.hid (by
      have := ((HO.out.fr HF1.out).drop (k := i + 1) hlt hpp.symm rfl rfl).src
      rwa [List.length_drop] at this)
    have hic : i ≤ cap := by omega
    have x1a := ((Fr.refl [] w1).alloc (.cells #[] 94)).on x1 (by simp)
    have hi0 : (0 : Int) ≤ (i : Int) := by omega
    have hicI : (i : Int) ≤ (cap : Int) := by omega
    clear hsome hfil hi2 hr
    have HX0 := Lib.hid x0
    have HZB := Lib.hid (F.keep HZ.out (by simp))
    clear F
    have hi1 : (i : Int) + 1 ≤ (l.length : Int) := by omega
    have hi2 : (0 : Int) ≤ (i : Int) + 1 := by omega
    have hi3 : ((i : Int) + 1).toNat = i + 1 := by omega
    go_wp2_with (first
      | (at_builtin; refine wpList_app rfl (.tmp 14) (.tmp 18) 42 rfl w1.heap.size 94 i0 _ 3 24 Try.underlying42 hi hz0 hz1 hz2 rfl (by decide) (.slice (some ⟨w1.heap.size, 0, none⟩) 0 0) 0 [] rfl (owns_empty w1 w1.heap.size 94 3 (Nat.le_refl _)) (.slice (some ⟨b, o, none⟩) i cap) i _ rfl (HT.out.alloc _) (by unfold maxLen; omega) (by omega) (by simp) ?_; intro v8 w8 hown hg; have F8 := Fr.of_grown3 ((Fr.refl [] w1).alloc _) hg (fun q hq => .inr (by simp [Value.ownBlock] at hq; omega)); have x0b := F8.on x0 (by simp); have x1b := F8.on x1 (by simp); have HF8 := Lib.hid F8; rw [Nat.zero_add, List.nil_append] at hown; have HO8 := Lib.hid hown; obtain ⟨a8, c8, rfl⟩ := ownsForm3 hown; clear x0 x1 x1a F8 hown hg)
      | (at_builtin; refine wpList_app rfl (.tmp 20) (.tmp 25) 42 rfl w1.heap.size 94 i0 _ 3 24 Try.underlying42 hi hz0 hz1 hz2 rfl (by decide) (.slice a8 i c8) i _ rfl HO8.out (.slice pp (l.length - (i + 1)) (cap - (i + 1))) (l.length - (i + 1)) _ rfl (HD.out.fr HF8.out (fun _ _ => by simp)) (by unfold maxLen; omega) (by omega) HF8.out.size ?_; intro v9 w9 hown hg; have F9 := Fr.of_grown3 HF8.out hg (fun q hq => .inr (World.ownsRow.lt HO8.out q hq).1); have x0c := F9.on HX0.out (by simp); have y0c := F9.on y0 (by simp); have y1c := F9.on y1 (by simp); have hfz9 := free_of_block (F9.keep HZB.out (by simp)); have HF9 := Lib.hid F9; have HO9 := Lib.hid hown; obtain ⟨a9, c9, rfl⟩ := ownsForm3 hown; clear x0b x1b y0 y1 hfz F9 hown hg))
    have hnl : i + (l.length - (i + 1)) = (l.take i ++ l.drop (i + 1)).length := by rw [List.length_append, List.length_take, List.length_drop]; omega
    have F9 : Fr [] w w9 := HF1.out.trans HF9.out
    have FZ : Fr [w.heap.size + 2] w9 ((w9.setCell ⟨w.heap.size + 2, 0, none⟩ (.int .u64 now)).setCell ⟨w.heap.size + 2, 1, none⟩ (.slice a9 (i + (l.length - (i + 1))) c9)) := Fr.setCell (Fr.setCell (Fr.refl _ _) (.inl (by simp)) _) (.inl (by simp)) _
    have HL : Ons w9 (.slice a9 (i + (l.length - (i + 1))) c9) (l.take i ++ l.drop (i + 1)) := Ons.of_owns (base := w1.heap.size) (by
      have := HO9.out
      rw [← List.flatMap_append, hnl] at this
      rw [hnl]
      exact this)
    have hge : ∀ g, (Value.slice a9 (i + (l.length - (i + 1))) c9).ownBlock = some g → w1.heap.size ≤ g := fun g hg => (World.ownsRow.lt HO9.out g hg).1
    have hsz : w.heap.size + 2 < w1.heap.size := lt_of_block HZB.out
    refine bodyPost_ret (v := .tuple #[.agg #[.int .u64 now, .slice a9 (i + (l.length - (i + 1))) c9], .bool true]) (by simp [results, Try.results46, go_sem, y0c, y1c]) rfl ⟨_, l.take i ++ l.drop (i + 1), by rw [HE.out]; rfl, HL.frB FZ (fun g hg hm => by have := hge g hg; simp at hm; omega), (fun g hg => .inr (by have := World.ownsRow.lt HO9.out g hg; simp; omega)), F9.trans' FZ (fun x hx => .inr (by simp at hx; omega)), (fun h => by rw [HE.out] at h; cases h), fun x _ => ⟨by rw [← hnl]; omega, HFl.out.symm⟩⟩
end Go.Proofs.Ytibnhfnidgfenaa
