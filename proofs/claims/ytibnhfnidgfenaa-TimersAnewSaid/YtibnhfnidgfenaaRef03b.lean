/-
  Put of the document's wheel.
-/
import Derived.Test.YtibnhfnidgfenaaRef03
namespace Go.Proofs.Ytibnhfnidgfenaa
open Go.RowKit

/-- Put ahead of the first one that is due later. -/
def insO (x : On) : List On → List On
  | [] => [x]
  | y :: l => if x.due < y.due then x :: y :: l else y :: insO x l
theorem insO_past {x : On} : ∀ {a b : List On}, (∀ y ∈ a, ¬ x.due < y.due) → insO x (a ++ b) = a ++ insO x b
  | [], b, _ => rfl
  | y :: a, b, h => by
    have := insO_past (b := b) (fun z hz => h z (by simp [hz]) : ∀ z ∈ a, ¬ x.due < z.due)
    show (if x.due < y.due then _ else y :: insO x (a ++ b)) = _
    rw [if_neg (h y (by simp)), this]
    rfl
theorem insO_more {x : On} : ∀ {a b : List On}, (∃ y ∈ a, x.due < y.due) → insO x (a ++ b) = insO x a ++ b
  | [], b, h => by obtain ⟨y, hy, _⟩ := h; simp at hy
  | y :: a, b, h => by
    show (if x.due < y.due then x :: y :: (a ++ b) else y :: insO x (a ++ b)) = (if x.due < y.due then x :: y :: a else y :: insO x a) ++ b
    by_cases hy : x.due < y.due
    · rw [if_pos hy, if_pos hy]; rfl
    · rw [if_neg hy, if_neg hy, insO_more]
      · rfl
      · obtain ⟨z, hz, h2⟩ := h
        rcases List.mem_cons.1 hz with h3 | h3
        · rw [h3] at h2; exact absurd h2 hy
        · exact ⟨z, h3, h2⟩
theorem insO_len (x : On) : ∀ l : List On, (insO x l).length = l.length + 1
  | [] => rfl
  | y :: l => by
    unfold insO
    split
    · simp
    · simp [insO_len x l]
theorem take_on {l : List On} {i : Nat} (h : i < l.length) : l.take (i + 1) = l.take i ++ [l.getD i default] := by
  rw [List.take_succ_eq_append_getElem h]; simp [List.getD, h]
theorem mem_on {l : List On} {i : Nat} (h : i < l.length) : l.getD i default ∈ l := by
  rw [show l.getD i default = l[i] by simp [List.getD, h]]
  exact List.getElem_mem h

/-- What is there behind i of them. -/
def PutL (x : On) (l : List On) (i : Nat) (d : Bool) (k : List On) : Prop :=
  (d = true → k = insO x (l.take i) ∧ ∃ y ∈ l.take i, x.due < y.due) ∧ (d = false → k = l.take i ∧ ∀ y ∈ l.take i, ¬ x.due < y.due)
theorem PutL.len {x : On} {l : List On} {i : Nat} {d : Bool} {k : List On} (h : PutL x l i d k) (hi : i ≤ l.length) : k.length ≤ i + 1 := by
  cases d with
  | true => rw [(h.1 rfl).1, insO_len, List.length_take]; omega
  | false => rw [(h.2 rfl).1, List.length_take]; omega
theorem PutL.on {x : On} {l : List On} {i : Nat} {k : List On} (h : PutL x l i true k) (hi : i < l.length) : PutL x l (i + 1) true (k ++ [l.getD i default]) := by
  obtain ⟨h1, h2⟩ := h.1 rfl
  refine ⟨fun _ => ⟨?_, ?_⟩, fun h => by cases h⟩
  · rw [take_on hi, insO_more h2, h1]
  · obtain ⟨y, hy, h3⟩ := h2
    exact ⟨y, by rw [take_on hi]; simp [hy], h3⟩
theorem PutL.skip {x : On} {l : List On} {i : Nat} {k : List On} (h : PutL x l i false k) (hi : i < l.length) (hn : ¬ x.due < (l.getD i default).due) : PutL x l (i + 1) false (k ++ [l.getD i default]) := by
  obtain ⟨h1, h2⟩ := h.2 rfl
  refine ⟨(fun h => by cases h), fun _ => ⟨by rw [take_on hi, h1], fun y hy => ?_⟩⟩
  rw [take_on hi] at hy
  rcases List.mem_append.1 hy with h3 | h3
  · exact h2 y h3
  · simp only [List.mem_singleton] at h3; rw [h3]; exact hn
theorem PutL.stop {x : On} {l : List On} {i : Nat} {k : List On} (h : PutL x l i false k) (hi : i < l.length) (hn : x.due < (l.getD i default).due) : PutL x l (i + 1) true (k ++ [x] ++ [l.getD i default]) := by
  obtain ⟨h1, h2⟩ := h.2 rfl
  refine ⟨fun _ => ⟨?_, l.getD i default, by rw [take_on hi]; simp, hn⟩, fun h => by cases h⟩
  rw [take_on hi, insO_past h2, h1, List.append_assoc]
  congr 1
  show _ = (if x.due < (l.getD i default).due then _ else _)
  rw [if_pos hn]; rfl
theorem PutL.fin {x : On} {l : List On} {d : Bool} {k : List On} (h : PutL x l l.length d k) : (d = true → k = insO x l) ∧ (d = false → k ++ [x] = insO x l) := by
  unfold PutL at h
  rw [List.take_length] at h
  refine ⟨fun hd => (h.1 hd).1, fun hd => ?_⟩
  obtain ⟨h1, h2⟩ := h.2 hd
  have := insO_past (b := []) h2
  rw [List.append_nil] at this
  rw [h1, this]; rfl

set_option maxHeartbeats 4000000 in
set_option maxRecDepth 20000 in
theorem refput_spec {w : World} {v : Value} {l : List On} (h : Ons w v l) (hn : l.length ≤ 60000) (now : Nat) (k1 k2 : Int) (due : Nat) :
    Calls Try.prog 45 #[.agg #[.int .u64 now, v], .agg #[.int .i64 k1, .int .i64 k2], .int .u64 due] w fun e w' => ∃ v' l' r, e = .returned (.tuple #[.agg #[.int .u64 now, v'], .int .i64 r]) ∧ Ons w' v' l' ∧ OwnOf w w' v v' ∧ Fr [] w w' ∧
      (∀ x, onOf l (k1, k2) = some x → l' = l ∧ r = 4) ∧ (onOf l (k1, k2) = none → l' = insO ⟨k1, k2, max due now⟩ l ∧ r = 0) := by
  obtain ⟨i0, hi, hz0, hz1, hz2⟩ := info_parts3 Try.info_on
  have F0 : Fr [] w (((w.alloc (.cells #[.int .u64 now, v] 44)).alloc (.cells #[.int .i64 k1, .int .i64 k2] 31)).alloc (.cells #[.int .u64 0, .slice none 0 0] 44)) := (((Fr.refl _ _).alloc _).alloc _).alloc _
  have HF0 := Lib.hid F0
  have HA := Lib.hid (at_spec (h.fr F0) hn now k1 k2)
  have F1 : Fr [] (w.alloc (.cells #[.int .u64 now, v] 44)) (((w.alloc (.cells #[.int .u64 now, v] 44)).alloc (.cells #[.int .i64 k1, .int .i64 k2] 31)).alloc (.cells #[.int .u64 0, .slice none 0 0] 44)) := (((Fr.refl _ _).alloc _).alloc _)
  have HX := Lib.hid (F1.keep (block_alloc_new w (.cells #[.int .u64 now, v] 44)) (by simp))
  have HY := Lib.hid (((Fr.refl [] _).alloc (.cells #[.int .u64 0, .slice none 0 0] 44)).keep (block_alloc_new (w.alloc (.cells #[.int .u64 now, v] 44)) (.cells #[.int .i64 k1, .int .i64 k2] 31)) (by simp))
  have HZ := Lib.hid (block_alloc_new ((w.alloc (.cells #[.int .u64 now, v] 44)).alloc (.cells #[.int .i64 k1, .int .i64 k2] 31)) (.cells #[.int .u64 0, .slice none 0 0] 44))
  rw [show ((w.alloc (.cells #[.int .u64 now, v] 44)).alloc (.cells #[.int .i64 k1, .int .i64 k2] 31)).heap.size = w.heap.size + 2 by simp] at HZ
  rw [show (w.alloc (.cells #[.int .u64 now, v] 44)).heap.size = w.heap.size + 1 by simp] at HY
  have HO := Lib.hid h
  obtain ⟨ao, cap, rfl, hc, h0, -⟩ := h
  clear F0 F1
  have hmx : (if due < now then (now : Int) else (due : Int)) = ((max due now : Nat) : Int) := by split <;> omega
  generalize max due now = D at *
  go_enter Try.func45, Try.ntmps45
  go_wp2_with fail
  refine HA.out.mono ?_
  rintro e w1 ⟨⟨r, rfl, hr⟩, F⟩
  have HF1 := Lib.hid (HF0.out.trans F)
  have HX1 := Lib.hid (F.keep HX.out (by simp))
  have HY1 := Lib.hid (F.keep HY.out (by simp))
  have HZ1 := Lib.hid (F.keep HZ.out (by simp))
  obtain ⟨x0, x1⟩ := two_cells' HX1.out
  obtain ⟨z0, z1⟩ := two_cells' HZ1.out
  have hfz := free_of_block HZ1.out
  clear F
  rcases hr.cases with ⟨rfl, hnone⟩ | ⟨i, rfl, hi2⟩
  · have HE := Lib.hid hnone
    clear hr hnone z0 z1 hfz
    go_wp2_with fail
    go_loopw [8, 9, 10] (fun rv dv iv wr => ∃ (i : Nat) (d : Bool) (K : List On), iv = .int .i64 i ∧ dv = .bool d ∧ i ≤ l.length ∧ Hid (PutL ⟨k1, k2, D⟩ l i d K) ∧ Hid (wr.ownsRow w1.heap.size 94 3 rv K.length (K.flatMap On.cells)) ∧ Hid (Fr [] w1 wr)) (fun _ _ iv _ => l.length - (intOf iv).toNat)
    case atStart => exact ⟨0, false, [], by go_num, rfl, Nat.zero_le _, Lib.hid ⟨(fun h => by cases h), fun _ => ⟨by simp, by simp⟩⟩, Lib.hid (World.ownsRow_nil _ _ _ _), Lib.hid (Fr.refl _ _)⟩
    case round =>
      obtain ⟨i, d, K, rfl, rfl, hi2, HP, HOw, HF⟩ := hrel
      obtain ⟨ao2, cap2, hrv⟩ := ownsForm3 HOw.out
      subst hrv
      have hKl := HP.out.len hi2
      have hs1 := HF.out.size
      by_cases hlt : i < l.length
      · obtain ⟨x0, x1⟩ := two_cells' (HF.out.keep HX1.out (by simp))
        obtain ⟨y0, y1⟩ := two_cells' (HF.out.keep HY1.out (by simp))
        obtain ⟨b, o, rfl, h3⟩ : ∃ b o, ao = some ⟨b, o, none⟩ ∧ At3 w1 b (o + i * 3) (l.getD i default) := by
          obtain ⟨a1, c1, he, -, -, h4⟩ := HO.out.fr HF1.out
          simp only [Value.slice.injEq, true_and] at he
          obtain ⟨rfl, rfl⟩ := he
          exact h4 i hlt
        have HT := Lib.hid (fun (w' : World) (F : Fr [] w1 w') => h3.fr F (by simp))
        obtain ⟨z0, z1, z2⟩ := HT.out wr HF.out
        have HPo := Lib.hid (fun (h : d = true) => (h ▸ HP.out : PutL ⟨k1, k2, D⟩ l i true K).on hlt)
        have HPs := Lib.hid (fun (h : d = false) => (h ▸ HP.out : PutL ⟨k1, k2, D⟩ l i false K).skip hlt)
        have HPt := Lib.hid (fun (h : d = false) => (h ▸ HP.out : PutL ⟨k1, k2, D⟩ l i false K).stop hlt)
        clear h3 HP
        generalize l.getD i default = y at *
        obtain ⟨yk, yi, yd⟩ := y
        simp only at HPs HPt z0 z1 z2
        cases d with
        | true =>
          have HP2 := Lib.hid (HPo.out rfl)
          clear HPo HPs HPt
          go_wp2_with (at_builtin; refine wpList_app rfl (.tmp 45) (.tmp 51) 42 rfl w1.heap.size 94 i0 _ 3 24 Try.underlying42 hi hz0 hz1 hz2 rfl (by decide) (.slice ao2 (K.length) cap2) (K.length) _ rfl (ownsRow_fr HOw.out ((Fr.refl [] _).alloc _) (by simp)) _ 1 _ rfl (Src.one3 wr ⟨yk, yi, yd⟩) (by unfold maxLen; omega) (by omega) (by simp; omega) ?_; intro v8 w8 hown hg; have HF8 := Lib.hid (Fr.of_grown3 (HF.out.alloc (On.obj ⟨yk, yi, yd⟩)) hg (fun q hq => .inr (World.ownsRow.lt HOw.out q hq).1)); have HO8 := Lib.hid hown; clear hown hg)
          go_roundw
          case rel => exact ⟨i + 1, true, K ++ [⟨yk, yi, yd⟩], by go_num, rfl, hlt, HP2, Lib.hid (by rw [List.flatMap_append, List.length_append]; simpa using HO8.out), HF8⟩
          case measure => simp [intOf]; omega
        | false =>
          by_cases hdd : D < yd
          · have HP2 := Lib.hid (HPt.out rfl hdd)
            clear HPo HPs HPt
            go_wp2_with (first
              | (at_builtin; refine wpList_app rfl (.tmp 39) (.tmp 43) 42 rfl w1.heap.size 94 i0 _ 3 24 Try.underlying42 hi hz0 hz1 hz2 rfl (by decide) (.slice ao2 K.length cap2) K.length _ rfl (ownsRow_fr HOw.out ((Fr.refl [] _).alloc _) (by simp)) _ 1 _ rfl (Src.one3 wr ⟨k1, k2, D⟩) (by unfold maxLen; omega) (by omega) (by simp; omega) ?_; intro v7 w7 hown hg; have F7 := Fr.of_grown3 (HF.out.alloc (On.obj ⟨k1, k2, D⟩)) hg (fun q hq => .inr (World.ownsRow.lt HOw.out q hq).1); obtain ⟨u0, u1⟩ := two_cells' (F7.keep HX1.out (by simp)); obtain ⟨t0, t1, t2⟩ := HT.out w7 F7; have HF7 := Lib.hid F7; have HO7 := Lib.hid hown; have hs7 := F7.size; obtain ⟨ao7, cap7, rfl⟩ := ownsForm3 hown; clear F7 hown hg x0 x1 z0 z1 z2)
              | (at_builtin; refine wpList_app rfl (.tmp 45) (.tmp 51) 42 rfl w1.heap.size 94 i0 _ 3 24 Try.underlying42 hi hz0 hz1 hz2 rfl (by decide) (.slice ao7 (K.length + 1) cap7) (K.length + 1) _ rfl (ownsRow_fr HO7.out ((Fr.refl [] _).alloc _) (by simp)) _ 1 _ rfl (Src.one3 w7 ⟨yk, yi, yd⟩) (by unfold maxLen; omega) (by omega) (by simp; omega) ?_; intro v8 w8 hown hg; have HF8 := Lib.hid (Fr.of_grown3 (HF7.out.alloc (On.obj ⟨yk, yi, yd⟩)) hg (fun q hq => .inr (World.ownsRow.lt HO7.out q hq).1)); have HO8 := Lib.hid hown; clear hown hg))
            go_roundw
            case rel => exact ⟨i + 1, true, K ++ [⟨k1, k2, D⟩] ++ [⟨yk, yi, yd⟩], by go_num, rfl, hlt, HP2, Lib.hid (by rw [List.flatMap_append, List.flatMap_append, List.length_append, List.length_append]; simpa using HO8.out), HF8⟩
            case measure => simp [intOf]; omega
          · have HP2 := Lib.hid (HPs.out rfl hdd)
            clear HPo HPs HPt
            go_wp2_with (at_builtin; refine wpList_app rfl (.tmp 45) (.tmp 51) 42 rfl w1.heap.size 94 i0 _ 3 24 Try.underlying42 hi hz0 hz1 hz2 rfl (by decide) (.slice ao2 (K.length) cap2) (K.length) _ rfl (ownsRow_fr HOw.out ((Fr.refl [] _).alloc _) (by simp)) _ 1 _ rfl (Src.one3 wr ⟨yk, yi, yd⟩) (by unfold maxLen; omega) (by omega) (by simp; omega) ?_; intro v8 w8 hown hg; have HF8 := Lib.hid (Fr.of_grown3 (HF.out.alloc (On.obj ⟨yk, yi, yd⟩)) hg (fun q hq => .inr (World.ownsRow.lt HOw.out q hq).1)); have HO8 := Lib.hid hown; clear hown hg)
            go_roundw
            case rel => exact ⟨i + 1, false, K ++ [⟨yk, yi, yd⟩], by go_num, rfl, hlt, HP2, Lib.hid (by rw [List.flatMap_append, List.length_append]; simpa using HO8.out), HF8⟩
            case measure => simp [intOf]; omega
      · obtain rfl : i = l.length := by omega
        obtain ⟨x0, x1⟩ := two_cells' (HF.out.keep HX1.out (by simp))
        obtain ⟨y0, y1⟩ := two_cells' (HF.out.keep HY1.out (by simp))
        obtain ⟨z0, z1⟩ := two_cells' (HF.out.keep HZ1.out (by simp))
        have hfz := free_of_block (HF.out.keep HZ1.out (by simp))
        have hZ1 : w.heap.size + 2 < w1.heap.size := lt_of_block HZ1.out
        cases d with
        | true =>
          have HK := Lib.hid (HP.out.fin.1 rfl)
          clear HP
          go_wp2_with fail
          have FZ : Fr [w.heap.size + 2] wr ((wr.setCell ⟨w.heap.size + 2, 0, none⟩ (.int .u64 now)).setCell ⟨w.heap.size + 2, 1, none⟩ (.slice ao2 K.length cap2)) := Fr.setCell (Fr.setCell (Fr.refl _ _) (.inl (by simp)) _) (.inl (by simp)) _
          have hge : ∀ g, (Value.slice ao2 K.length cap2).ownBlock = some g → w1.heap.size ≤ g := fun g hg => (World.ownsRow.lt HOw.out g hg).1
          refine bodyPost_ret (v := .tuple #[.agg #[.int .u64 now, .slice ao2 K.length cap2], .int .i64 0]) (by simp [results, Try.results45, go_sem, z0, z1]) rfl ⟨_, K, 0, rfl, (Ons.of_owns HOw.out).frB FZ (fun g hg hm => by have := hge g hg; simp at hm; omega), (fun g hg => .inr (by have := World.ownsRow.lt HOw.out g hg; simp; omega)), (HF1.out.trans HF.out).trans' FZ (fun x hx => .inr (by simp at hx; omega)), (fun x h => by rw [HE.out] at h; cases h), fun _ => ⟨HK.out, rfl⟩⟩
        | false =>
          have HK := Lib.hid (HP.out.fin.2 rfl)
          clear HP
          go_wp2_with (at_builtin; refine wpList_app rfl (.tmp 55) (.tmp 59) 42 rfl w1.heap.size 94 i0 _ 3 24 Try.underlying42 hi hz0 hz1 hz2 rfl (by decide) (.slice ao2 K.length cap2) K.length _ rfl (ownsRow_fr HOw.out ((Fr.refl [] _).alloc _) (by simp)) _ 1 _ rfl (Src.one3 wr ⟨k1, k2, D⟩) (by unfold maxLen; omega) (by omega) (by simp; omega) ?_; intro v7 w7 hown hg; have F7 := Fr.of_grown3 (HF.out.alloc (On.obj ⟨k1, k2, D⟩)) hg (fun q hq => .inr (World.ownsRow.lt HOw.out q hq).1); obtain ⟨u0, u1⟩ := two_cells' (F7.keep HX1.out (by simp)); obtain ⟨b0, b1⟩ := two_cells' (F7.keep HZ1.out (by simp)); have hfz7 := free_of_block (F7.keep HZ1.out (by simp)); have HF7 := Lib.hid F7; have HO7 := Lib.hid hown; obtain ⟨ao7, cap7, rfl⟩ := ownsForm3 hown; clear F7 hown hg x0 x1 z0 z1 hfz)
          have FZ : Fr [w.heap.size + 2] w7 ((w7.setCell ⟨w.heap.size + 2, 0, none⟩ (.int .u64 now)).setCell ⟨w.heap.size + 2, 1, none⟩ (.slice ao7 (K.length + 1) cap7)) := Fr.setCell (Fr.setCell (Fr.refl _ _) (.inl (by simp)) _) (.inl (by simp)) _
          have hge : ∀ g, (Value.slice ao7 (K.length + 1) cap7).ownBlock = some g → w1.heap.size ≤ g := fun g hg => (World.ownsRow.lt HO7.out g hg).1
          have HL : Ons w7 (.slice ao7 (K.length + 1) cap7) (K ++ [⟨k1, k2, D⟩]) := Ons.of_owns (base := w1.heap.size) (by rw [List.flatMap_append, List.length_append]; simpa using HO7.out)
          refine bodyPost_ret (v := .tuple #[.agg #[.int .u64 now, .slice ao7 (K.length + 1) cap7], .int .i64 0]) (by simp [results, Try.results45, go_sem, b0, b1]) rfl ⟨_, _, 0, rfl, HL.frB FZ (fun g hg hm => by have := hge g hg; simp at hm; omega), (fun g hg => .inr (by have := World.ownsRow.lt HO7.out g hg; simp; omega)), (HF1.out.trans HF7.out).trans' FZ (fun x hx => .inr (by simp at hx; omega)), (fun x h => by rw [HE.out] at h; cases h), fun _ => ⟨HK.out, rfl⟩⟩
  · obtain ⟨hlt, hsome, hfil, -⟩ := hi2.some
    have HE := Lib.hid hsome
    clear hsome hfil hi2 hr
    go_wp2_with fail
    have F2 : Fr [w.heap.size + 2] w1 ((w1.setCell ⟨w.heap.size + 2, 0, none⟩ (.int .u64 now)).setCell ⟨w.heap.size + 2, 1, none⟩ (.slice ao l.length cap)) := Fr.setCell (Fr.setCell (Fr.refl _ _) (.inl (by simp)) _) (.inl (by simp)) _
    have F3 := HF1.out.trans' F2 (fun x hx => .inr (by simp at hx; omega))
    refine bodyPost_ret (v := .tuple #[.agg #[.int .u64 now, .slice ao l.length cap], .int .i64 4]) (by simp [results, Try.results45, go_sem, z0, z1]) rfl ⟨_, l, 4, rfl, HO.out.fr F3, (fun g hg => .inl hg), F3, fun _ _ => ⟨rfl, rfl⟩, fun h => by rw [HE.out] at h; cases h⟩
end Go.Proofs.Ytibnhfnidgfenaa
