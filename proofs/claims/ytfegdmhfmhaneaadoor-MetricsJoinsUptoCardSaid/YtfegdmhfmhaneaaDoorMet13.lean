/-
  MetricsTotal, as a contract of its function: of outcomes that may be each is of one kind from 1 on, and of one cause.
-/
import Derived.Test.YtfegdmhfmhaneaaDoorMet8
import Derived.Deep.DeepMust
namespace Go.Proofs.YtfegdmhfmhaneaaDoor
open Go.RowKit

def fineP (o : Ou) : Prop := ((o.kind = 1 ∨ o.kind = 2) ∧ o.cause = 0) ∨ ((o.kind = 3 ∨ o.kind = 4) ∧ 1 ≤ o.cause ∧ o.cause ≤ 4)
instance (o : Ou) : Decidable (fineP o) := inferInstanceAs (Decidable (_ ∨ _))
def fineOf (l : List Ou) : List Ou := l.filter fun o => decide (fineP o)
theorem fineOf_yes {l : List Ou} {i : Nat} {k : List Ou} (hi : i < l.length) (hk : fineOf (l.take i) = k) (h : fineP (l.getD i default)) : fineOf (l.take (i + 1)) = k ++ [l.getD i default] := by
  rw [take_snoc_ou hi]; unfold fineOf at *; rw [List.filter_append, hk]; simp only [List.filter_cons, decide_eq_true h, if_true, List.filter_nil]
theorem fineOf_no {l : List Ou} {i : Nat} {k : List Ou} (hi : i < l.length) (hk : fineOf (l.take i) = k) (h : ¬ fineP (l.getD i default)) : fineOf (l.take (i + 1)) = k := by
  rw [take_snoc_ou hi]; unfold fineOf at *; rw [List.filter_append, hk]; simp only [List.filter_cons, decide_eq_false h, Bool.false_eq_true, if_false, List.filter_nil, List.append_nil]
theorem cnt_cons (f : Ou → Int) (o : Ou) (l : List Ou) (k : Int) : cnt f (o :: l) k = (if f o = k then 1 else 0) + cnt f l k := by
  unfold cnt
  by_cases h : f o = k
  · simp [h]; omega
  · simp [h]
theorem fine_sums (l : List Ou) (h : ∀ o ∈ l, fineP o) :
    cnt Ou.kind l 0 = 0 ∧ cnt Ou.kind l 1 + cnt Ou.kind l 2 + cnt Ou.kind l 3 + cnt Ou.kind l 4 = l.length ∧ cnt Ou.cause l 0 = cnt Ou.kind l 1 + cnt Ou.kind l 2 ∧
    cnt Ou.cause l 1 + cnt Ou.cause l 2 + cnt Ou.cause l 3 + cnt Ou.cause l 4 = cnt Ou.kind l 3 + cnt Ou.kind l 4 := by
  induction l with
  | nil => simp [cnt]
  | cons o l ih =>
    obtain ⟨h0, h1, h2, h3⟩ := ih (fun x hx => h x (by simp [hx]))
    have ho := h o (by simp)
    simp only [cnt_cons, List.length_cons]
    unfold fineP at ho
    refine ⟨?_, ?_, ?_, ?_⟩
    all_goals repeat' split
    all_goals omega
theorem fineOf_fine (l : List Ou) : ∀ o ∈ fineOf l, fineP o := fun o ho => by simpa using (List.mem_filter.1 ho).2
theorem Ous.low {w : World} {base : Nat} {v : Value} {l : List Ou} (h : Ous w base v l) : Ous w 0 v l := by
  obtain ⟨ao, cap, h1, h2, h3, h4⟩ := h
  exact ⟨ao, cap, h1, h2, h3, fun i hi => by obtain ⟨b, o, h5, _, h7⟩ := h4 i hi; exact ⟨b, o, h5, Nat.zero_le _, h7⟩⟩
theorem Src.one5 (w : World) (e : Ou) : Src (w.alloc e.obj) 5 (.slice (some ⟨w.heap.size, 0, none⟩) 1 1) 1 e.cells :=
  ⟨_, _, rfl, rfl, Nat.le_refl _, (fun h => by cases h), (fun _ hu => cellsO_one hu), (fun j u hj => ⟨w.heap.size, 0, rfl, (At5.box (block_alloc_new w e.obj)).get hj⟩)⟩
theorem Src.one5at (w : World) (e : Ou) (g : Nat) (hg : w.heap.size = g) : Src (w.alloc e.obj) 5 (.slice (some ⟨g, 0, none⟩) 1 1) 1 e.cells := by subst hg; exact Src.one5 w e
theorem ownsForm5 {w : World} {base : Nat} {e : TypeId} {size : Nat} {v : Value} {n : Nat} {xs : List Value} (h : w.ownsRow base e size v n xs) : ∃ ao cap, v = .slice ao n cap := by
  rcases h.2 with ⟨h, h0⟩ | ⟨g, c, cur, h, _⟩
  · exact ⟨none, 0, by rw [h, h0]⟩
  · exact ⟨_, _, h⟩
theorem info_parts5 {P : Program} {t : TypeId} {z : Value} {a b : Nat} (h : (P.info? t).map (fun i => (i.zero, i.size, i.bytes)) = some (some z, a, b)) : ∃ i, P.info? t = some i ∧ i.zero = some z ∧ i.size = a ∧ i.bytes = b := by
  cases hi : P.info? t with
  | none => simp [hi] at h
  | some i => simp [hi] at h; exact ⟨i, rfl, h.1, h.2.1, h.2.2⟩
theorem Fr.of_grown5 {S : List Nat} {a w w' : World} {row : Option Nat} (h : Fr S a w) (hg : w.grownBy w' row) (hr : ∀ k, row = some k → k ∈ S ∨ a.heap.size ≤ k) : Fr S a w' := Fr.of_grownM h hg hr

set_option maxHeartbeats 4000000 in
set_option maxRecDepth 20000 in
theorem metricsTotal_spec {w : World} {v : Value} {l : List Ou} (hl : Ous w 0 v l) (hr : l.length * 40 ≤ 140737488351232) (ht : Tab w) :
    Calls Tryd.prog 4 #[v] w fun e w' => e = .returned (.bool true) ∧ Fr [] w w' := by
  have HA := Lib.hid (awake_spec w ht)
  clear ht
  obtain ⟨i0, hi, hz0, hz1, hz2⟩ := info_parts5 Tryd.info_ou
  obtain ⟨ao, cap, rfl, hc, hnone, h4⟩ := hl
  have H4 := Lib.hid h4
  clear h4 hnone
  go_enter Tryd.func4, Tryd.ntmps4
  go_wp2_with fail
  refine HA.out.mono ?_
  rintro e w2 ⟨rfl, F⟩
  have HF2 := Lib.hid F
  clear F HA
  go_wp2_with fail
  go_loopw [4, 5] (fun rv x wr => ∃ (i : Nat) (k : List Ou), i ≤ l.length ∧ x = .int .i64 i ∧ k.length ≤ i ∧ Hid (fineOf (l.take i) = k) ∧ Hid (wr.ownsRow w.heap.size 35 5 rv k.length (k.flatMap Ou.cells)) ∧ Hid (Fr [] w wr)) (fun _ x _ => l.length - (intOf x).toNat)
  case atStart => exact ⟨0, [], Nat.zero_le _, rfl, Nat.le_refl _, Lib.hid rfl, Lib.hid (World.ownsRow_nil _ _ _ _), HF2⟩
  case round =>
    obtain ⟨i, k, hi2, rfl, hki, HK, HO, HF⟩ := hrel
    obtain ⟨ao2, cap2, hrv⟩ := ownsForm5 HO.out
    subst hrv
    by_cases hlt : i < l.length
    · obtain ⟨b, o, rfl, hb, h9⟩ := H4.out i hlt
      obtain ⟨k0, k1, k2, k3, k4⟩ := h9.fr HF.out (by simp)
      have HY := Lib.hid (fun h => fineOf_yes hlt HK.out h)
      have HN := Lib.hid (fun h => fineOf_no hlt HK.out h)
      have HF1 := Lib.hid (HF.out.alloc (Ou.obj (l.getD i default)))
      have HO1 := Lib.hid (ownsRow_fr HO.out ((Fr.refl [] _).alloc (Ou.obj (l.getD i default))) (by simp))
      have hsz := HF.out.size
      clear h9 hb HF HO
      generalize l.getD i default = ev at *
      obtain ⟨id, kind, cause, val, tm⟩ := ev
      simp only at k0 k1 k2 k3 k4
      unfold Ou.obj at HF1 HO1
      simp only at HF1 HO1
      by_cases hfine : fineP ⟨id, kind, cause, val, tm⟩
      · have HK2 := Lib.hid (HY.out hfine)
        clear HY HN HK
        unfold fineP at hfine
        simp only at hfine
        rcases hfine with ⟨rfl | rfl, rfl⟩ | ⟨rfl | rfl, hc1, hc4⟩
        · go_wp2_with (at_builtin; go_must (refine wpList_app rfl (.tmp 55) (.tmp 57) 33 rfl w.heap.size 35 i0 _ 5 40 Tryd.underlying33 hi hz0 hz1 hz2 rfl (by decide) (.slice ao2 k.length cap2) k.length _ rfl (ownsRow_fr HO1.out ((Fr.refl [] _).alloc _) (by simp)) _ 1 _ rfl (Src.one5at _ ⟨id, 1, 0, val, tm⟩ _ (World.size_alloc _ _)) (by unfold maxLen; omega) (by omega) (by simp; omega) ?_; intro v8 w8 hown hg; (have HO8 := Lib.hid hown); (have HF8 := Lib.hid (Fr.of_grown5 (HF1.out.alloc (Ou.obj ⟨id, 1, 0, val, tm⟩)) hg (fun q hq => .inr (World.ownsRow.lt HO1.out q hq).1))); clear hown hg))
          go_roundw
          case rel => exact ⟨i + 1, k ++ [_], by omega, by go_num, by simp; omega, HK2, Lib.hid (by rw [List.flatMap_append, List.length_append]; simpa using HO8.out), HF8⟩
          case measure => simp [intOf]; omega
        · go_wp2_with (at_builtin; go_must (refine wpList_app rfl (.tmp 55) (.tmp 57) 33 rfl w.heap.size 35 i0 _ 5 40 Tryd.underlying33 hi hz0 hz1 hz2 rfl (by decide) (.slice ao2 k.length cap2) k.length _ rfl (ownsRow_fr HO1.out ((Fr.refl [] _).alloc _) (by simp)) _ 1 _ rfl (Src.one5at _ ⟨id, 2, 0, val, tm⟩ _ (World.size_alloc _ _)) (by unfold maxLen; omega) (by omega) (by simp; omega) ?_; intro v8 w8 hown hg; (have HO8 := Lib.hid hown); (have HF8 := Lib.hid (Fr.of_grown5 (HF1.out.alloc (Ou.obj ⟨id, 2, 0, val, tm⟩)) hg (fun q hq => .inr (World.ownsRow.lt HO1.out q hq).1))); clear hown hg))
          go_roundw
          case rel => exact ⟨i + 1, k ++ [_], by omega, by go_num, by simp; omega, HK2, Lib.hid (by rw [List.flatMap_append, List.length_append]; simpa using HO8.out), HF8⟩
          case measure => simp [intOf]; omega
        · go_wp2_with (at_builtin; go_must (refine wpList_app rfl (.tmp 55) (.tmp 57) 33 rfl w.heap.size 35 i0 _ 5 40 Tryd.underlying33 hi hz0 hz1 hz2 rfl (by decide) (.slice ao2 k.length cap2) k.length _ rfl (ownsRow_fr HO1.out ((Fr.refl [] _).alloc _) (by simp)) _ 1 _ rfl (Src.one5at _ ⟨id, 3, cause, val, tm⟩ _ (World.size_alloc _ _)) (by unfold maxLen; omega) (by omega) (by simp; omega) ?_; intro v8 w8 hown hg; (have HO8 := Lib.hid hown); (have HF8 := Lib.hid (Fr.of_grown5 (HF1.out.alloc (Ou.obj ⟨id, 3, cause, val, tm⟩)) hg (fun q hq => .inr (World.ownsRow.lt HO1.out q hq).1))); clear hown hg))
          go_roundw
          case rel => exact ⟨i + 1, k ++ [_], by omega, by go_num, by simp; omega, HK2, Lib.hid (by rw [List.flatMap_append, List.length_append]; simpa using HO8.out), HF8⟩
          case measure => simp [intOf]; omega
        · go_wp2_with (at_builtin; go_must (refine wpList_app rfl (.tmp 55) (.tmp 57) 33 rfl w.heap.size 35 i0 _ 5 40 Tryd.underlying33 hi hz0 hz1 hz2 rfl (by decide) (.slice ao2 k.length cap2) k.length _ rfl (ownsRow_fr HO1.out ((Fr.refl [] _).alloc _) (by simp)) _ 1 _ rfl (Src.one5at _ ⟨id, 4, cause, val, tm⟩ _ (World.size_alloc _ _)) (by unfold maxLen; omega) (by omega) (by simp; omega) ?_; intro v8 w8 hown hg; (have HO8 := Lib.hid hown); (have HF8 := Lib.hid (Fr.of_grown5 (HF1.out.alloc (Ou.obj ⟨id, 4, cause, val, tm⟩)) hg (fun q hq => .inr (World.ownsRow.lt HO1.out q hq).1))); clear hown hg))
          go_roundw
          case rel => exact ⟨i + 1, k ++ [_], by omega, by go_num, by simp; omega, HK2, Lib.hid (by rw [List.flatMap_append, List.length_append]; simpa using HO8.out), HF8⟩
          case measure => simp [intOf]; omega
      · have HK2 := Lib.hid (HN.out hfine)
        clear HY HN HK
        unfold fineP at hfine
        simp only at hfine
        by_cases e1 : kind = 1
        · subst e1
          have e0 : (cause == 0) = false := by simp; omega
          clear hfine
          go_wp2_with fail
          go_roundw
          case rel => exact ⟨i + 1, k, by omega, by go_num, by omega, HK2, HO1, HF1⟩
          case measure => simp [intOf]; omega
        by_cases e2 : kind = 2
        · subst e2
          have e0 : (cause == 0) = false := by simp; omega
          clear hfine
          go_wp2_with fail
          go_roundw
          case rel => exact ⟨i + 1, k, by omega, by go_num, by omega, HK2, HO1, HF1⟩
          case measure => simp [intOf]; omega
        by_cases e3 : kind = 3
        · subst e3
          by_cases hc1 : 1 ≤ cause
          · have hc4 : ¬ cause ≤ 4 := by omega
            clear hfine
            go_wp2_with fail
            go_roundw
            case rel => exact ⟨i + 1, k, by omega, by go_num, by omega, HK2, HO1, HF1⟩
            case measure => simp [intOf]; omega
          · clear hfine
            go_wp2_with fail
            go_roundw
            case rel => exact ⟨i + 1, k, by omega, by go_num, by omega, HK2, HO1, HF1⟩
            case measure => simp [intOf]; omega
        by_cases e4 : kind = 4
        · subst e4
          by_cases hc1 : 1 ≤ cause
          · have hc4 : ¬ cause ≤ 4 := by omega
            clear hfine
            go_wp2_with fail
            go_roundw
            case rel => exact ⟨i + 1, k, by omega, by go_num, by omega, HK2, HO1, HF1⟩
            case measure => simp [intOf]; omega
          · clear hfine
            go_wp2_with fail
            go_roundw
            case rel => exact ⟨i + 1, k, by omega, by go_num, by omega, HK2, HO1, HF1⟩
            case measure => simp [intOf]; omega
        · have b1 : (kind == 1) = false := by simp; omega
          have b2 : (kind == 2) = false := by simp; omega
          have b3 : (kind == 3) = false := by simp; omega
          have b4 : (kind == 4) = false := by simp; omega
          clear hfine e1 e2 e3 e4
          go_wp2_with fail
          go_roundw
          case rel => exact ⟨i + 1, k, by omega, by go_num, by omega, HK2, HO1, HF1⟩
          case measure => simp [intOf]; omega
    · have hik : i = l.length := by omega
      subst hik
      rw [List.take_length] at HK
      have hkl : k.length ≤ l.length := hki
      have HFI := Lib.hid (fine_sums k (by rw [← HK.out]; exact fineOf_fine l))
      have HOF := Lib.hid (fun w' (F : Fr [] wr w') => of_spec ((Ous.of_owns HO.out).low.fr0 F) (show k.length ≤ 9223372036854775807 by omega))
      clear HK H4
      go_wp2_with fail
      refine (HOF.out _ (Fr.refl _ _)).mono ?_
      rintro e w3 ⟨rfl, F⟩
      have HF3 := Lib.hid (HF.out.trans F)
      clear F HOF HF
      unfold sumOf Su.vals
      simp only
      clear HO
      obtain ⟨f0, f1, f2, f3⟩ := HFI.out
      clear HFI
      generalize cnt Ou.kind k 0 = x0 at *
      generalize cnt Ou.kind k 1 = x1 at *
      generalize cnt Ou.kind k 2 = x2 at *
      generalize cnt Ou.kind k 3 = x3 at *
      generalize cnt Ou.kind k 4 = x4 at *
      generalize cnt Ou.cause k 0 = y0 at *
      generalize cnt Ou.cause k 1 = y1 at *
      generalize cnt Ou.cause k 2 = y2 at *
      generalize cnt Ou.cause k 3 = y3 at *
      generalize cnt Ou.cause k 4 = y4 at *
      generalize lastOf k = la at *
      generalize k.length = n at *
      have hn : n * 40 ≤ 140737488351232 := by omega
      clear hr hkl hc hlt hi2 hki
      subst f0
      have c1 : IntKind.u64.wrap (n : Int) = n := by rw [IntKind.wrap_u64]; omega
      have g1 : IntKind.u64.wrap ((x1 : Int) + x2) = x1 + x2 := by rw [IntKind.wrap_u64]; omega
      have g2 : IntKind.u64.wrap ((x1 : Int) + x2 + x3) = x1 + x2 + x3 := by rw [IntKind.wrap_u64]; omega
      have g3 : IntKind.u64.wrap ((x1 : Int) + x2 + x3 + x4) = x1 + x2 + x3 + x4 := by rw [IntKind.wrap_u64]; omega
      have g4 : IntKind.u64.wrap ((y1 : Int) + y2) = y1 + y2 := by rw [IntKind.wrap_u64]; omega
      have g5 : IntKind.u64.wrap ((y1 : Int) + y2 + y3) = y1 + y2 + y3 := by rw [IntKind.wrap_u64]; omega
      have g6 : IntKind.u64.wrap ((y1 : Int) + y2 + y3 + y4) = y1 + y2 + y3 + y4 := by rw [IntKind.wrap_u64]; omega
      have g7 : IntKind.u64.wrap ((x3 : Int) + x4) = x3 + x4 := by rw [IntKind.wrap_u64]; omega
      have b1 : ((x1 : Int) + x2 + x3 + x4 == (n : Int)) = true := by simp; omega
      have b2 : ((y0 : Int) == x1 + x2) = true := by simp; omega
      have b3 : ((y1 : Int) + y2 + y3 + y4 == x3 + x4) = true := by simp; omega
      clear f1 f2 f3 hn
      go_wp2_with fail
      go_ret
      exact ⟨rfl, HF3.out.alloc _⟩
end Go.Proofs.YtfegdmhfmhaneaaDoor
