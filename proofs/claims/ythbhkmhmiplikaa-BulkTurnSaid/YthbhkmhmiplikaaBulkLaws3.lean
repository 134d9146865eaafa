/-
  BulkTurn, as a contract of its function.
-/
import Derived.Test.YthbhkmhmiplikaaBulkLaws2
namespace Go.Proofs.Ythbhkmhmiplikaa
open Go.RowKit

/-- Who runs, or waits, was named by a deed. -/
theorem afterB_runs (m q : Nat) (ds : List (Int × Int)) (y : Int) : ∀ i, i ≤ ds.length → (y ∈ (afterB m q (ds.take i)).1 ∨ y ∈ (afterB m q (ds.take i)).2) → ∃ j, j < i ∧ (ds.getD j (0, 0)).2 = y := by
  intro i
  induction i with
  | zero => intro _ h; simp [afterB] at h
  | succ i ih =>
    intro hi h
    rw [afterB_snoc m q ds i (by omega)] at h
    rcases deedB_sub m q (afterB m q (ds.take i)) (ds.getD i (0, 0)).1 (ds.getD i (0, 0)).2 y h with h | h | h
    · obtain ⟨j, h1, h2⟩ := ih (by omega) (.inl h)
      exact ⟨j, by omega, h2⟩
    · obtain ⟨j, h1, h2⟩ := ih (by omega) (.inr h)
      exact ⟨j, by omega, h2⟩
    · exact ⟨i, by omega, h.symm⟩
theorem afterB_runs' (m q : Nat) (ds : List (Int × Int)) : ∀ y ∈ (afterB m q (ds.take 100)).1, ∃ j, 0 ≤ j ∧ j < ds.length ∧ j < 100 ∧ (ds.getD j (0, 0)).2 = y := by
  intro y hy
  by_cases h : 100 ≤ ds.length
  · obtain ⟨j, h1, h2⟩ := afterB_runs m q ds y 100 h (.inl hy)
    exact ⟨j, by omega, by omega, h1, h2⟩
  · have e : ds.take 100 = ds.take ds.length := by rw [List.take_of_length_le (by omega), List.take_of_length_le (by omega)]
    rw [e] at hy
    obtain ⟨j, h1, h2⟩ := afterB_runs m q ds y ds.length (Nat.le_refl _) (.inl hy)
    exact ⟨j, by omega, h1, by omega, h2⟩
/-- Whoever is left is named by a later deed. -/
def LeftB (ds : List (Int × Int)) (k : Nat) (hs : List Int) : Prop := ∀ y ∈ hs, ∃ j, k ≤ j ∧ j < ds.length ∧ j < 100 ∧ (ds.getD j (0, 0)).2 = y
theorem LeftB.step {ds : List (Int × Int)} {k : Nat} {hs : List Int} (h : LeftB ds k hs) (hn : hs.Nodup) : LeftB ds (k + 1) (rem (ds.getD k (0, 0)).2 hs) := by
  intro y hy
  obtain ⟨j, h1, h2, h3, h4⟩ := h y (rem_sub' hy)
  refine ⟨j, ?_, h2, h3, h4⟩
  have : j ≠ k := by
    intro e
    subst e
    subst h4
    exact not_mem_rem hn hy
  omega
theorem LeftB.none {ds : List (Int × Int)} {k : Nat} {hs : List Int} (h : LeftB ds k hs) (hk : ds.length ≤ k ∨ 100 ≤ k) : hs = [] := by
  apply List.eq_nil_iff_forall_not_mem.2
  intro y hy
  obtain ⟨j, h1, h2, h3, _⟩ := h y hy
  omega
theorem drop_el {ws : List Int} {j : Nat} (h : j < ws.length) : ws.drop j = el ws j :: ws.drop (j + 1) := by
  rw [List.drop_eq_getElem_cons h]
  simp [el, List.getD, h]

set_option maxHeartbeats 8000000 in
theorem bulkTurn_spec {w : World} {v : Value} {ds : List (Int × Int)} (hd : Deeds w v ds) (n0 n1 : Nat) (h0 : n0 < 256) (h1 : n1 < 256) :
    Calls Try.prog 12 #[.agg #[.int .u8 n0, .int .u8 n1], v] w fun e w' => e = .returned (.bool true) ∧ Fr [] w w' := by
  obtain ⟨i0, hi, hz0, hz1, hz2⟩ := info_parts Try.info_int
  obtain ⟨k1, k2, k3⟩ := confOf_pool n0 n1
  have HC := Lib.hid (fun w => conf_spec true n0 n1 (by omega) (by omega) w)
  have HN := Lib.hid (fun (w1 : World) (F : Fr [] w w1) => ran10 (hd.fr F) (confOf true n0 n1) (1 + n0 % 8) (n1 % 9) k1 k2 (.inl k3) (by omega))
  have hm1 : 0 < 1 + n0 % 8 := by omega
  have HNM := Lib.hid (show LeftB ds 0 _ from afterB_runs' (1 + n0 % 8) (n1 % 9) ds)
  clear k1 k2 k3
  generalize 1 + n0 % 8 = m at *
  generalize n1 % 9 = q at *
  generalize confOf true (n0 : Int) (n1 : Int) = cf at *
  generalize afterB m q (ds.take 100) = P at *
  obtain ⟨hs, ws⟩ := P
  simp only at HNM
  obtain ⟨av, cv, rfl, hd2, hd3⟩ := hd
  have HD := Lib.hid hd3
  clear hd3
  go_enter Try.func12, Try.ntmps12
  go_wp2_with fail
  refine (awake10 _).mono ?_
  rintro e w1 ⟨rfl, F⟩
  have c0 := (F.cell (p := ⟨w.heap.size, 0, none⟩) (by simp) (by simp)).trans (World.cell?_alloc_new _ _ _ 0)
  have c1 := (F.cell (p := ⟨w.heap.size, 1, none⟩) (by simp) (by simp)).trans (World.cell?_alloc_new _ _ _ 1)
  have HF := Lib.hid (((Fr.refl [] w).alloc _).trans F)
  clear F
  go_wp2_with fail
  refine (HC.out _).mono ?_
  rintro e w2 ⟨rfl, F⟩
  have HF := Lib.hid (HF.out.trans F)
  clear F c0 c1
  go_wp2_with fail
  refine (HN.out _ HF.out).mono ?_
  rintro e w3 ⟨b, s, r, g, rfl, B, hr, hg, hr2, hg2, F⟩
  have hrg := Lib.hid (show w.heap.size ≤ r ∧ w.heap.size ≤ g from ⟨Nat.le_trans HF.out.size hr, Nat.le_trans HF.out.size hg⟩)
  have HF := Lib.hid (HF.out.trans F)
  have HB := Lib.hid B
  have hlts := B.lts
  clear B F hr hg HC HN
  simp only at HB
  have hl := HB.out.lens
  go_wp2_with fail
  refine (HB.out.waiting).mono ?_
  rintro e w6 ⟨v6, rfl, V, F⟩
  have HF := Lib.hid (HF.out.trans F)
  have HB := Lib.hid (HB.out.fr0 F)
  have HV := Lib.hid V
  have hs6 := F.size
  obtain ⟨a6, c6, rfl, _⟩ := V.1
  clear V F
  have hsw := HF.out.size
  go_wp2_with fail
  go_loopw [8, 9] (fun rv v wr => ∃ (i j : Nat) (hs' : List Int), v = .int .i64 i ∧ j ≤ ws.length ∧ i ≤ j + 1 ∧ Hid (IsBulk wr b s r g hs' (ws.drop j) m q) ∧ Hid (wr.ownsRow w6.heap.size 3 1 rv j ((ws.take j).map (Value.int .i64))) ∧ Hid (Fr [r, g] w6 wr) ∧ Hid (hs'.length < m ∨ (i = 0 ∧ hs' = hs))) (fun _ v _ => 20 - (intOf v).toNat)
  case atStart => exact ⟨0, 0, hs, rfl, Nat.zero_le _, by omega, Lib.hid (by simpa using HB.out), Lib.hid (by simpa using World.ownsRow_nil _ _ _ _), Lib.hid (Fr.refl _ _), Lib.hid (.inr ⟨rfl, rfl⟩)⟩
  case round =>
    obtain ⟨i, j, hs', rfl, hj, hij, HBi, HOi, HFi, HCi⟩ := hrel
    have hsr := HFi.out.size
    obtain ⟨ao, cap, hrv⟩ := ownsForm HOi.out
    subst hrv
    by_cases hlt : j < ws.length
    · by_cases hm : hs'.length < m
      · have HBy := Lib.hid (show IsBulk wr b s r g hs' (el ws j :: ws.drop (j + 1)) m q by rw [← drop_el hlt]; exact HBi.out)
        have HM := Lib.hid hm
        have HT := Lib.hid (show (ws.take j).map (Value.int .i64) ++ [Value.int .i64 (el ws j)] = (ws.take (j + 1)).map (Value.int .i64) by rw [← take_snoc_el ws j hlt, List.map_append]; rfl)
        generalize el ws j = y at *
        have HY := Lib.hid (show rem y (hs' ++ [y]) = hs' from rem_snoc_hit (fun h => by
          have := HBy.out.nodup
          rw [List.nodup_append] at this
          exact this.2.2 y h y (by simp) rfl))
        have HIN := Lib.hid (show decide (y ∈ hs' ++ [y]) = true by simp)
        have t1 : (i : Int) < 200 := by omega
        have t2 : (j : Int) < ws.length := by omega
        clear hm HCi hm1
        go_wp2_with fail
        refine (HBy.out.pick_yes HM.out).mono ?_
        rintro e w7 ⟨rfl, B, F⟩
        have HB7 := Lib.hid B
        have HF7 := Lib.hid (HFi.out.trans F)
        have HO7 := Lib.hid (ownsRow_fr HOi.out F (fun k hk => by have := (World.ownsRow.lt HOi.out k hk).1; simp; omega))
        have hs7 := HF7.out.size
        clear B F
        go_wp2_with (at_builtin; refine wpList_app rfl (.tmp 42) (.tmp 44) 26 rfl w6.heap.size 3 i0 (.int .i64 0) 1 8 Try.underlying26 hi hz0 hz1 hz2 rfl (by decide) _ _ _ rfl (HO7.out.alloc _) _ 1 _ rfl (Src.one _ _ _ rfl) (by unfold maxLen; omega) (by omega) (by simp; omega) ?_; intro v8 w8 hown hg)
        have HF8 := Lib.hid (Fr.of_grown (S := [r, g]) (HF7.out.alloc (.cells #[.int .i64 y] 3)) hg (fun k hk => Or.inr (World.ownsRow.lt HO7.out k hk).1))
        have F8 : Fr (Value.slice ao j cap).ownBlock.toList w7 w8 := Fr.of_grown ((Fr.refl _ w7).alloc (.cells #[.int .i64 y] 3)) hg (fun k hk => Or.inl (by have hk' : (Value.slice ao j cap).ownBlock = some k := hk; simp [hk']))
        have hS : ∀ x, x < w6.heap.size → x ∉ (Value.slice ao j cap).ownBlock.toList := fun x hx hm => by
          have := (World.ownsRow.lt HO7.out x (by simpa using hm)).1
          omega
        have HB8 := Lib.hid (HB7.out.fr F8 ⟨hS _ (by omega), hS _ (by omega), hS _ (by omega), hS _ (by omega)⟩)
        have HO8 := Lib.hid hown
        have hs8 := HF8.out.size
        clear hown hg F8 hS
        go_wp2_with fail
        refine (HB8.out.free y).mono ?_
        rw [HIN.out, HY.out]
        rintro e w9 ⟨rfl, B, F⟩
        have HB9 := Lib.hid B
        have HF9 := Lib.hid (HF8.out.trans F)
        have HO9 := Lib.hid (ownsRow_fr HO8.out F (fun k hk => by have := (World.ownsRow.lt HO8.out k hk).1; simp; omega))
        clear B F
        go_wp2_with fail
        go_roundw
        case rel => exact ⟨i + 1, j + 1, hs', by go_num, by omega, by omega, HB9, Lib.hid (by have := HO9.out; rw [HT.out] at this; exact this), HF9, Lib.hid (.inl HM.out)⟩
        case measure => simp [intOf]; omega
      · obtain ⟨rfl, rfl⟩ : i = 0 ∧ hs' = hs := by
          rcases HCi.out with h | h
          · exact absurd h hm
          · exact h
        have hmm : hs'.length = m := by omega
        have HMM := Lib.hid hmm
        have t2 : (j : Int) < ws.length := by omega
        have HM1 := Lib.hid hm1
        clear hm hmm hm1 HCi
        go_wp2_with fail
        refine (HBi.out.pick_no (.inl HMM.out)).mono ?_
        rintro e w7 ⟨rfl, B, F⟩
        have HB7 := Lib.hid B
        have HF7 := Lib.hid (HFi.out.trans F)
        have HO7 := Lib.hid (ownsRow_fr HOi.out F (fun k hk => by have := (World.ownsRow.lt HOi.out k hk).1; simp; omega))
        clear B F
        go_wp2_with fail
        go_loopw [12] (fun v wk => ∃ (k : Nat) (hs2 : List Int), v = .int .i64 k ∧ k ≤ ds.length ∧ k ≤ 100 ∧ Hid (LeftB ds k hs2) ∧ Hid (IsBulk wk b s r g hs2 (ws.drop j) m q) ∧ Hid (wk.ownsRow w6.heap.size 3 1 (.slice ao j cap) j ((ws.take j).map (Value.int .i64))) ∧ Hid (Fr [r, g] w6 wk)) (fun v _ => ds.length - (intOf v).toNat)
        case atStart => exact ⟨0, hs', rfl, Nat.zero_le _, by omega, HNM, HB7, HO7, HF7⟩
        case round =>
          obtain ⟨k, hs2, rfl, hk, hk2, HL, HBk, HOk, HFk⟩ := hrel
          have hsk := HFk.out.size
          by_cases hlt : k < ds.length
          · by_cases hlt2 : k < 100
            · obtain ⟨b1, o1, rfl, hc1, hc2⟩ := HD.out k hlt
              have hc2' := (((HF.out.trans' HFk.out (fun x hx => Or.inr (by have := hrg.out; simp at hx; omega))).cell (p := ⟨b1, o1 + k * 2 + 1, none⟩) (World.block_lt_of_cell? _ _ hc2) (by simp))).trans hc2
              clear hc1 hc2
              have HL2 := Lib.hid (HL.out.step (List.nodup_append.1 HBk.out.nodup).1)
              generalize (ds.getD k (0, 0)).2 = x at *
              go_wp2_with fail
              refine (HBk.out.free x).mono ?_
              rintro e w9 ⟨rfl, B, F⟩
              have HB9 := Lib.hid B
              have HF9 := Lib.hid (HFk.out.trans F)
              have HO9 := Lib.hid (ownsRow_fr HOk.out F (fun k hk => by have := (World.ownsRow.lt HOk.out k hk).1; simp; omega))
              clear B F
              go_wp2_with fail
              go_roundw
              case rel => exact ⟨k + 1, _, by go_num, by omega, by omega, HL2, HB9, HO9, HF9⟩
              case measure => simp [intOf]; omega
            · obtain rfl : hs2 = [] := HL.out.none (by omega)
              go_wp2_with fail
              go_roundw
              case rel => exact ⟨1, j, [], by go_num, by omega, by omega, HBk, HOk, HFk, Lib.hid (.inl HM1.out)⟩
              case measure => simp [intOf]
          · obtain rfl : hs2 = [] := HL.out.none (by omega)
            go_wp2_with fail
            go_roundw
            case rel => exact ⟨1, j, [], by go_num, by omega, by omega, HBk, HOk, HFk, Lib.hid (.inl HM1.out)⟩
            case measure => simp [intOf]
    · obtain rfl : j = ws.length := by omega
      have HBe := Lib.hid (show IsBulk wr b s r g hs' [] m q by have := HBi.out; rwa [List.drop_length] at this)
      have HLe : Hid (Lst wr w6.heap.size (.slice ao ws.length cap) ws) := Lib.hid (Lst.of_owns' HOi.out rfl (by rw [List.take_length]))
      have HVe := Lib.hid (HV.out.fr HFi.out (by simp; omega))
      have t1 : (i : Int) < 200 := by omega
      clear HCi hm1 HBi HOi
      go_wp2_with fail
      refine (HBe.out.pick_no (.inr rfl)).mono ?_
      rintro e w7 ⟨rfl, B, F⟩
      have HB7 := Lib.hid B
      have HF7 := Lib.hid (HFi.out.trans F)
      have HV7 := Lib.hid (HVe.out.fr F (by simp; omega))
      have HL7 := Lib.hid (HLe.out.fr F (by simp; omega))
      clear B F
      go_wp2_with fail
      refine (same_spec HL7.out.1 HV7.out.1 (by omega)).mono ?_
      rintro e w8 ⟨rfl, q8, rfl⟩
      rw [show same ws ws = true by simp [same]]
      have HB8 := Lib.hid (HB7.out.fr0 ((Fr.refl [] _).drewN q8))
      have HF8 := Lib.hid (HF7.out.drewN q8)
      go_wp2_with fail
      refine (HB8.out.waiting).mono ?_
      rintro e w9 ⟨v9, rfl, V, F⟩
      obtain ⟨a9, c9, rfl, _⟩ := V.1
      have HF9 := Lib.hid (HF8.out.trans' F (by simp))
      clear V F
      simp only [List.length_nil]
      go_wp2_with fail
      go_ret
      exact ⟨rfl, HF.out.trans' HF9.out (fun x hx => Or.inr (by have := hrg.out; simp at hx; omega))⟩
end Go.Proofs.Ythbhkmhmiplikaa
