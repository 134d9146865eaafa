/-
  Words, and contracts of functions of the program and of the document, for this seat's claims: each is a lemma on the way; conditions stand in each lemma.
-/
import Derived.Test.YtcnkhjgpjchkeaaGreatZ11
import Derived.ProofKit
import Derived.OpenShut
import Derived.Deep.Slices
import Derived.Deep.Fields
import Derived.ChangeSame
import Derived.Test.YtcnkhjgpjchkeaaGreatRows
namespace Go.Proofs.YtcnkhjgpjchkeaaGreat
open Go.RowKit

set_option maxHeartbeats 1000000 in
theorem lawOne_spec (w : World) (id arg : Int) : Calls Tryz.prog 27 #[.int .i64 id, .int .i64 arg] w fun e w' => (∃ va vm, e = .returned (.agg #[va, vm]) ∧ ArgsV va 1 ∧ Mems w' vm [(id, 0)]) ∧ Fr [] w w' := by
  have HO := Lib.hid (fun w' => one_spec w' id arg)
  have hb0 := block_alloc_new w (.cells #[.slice none 0 0, .slice none 0 0] 91)
  have HB0 := Lib.hid hb0
  clear hb0
  go_enter Tryz.func27, Tryz.ntmps27
  go_wp2_with fail
  refine (HO.out _).mono ?_
  rintro e w2 ⟨⟨va, vm, rfl, ⟨a0, c0, rfl⟩, hM⟩, F⟩
  have HM := Lib.hid hM
  obtain ⟨am, cm, rfl, -, -⟩ := hM
  have hb := F.keep HB0.out (by simp)
  have r0 : w2.cell? ⟨w.heap.size, 0, none⟩ = some (.slice none 0 0) := (cell_of_block hb 0).trans rfl
  have r1 : w2.cell? ⟨w.heap.size, 1, none⟩ = some (.slice none 0 0) := (cell_of_block hb 1).trans rfl
  have g0 := free_of_block hb 0
  have g1 := free_of_block hb 1
  have HF := Lib.hid ((((Fr.refl [] w).alloc (.cells #[.slice none 0 0, .slice none 0 0] 91)).trans F).setCell (p := ⟨w.heap.size, 0, none⟩) (.inr (Nat.le_refl _)) (.slice a0 1 c0))
  have HF2 := Lib.hid (HF.out.setCell (p := ⟨w.heap.size, 1, none⟩) (.inr (Nat.le_refl _)) (.slice am [(id, (0 : Int))].length cm))
  have kz : Fr [w.heap.size] w2 ((w2.setCell ⟨w.heap.size, 0, none⟩ (.slice a0 1 c0)).setCell ⟨w.heap.size, 1, none⟩ (.slice am [(id, (0 : Int))].length cm)) := ((Fr.refl _ _).setCell (p := ⟨w.heap.size, 0, none⟩) (.inl (by simp)) _).setCell (p := ⟨w.heap.size, 1, none⟩) (.inl (by simp)) _
  have HM2 := Lib.hid (HM.out.fr kz (NoMem.cons (NoMem.nil w2) hb (by intro _ _ e; cases e)))
  clear hb F kz HB0
  go_wp2_with fail
  refine bodyPost_ret (v := .agg #[.slice a0 1 c0, .slice am 1 cm]) (by simp [results, Tryz.results27, go_sem, r0, r1]) rfl ?_
  exact ⟨⟨_, _, rfl, ⟨a0, c0, rfl⟩, HM2.out⟩, HF2.out⟩

/-- One element of three cells. -/
theorem row3 {w : World} {base : Nat} {v : Value} {u0 u1 u2 : Value} (h : w.ownsRow base 95 3 v 1 [u0, u1, u2]) : ∃ g cap cs, v = .slice (some ⟨g, 0, none⟩) 1 cap ∧ base ≤ g ∧ w.heap[g]? = some (.cells cs 95 (0, 0)) ∧ cs[0]? = some u0 ∧ cs[1]? = some u1 ∧ cs[2]? = some u2 := by
  rcases h.2 with ⟨_, h0⟩ | ⟨g, cap, cur, hv, hb, hh, h1, _, h3, ht⟩
  · cases h0
  · refine ⟨g, cap, cur, hv, hb, hh, ?_, ?_, ?_⟩
    · have e := congrArg (fun l : List Value => l[0]?) ht
      simp only [List.getElem?_take] at e
      simpa using e
    · have e := congrArg (fun l : List Value => l[1]?) ht
      simp only [List.getElem?_take] at e
      simpa using e
    · have e := congrArg (fun l : List Value => l[2]?) ht
      simp only [List.getElem?_take] at e
      simpa using e
theorem row5 {w : World} {base : Nat} {v : Value} {u0 u1 u2 u3 u4 : Value} (h : w.ownsRow base 87 5 v 1 [u0, u1, u2, u3, u4]) : ∃ g cap cs, v = .slice (some ⟨g, 0, none⟩) 1 cap ∧ base ≤ g ∧ w.heap[g]? = some (.cells cs 87 (0, 0)) ∧ cs[2]? = some u2 := by
  rcases h.2 with ⟨_, h0⟩ | ⟨g, cap, cur, hv, hb, hh, h1, _, h3, ht⟩
  · cases h0
  · refine ⟨g, cap, cur, hv, hb, hh, ?_⟩
    have e := congrArg (fun l : List Value => l[2]?) ht
    simp only [List.getElem?_take] at e
    simpa using e
theorem eqAct (w : World) : (Op.equalIn 10000 95 (.agg #[.bool true, .int .i64 1, .int .u64 10]) (.agg #[.bool true, .int .i64 1, .int .u64 10])).run Tryz.prog w = .ok true w := by kernel_rfl
set_option maxHeartbeats 8000000 in
set_option maxRecDepth 20000 in
theorem awake_spec (w : World) : Calls Tryz.prog 7 #[] w fun e w' => e = .returned (.bool true) ∧ Fr [] w w' := by
  have HNEW := depNew_yes w awK awK_fine (by unfold CF.Ran awK; decide)
  obtain ⟨M0, M1, M2, M3, M4, M5, M6, a2, o4, o5, e0, q0, e1, q1, e2, q2, e3, q3, e4, q4, e5, q5, e6, e7⟩ := aw_all
  change Calls _ _ #[.agg #[.int .i64 1, .int .i64 1, .int .i64 1, .int .i64 0, .int .i64 0, .int .i64 0, .int .u64 10, .int .u64 5, .int .i64 9, .int .i64 50, .int .u64 0, .int .i64 2, .int .u64 10, .int .u64 0, .int .i64 0, .int .i64 0]] w (NewDep awK w) at HNEW
  have HNEW := Lib.hid HNEW
  have E0 := Lib.hid e0
  have E1 := Lib.hid e1
  have E2 := Lib.hid e2
  have E3 := Lib.hid e3
  have E4 := Lib.hid e4
  have E5 := Lib.hid e5
  have E6 := Lib.hid e6
  have E7 := Lib.hid e7
  have Q0 := Lib.hid q0
  have Q1 := Lib.hid q1
  have Q2 := Lib.hid q2
  have Q3 := Lib.hid q3
  have Q4 := Lib.hid q4
  have Q5 := Lib.hid q5
  clear e0 e1 e2 e3 e4 e5 e6 e7 q0 q1 q2 q3 q4 q5
  go_enter Tryz.func7, Tryz.ntmps7
  go_wp2_with fail
  refine HNEW.out.mono ?_
  rintro e w0 ⟨A, rfl, D0, hge, F0⟩
  have hlow := D0.low
  have HLOW := Lib.hid hlow
  have HGE := Lib.hid hge
  have HD0 : Hid (IsDep w0 A M0) := Lib.hid (by rw [← E0.out]; exact D0)
  have HF0 := Lib.hid F0
  clear D0 hlow hge F0 HNEW
  go_wp2_with fail
  refine (lawOne_spec _ 1 5).mono ?_
  rintro e u1 ⟨⟨xa, xm, rfl, ⟨ya, yc, rfl⟩, hM⟩, G1⟩
  have HOF := offerD_spec (nargs := 1) (HD0.out.fr0 G1) 0 (by decide) Q0.out.1 Q0.out.2.1 Q0.out.2.2.2 ⟨ya, yc, rfl⟩ hM (by simp)
  rw [E1.out] at HOF
  have HOF := Lib.hid HOF
  obtain ⟨ym, yd, rfl, -, -⟩ := hM
  have zG1 := G1.size
  go_wp2_with fail
  refine HOF.out.mono ?_
  rintro e v1 ⟨pa1, po1, rfl, D1, H1, ra1, ro1⟩
  obtain ⟨gA, cA, csA, hvA, hgA, HA, ea0, ea1, ea2⟩ := row3 (show v1.ownsRow _ _ 3 _ 1 [.bool true, .int .i64 1, .int .u64 10] from ra1)
  subst hvA
  obtain ⟨qo1, qd1, hvo1⟩ := ownsFormD ro1
  change po1 = .slice qo1 0 qd1 at hvo1
  subst hvo1
  have zH1 := H1.size
  have B1 := block_alloc_new v1 (.cells #[.slice (some ⟨gA, 0, none⟩) 1 cA, .slice qo1 0 qd1] 57)
  have HB1 := Lib.hid B1
  have P1 := Lib.hid (((G1.mono (S' := A.list) (by simp)).trans H1).alloc (.cells #[.slice (some ⟨gA, 0, none⟩) 1 cA, .slice qo1 0 qd1] 57))
  have HD1 : Hid (IsDep (v1.alloc (.cells #[.slice (some ⟨gA, 0, none⟩) 1 cA, .slice qo1 0 qd1] 57)) A M1) := Lib.hid (D1.fr0 ((Fr.refl [] _).alloc (.cells #[.slice (some ⟨gA, 0, none⟩) 1 cA, .slice qo1 0 qd1] 57)))
  have zb1 : v1.heap.size < (v1.alloc (.cells #[.slice (some ⟨gA, 0, none⟩) 1 cA, .slice qo1 0 qd1] 57)).heap.size := by simp
  have zs1 := World.size_alloc v1 (.cells #[.slice (some ⟨gA, 0, none⟩) 1 cA, .slice qo1 0 qd1] 57)
  have HRA := Lib.hid (block_alloc HA (.cells #[.slice (some ⟨gA, 0, none⟩) 1 cA, .slice qo1 0 qd1] 57))
  have HEA := Lib.hid (And.intro ea0 (And.intro ea1 ea2))
  clear B1 D1 H1 ra1 ro1 G1 HA ea0 ea1 ea2 HOF
  go_wp2_with fail
  generalize (v1.alloc (.cells #[.slice (some ⟨gA, 0, none⟩) 1 cA, .slice qo1 0 qd1] 57)) = w1 at *
  refine (lawOne_spec _ 2 6).mono ?_
  rintro e u2 ⟨⟨xa, xm, rfl, ⟨ya, yc, rfl⟩, hM⟩, G2⟩
  have HOF := offerD_spec (nargs := 1) (HD1.out.fr0 G2) 1 (by decide) Q1.out.1 Q1.out.2.1 Q1.out.2.2.2 ⟨ya, yc, rfl⟩ hM (by simp)
  rw [E2.out] at HOF
  have HOF := Lib.hid HOF
  obtain ⟨ym, yd, rfl, -, -⟩ := hM
  have zG2 := G2.size
  go_wp2_with fail
  refine HOF.out.mono ?_
  rintro e v2 ⟨pa2, po2, rfl, D2, H2, ra2, ro2⟩
  obtain ⟨qa2, qc2, hva2⟩ := ownsFormD ra2
  change pa2 = .slice qa2 1 qc2 at hva2
  subst hva2
  obtain ⟨qo2, qd2, hvo2⟩ := ownsFormD ro2
  change po2 = .slice qo2 0 qd2 at hvo2
  subst hvo2
  have zH2 := H2.size
  have B2 := block_alloc_new v2 (.cells #[.slice qa2 1 qc2, .slice qo2 0 qd2] 57)
  have HB2 := Lib.hid B2
  have P2 := Lib.hid (((G2.mono (S' := A.list) (by simp)).trans H2).alloc (.cells #[.slice qa2 1 qc2, .slice qo2 0 qd2] 57))
  have HD2 : Hid (IsDep (v2.alloc (.cells #[.slice qa2 1 qc2, .slice qo2 0 qd2] 57)) A M2) := Lib.hid (D2.fr0 ((Fr.refl [] _).alloc (.cells #[.slice qa2 1 qc2, .slice qo2 0 qd2] 57)))
  have zb2 : v2.heap.size < (v2.alloc (.cells #[.slice qa2 1 qc2, .slice qo2 0 qd2] 57)).heap.size := by simp
  have zs2 := World.size_alloc v2 (.cells #[.slice qa2 1 qc2, .slice qo2 0 qd2] 57)
  clear B2 D2 H2 ra2 ro2 G2 HOF
  go_wp2_with fail
  generalize (v2.alloc (.cells #[.slice qa2 1 qc2, .slice qo2 0 qd2] 57)) = w2 at *
  refine (lawOne_spec _ 3 7).mono ?_
  rintro e u3 ⟨⟨xa, xm, rfl, ⟨ya, yc, rfl⟩, hM⟩, G3⟩
  have HOF := offerD_spec (nargs := 1) (HD2.out.fr0 G3) 2 (by decide) Q2.out.1 Q2.out.2.1 Q2.out.2.2.2 ⟨ya, yc, rfl⟩ hM (by simp)
  rw [E3.out] at HOF
  have HOF := Lib.hid HOF
  obtain ⟨ym, yd, rfl, -, -⟩ := hM
  have zG3 := G3.size
  go_wp2_with fail
  refine HOF.out.mono ?_
  rintro e v3 ⟨pa3, po3, rfl, D3, H3, ra3, ro3⟩
  obtain ⟨qa3, qc3, hva3⟩ := ownsFormD ra3
  change pa3 = .slice qa3 0 qc3 at hva3
  subst hva3
  obtain ⟨gX, cX, csX, hvX, hgX, HX, ex2⟩ := row5 (show v3.ownsRow _ _ 5 _ 1 [.int .i64 3, .int .i64 4, .int .i64 3, .int .i64 0, .int .u64 2] from ro3)
  subst hvX
  have zH3 := H3.size
  have B3 := block_alloc_new v3 (.cells #[.slice qa3 0 qc3, .slice (some ⟨gX, 0, none⟩) 1 cX] 57)
  have HB3 := Lib.hid B3
  have P3 := Lib.hid (((G3.mono (S' := A.list) (by simp)).trans H3).alloc (.cells #[.slice qa3 0 qc3, .slice (some ⟨gX, 0, none⟩) 1 cX] 57))
  have HD3 : Hid (IsDep (v3.alloc (.cells #[.slice qa3 0 qc3, .slice (some ⟨gX, 0, none⟩) 1 cX] 57)) A M3) := Lib.hid (D3.fr0 ((Fr.refl [] _).alloc (.cells #[.slice qa3 0 qc3, .slice (some ⟨gX, 0, none⟩) 1 cX] 57)))
  have zb3 : v3.heap.size < (v3.alloc (.cells #[.slice qa3 0 qc3, .slice (some ⟨gX, 0, none⟩) 1 cX] 57)).heap.size := by simp
  have zs3 := World.size_alloc v3 (.cells #[.slice qa3 0 qc3, .slice (some ⟨gX, 0, none⟩) 1 cX] 57)
  have HRX := Lib.hid (block_alloc HX (.cells #[.slice qa3 0 qc3, .slice (some ⟨gX, 0, none⟩) 1 cX] 57))
  have HEX := Lib.hid ex2
  clear B3 D3 H3 ra3 ro3 G3 HX ex2 HOF
  go_wp2_with fail
  generalize (v3.alloc (.cells #[.slice qa3 0 qc3, .slice (some ⟨gX, 0, none⟩) 1 cX] 57)) = w3 at *
  have HLA := lateD_spec HD3.out 10 (by decide) Q3.out.2.1 Q3.out.2.2.2 1
  rw [E4.out] at HLA
  have HLA := Lib.hid HLA
  refine HLA.out.mono ?_
  rintro e v4 ⟨pa4, po4, rfl, D4, H4, ra4, ro4⟩
  clear HLA
  obtain ⟨qa4, qc4, hva4⟩ := ownsFormD ra4
  change pa4 = .slice qa4 0 qc4 at hva4
  subst hva4
  obtain ⟨qo4, qd4, hvo4⟩ := ownsFormD ro4
  change po4 = .slice qo4 1 qd4 at hvo4
  subst hvo4
  have zH4 := H4.size
  have B4 := block_alloc_new v4 (.cells #[.slice qa4 0 qc4, .slice qo4 1 qd4] 57)
  have HB4 := Lib.hid B4
  have P4 := Lib.hid (H4.alloc (.cells #[.slice qa4 0 qc4, .slice qo4 1 qd4] 57))
  have HD4 : Hid (IsDep (v4.alloc (.cells #[.slice qa4 0 qc4, .slice qo4 1 qd4] 57)) A M4) := Lib.hid (D4.fr0 ((Fr.refl [] _).alloc (.cells #[.slice qa4 0 qc4, .slice qo4 1 qd4] 57)))
  have zb4 : v4.heap.size < (v4.alloc (.cells #[.slice qa4 0 qc4, .slice qo4 1 qd4] 57)).heap.size := by simp
  have zs4 := World.size_alloc v4 (.cells #[.slice qa4 0 qc4, .slice qo4 1 qd4] 57)
  clear B4 D4 H4 ra4 ro4
  go_wp2_with fail
  generalize (v4.alloc (.cells #[.slice qa4 0 qc4, .slice qo4 1 qd4] 57)) = w4 at *
  have HLA := lateD_spec HD4.out 11 (by decide) Q4.out.2.1 Q4.out.2.2.2 2
  rw [E5.out] at HLA
  have HLA := Lib.hid HLA
  refine HLA.out.mono ?_
  rintro e v5 ⟨pa5, po5, rfl, D5, H5, ra5, ro5⟩
  clear HLA
  obtain ⟨qa5, qc5, hva5⟩ := ownsFormD ra5
  change pa5 = .slice qa5 0 qc5 at hva5
  subst hva5
  obtain ⟨qo5, qd5, hvo5⟩ := ownsFormD ro5
  change po5 = .slice qo5 1 qd5 at hvo5
  subst hvo5
  have zH5 := H5.size
  have B5 := block_alloc_new v5 (.cells #[.slice qa5 0 qc5, .slice qo5 1 qd5] 57)
  have HB5 := Lib.hid B5
  have P5 := Lib.hid (H5.alloc (.cells #[.slice qa5 0 qc5, .slice qo5 1 qd5] 57))
  have HD5 : Hid (IsDep (v5.alloc (.cells #[.slice qa5 0 qc5, .slice qo5 1 qd5] 57)) A M5) := Lib.hid (D5.fr0 ((Fr.refl [] _).alloc (.cells #[.slice qa5 0 qc5, .slice qo5 1 qd5] 57)))
  have zb5 : v5.heap.size < (v5.alloc (.cells #[.slice qa5 0 qc5, .slice qo5 1 qd5] 57)).heap.size := by simp
  have zs5 := World.size_alloc v5 (.cells #[.slice qa5 0 qc5, .slice qo5 1 qd5] 57)
  clear B5 D5 H5 ra5 ro5
  go_wp2_with fail
  generalize (v5.alloc (.cells #[.slice qa5 0 qc5, .slice qo5 1 qd5] 57)) = w5 at *
  have IB := block_alloc_new w5 (.cells #[.int .i64 9] 3)
  have G6 := (Fr.refl [] w5).alloc (.cells #[.int .i64 9] 3)
  have hlo := HLOW.out
  have zz5 : w0.heap.size ≤ w5.heap.size := by omega
  have zG6 := G6.size
  rw [zs5] at IB
  have HAN := answerD_spec (HD5.out.fr0 G6) 20 (by decide) Q5.out.2.1 Q5.out.2.2.1 Q5.out.2.2.2 1 true (vv := .slice (some ⟨v5.heap.size + 1, 0, none⟩) 1 1) (vals := [9]) ⟨_, 1, rfl, Nat.le_refl _, (fun h => by cases h), fun j hj => ⟨v5.heap.size + 1, 0, rfl, by simp at hj; subst hj; exact (cell_of_block IB 0).trans rfl⟩⟩ (.inr (fun g hg hm => by simp [Value.ownBlock] at hg; subst hg; have := hlo _ hm; omega)) (by simp)
  rw [E6.out] at HAN
  have HAN := Lib.hid HAN
  clear IB hlo
  refine HAN.out.mono ?_
  rintro e v6 ⟨pa6, po6, rfl, D6, H6, ra6, ro6⟩
  clear HAN
  obtain ⟨qa6, qc6, hva6⟩ := ownsFormD ra6
  change pa6 = .slice qa6 0 qc6 at hva6
  subst hva6
  obtain ⟨qo6, qd6, hvo6⟩ := ownsFormD ro6
  change po6 = .slice qo6 0 qd6 at hvo6
  subst hvo6
  have zH6 := H6.size
  have B6 := block_alloc_new v6 (.cells #[.slice qa6 0 qc6, .slice qo6 0 qd6] 57)
  have HB6 := Lib.hid B6
  have P6 := Lib.hid (((G6.mono (S' := A.list) (by simp)).trans H6).alloc (.cells #[.slice qa6 0 qc6, .slice qo6 0 qd6] 57))
  have HD6 : Hid (IsDep (v6.alloc (.cells #[.slice qa6 0 qc6, .slice qo6 0 qd6] 57)) A M6) := Lib.hid (D6.fr0 ((Fr.refl [] _).alloc (.cells #[.slice qa6 0 qc6, .slice qo6 0 qd6] 57)))
  have zb6 : v6.heap.size < (v6.alloc (.cells #[.slice qa6 0 qc6, .slice qo6 0 qd6] 57)).heap.size := by simp
  have zs6 := World.size_alloc v6 (.cells #[.slice qa6 0 qc6, .slice qo6 0 qd6] 57)
  clear B6 D6 H6 ra6 ro6 G6
  go_wp2_with fail
  generalize (v6.alloc (.cells #[.slice qa6 0 qc6, .slice qo6 0 qd6] 57)) = w6 at *
  have HSN := Lib.hid (snapD_spec HD6.out 20 (by decide))
  refine HSN.out.mono ?_
  rintro e w7 ⟨rfl, D7, H7⟩
  rw [E7.out]
  have T7 : Fr A.list w7 w7 := Fr.refl _ _
  have T6 := H7
  have T5 := P6.out.trans T6
  have T4 := P5.out.trans T5
  have T3 := P4.out.trans T4
  have T2 := P3.out.trans T3
  have T1 := P2.out.trans T2
  have T0 := P1.out.trans T1
  have hlo := HLOW.out
  have zw7 := H7.size
  have SB := block_alloc_new w7 (.cells #[.int .i64 0, .int .i64 0, .int .i64 0, .int .i64 0, .int .i64 1, .int .u64 0, .int .u64 0, .int .u64 2, .int .u64 0, .int .u64 0, .int .u64 0, .int .u64 0] 75)
  have bb1 := block_alloc (T1.keep HB1.out (fun h => by have := hlo _ h; omega)) (.cells #[.int .i64 0, .int .i64 0, .int .i64 0, .int .i64 0, .int .i64 1, .int .u64 0, .int .u64 0, .int .u64 2, .int .u64 0, .int .u64 0, .int .u64 0, .int .u64 0] 75)
  have bc1 := cell_of_block bb1 0
  have bd1 := cell_of_block bb1 1
  have bb2 := block_alloc (T2.keep HB2.out (fun h => by have := hlo _ h; omega)) (.cells #[.int .i64 0, .int .i64 0, .int .i64 0, .int .i64 0, .int .i64 1, .int .u64 0, .int .u64 0, .int .u64 2, .int .u64 0, .int .u64 0, .int .u64 0, .int .u64 0] 75)
  have bc2 := cell_of_block bb2 0
  have bd2 := cell_of_block bb2 1
  have bb3 := block_alloc (T3.keep HB3.out (fun h => by have := hlo _ h; omega)) (.cells #[.int .i64 0, .int .i64 0, .int .i64 0, .int .i64 0, .int .i64 1, .int .u64 0, .int .u64 0, .int .u64 2, .int .u64 0, .int .u64 0, .int .u64 0, .int .u64 0] 75)
  have bc3 := cell_of_block bb3 0
  have bd3 := cell_of_block bb3 1
  have bb4 := block_alloc (T4.keep HB4.out (fun h => by have := hlo _ h; omega)) (.cells #[.int .i64 0, .int .i64 0, .int .i64 0, .int .i64 0, .int .i64 1, .int .u64 0, .int .u64 0, .int .u64 2, .int .u64 0, .int .u64 0, .int .u64 0, .int .u64 0] 75)
  have bc4 := cell_of_block bb4 0
  have bd4 := cell_of_block bb4 1
  have bb5 := block_alloc (T5.keep HB5.out (fun h => by have := hlo _ h; omega)) (.cells #[.int .i64 0, .int .i64 0, .int .i64 0, .int .i64 0, .int .i64 1, .int .u64 0, .int .u64 0, .int .u64 2, .int .u64 0, .int .u64 0, .int .u64 0, .int .u64 0] 75)
  have bc5 := cell_of_block bb5 0
  have bd5 := cell_of_block bb5 1
  have bb6 := block_alloc (T6.keep HB6.out (fun h => by have := hlo _ h; omega)) (.cells #[.int .i64 0, .int .i64 0, .int .i64 0, .int .i64 0, .int .i64 1, .int .u64 0, .int .u64 0, .int .u64 2, .int .u64 0, .int .u64 0, .int .u64 0, .int .u64 0] 75)
  have bc6 := cell_of_block bb6 0
  have bd6 := cell_of_block bb6 1
  have rA := block_alloc (T1.keep HRA.out (fun h => by have := hlo _ h; omega)) (.cells #[.int .i64 0, .int .i64 0, .int .i64 0, .int .i64 0, .int .i64 1, .int .u64 0, .int .u64 0, .int .u64 2, .int .u64 0, .int .u64 0, .int .u64 0, .int .u64 0] 75)
  have rX := block_alloc (T3.keep HRX.out (fun h => by have := hlo _ h; omega)) (.cells #[.int .i64 0, .int .i64 0, .int .i64 0, .int .i64 0, .int .i64 1, .int .u64 0, .int .u64 0, .int .u64 2, .int .u64 0, .int .u64 0, .int .u64 0, .int .u64 0] 75)
  have fa0 := (cell_of_block rA 0).trans HEA.out.1
  have fa1 := (cell_of_block rA 1).trans HEA.out.2.1
  have fa2 := (cell_of_block rA 2).trans HEA.out.2.2
  have fx2 := (cell_of_block rX 2).trans HEX.out
  have eqa := eqAct (w7.alloc (.cells #[.int .i64 0, .int .i64 0, .int .i64 0, .int .i64 0, .int .i64 1, .int .u64 0, .int .u64 0, .int .u64 2, .int .u64 0, .int .u64 0, .int .u64 0, .int .u64 0] 75))
  have eqc := eq_arr5D 0 0 2 0 0 0 0 2 0 0 (w7.alloc (.cells #[.int .i64 0, .int .i64 0, .int .i64 0, .int .i64 0, .int .i64 1, .int .u64 0, .int .u64 0, .int .u64 2, .int .u64 0, .int .u64 0, .int .u64 0, .int .u64 0] 75))
  have HEND := Lib.hid ((HF0.out.trans' T0 (fun x hx => .inr (HGE.out x hx))).alloc (.cells #[.int .i64 0, .int .i64 0, .int .i64 0, .int .i64 0, .int .i64 1, .int .u64 0, .int .u64 0, .int .u64 2, .int .u64 0, .int .u64 0, .int .u64 0, .int .u64 0] 75))
  clear hlo HSN D7 H7 T0 T1 T2 T3 T4 T5 T6 T7 bb1 bb2 bb3 bb4 bb5 bb6 rA rX HB1 HB2 HB3 HB4 HB5 HB6 P1 P2 P3 P4 P5 P6 HD0 HD1 HD2 HD3 HD4 HD5 HD6 HRA HRX HEA HEX
  go_wp2_with fail
  go_ret
  exact ⟨rfl, HEND.out⟩
end Go.Proofs.YtcnkhjgpjchkeaaGreat

namespace Go.Proofs.YtcnkhjgpjchkeaaGreat
open Go.RowKit

theorem DepM.count_k (M : DepM) (now : Nat) (id : Int) (kind : Nat) : (M.count now id kind).k = M.k := by
  obtain ⟨_, _, _, e⟩ := M.count_eq now id kind
  rw [e]
theorem fall_k (σ : DS) (now : Nat) (c : CallM) (cause : Int) : (σ.fall now c cause).M.k = σ.M.k := (Same.fall σ now c cause).k
theorem deed_k {M : DepM} (hi : DInv M NoOne) (now : Nat) (d : Dd) : (M.deed now d).1.M.k = M.k := by
  unfold DepM.deed
  repeat' split
  · unfold DepM.offer
    split
    · rfl
    · split
      · rfl
      · rename_i hk
        have W := offer_way hi now (by simpa using hk) ⟨d.args.length, d.ms, 1, 0, 0, now⟩
        show (DS.offer ⟨M, [], []⟩ now (leadOf d.ms) ⟨d.args.length, d.ms, 1, 0, 0, now⟩).M.k = M.k
        generalize DS.offer ⟨M, [], []⟩ now (leadOf d.ms) ⟨d.args.length, d.ms, 1, 0, 0, now⟩ = R at W
        cases W with
        | short _ => exact fall_k _ _ _ _
        | rej br _ => exact (fall_k _ _ _ _).trans (DepM.count_k _ _ _ _)
        | runs p _ _ => exact (Same.runs _ _).k.trans (Same.keep _ _).k
        | waits p _ _ => exact DepM.keep_k _ _
        | turn p y t _ _ => exact (Same.runs _ _).k.trans (Same.keep _ _).k
  · show M.pick.1.k = M.k
    unfold DepM.pick
    split
    · split
      · rfl
      · exact (Same.runs _ _).k
    · rfl
  · unfold DepM.answer
    repeat' split
    · exact (DepM.keep_k _ _).trans (DepM.count_k _ _ _ _)
    · exact (fall_k _ _ _ _).trans (DepM.count_k _ _ _ _)
    · exact DepM.keep_k _ _
    · rfl
  · unfold DepM.fallback
    repeat' split
    · exact DepM.keep_k _ _
    · exact fall_k _ _ _ _
    · exact DepM.keep_k _ _
    · rfl
  · show (M.late now d.id).M.k = M.k
    unfold DepM.late
    repeat' split
    · rfl
    · exact (fall_k _ _ _ _).trans (DepM.count_k _ _ _ _)
    · exact (fall_k _ _ _ _).trans (DepM.count_k _ _ _ _)
    · exact fall_k _ _ _ _
/-- A dependency of configuration k lies at A, as M, n deeds on; it was made behind wx. -/
structure DI (k : CF) (A : DepA) (wx wr : World) (n : Nat) (M : DepM) : Prop where
  dep : IsDep wr A M
  inv : DInv M NoOne
  sz : DSz n M
  k : M.k = k
  fr : Fr [] wx wr
  ge : ∀ x ∈ A.list, wx.heap.size ≤ x
section
variable {k : CF} {A : DepA} {wx wr : World} {n : Nat} {M : DepM} (h : DI k A wx wr n M)
include h
theorem DI.fr0 {w' : World} (F : Fr [] wr w') : DI k A wx w' n M := ⟨h.dep.fr0 F, h.inv, h.sz, h.k, h.fr.trans F, h.ge⟩
theorem DI.step {w' : World} {M' : DepM} {m : Nat} (F : Fr A.list wr w') (hd : IsDep w' A M') (hi : DInv M' NoOne) (hz : DSz m M') (hk : M'.k = M.k) : DI k A wx w' m M' :=
  ⟨hd, hi, hz, hk.trans h.k, h.fr.trans' F fun s hs => .inr (h.ge s hs), h.ge⟩
theorem DI.ch : 0 ≤ M.k.ch ∧ M.k.ch ≤ 3 := (CF.okay h.dep.fine h.dep.ran).ch
theorem DI.deed {w' : World} {now : Nat} (hnow : now < 18446744073709551616) {d : Dd} (hd : d.small) {err : Int} {e : Ending} (R : PubR wr A (M.deed now d).1 err e w') : DI k A wx w' (n + 1) (M.deed now d).1.M := by
  obtain ⟨_, _, _, D, F, _, _⟩ := R
  exact h.step F D (h.inv.deed h.ch now hd) (h.sz.deed h.inv hnow d) (deed_k h.inv now d)
theorem DI.seen {w' : World} {now : Nat} {e : Ending} (R : SnapR wr A M now e w') : DI k A wx w' n (M.seen now) := by
  obtain ⟨_, D, F⟩ := R
  exact h.step F D (h.inv.seen now) (h.sz.seen now) rfl
/-- The bounds. -/
theorem DI.bounds : (M.run.length : Int) ≤ k.pool + k.sem ∧ (M.wait.length : Int) ≤ k.queue ∧ (M.falls.length : Int) ≤ k.fb ∧ M.run.length ≤ M.calls.length ∧ M.wait.length ≤ M.calls.length := by
  have O := CF.okay h.dep.fine h.dep.ran
  have L := h.dep.bulk.lens
  have S := h.dep.falls.2.2.1
  obtain ⟨l1, l2⟩ := h.inv.lens
  have e1 : M.pool = M.k.most.toNat := rfl
  have e2 : M.que = M.k.que.toNat := rfl
  rw [h.k] at O S e1 e2
  have h1 := O.most; have h2 := O.que; have h3 := O.pool; have h4 := O.queue; have h5 := O.sem; have h6 := O.fb
  have m1 : k.most ≤ k.pool + k.sem := by unfold CF.most; split <;> omega
  have m2 : k.que ≤ k.queue := by unfold CF.que; split <;> omega
  exact ⟨by omega, by omega, by omega, l1, l2⟩
end
theorem DI.new {k : CF} {A : DepA} {wx wr : World} (hd : IsDep wr A (DepM.new k)) (hge : ∀ x ∈ A.list, wx.heap.size ≤ x) (F : Fr [] wx wr) : DI k A wx wr 0 (DepM.new k) :=
  ⟨hd, DInv.new k, ⟨by show 0 < 18446744073709551616; decide, Nat.le_refl _, Nat.le_refl _⟩, rfl, F, hge⟩
/-- A deed's values lie in no block of the dependency's. -/
theorem DI.apart {k : CF} {A : DepA} {w wx wr : World} {n : Nat} {M : DepM} (h : DI k A wx wr n M) (F : w.heap.size ≤ wx.heap.size) {vv : Value} {xs : List Int} (hv : RdInts w vv xs) : RdInts wr (.slice none 0 0) [] ∧ (xs = [] ∨ ∀ g, vv.ownBlock = some g → g ∉ A.list) := by
  refine ⟨⟨none, 0, rfl, Nat.le_refl _, fun _ => rfl, fun j hj => by simp at hj⟩, ?_⟩
  exact hv.noBlk (fun x hx => Nat.le_trans F (h.ge x hx))
/-- What Snap tells, written out. -/
theorem snapV_eq (M : DepM) (now : Nat) : M.snapV now = #[.int .i64 M.run.length, .int .i64 M.wait.length, .int .i64 M.falls.length, .int .i64 M.calls.length, .int .i64 M.br.st, .int .u64 (M.win.to now).cn.a, .int .u64 (M.win.to now).cn.b, .int .u64 (M.win.to now).cn.c, .int .u64 (M.win.to now).cn.d, .int .u64 (M.win.to now).cn.e, .int .u64 ((M.took.to now).pct 50 : Nat), .int .u64 ((M.took.to now).pct 100 : Nat)] := rfl
end Go.Proofs.YtcnkhjgpjchkeaaGreat

namespace Go.Proofs.YtcnkhjgpjchkeaaGreat
open Go.ChangeShapes Go.WideShapes Go.ChangeAt Go.RowKit Go.Deep

theorem own : ownKnob Tryz.prog.godebug = none := by kernel_rfl
theorem laid : laidOutB Tryz.prog = true := by kernel_rfl

theorem trodAll_below {H : Type} {enc : TypeId × Value → H} {W W' : World} (hb : Below W.heap.size W W') : ∀ (ts : List TypeId) (vs : List Value) (ds : List (DataW H)) (ps : List MemPlace),
    (ts.all fun t => Tryz.prog.readableRec t && decide (t < Tryz.prog.types.size)) = true → DataW.TrodAll enc Tryz.prog W 0 (fun _ => true) true ts vs ds ps → (∀ x ∈ ps, x.block < W.heap.size) →
    DataW.TrodAll enc Tryz.prog W' 0 (fun b => decide (b < W.heap.size)) true ts vs ds ps := by
  intro ts
  induction ts with
  | nil =>
    intro vs ds ps _ h _
    match vs, ds, h with
    | [], [], h => exact h
  | cons t ts ih =>
    intro vs ds ps ht h hp
    obtain ⟨v, vs', d, ds', p, q, rfl, rfl, rfl, h1, h2⟩ := trodAll_cons h
    rw [List.all_cons, Bool.and_eq_true, Bool.and_eq_true] at ht
    exact trodAll_cons_mk (Below.trod laid ht.1.1 (of_decide_eq_true ht.1.2) h1 hb (fun x hx => hp x (List.mem_append_left _ hx))) (ih vs' ds' q ht.2 h2 (fun x hx => hp x (List.mem_append_right _ hx)))

/-- The post of a law. -/
theorem law_post {H : Type} {enc : TypeId × Value → H} {f : Func} {s : ChangeSpec} {W W' : World} {args : Array Value} {ds gs : List (DataW H)} {before : List MemPlace}
    (hW : DataW.Whole enc Tryz.prog f.params.toList s.vars false W args.toList ds gs before) (hb : Below W.heap.size W W')
    (hv : s.vars = []) (hr : f.resultTypes = #[4]) (hp : (f.params.toList.all fun t => Tryz.prog.readableRec t && decide (t < Tryz.prog.types.size)) = true)
    (hres : (s.fn H (ds ++ gs)).results = [.lit (.bool true)]) (harg : (s.fn H (ds ++ gs)).args = ds) (hvar : (s.fn H (ds ++ gs)).vars = []) :
    s.post enc Tryz.prog f false true false false W args (.bool true) W' := by
  have hlt := hW.lt
  obtain ⟨p, q, hA, hV, rfl, hfz, hnd⟩ := hW
  refine ⟨ds, gs, p ++ q, [], p, [], ⟨p, q, hA, hV, rfl, hfz, hnd⟩, ?_, ?_, ?_, hb.frame _, fun h => by cases h⟩
  · rw [hr, hres]
    exact trodAll_cons_mk (shut_bool Tryz.underlying4 _) trodAll_mk0
  · rw [harg]
    exact trodAll_below hb _ _ _ _ hp hA (fun x hx => hlt x (by simp [hx]))
  · rw [hv, hvar]
    rfl

theorem cell_spot {w : World} {a : Addr} {v : Value} (h : w.cell? a = some v) : a.spot = none := by
  unfold World.cell? at h
  split at h
  · cases hs : a.spot with
    | none => rfl
    | some _ => simp [hs] at h
  · cases h

end Go.Proofs.YtcnkhjgpjchkeaaGreat

namespace Go.Proofs.YtcnkhjgpjchkeaaGreat
open Go.ChangeShapes Go.WideShapes Go.ChangeAt Go.RowKit Go.Deep

section
variable {H : Type} {enc : TypeId × Value → H} {P : Program} {w : World} {base : Nat} {spare : Nat → Bool} {held : Bool}

theorem okWide_arr {t e : TypeId} {n : Nat} {v : Value} {r : Reach} {b0 : Nat} (ht : P.underlying t = some (.array n e)) (h : Value.okWide P w r b0 t v) : ∃ cs, v = .agg cs ∧ cs.size = P.cellsOf t := by
  simp only [Value.okWide, ht] at h
  obtain ⟨cs, h1, h2, _⟩ := h
  exact ⟨cs, h1, h2⟩

theorem field_int {t : TypeId} {k : IntKind} {n i : Nat} {cs : List Value} {o : Option (DataW H × List MemPlace)} (hi : P.underlying t = some (.int k)) (hc : P.cellsOf t = 1)
    (h : DataW.trod enc P w base spare held n t ((cs.drop i).take (P.cellsOf t)) = o) (ho : o ≠ none) : ∃ x, cs[i]? = some (.int k x) ∧ (Lit.int k x).wf = true := by
  rw [hc] at h
  cases o with
  | none => exact absurd rfl ho
  | some y =>
    obtain ⟨x, e, _, hw⟩ := DataW.trod_int hi h
    refine ⟨x, ?_, hw⟩
    have := congrArg (fun l => l[0]?) e
    simpa using this

/-- An array of two numbers. -/
theorem open_arr2 {t e : TypeId} {k : IntKind} {v : Value} {d : DataW H} {p : List MemPlace} (ht : P.underlying t = some (.array 2 e)) (he : P.underlying e = some (.int k)) (hc : P.cellsOf e = 1) (hC : P.cellsOf t = 2) {r : Reach} {b0 : Nat} (hv : Value.okWide P w r b0 t v)
    (h : DataW.Trod enc P w base spare held t v d p) : ∃ a b, v = .agg #[.int k a, .int k b] ∧ (Lit.int k a).wf = true ∧ (Lit.int k b).wf = true := by
  obtain ⟨cs, rfl, hsz⟩ := okWide_arr ht hv
  obtain ⟨fuel, hf⟩ := h
  obtain ⟨xs, m, _, _, _, hxl, hx⟩ := DataW.trod_array ht hf
  obtain ⟨a, h0, w0⟩ := field_int (i := 0 * P.cellsOf e) he hc (hx 0 (by omega)) (by simp [hxl])
  obtain ⟨b, h1, w1⟩ := field_int (i := 1 * P.cellsOf e) he hc (hx 1 (by omega)) (by simp [hxl])
  rw [hc] at h0 h1
  rw [hC] at hsz
  obtain ⟨l⟩ := cs
  match l, hsz with
  | [c0, c1], _ =>
    simp only [Value.cells, Nat.zero_mul, Nat.one_mul, List.getElem?_cons_zero, List.getElem?_cons_succ, Option.some.injEq] at h0 h1
    subst h0 h1
    exact ⟨a, b, rfl, w0, w1⟩

/-- An array of three numbers. -/
theorem open_arr3 {t e : TypeId} {k : IntKind} {v : Value} {d : DataW H} {p : List MemPlace} (ht : P.underlying t = some (.array 3 e)) (he : P.underlying e = some (.int k)) (hc : P.cellsOf e = 1) (hC : P.cellsOf t = 3) {r : Reach} {b0 : Nat} (hv : Value.okWide P w r b0 t v)
    (h : DataW.Trod enc P w base spare held t v d p) : ∃ a b c, v = .agg #[.int k a, .int k b, .int k c] ∧ (Lit.int k a).wf = true ∧ (Lit.int k b).wf = true ∧ (Lit.int k c).wf = true := by
  obtain ⟨cs, rfl, hsz⟩ := okWide_arr ht hv
  obtain ⟨fuel, hf⟩ := h
  obtain ⟨xs, m, _, _, _, hxl, hx⟩ := DataW.trod_array ht hf
  obtain ⟨a, h0, w0⟩ := field_int (i := 0 * P.cellsOf e) he hc (hx 0 (by omega)) (by simp [hxl])
  obtain ⟨b, h1, w1⟩ := field_int (i := 1 * P.cellsOf e) he hc (hx 1 (by omega)) (by simp [hxl])
  obtain ⟨c, h2, w2⟩ := field_int (i := 2 * P.cellsOf e) he hc (hx 2 (by omega)) (by simp [hxl])
  rw [hc] at h0 h1 h2
  rw [hC] at hsz
  obtain ⟨l⟩ := cs
  match l, hsz with
  | [c0, c1, c2], _ =>
    simp only [Value.cells, Nat.mul_one, List.getElem?_cons_zero, List.getElem?_cons_succ, Option.some.injEq] at h0 h1 h2
    subst h0 h1 h2
    exact ⟨a, b, c, rfl, w0, w1, w2⟩
end

section
variable {H : Type} {enc : TypeId × Value → H} {w : World} {base : Nat} {spare : Nat → Bool} {held : Bool}
theorem u8_bounds {n : Int} (h : (Lit.int .u8 n).wf = true) : ∃ k : Nat, n = k ∧ k < 256 := by
  simp [Lit.wf, IntKind.min, IntKind.max, IntKind.signed, IntKind.bits] at h
  exact ⟨n.toNat, by omega, by omega⟩
end
end Go.Proofs.YtcnkhjgpjchkeaaGreat

namespace Go.Proofs.YtcnkhjgpjchkeaaGreat
open Go.ChangeShapes Go.WideShapes Go.ChangeAt Go.RowKit Go.Deep

/-- The numbers of a configuration are numbers of Go's. -/
def CF.Ran64 (k : CF) : Prop := I64 k.mode ∧ I64 k.pool ∧ I64 k.queue ∧ I64 k.sem ∧ I64 k.fb ∧ I64 k.ch ∧ I64 k.vo ∧ I64 k.pe ∧ I64 k.bu ∧ I64 k.ba ∧ I64 k.fo
theorem ranU {n : Int} (h : (Lit.int .u64 n).wf = true) : 0 ≤ n ∧ n < 18446744073709551616 := by
  simp [Lit.wf, IntKind.min, IntKind.max, IntKind.signed, IntKind.bits] at h
  omega
theorem u64_bd {n : Int} (h : (Lit.int .u64 n).wf = true) : ∃ k : Nat, n = k ∧ k < 18446744073709551616 := by
  obtain ⟨h1, h2⟩ := ranU h
  exact ⟨n.toNat, by omega, by omega⟩
theorem ranI {n : Int} (h : (Lit.int .i64 n).wf = true) : I64 n := by
  simp [Lit.wf, IntKind.min, IntKind.max, IntKind.signed, IntKind.bits] at h
  unfold I64; omega
section
variable {H : Type} {enc : TypeId × Value → H} {w : World} {base : Nat} {spare : Nat → Bool} {held : Bool}
set_option maxRecDepth 20000 in
/-- A configuration. -/
theorem open_confR {v : Value} {d : DataW H} {p : List MemPlace} {r : Reach} {b0 : Nat} (hv : Value.okWide Tryz.prog w r b0 24 v) (h : DataW.Trod enc Tryz.prog w base spare held 24 v d p) : ∃ c : CF, v = c.val ∧ c.Ran ∧ c.Ran64 := by
  obtain ⟨cs, rfl, hsz⟩ := okWide_struct Tryz.underlying24 hv
  rw [show Tryz.prog.cellsOf 24 = 16 by kernel_rfl] at hsz
  obtain ⟨fuel, hf⟩ := h
  obtain ⟨xs, m, _, _, _, hxl, hx⟩ := DataW.trod_struct Tryz.underlying24 hf
  have hxl' : xs.length = 16 := hxl
  obtain ⟨mode, h0, e0⟩ := field_int (i := 0) Tryz.underlying3 (by kernel_rfl) (hx 0 _ rfl) (by simp [hxl'])
  obtain ⟨pool, h1, e1⟩ := field_int (i := 1) Tryz.underlying3 (by kernel_rfl) (hx 1 _ rfl) (by simp [hxl'])
  obtain ⟨queue, h2, e2⟩ := field_int (i := 2) Tryz.underlying3 (by kernel_rfl) (hx 2 _ rfl) (by simp [hxl'])
  obtain ⟨sem, h3, e3⟩ := field_int (i := 3) Tryz.underlying3 (by kernel_rfl) (hx 3 _ rfl) (by simp [hxl'])
  obtain ⟨fb, h4, e4⟩ := field_int (i := 4) Tryz.underlying3 (by kernel_rfl) (hx 4 _ rfl) (by simp [hxl'])
  obtain ⟨ch, h5, e5⟩ := field_int (i := 5) Tryz.underlying3 (by kernel_rfl) (hx 5 _ rfl) (by simp [hxl'])
  obtain ⟨t, h6, e6⟩ := field_int (i := 6) Tryz.underlying22 (by kernel_rfl) (hx 6 _ rfl) (by simp [hxl'])
  obtain ⟨ft, h7, e7⟩ := field_int (i := 7) Tryz.underlying22 (by kernel_rfl) (hx 7 _ rfl) (by simp [hxl'])
  obtain ⟨vo, h8, e8⟩ := field_int (i := 8) Tryz.underlying3 (by kernel_rfl) (hx 8 _ rfl) (by simp [hxl'])
  obtain ⟨pe, h9, e9⟩ := field_int (i := 9) Tryz.underlying3 (by kernel_rfl) (hx 9 _ rfl) (by simp [hxl'])
  obtain ⟨sl, h10, e10⟩ := field_int (i := 10) Tryz.underlying22 (by kernel_rfl) (hx 10 _ rfl) (by simp [hxl'])
  obtain ⟨bu, h11, e11⟩ := field_int (i := 11) Tryz.underlying3 (by kernel_rfl) (hx 11 _ rfl) (by simp [hxl'])
  obtain ⟨wi, h12, e12⟩ := field_int (i := 12) Tryz.underlying22 (by kernel_rfl) (hx 12 _ rfl) (by simp [hxl'])
  obtain ⟨wd, h13, e13⟩ := field_int (i := 13) Tryz.underlying22 (by kernel_rfl) (hx 13 _ rfl) (by simp [hxl'])
  obtain ⟨ba, h14, e14⟩ := field_int (i := 14) Tryz.underlying3 (by kernel_rfl) (hx 14 _ rfl) (by simp [hxl'])
  obtain ⟨fo, h15, e15⟩ := field_int (i := 15) Tryz.underlying3 (by kernel_rfl) (hx 15 _ rfl) (by simp [hxl'])
  obtain ⟨l⟩ := cs
  match l, hsz with
  | [c0, c1, c2, c3, c4, c5, c6, c7, c8, c9, c10, c11, c12, c13, c14, c15], _ =>
    simp only [Value.cells, List.getElem?_cons_zero, List.getElem?_cons_succ, Option.some.injEq] at h0 h1 h2 h3 h4 h5 h6 h7 h8 h9 h10 h11 h12 h13 h14 h15
    subst h0 h1 h2 h3 h4 h5 h6 h7 h8 h9 h10 h11 h12 h13 h14 h15
    exact ⟨⟨mode, pool, queue, sem, fb, ch, t, ft, vo, pe, sl, bu, wi, wd, ba, fo⟩, rfl, ⟨ranU e6, ranU e7, ranU e10, ranU e12, ranU e13⟩, ⟨ranI e0, ranI e1, ranI e2, ranI e3, ranI e4, ranI e5, ranI e8, ranI e9, ranI e11, ranI e14, ranI e15⟩⟩
end
end Go.Proofs.YtcnkhjgpjchkeaaGreat

namespace Go.Proofs.YtcnkhjgpjchkeaaGreat
open Go.ChangeShapes Go.WideShapes Go.ChangeAt Go.RowKit Go.Deep

section
variable {H : Type} {enc : TypeId × Value → H} {P : Program} {w : World} {base : Nat} {spare : Nat → Bool} {held : Bool}
theorem take_oneD {cs : List Value} {i : Nat} {v : Value} (h : (cs.drop i).take 1 = [v]) : cs[i]? = some v := by
  have := congrArg (fun l => l[0]?) h
  simpa using this
theorem ints_ofD {sl i : TypeId} {cs : List Value} {fuel : Nat} {x : DataW H × List MemPlace} (ht : P.underlying sl = some (.slice i)) (hi : P.underlying i = some (.int .i64)) (hc : P.cellsOf i = 1)
    (h : DataW.trod enc P w base spare held fuel sl cs = some x) : ∃ v xs, cs = [v] ∧ RdInts w v xs := by
  rcases open_slice1 ht hc h with ⟨rfl, _⟩ | ⟨a, len, cap, m, n, V, D, Pl, rfl, hb, hl, hm, hmm, _, hx⟩
  · exact ⟨_, [], rfl, none, 0, rfl, Nat.le_refl _, fun _ => rfl, fun j hj => by simp at hj⟩
  · have key : ∀ k, k < len → ∃ y : Int, ∃ b o, a = ⟨b, o, none⟩ ∧ w.cell? ⟨b, o + k, none⟩ = some (.int .i64 y) := by
      intro k hk
      obtain ⟨h1, h2⟩ := hx k (by rw [hmm]; split <;> omega)
      obtain ⟨y, e, _, _⟩ := DataW.trod_int hi h2
      simp only [List.cons.injEq, and_true] at e
      have hsp := cell_spot (a := a) (hx 0 (by rw [hmm]; split <;> omega)).1
      obtain ⟨b, o, sp⟩ := a
      have hs0 : sp = none := hsp
      subst hs0
      rw [Addr.add_lit] at h1
      exact ⟨y, b, o, rfl, by rw [h1, e]⟩
    obtain ⟨F, hF⟩ := choose_lt key
    refine ⟨_, (List.range len).map F, rfl, some a, cap, by simp, by simpa using hl, fun h => (by cases h), fun j hj => ?_⟩
    simp only [List.length_map, List.length_range] at hj
    obtain ⟨b, o, ha, h2⟩ := hF j hj
    refine ⟨b, o, by rw [ha], ?_⟩
    rw [h2]; simp [el, hj]
theorem pairs_ofD {sl e i : TypeId} {f0 f1 : Field} {cs : List Value} {fuel : Nat} {x : DataW H × List MemPlace} (ht : P.underlying sl = some (.slice e)) (he : P.underlying e = some (.struct #[f0, f1])) (h0 : f0.type = i ∧ f1.type = i ∧ f0.offset = 0 ∧ f1.offset = 1)
    (hi : P.underlying i = some (.int .i64)) (hc : P.cellsOf i = 1) (hC : P.cellsOf e = 2)
    (h : DataW.trod enc P w base spare held fuel sl cs = some x) : ∃ v ms, cs = [v] ∧ Rd2 w v ms := by
  obtain ⟨t0, t1, o0, o1⟩ := h0
  rcases open_slice ht h with ⟨hcs, hx⟩ | ⟨a, len, cap, m, n, D, Pl, hcs, hb, hl, hm, hmm, hx, hi'⟩
  · exact ⟨_, [], hcs, none, 0, rfl, fun j hj => by simp at hj⟩
  · have hspot : 0 < len → a.spot = none := by
      intro h0
      obtain ⟨cs', hc', _⟩ := hi' 0 (by rw [hmm]; split <;> omega)
      rw [hC] at hc'
      obtain ⟨_, hcl, hat⟩ := World.cells?_some hc'
      have h1 := hat 0 (by omega)
      rw [List.getElem?_eq_getElem (by omega), Nat.zero_mul] at h1
      exact cell_spot (a := a) h1
    have key : ∀ j, j < len → ∃ p : Int × Int, ∃ b o, a = ⟨b, o, none⟩ ∧ w.cell? ⟨b, o + j * 2, none⟩ = some (.int .i64 p.1) ∧ w.cell? ⟨b, o + j * 2 + 1, none⟩ = some (.int .i64 p.2) := by
      intro j hj
      obtain ⟨cs', hc', ht'⟩ := hi' j (by rw [hmm]; split <;> omega)
      rw [hC] at hc'
      obtain ⟨ys, n', hn', hy, hlen, hyl, hfl⟩ := DataW.trod_struct he ht'
      obtain ⟨_, hcl, hat⟩ := World.cells?_some hc'
      have fld : ∀ (q : Nat) (f : Field), #[f0, f1][q]? = some f → ∃ yq, DataW.trod enc P w base spare held n' f.type ((cs'.drop f.offset).take (P.cellsOf f.type)) = some yq := by
        intro q f hq
        have g := hfl q f hq
        have hq9 : q < 2 := (Array.getElem?_eq_some_iff.1 hq).1
        rw [List.getElem?_eq_getElem (by rw [hyl]; exact hq9)] at g
        exact ⟨_, g⟩
      obtain ⟨y0, q0⟩ := fld 0 f0 rfl
      rw [o0, t0, hc] at q0
      obtain ⟨x0, e0, _, _⟩ := DataW.trod_int hi q0
      obtain ⟨y1, q1⟩ := fld 1 f1 rfl
      rw [o1, t1, hc] at q1
      obtain ⟨x1, e1, _, _⟩ := DataW.trod_int hi q1
      have spot0 : a.spot = none := hspot (by omega)
      obtain ⟨b, o, sp⟩ := a
      have hs0 : sp = none := spot0
      subst hs0
      have at' : ∀ q u, q < 2 → cs'[q]? = some u → w.cell? ⟨b, o + j * 2 + q, none⟩ = some u := by
        intro q u hq hu'
        have h1 := hat q hq
        rw [hu', Addr.add_lit, Addr.add_lit] at h1
        exact h1
      exact ⟨(x0, x1), b, o, rfl, at' 0 _ (by omega) (take_oneD e0), at' 1 _ (by omega) (take_oneD e1)⟩
    obtain ⟨F, hF⟩ := choose_lt key
    refine ⟨_, (List.range len).map F, hcs, some a, cap, by simp, fun j hj => ?_⟩
    simp only [List.length_map, List.length_range] at hj
    obtain ⟨b, o, ha, h2, h3⟩ := hF j hj
    refine ⟨b, o, by rw [ha], ?_, ?_⟩
    · rw [h2]; simp [List.getD, hj]
    · rw [h3]; simp [List.getD, hj]
end

section
variable {H : Type} {enc : TypeId × Value → H} {w : World} {base : Nat} {spare : Nat → Bool} {held : Bool}
set_option maxRecDepth 20000 in
theorem open_dds {v : Value} {d : DataW H} {p : List MemPlace} {r : Reach} {b0 : Nat} (hv : Value.okWide Tryz.prog w r b0 25 v) (h : DataW.Trod enc Tryz.prog w base spare held 25 v d p) : ∃ l, Dds w v l := by
  have hC : Tryz.prog.cellsOf 54 = 8 := by kernel_rfl
  have hci : Tryz.prog.cellsOf 3 = 1 := by kernel_rfl
  have hcu : Tryz.prog.cellsOf 22 = 1 := by kernel_rfl
  have hcb : Tryz.prog.cellsOf 4 = 1 := by kernel_rfl
  have hcs1 : Tryz.prog.cellsOf 31 = 1 := by kernel_rfl
  have hcs2 : Tryz.prog.cellsOf 50 = 1 := by kernel_rfl
  have hcB : Tryz.prog.cellsOf 52 = 2 := by kernel_rfl
  have hcM : Tryz.prog.cellsOf 190 = 2 := by kernel_rfl
  obtain ⟨a0, len, cap, rfl⟩ := okWide_slice Tryz.underlying25 hv
  obtain ⟨fuel, hf⟩ := h
  rcases open_slice Tryz.underlying25 hf with ⟨hcs, hx⟩ | ⟨a, len', cap', m, n, D, Pl, hcs, hb, hl, hm, hmm, hx, hi'⟩
  · simp only [Value.cells, List.cons.injEq, Value.slice.injEq, and_true] at hcs
    obtain ⟨rfl, rfl, rfl⟩ := hcs
    exact ⟨[], none, 0, rfl, by simp, by simp, fun j hj => by simp at hj⟩
  · simp only [Value.cells, List.cons.injEq, Value.slice.injEq, and_true] at hcs
    obtain ⟨rfl, rfl, rfl⟩ := hcs
    have hspot : 0 < len → a.spot = none := by
      intro h0
      obtain ⟨cs', hc, _⟩ := hi' 0 (by rw [hmm]; split <;> omega)
      rw [hC] at hc
      obtain ⟨_, hcl, hat⟩ := World.cells?_some hc
      have h1 := hat 0 (by omega)
      rw [List.getElem?_eq_getElem (by omega), Nat.zero_mul] at h1
      exact cell_spot (a := a) h1
    have key : ∀ j, j < len → ∃ x : Dd, (∃ b o, a = ⟨b, o, none⟩ ∧ ∃ vv va vm, At8 w b (o + j * 8) x vv va vm ∧ DdV w vv va vm x) ∧ x.t < 18446744073709551616 := by
      intro j hj
      obtain ⟨cs', hc, ht'⟩ := hi' j (by rw [hmm]; split <;> omega)
      rw [hC] at hc
      obtain ⟨ys, n', hn', hy, hlen, hyl, hfl⟩ := DataW.trod_struct Tryz.underlying54 ht'
      obtain ⟨_, hcl, hat⟩ := World.cells?_some hc
      have hyl7 : ys.length = 7 := hyl
      have fld : ∀ (q : Nat) (o : Nat) (t : TypeId) (c : Nat), q < 7 → (ys[q]? = DataW.trod enc Tryz.prog w base spare held n' t ((cs'.drop o).take (Tryz.prog.cellsOf t)) ∨ DataW.trod enc Tryz.prog w base spare held n' t ((cs'.drop o).take (Tryz.prog.cellsOf t)) = ys[q]?) → Tryz.prog.cellsOf t = c → ∃ yq, DataW.trod enc Tryz.prog w base spare held n' t ((cs'.drop o).take c) = some yq := by
        intro q o t c hq hh hc'
        subst hc'
        have : ys[q]? = some (ys[q]'(by omega)) := List.getElem?_eq_getElem (by omega)
        rcases hh with hh | hh
        · exact ⟨_, hh.symm.trans this⟩
        · exact ⟨_, hh.trans this⟩
      obtain ⟨y0, q0⟩ := fld 0 0 3 1 (by omega) (by first | exact .inl (hfl 0 _ rfl) | exact .inr (hfl 0 _ rfl)) hci
      obtain ⟨x0, e0, _, _⟩ := DataW.trod_int Tryz.underlying3 q0
      obtain ⟨y1, q1⟩ := fld 1 1 3 1 (by omega) (by first | exact .inl (hfl 1 _ rfl) | exact .inr (hfl 1 _ rfl)) hci
      obtain ⟨x1, e1, _, _⟩ := DataW.trod_int Tryz.underlying3 q1
      obtain ⟨y2, q2⟩ := fld 2 2 3 1 (by omega) (by first | exact .inl (hfl 2 _ rfl) | exact .inr (hfl 2 _ rfl)) hci
      obtain ⟨x2, e2, _, _⟩ := DataW.trod_int Tryz.underlying3 q2
      obtain ⟨y3, q3⟩ := fld 3 3 22 1 (by omega) (by first | exact .inl (hfl 3 _ rfl) | exact .inr (hfl 3 _ rfl)) hcu
      obtain ⟨x3, e3, _, w3⟩ := DataW.trod_int Tryz.underlying22 q3
      obtain ⟨t3, rfl, ht3⟩ := u64_bd w3
      obtain ⟨y4, q4⟩ := fld 4 4 4 1 (by omega) (by first | exact .inl (hfl 4 _ rfl) | exact .inr (hfl 4 _ rfl)) hcb
      obtain ⟨x4, e4, _⟩ := DataW.trod_bool Tryz.underlying4 q4
      obtain ⟨y5, q5⟩ := fld 5 5 31 1 (by omega) (by first | exact .inl (hfl 5 _ rfl) | exact .inr (hfl 5 _ rfl)) hcs1
      obtain ⟨vv, vals, e5, hvv⟩ := ints_ofD Tryz.underlying31 Tryz.underlying3 hci q5
      obtain ⟨y6, q6⟩ := fld 6 6 52 2 (by omega) (by first | exact .inl (hfl 6 _ rfl) | exact .inr (hfl 6 _ rfl)) hcB
      obtain ⟨ys1, n1, _, _, _, hyl1, hfl1⟩ := DataW.trod_struct Tryz.underlying52 q6
      have hyl2 : ys1.length = 2 := hyl1
      have fld1 : ∀ (q : Nat) (o : Nat) (t : TypeId) (c : Nat), q < 2 → (ys1[q]? = DataW.trod enc Tryz.prog w base spare held n1 t ((((cs'.drop 6).take 2).drop o).take (Tryz.prog.cellsOf t)) ∨ DataW.trod enc Tryz.prog w base spare held n1 t ((((cs'.drop 6).take 2).drop o).take (Tryz.prog.cellsOf t)) = ys1[q]?) → Tryz.prog.cellsOf t = c → ∃ yq, DataW.trod enc Tryz.prog w base spare held n1 t ((((cs'.drop 6).take 2).drop o).take c) = some yq := by
        intro q o t c hq hh hc'
        subst hc'
        have : ys1[q]? = some (ys1[q]'(by omega)) := List.getElem?_eq_getElem (by omega)
        rcases hh with hh | hh
        · exact ⟨_, hh.symm.trans this⟩
        · exact ⟨_, hh.trans this⟩
      obtain ⟨z0, s0⟩ := fld1 0 0 31 1 (by omega) (by first | exact .inl (hfl1 0 _ rfl) | exact .inr (hfl1 0 _ rfl)) hcs1
      obtain ⟨va, args, e6, hva⟩ := ints_ofD Tryz.underlying31 Tryz.underlying3 hci s0
      obtain ⟨z1, s1⟩ := fld1 1 1 50 1 (by omega) (by first | exact .inl (hfl1 1 _ rfl) | exact .inr (hfl1 1 _ rfl)) hcs2
      obtain ⟨vm, ms, e7, hvm⟩ := pairs_ofD Tryz.underlying50 Tryz.underlying190 ⟨rfl, rfl, rfl, rfl⟩ Tryz.underlying3 hci hcM s1
      have k6' := take_oneD e6
      have k7' := take_oneD e7
      have k6 : cs'[6]? = some va := by simpa using k6'
      have k7 : cs'[7]? = some vm := by simpa using k7'
      have spot0 : a.spot = none := hspot (by omega)
      obtain ⟨b, o, sp⟩ := a
      have hs0 : sp = none := spot0
      subst hs0
      have at' : ∀ q u, q < 8 → cs'[q]? = some u → w.cell? ⟨b, o + j * 8 + q, none⟩ = some u := by
        intro q u hq hu'
        have h1 := hat q hq
        rw [hu', Addr.add_lit, Addr.add_lit] at h1
        exact h1
      exact ⟨⟨x0, x1, x2, t3, x4, vals, args, ms⟩, ⟨b, o, rfl, vv, va, vm, ⟨at' 0 _ (by omega) (take_oneD e0), at' 1 _ (by omega) (take_oneD e1), at' 2 _ (by omega) (take_oneD e2), at' 3 _ (by omega) (take_oneD e3), at' 4 _ (by omega) (take_oneD e4), at' 5 _ (by omega) (take_oneD e5), at' 6 _ (by omega) k6, at' 7 _ (by omega) k7⟩, ⟨hvv, hva, hvm⟩⟩, ht3⟩
    obtain ⟨F, hF⟩ := choose_lt key
    have hg : ∀ j, j < len → ((List.range len).map F).getD j default = F j := by
      intro j hj
      simp [List.getD, hj]
    refine ⟨(List.range len).map F, some a, cap, by simp, by simp; unfold maxLen at hm; omega, fun x hx => ?_, fun j hj => ?_⟩
    · simp only [List.mem_map, List.mem_range] at hx
      obtain ⟨j, hj, rfl⟩ := hx
      exact (hF j hj).2
    · simp only [List.length_map, List.length_range] at hj
      obtain ⟨⟨b, o, ha, vv, va, vm, h1, h2⟩, _⟩ := hF j hj
      rw [hg j hj]
      exact ⟨b, o, by rw [ha], vv, va, vm, h1, h2⟩
end
end Go.Proofs.YtcnkhjgpjchkeaaGreat

namespace Go.Proofs.YtcnkhjgpjchkeaaGreat
open Go.RowKit

/-- The breaker, the probe, and the calls' names. -/
structure BInv (M : DepM) : Prop where
  fo : M.br.force = M.k.fo
  st : M.br.st = 1 ∨ M.br.st = 2 ∨ M.br.st = 3
  fc : M.br.st ≠ 1 → M.br.force = 0
  pr : M.probe ≠ 0 → M.br.st = 3
  ids : ∀ y c, alook M.calls y = some c → 1 ≤ y
theorem fallN_ms {fs : List (Int × Int)} {fb : Nat} {chain cause id : Int} : ∀ (n : Nat) (c : CallM), (CallM.fallN fs fb chain cause id n c).1.ms = c.ms := by
  intro n
  induction n with
  | zero => intro c; rfl
  | succ n ih =>
    intro c
    rw [CallM.fallN_succ]
    split
    · exact (ih _).trans (c.fail_same cause chain).2.1
    · exact (c.fail_same cause chain).2.1
theorem BInv.keep {M : DepM} (h : BInv M) {c : CallM} (hc : 1 ≤ c.lead) : BInv (M.keep c) := by
  obtain ⟨cs, e, hl, -⟩ := M.keep_eq c
  rw [e]
  refine ⟨h.fo, h.st, h.fc, h.pr, fun y d hy => ?_⟩
  replace hy : alook cs y = some d := hy
  rw [hl] at hy
  split at hy
  · rename_i e; rw [e]; exact hc
  · exact h.ids y d hy
theorem BInv.fall {σ : DS} (h : BInv σ.M) (now : Nat) {c : CallM} (hc : 1 ≤ c.lead) (cause : Int) : BInv (σ.fall now c cause).M := by
  have hl : 1 ≤ (CallM.fallN σ.M.falls σ.M.k.fb.toNat σ.M.k.ch cause c.lead 5 c).1.lead := by rw [CallM.lead, fallN_ms]; exact hc
  unfold DS.fall
  split
  · exact BInv.keep (M := { σ.M with falls := σ.M.falls ++ [(c.lead, (CallM.fallN σ.M.falls σ.M.k.fb.toNat σ.M.k.ch cause c.lead 5 c).1.step)] }) ⟨h.fo, h.st, h.fc, h.pr, h.ids⟩ hl
  · exact h.keep hl
theorem BInv.lists {M : DepM} (h : BInv M) (r w : List Int) (f : List (Int × Int)) (wi t : WinM) : BInv { M with run := r, wait := w, falls := f, win := wi, took := t } := ⟨h.fo, h.st, h.fc, h.pr, h.ids⟩
theorem BInv.count {M : DepM} (h : BInv M) (now : Nat) (id : Int) (kind : Nat) : BInv (M.count now id kind) := by
  have h1 := h.fo; have h2 := h.st; have h3 := h.fc; have h4 := h.pr
  unfold DepM.count
  repeat' split
  · refine ⟨?_, ?_, ?_, ?_, h.ids⟩
    all_goals (simp only [Brk.trip]; split <;> simp_all)
  · exact ⟨h.fo, h.st, h.fc, h.pr, h.ids⟩
  · refine ⟨?_, ?_, ?_, ?_, h.ids⟩
    all_goals (simp only [Brk.done]; repeat' split)
    all_goals simp_all
  · refine ⟨?_, ?_, ?_, ?_, h.ids⟩
    all_goals (simp only [Brk.done]; repeat' split)
    all_goals simp_all
theorem BInv.seen {M : DepM} (h : BInv M) (now : Nat) : BInv (M.seen now) := ⟨h.fo, h.st, h.fc, h.pr, h.ids⟩
theorem BInv.new (k : CF) : BInv (DepM.new k) := ⟨rfl, .inl rfl, fun h => absurd rfl h, fun h => absurd rfl h, fun y c (h : alook ([] : List (Int × CallM)) y = some c) => (by cases h)⟩
theorem lead_of {M : DepM} (hi : DInv M NoOne) (h : BInv M) {y : Int} {c : CallM} (hc : alook M.calls y = some c) : M.call y = c ∧ c.lead = y ∧ 1 ≤ y ∧ 1 ≤ c.lead ∧ c.run.lead = y := by
  have h1 := (hi.ld y c hc).1
  have h2 := h.ids y c hc
  refine ⟨(DepM.call_of hc).1, h1, h2, by omega, ?_⟩
  rw [CallM.lead, c.run_same.2.1]; exact h1
/-- Each way of a deed: the counts and the breaker are as they were; or it was counted, as no probe; or else. -/
theorem BInv.ask {M : DepM} (h : BInv M) (now : Nat) (t : Int) (ht : (M.br.ask now).2 = t) :
    (t = 1 → (M.br.ask now).1 = M.br ∧ M.br.st = 1 ∧ M.br.force ≠ 1) ∧ (t = 2 → M.br.st = 2 ∧ M.br.force = 0 ∧ (M.br.ask now).1 = { M.br with st := 3 }) ∧ (t = 3 → (M.br.ask now).1 = M.br ∧ ¬ (M.br.st = 1 ∧ M.br.force = 0)) := by
  have h1 := h.st; have h2 := h.fc
  subst ht
  unfold Brk.ask
  by_cases e1 : M.br.force = 1
  · rw [if_pos e1]
    exact ⟨fun e => by simp at e, fun e => by simp at e, fun _ => ⟨rfl, fun e => by omega⟩⟩
  · rw [if_neg e1]
    by_cases e2 : M.br.force = 2 ∨ M.br.st = 1
    · rw [if_pos e2]
      refine ⟨fun _ => ⟨rfl, ?_, e1⟩, fun e => by simp at e, fun e => by simp at e⟩
      rcases e2 with e2 | e2
      · by_cases e3 : M.br.st = 1
        · exact e3
        · have := h2 e3; omega
      · exact e2
    · rw [if_neg e2]
      by_cases e3 : M.br.st = 2 ∧ sadd M.br.since M.br.sleep ≤ now
      · rw [if_pos e3]
        exact ⟨fun e => by simp at e, fun _ => ⟨e3.1, h2 (by omega), rfl⟩, fun e => by simp at e⟩
      · rw [if_neg e3]
        exact ⟨fun e => by simp at e, fun e => by simp at e, fun _ => ⟨rfl, fun e => e2 (.inr e.1)⟩⟩
theorem BInv.setBr {M : DepM} (h : BInv M) {br : Brk} (h1 : br.force = M.br.force) (h2 : br.st = 1 ∨ br.st = 2 ∨ br.st = 3) (h3 : br.st ≠ 1 → M.br.force = 0) (p : Int) (h4 : p ≠ 0 → br.st = 3) : BInv { M with br := br, probe := p } :=
  ⟨h1.trans h.fo, h2, fun e => h1.trans (h3 e), h4, h.ids⟩
theorem BInv.deed {M : DepM} (h : BInv M) (hi : DInv M NoOne) (now : Nat) (d : Dd) : BInv (M.deed now d).1.M := by
  unfold DepM.deed
  split
  · unfold DepM.offer
    split
    · exact h
    · rename_i hid
      split
      · exact h
      · rename_i hk
        have hid : 1 ≤ leadOf d.ms := by omega
        have W := offer_way hi now (by simpa using hk) ⟨d.args.length, d.ms, 1, 0, 0, now⟩
        have hc : 1 ≤ (CallM.mk d.args.length d.ms 1 0 0 now).lead := hid
        show BInv (DS.offer ⟨M, [], []⟩ now (leadOf d.ms) ⟨d.args.length, d.ms, 1, 0, 0, now⟩).M
        generalize DS.offer ⟨M, [], []⟩ now (leadOf d.ms) ⟨d.args.length, d.ms, 1, 0, 0, now⟩ = R at W
        have A := h.ask now _ rfl
        have hst := h.st
        have hB : ∀ p, ((M.br.ask now).2 = 1 ∧ p = M.probe ∨ (M.br.ask now).2 = 2 ∧ p = leadOf d.ms) → BInv { M with br := (M.br.ask now).1, probe := p } := by
          intro p hp
          rcases hp with ⟨ht, rfl⟩ | ⟨ht, rfl⟩
          · rw [(A.1 ht).1]; exact ⟨h.fo, h.st, h.fc, h.pr, h.ids⟩
          · obtain ⟨a1, a2, a3⟩ := A.2.1 ht
            rw [a3]
            exact h.setBr (br := { M.br with st := 3 }) rfl (.inr (.inr rfl)) (fun _ => a2) _ (fun _ => rfl)
        have hrun : ∀ {M1 : DepM} {y : Int}, BInv M1 → (M1.call y).run.lead = y ∨ 1 ≤ (M1.call y).run.lead → 1 ≤ y → BInv (M1.runs [y]) := by
          intro M1 y b1 b2 b3
          rw [DepM.runs_one]
          exact b1.keep (by rcases b2 with e | e <;> omega)
        cases W with
        | short ht =>
          refine BInv.fall (σ := ⟨{ M with br := (M.br.ask now).1, win := M.win.add now 4 }, [], []⟩) ?_ now hc 4
          rw [(A.2.2 ht).1]; exact ⟨h.fo, h.st, h.fc, h.pr, h.ids⟩
        | rej br hb =>
          refine BInv.fall (σ := ⟨_, [], []⟩) (BInv.count (M := { M with br := br }) ?_ now _ 3) now hc 3
          rcases hb with ⟨ht, e⟩ | ⟨ht, e⟩
          · rw [e, (A.1 ht).1]; exact h
          · obtain ⟨a1, a2, a3⟩ := A.2.1 ht
            rw [e, a3]
            exact ⟨h.fo, .inr (.inl rfl), fun _ => a2, fun hp => by have := h.pr hp; omega, h.ids⟩
        | runs p hp _ =>
          have hb := (hB p hp).lists (M.run ++ [leadOf d.ms]) M.wait M.falls M.win M.took
          have hk2 := hb.keep hc
          refine hrun hk2 ?_ hid
          obtain ⟨cs, e, hl, -⟩ := ({ M with br := (M.br.ask now).1, run := M.run ++ [leadOf d.ms], probe := p } : DepM).keep_eq ⟨d.args.length, d.ms, 1, 0, 0, now⟩
          left
          have : (({ M with br := (M.br.ask now).1, run := M.run ++ [leadOf d.ms], probe := p } : DepM).keep ⟨d.args.length, d.ms, 1, 0, 0, now⟩).call (leadOf d.ms) = ⟨d.args.length, d.ms, 1, 0, 0, now⟩ := by
            unfold DepM.call
            rw [e]
            show (alook cs _).getD _ = _
            rw [hl, if_pos (show leadOf d.ms = (CallM.mk d.args.length d.ms 1 0 0 now).lead from rfl), if_neg (fun hd => by have := hd.1; simp at this)]
            rfl
          rw [this, CallM.lead, (CallM.run_same _).2.1]
        | waits p hp _ => exact BInv.keep ((hB p hp).lists M.run (M.wait ++ [leadOf d.ms]) M.falls M.win M.took) hc
        | turn p y t hw hp =>
          obtain ⟨c, hcc, -⟩ := hi.wk y (by rw [hw]; exact List.mem_cons_self ..) (fun e => e)
          have L := lead_of hi h hcc
          have hb := (hB p hp).lists (M.run ++ [y]) (t ++ [leadOf d.ms]) M.falls M.win M.took
          have hk2 := hb.keep hc
          refine hrun hk2 ?_ L.2.2.1
          obtain ⟨cs, e, hl, -⟩ := ({ M with br := (M.br.ask now).1, run := M.run ++ [y], wait := t ++ [leadOf d.ms], probe := p } : DepM).keep_eq ⟨d.args.length, d.ms, 1, 0, 0, now⟩
          left
          have hne : ¬ y = (CallM.mk d.args.length d.ms 1 0 0 now).lead := fun e => by
            have hkn := (DepM.call_of hcc).2
            rw [show y = leadOf d.ms from e] at hkn
            rw [hkn] at hk; exact hk rfl
          have : (({ M with br := (M.br.ask now).1, run := M.run ++ [y], wait := t ++ [leadOf d.ms], probe := p } : DepM).keep ⟨d.args.length, d.ms, 1, 0, 0, now⟩).call y = c := by
            unfold DepM.call
            rw [e]
            show (alook cs _).getD _ = _
            rw [hl, if_neg hne, hcc]
            rfl
          rw [this]; exact L.2.2.2.2
  · split
    · show BInv M.pick.1
      unfold DepM.pick
      split
      · split
        · exact h
        · rename_i x ws hw
          obtain ⟨c, hcc, -⟩ := hi.wk x (by rw [hw]; exact List.mem_cons_self ..) (fun e => e)
          have L := lead_of hi h hcc
          rw [DepM.runs_one]
          refine BInv.keep (M := { M with run := M.run ++ [x], wait := ws }) (h.lists _ _ M.falls M.win M.took) ?_
          show 1 ≤ (M.call x).run.lead
          rw [L.1]; omega
      · exact h
    · split
      · by_cases hin : d.id ∈ M.run
        · obtain ⟨c, hcc, -⟩ := hi.rk _ hin (fun e => e)
          have L := lead_of hi h hcc
          have hl : 1 ≤ (M.call d.id).lead := by rw [L.1]; exact L.2.2.2.1
          have h0 : BInv { M with run := rem d.id M.run } := h.lists _ M.wait M.falls M.win M.took
          have hfin : 1 ≤ (M.call d.id).fin.lead := by
            have : (M.call d.id).fin.ms = (M.call d.id).ms := by unfold CallM.fin; split <;> rfl
            rw [CallM.lead, this]; exact hl
          by_cases h2 : (M.call d.id).st = 2
          · by_cases h3 : d.ok = true ∧ d.vals.length = (M.call d.id).nargs
            · rw [DepM.answer_yes hin h2 h3]
              have hcn := h0.count now d.id 0
              generalize (({ M with run := rem d.id M.run } : DepM).count now d.id 0) = Mc at hcn ⊢
              exact BInv.keep (M := { Mc with took := Mc.took.add now (bitLen (now - (M.call d.id).start)) }) ⟨hcn.fo, hcn.st, hcn.fc, hcn.pr, hcn.ids⟩ hfin
            · rw [DepM.answer_no hin h2 h3]
              exact BInv.fall (σ := ⟨_, _, _⟩) (h0.count now d.id 1) now hl 1
          · rw [DepM.answer_not hin h2]; exact h0.keep hl
        · rw [DepM.answer_none hin]; exact h
      · split
        · by_cases hin : (d.id, d.step) ∈ M.falls
          · obtain ⟨c, hcc⟩ := hi.fk _ hin (fun e => e)
            have L := lead_of hi h hcc
            have hl : 1 ≤ (M.call d.id).lead := by rw [L.1]; exact L.2.2.2.1
            have h0 : BInv (M.freed d.id d.step) := h.lists M.run M.wait _ M.win M.took
            have hfin : 1 ≤ (M.call d.id).fin.lead := by
              have : (M.call d.id).fin.ms = (M.call d.id).ms := by unfold CallM.fin; split <;> rfl
              rw [CallM.lead, this]; exact hl
            by_cases h2 : (M.call d.id).st = 3 ∧ (M.call d.id).step = d.step
            · by_cases h3 : d.ok = true ∧ d.vals.length = (M.call d.id).nargs
              · rw [DepM.fallback_yes hin h2 h3]; exact h0.keep hfin
              · rw [DepM.fallback_no hin h2 h3]; exact BInv.fall (σ := ⟨_, _, _⟩) h0 now hl _
            · rw [DepM.fallback_not hin h2]; exact h0.keep hl
          · rw [DepM.fallback_none hin]; exact h
        · show BInv (M.late now d.id).M
          cases hk : M.knows d.id with
          | false => rw [DepM.late_none hk]; exact h
          | true =>
            have L := lead_of hi h (DepM.knows_call hk)
            have hl := L.2.2.2.1
            unfold DepM.late
            repeat' split
            · exact h
            · exact BInv.fall (σ := ⟨_, _, _⟩) (BInv.count (M := { M with wait := rem d.id M.wait }) (h.lists M.run _ M.falls M.win M.took) now _ 2) now hl 2
            · exact BInv.fall (σ := ⟨_, _, _⟩) (h.count now _ 2) now hl 2
            · exact BInv.fall (σ := ⟨_, _, _⟩) h now hl 2
/-- What a deed does to the counts and to the breaker, where no probe is under way. -/
def CountedAs (M R : DepM) (now : Nat) : Prop :=
  (R.win = M.win ∧ R.br = M.br) ∨ ∃ kind, kind ≤ 3 ∧ R.win = (M.win.add now kind).to now ∧ R.br = if ((M.win.add now kind).to now).cn.opens M.k.vo M.k.pe = true then M.br.trip now else M.br
theorem CountedAs.same {M M1 R : DepM} {now : Nat} (h : CountedAs M M1 now) (s : Same M1 R) : CountedAs M R now := by
  unfold CountedAs
  rw [s.win, s.br]; exact h
theorem CountedAs.of {M M1 R : DepM} {now : Nat} (h : CountedAs M1 R now) (h1 : M1.win = M.win) (h2 : M1.br = M.br) (h3 : M1.k = M.k) : CountedAs M R now := by
  unfold CountedAs at *
  rw [h1, h2, h3] at h; exact h
theorem CountedAs.count {M : DepM} {now : Nat} {id : Int} (hid : 1 ≤ id) (hp : M.probe = 0) {kind : Nat} (hk : kind ≤ 3) : CountedAs M (M.count now id kind) now := by
  have h1 : M.probe ≠ id := by omega
  right
  refine ⟨kind, hk, ?_⟩
  unfold DepM.count
  rw [if_pos h1]
  split
  · exact ⟨rfl, rfl⟩
  · exact ⟨rfl, rfl⟩
theorem CountedAs.none {M R : DepM} {now : Nat} (h1 : R.win = M.win) (h2 : R.br = M.br) : CountedAs M R now := .inl ⟨h1, h2⟩
theorem deed_counts {M : DepM} (h : BInv M) (hi : DInv M NoOne) (now : Nat) (d : Dd) (h1 : M.br.st = 1) (h0 : M.br.force = 0) : CountedAs M (M.deed now d).1.M now := by
  have hp : M.probe = 0 := by
    by_cases e : M.probe = 0
    · exact e
    · have := h.pr e; omega
  unfold DepM.deed
  split
  · unfold DepM.offer
    split
    · exact .none rfl rfl
    · rename_i hid
      split
      · exact .none rfl rfl
      · rename_i hk
        have W := offer_way hi now (by simpa using hk) ⟨d.args.length, d.ms, 1, 0, 0, now⟩
        show CountedAs M (DS.offer ⟨M, [], []⟩ now (leadOf d.ms) ⟨d.args.length, d.ms, 1, 0, 0, now⟩).M now
        generalize DS.offer ⟨M, [], []⟩ now (leadOf d.ms) ⟨d.args.length, d.ms, 1, 0, 0, now⟩ = R at W
        have A := h.ask now _ rfl
        have told1 : (M.br.ask now).1 = M.br ∧ (M.br.ask now).2 = 1 := by
          rcases M.br.ask_told now with t | t | t
          · exact ⟨(A.1 t).1, t⟩
          · have := (A.2.1 t).1; omega
          · exact absurd ⟨h1, h0⟩ (A.2.2 t).2
        cases W with
        | short ht => rw [told1.2] at ht; omega
        | rej br hb =>
          have hbr : br = M.br := by
            rcases hb with ⟨_, e⟩ | ⟨t, _⟩
            · rw [e, told1.1]
            · rw [told1.2] at t; omega
          subst hbr
          exact (CountedAs.count (M := M) (id := leadOf d.ms) (by omega) hp (kind := 3) (by omega)).same (Same.fall ⟨M.count now (leadOf d.ms) 3, [], []⟩ now ⟨d.args.length, d.ms, 1, 0, 0, now⟩ 3)
        | runs p _ _ =>
          have S := (Same.keep ({ M with br := (M.br.ask now).1, run := M.run ++ [leadOf d.ms], probe := p } : DepM) ⟨d.args.length, d.ms, 1, 0, 0, now⟩).trans (Same.runs _ (leadOf d.ms))
          exact .none S.win (S.br.trans told1.1)
        | waits p _ _ =>
          have S := Same.keep ({ M with br := (M.br.ask now).1, wait := M.wait ++ [leadOf d.ms], probe := p } : DepM) ⟨d.args.length, d.ms, 1, 0, 0, now⟩
          exact .none S.win (S.br.trans told1.1)
        | turn p y t _ _ =>
          have S := (Same.keep ({ M with br := (M.br.ask now).1, run := M.run ++ [y], wait := t ++ [leadOf d.ms], probe := p } : DepM) ⟨d.args.length, d.ms, 1, 0, 0, now⟩).trans (Same.runs _ y)
          exact .none S.win (S.br.trans told1.1)
  · split
    · show CountedAs M M.pick.1 now
      unfold DepM.pick
      split
      · split
        · exact .none rfl rfl
        · rename_i x ws _
          have S := Same.runs ({ M with run := M.run ++ [x], wait := ws } : DepM) x
          exact .none S.win S.br
      · exact .none rfl rfl
    · split
      · by_cases hin : d.id ∈ M.run
        · obtain ⟨c, hcc, -⟩ := hi.rk _ hin (fun e => e)
          have L := lead_of hi h hcc
          have hC : ∀ kind, kind ≤ 3 → CountedAs M (({ M with run := rem d.id M.run } : DepM).count now d.id kind) now := fun kind hk => (CountedAs.count (M := { M with run := rem d.id M.run }) L.2.2.1 hp hk).of rfl rfl rfl
          by_cases h2 : (M.call d.id).st = 2
          · by_cases h3 : d.ok = true ∧ d.vals.length = (M.call d.id).nargs
            · rw [DepM.answer_yes hin h2 h3]
              have hcn := hC 0 (by omega)
              generalize (({ M with run := rem d.id M.run } : DepM).count now d.id 0) = Mc at hcn ⊢
              have S := Same.keep ({ Mc with took := Mc.took.add now (bitLen (now - (M.call d.id).start)) } : DepM) (M.call d.id).fin
              unfold CountedAs
              rw [S.win, S.br]; exact hcn
            · rw [DepM.answer_no hin h2 h3]
              exact (hC 1 (by omega)).same (Same.fall ⟨_, _, _⟩ now _ 1)
          · rw [DepM.answer_not hin h2]
            have S := Same.keep ({ M with run := rem d.id M.run } : DepM) (M.call d.id)
            exact .none S.win S.br
        · rw [DepM.answer_none hin]; exact .none rfl rfl
      · split
        · by_cases hin : (d.id, d.step) ∈ M.falls
          · by_cases h2 : (M.call d.id).st = 3 ∧ (M.call d.id).step = d.step
            · by_cases h3 : d.ok = true ∧ d.vals.length = (M.call d.id).nargs
              · rw [DepM.fallback_yes hin h2 h3]
                have S := Same.keep (M.freed d.id d.step) (M.call d.id).fin
                exact .none S.win S.br
              · rw [DepM.fallback_no hin h2 h3]
                have S := Same.fall ⟨M.freed d.id d.step, [⟨false, d.id, 0⟩], []⟩ now (M.call d.id) (M.call d.id).cause
                exact .none S.win S.br
            · rw [DepM.fallback_not hin h2]
              have S := Same.keep (M.freed d.id d.step) (M.call d.id)
              exact .none S.win S.br
          · rw [DepM.fallback_none hin]; exact .none rfl rfl
        · show CountedAs M (M.late now d.id).M now
          cases hk : M.knows d.id with
          | false => rw [DepM.late_none hk]; exact .none rfl rfl
          | true =>
            have L := lead_of hi h (DepM.knows_call hk)
            unfold DepM.late
            repeat' split
            · exact .none rfl rfl
            · exact ((CountedAs.count (M := { M with wait := rem d.id M.wait }) L.2.2.1 hp (kind := 2) (by omega)).of rfl rfl rfl).same (Same.fall ⟨_, _, _⟩ now _ 2)
            · exact (CountedAs.count (M := M) L.2.2.1 hp (kind := 2) (by omega)).same (Same.fall ⟨_, _, _⟩ now _ 2)
            · have S := Same.fall ⟨M, [], []⟩ now (M.call d.id) 2
              exact .none S.win S.br
end Go.Proofs.YtcnkhjgpjchkeaaGreat

namespace Go.Proofs.YtcnkhjgpjchkeaaGreat
open Go.RowKit

theorem WinM.to_idem {s : WinM} {now : Nat} : (s.to now).to now = s.to now := by
  unfold WinM.to
  congr 1
  show max (max s.now now) now = max s.now now
  omega
theorem totc_snocO (L : List (Nat × Nat)) (n b k kind : Nat) (hn : 1 ≤ n) : totc (L ++ [(b, kind)]) n b k = totc L n b k + if kind = k then 1 else 0 := by
  unfold totc
  rw [List.filter_append, List.length_append]
  congr 1
  by_cases h : kind = k
  · subst h
    rw [List.filter_cons_of_pos (by simp; omega)]; simp
  · rw [List.filter_cons_of_neg (by simp [h])]; simp [h]
theorem cn_add {s : WinM} {now kind : Nat} (hn : 1 ≤ s.n) (h : s.to now = s) (k : Nat) : ((s.add now kind).to now).cnt k = s.cnt k + if kind = k then 1 else 0 := by
  have hnow : max s.now now = s.now := congrArg WinM.now h
  have e : (s.add now kind).to now = { s with L := s.L ++ [(s.bkt, kind)] } := by
    unfold WinM.add
    rw [h]
    unfold WinM.to
    simp only [hnow]
  rw [e]
  exact totc_snocO s.L s.n s.bkt k kind hn
theorem cnt_le (s : WinM) (k : Nat) : s.cnt k ≤ s.L.length := List.length_filter_le _ _
theorem vol_sum {s : WinM} (h : s.L.length ≤ 1000000000000000) : s.cn.vol = s.cnt 0 + (s.cnt 1 + s.cnt 2 + s.cnt 3) := by
  have h0 := cnt_le s 0; have h1 := cnt_le s 1; have h2 := cnt_le s 2; have h3 := cnt_le s 3
  have e : s.cn.errs = s.cnt 1 + s.cnt 2 + s.cnt 3 := by
    show sadd (sadd (sadd 0 (s.cnt 1)) (s.cnt 2)) (s.cnt 3) = _
    unfold sadd; omega
  show sadd (s.cnt 0) s.cn.errs = _
  rw [e]; unfold sadd; omega
theorem vol_add {s : WinM} {now kind : Nat} (hn : 1 ≤ s.n) (h : s.to now = s) (hl : s.L.length ≤ 100000000000000) (hk : kind ≤ 3) : ((s.add now kind).to now).cn.vol = s.cn.vol + 1 := by
  rw [vol_sum (s := s) (by omega), vol_sum (s := (s.add now kind).to now) (by show (s.add now kind).L.length ≤ _; rw [WinM.add_len]; omega)]
  rw [cn_add hn h 0, cn_add hn h 1, cn_add hn h 2, cn_add hn h 3]
  rcases (show kind = 0 ∨ kind = 1 ∨ kind = 2 ∨ kind = 3 by omega) with rfl | rfl | rfl | rfl <;> simp <;> omega
/-- The law. -/
theorem opens_law {M0 : DepM} {now : Nat} (h : BInv M0) (hi : DInv M0 NoOne) (hn : 1 ≤ M0.win.n) (hl : M0.win.L.length ≤ 100000000000000) (hf : M0.k.fo = 0) (d : Dd) (h1 : M0.br.st = 1) :
    (decide ((M0.win.to now).cn.vol < ((((M0.seen now).deed now d).1.M).win.to now).cn.vol) = false ∧ (((M0.seen now).deed now d).1.M).br.st = 1) ∨
    (decide ((M0.win.to now).cn.vol < ((((M0.seen now).deed now d).1.M).win.to now).cn.vol) = true ∧ ((((M0.seen now).deed now d).1.M).br.st == 2) = ((((M0.seen now).deed now d).1.M).win.to now).cn.opens M0.k.vo M0.k.pe) := by
  have hfo : M0.br.force = 0 := h.fo.trans hf
  have C := deed_counts (h.seen now) (hi.seen now) now d h1 hfo
  generalize (((M0.seen now).deed now d).1.M) = R at C
  have hid : (M0.win.to now).to now = M0.win.to now := WinM.to_idem
  rcases C with ⟨c1, c2⟩ | ⟨kind, hk, c1, c2⟩
  · left
    rw [c1, c2]
    show decide ((M0.win.to now).cn.vol < ((M0.win.to now).to now).cn.vol) = false ∧ M0.br.st = 1
    rw [hid]
    exact ⟨by simp, h1⟩
  · right
    have c1 : R.win = ((M0.win.to now).add now kind).to now := c1
    have c2 : R.br = if (((M0.win.to now).add now kind).to now).cn.opens M0.k.vo M0.k.pe = true then M0.br.trip now else M0.br := c2
    rw [c1, WinM.to_idem, vol_add (s := M0.win.to now) hn hid hl hk, c2]
    refine ⟨by simp, ?_⟩
    cases ho : (((M0.win.to now).add now kind).to now).cn.opens M0.k.vo M0.k.pe with
    | true =>
      rw [if_pos rfl]
      have : (M0.br.trip now).st = 2 := by unfold Brk.trip; rw [if_pos ⟨h1, hfo⟩]
      rw [this]; rfl
    | false =>
      rw [if_neg (by simp), h1]; rfl
theorem IsWin.n1 {w : World} {b : Nat} {s : WinM} (h : IsWin w b s) : 1 ≤ s.n := by
  obtain ⟨_, h, _⟩ := h
  exact h.n1
end Go.Proofs.YtcnkhjgpjchkeaaGreat

namespace Go.Proofs.YtcnkhjgpjchkeaaGreat
open Go.RowKit

set_option maxHeartbeats 1000000 in
set_option maxRecDepth 20000 in
theorem refwide_spec (w : World) (a b : Nat) (ha : a < 18446744073709551616) (hb : b < 18446744073709551616) :
    Calls Tryz.prog 128 #[.int .u64 a, .int .u64 b] w fun e w' => e = .returned (.tuple #[.int .u64 ((a * b / 18446744073709551616 : Nat) : Int), .int .u64 ((a * b % 18446744073709551616 : Nat) : Int)]) ∧ w' = w := by
  have hm := mul_parts a b
  generalize a * b = ab at *
  obtain ⟨al, hal⟩ : ∃ x, x = a % 4294967296 := ⟨_, rfl⟩
  obtain ⟨ah, hah⟩ : ∃ x, x = a / 4294967296 := ⟨_, rfl⟩
  obtain ⟨bl, hbl⟩ : ∃ x, x = b % 4294967296 := ⟨_, rfl⟩
  obtain ⟨bh, hbh⟩ : ∃ x, x = b / 4294967296 := ⟨_, rfl⟩
  have d1 : (a : Int) / 4294967296 = (ah : Int) := by omega
  have d2 : (b : Int) / 4294967296 = (bh : Int) := by omega
  have d3 : (a : Int) % 4294967296 = (al : Int) := by omega
  have d4 : (b : Int) % 4294967296 = (bl : Int) := by omega
  rw [← hal, ← hbl, ← hah, ← hbh] at hm
  have k1 := lt_mul64 (show al < 4294967296 by omega) (show bl < 4294967296 by omega)
  have k2 := lt_mul64 (show al < 4294967296 by omega) (show bh < 4294967296 by omega)
  have k3 := lt_mul64 (show ah < 4294967296 by omega) (show bl < 4294967296 by omega)
  have k4 := lt_mul64 (show ah < 4294967296 by omega) (show bh < 4294967296 by omega)
  obtain ⟨ll, hll⟩ : ∃ x, x = al * bl := ⟨_, rfl⟩
  obtain ⟨lh, hlh⟩ : ∃ x, x = al * bh := ⟨_, rfl⟩
  obtain ⟨hl, hhl⟩ : ∃ x, x = ah * bl := ⟨_, rfl⟩
  obtain ⟨hh, hhh⟩ : ∃ x, x = ah * bh := ⟨_, rfl⟩
  have m1 : IntKind.u64.wrap ((al : Int) * (bl : Int)) = (ll : Int) := by rw [IntKind.wrap_u64, ← Int.natCast_mul, ← hll]; omega
  have m2 : IntKind.u64.wrap ((al : Int) * (bh : Int)) = (lh : Int) := by rw [IntKind.wrap_u64, ← Int.natCast_mul, ← hlh]; omega
  have m3 : IntKind.u64.wrap ((ah : Int) * (bl : Int)) = (hl : Int) := by rw [IntKind.wrap_u64, ← Int.natCast_mul, ← hhl]; omega
  have m4 : IntKind.u64.wrap ((ah : Int) * (bh : Int)) = (hh : Int) := by rw [IntKind.wrap_u64, ← Int.natCast_mul, ← hhh]; omega
  rw [← hll, ← hlh, ← hhl, ← hhh] at hm
  rw [← hll] at k1
  rw [← hlh] at k2
  rw [← hhl] at k3
  rw [← hhh] at k4
  have hah2 : ah < 4294967296 := by omega
  have hbh2 : bh < 4294967296 := by omega
  clear hll hlh hhl hhh hal hah hbl hbh ha hb
  obtain ⟨ll0, e1⟩ : ∃ x, x = ll % 4294967296 := ⟨_, rfl⟩
  obtain ⟨lh0, e2⟩ : ∃ x, x = lh % 4294967296 := ⟨_, rfl⟩
  obtain ⟨hl0, e3⟩ : ∃ x, x = hl % 4294967296 := ⟨_, rfl⟩
  obtain ⟨ll1, e4⟩ : ∃ x, x = ll / 4294967296 := ⟨_, rfl⟩
  obtain ⟨lh1, e5⟩ : ∃ x, x = lh / 4294967296 := ⟨_, rfl⟩
  obtain ⟨hl1, e6⟩ : ∃ x, x = hl / 4294967296 := ⟨_, rfl⟩
  have n1 : (ll : Int) % 4294967296 = (ll0 : Int) := by omega
  have n2 : (lh : Int) % 4294967296 = (lh0 : Int) := by omega
  have n3 : (hl : Int) % 4294967296 = (hl0 : Int) := by omega
  have q1 : (ll : Int) / 4294967296 = (ll1 : Int) := by omega
  have q2 : (lh : Int) / 4294967296 = (lh1 : Int) := by omega
  have q3 : (hl : Int) / 4294967296 = (hl1 : Int) := by omega
  obtain ⟨ma, e7⟩ : ∃ x, x = ll1 + hl0 := ⟨_, rfl⟩
  obtain ⟨mid, e8⟩ : ∃ x, x = ma + lh0 := ⟨_, rfl⟩
  obtain ⟨mid0, e9⟩ : ∃ x, x = mid % 4294967296 := ⟨_, rfl⟩
  obtain ⟨mid1, e10⟩ : ∃ x, x = mid / 4294967296 := ⟨_, rfl⟩
  have s1 : IntKind.u64.wrap ((ll1 : Int) + (hl0 : Int)) = (ma : Int) := by rw [IntKind.wrap_u64]; omega
  have s2 : IntKind.u64.wrap ((ma : Int) + (lh0 : Int)) = (mid : Int) := by rw [IntKind.wrap_u64]; omega
  have s3 : (mid : Int) / 4294967296 = (mid1 : Int) := by omega
  have s3' : (mid : Int) % 4294967296 = (mid0 : Int) := by omega
  obtain ⟨ms, e14⟩ : ∃ x, x = mid0 * 4294967296 := ⟨_, rfl⟩
  obtain ⟨lo, e15⟩ : ∃ x, x = ll0 + ms := ⟨_, rfl⟩
  have s4 : IntKind.u64.wrap ((mid0 : Int) * 4294967296) = (ms : Int) := by rw [IntKind.wrap_u64]; omega
  have s5 : IntKind.u64.wrap ((ll0 : Int) + (ms : Int)) = (lo : Int) := by rw [IntKind.wrap_u64]; omega
  obtain ⟨x1, e11⟩ : ∃ x, x = hh + hl1 := ⟨_, rfl⟩
  obtain ⟨x2, e12⟩ : ∃ x, x = x1 + lh1 := ⟨_, rfl⟩
  obtain ⟨hi, e13⟩ : ∃ x, x = x2 + mid1 := ⟨_, rfl⟩
  have s6 : IntKind.u64.wrap ((hh : Int) + (hl1 : Int)) = (x1 : Int) := by rw [IntKind.wrap_u64]; omega
  have s7 : IntKind.u64.wrap ((x1 : Int) + (lh1 : Int)) = (x2 : Int) := by rw [IntKind.wrap_u64]; omega
  have s8 : IntKind.u64.wrap ((x2 : Int) + (mid1 : Int)) = (hi : Int) := by rw [IntKind.wrap_u64]; omega
  have yah : IntKind.u64.wrap (ah : Int) = (ah : Int) := by rw [IntKind.wrap_u64]; omega
  have ybh : IntKind.u64.wrap (bh : Int) = (bh : Int) := by rw [IntKind.wrap_u64]; omega
  have yll1 : IntKind.u64.wrap (ll1 : Int) = (ll1 : Int) := by rw [IntKind.wrap_u64]; omega
  have ylh1 : IntKind.u64.wrap (lh1 : Int) = (lh1 : Int) := by rw [IntKind.wrap_u64]; omega
  have yhl1 : IntKind.u64.wrap (hl1 : Int) = (hl1 : Int) := by rw [IntKind.wrap_u64]; omega
  have ymid1 : IntKind.u64.wrap (mid1 : Int) = (mid1 : Int) := by rw [IntKind.wrap_u64]; omega
  have r1 : ab / 18446744073709551616 = hi := by omega
  have r2 : ab % 18446744073709551616 = lo := by omega
  rw [r1, r2]
  clear e1 e2 e3 e4 e5 e6 e7 e8 e9 e10 e11 e12 e13 e14 e15 r1 r2 hm k1 k2 k3 k4 hah2 hbh2
  go_enter Tryz.func128, Tryz.ntmps128
  go_wp2_with fail
  go_ret2
  exact ⟨rfl, rfl⟩
set_option maxHeartbeats 1000000 in
theorem refatleast_spec (w : World) (p t : Nat) (q : Int) (hp : p < 18446744073709551616) (ht : t < 18446744073709551616) (hq : q ≤ 9223372036854775807) :
    Calls Tryz.prog 66 #[.int .u64 p, .int .u64 t, .int .i64 q] w fun e w' => e = .returned (.bool (watl p t q)) ∧ w' = w := by
  have HW1 := Lib.hid (refwide_spec w 100 p (by decide) hp)
  have HW2 := Lib.hid (refwide_spec w q.toNat t (by omega) ht)
  have HX : Hid (watl p t q = (decide (t * q.toNat / 18446744073709551616 < p * 100 / 18446744073709551616) || (decide (p * 100 / 18446744073709551616 = t * q.toNat / 18446744073709551616) && decide (t * q.toNat % 18446744073709551616 ≤ p * 100 % 18446744073709551616)))) := Lib.hid (by
    unfold watl
    generalize t * q.toNat = x
    generalize p * 100 = y
    by_cases h : x ≤ y
    · simp [h]; omega
    · simp [h]; omega)
  rw [HX.out]
  rw [Nat.mul_comm 100 p] at HW1
  rw [Nat.mul_comm q.toNat t] at HW2
  obtain ⟨Q, hQ⟩ : ∃ x, x = q.toNat := ⟨_, rfl⟩
  rw [← hQ] at HW2 ⊢
  generalize p * 100 / 18446744073709551616 = a at *
  generalize p * 100 % 18446744073709551616 = b at *
  generalize t * Q / 18446744073709551616 = c at *
  generalize t * Q % 18446744073709551616 = d at *
  have HQ := Lib.hid hQ
  have hwq : 0 < q → IntKind.u64.wrap q = (Q : Int) := fun h => by rw [IntKind.wrap_u64]; omega
  have hq0 : ¬ 0 < q → Q = 0 := fun h => by omega
  clear hp ht hQ
  by_cases hq1 : 0 < q
  · have hwq := hwq hq1
    clear hq0
    go_enter Tryz.func66, Tryz.ntmps66
    go_wp2_with fail
    refine HW1.out.mono ?_
    rintro e w1 ⟨rfl, rfl⟩
    go_wp2_with fail
    refine HW2.out.mono ?_
    rintro e w2 ⟨rfl, rfl⟩
    by_cases e1 : c < a
    · go_wp2_with fail
      go_ret
      exact ⟨ret_boolS (by simp [e1]), rfl⟩
    · by_cases e2 : a = c
      · subst e2
        go_wp2_with fail
        go_ret
        exact ⟨ret_boolS (by simp), rfl⟩
      · have e3 : ((a : Int) == (c : Int)) = false := by simp; omega
        go_wp2_with fail
        go_ret
        exact ⟨ret_boolS (by simp [e1, e2]), rfl⟩
  · obtain rfl := hq0 hq1
    clear hwq
    go_enter Tryz.func66, Tryz.ntmps66
    go_wp2_with fail
    refine HW1.out.mono ?_
    rintro e w1 ⟨rfl, rfl⟩
    go_wp2_with fail
    refine HW2.out.mono ?_
    rintro e w2 ⟨rfl, rfl⟩
    by_cases e1 : c < a
    · go_wp2_with fail
      go_ret
      exact ⟨ret_boolS (by simp [e1]), rfl⟩
    · by_cases e2 : a = c
      · subst e2
        go_wp2_with fail
        go_ret
        exact ⟨ret_boolS (by simp), rfl⟩
      · have e3 : ((a : Int) == (c : Int)) = false := by simp; omega
        go_wp2_with fail
        go_ret
        exact ⟨ret_boolS (by simp [e1, e2]), rfl⟩
theorem refsum_spec {w : World} {v : Value} {l : List Nat} (hl : Nats w v l) (h63 : l.length ≤ 9223372036854775807) (hlt64 : ∀ k, l.getD k 0 < 18446744073709551616) :
    Calls Tryz.prog 105 #[v] w fun e w' => e = .returned (.int .u64 ((ssum l : Nat) : Int)) ∧ w' = w := by
  obtain ⟨ao, cap, rfl, h4⟩ := hl
  have H4 := Lib.hid h4
  clear h4
  go_enter Tryz.func105, Tryz.ntmps105
  go_wp2_with fail
  go_loop [3, 4] (fun s i => ∃ k : Nat, k ≤ l.length ∧ i = .int .i64 k ∧ s = .int .u64 ((ssum (l.take k) : Nat) : Int)) (fun _ i => l.length - (intOf i).toNat)
  case atStart => exact ⟨0, Nat.zero_le _, rfl, rfl⟩
  case round =>
    obtain ⟨k, hk, rfl, rfl⟩ := hrel
    by_cases hlt : k < l.length
    · obtain ⟨b, o, rfl, hc⟩ := H4.out k hlt
      have HA := Lib.hid (refadd_spec w (ssum (l.take k)) (l.getD k 0) (ssum_lt _) (hlt64 k))
      have HN : Hid (ssum (l.take (k + 1)) = sadd (ssum (l.take k)) (l.getD k 0)) := Lib.hid (by
        rw [List.take_succ_eq_append_getElem hlt, ssum_snoc]; simp [List.getD, hlt])
      generalize l.getD k 0 = x at *
      go_wp2_with fail
      refine HA.out.mono ?_
      rintro e w1 ⟨rfl, rfl⟩
      go_wp2_with fail
      go_round
      case rel => exact ⟨k + 1, by omega, by go_num, by rw [HN.out]⟩
      case measure => simp [intOf]; omega
    · obtain rfl : k = l.length := by omega
      go_wp2_with fail
      go_ret
      exact ⟨rfl, rfl⟩
theorem referrs_spec (w : World) (s : Cn) (hs : s.ok) :
    Calls Tryz.prog 65 #[.agg s.vals] w fun e w' => e = .returned (.int .u64 ((s.errs : Nat) : Int)) ∧ Fr [] w w' := by
  have HF := Lib.hid (((Fr.refl [] w).alloc (.cells s.vals 67)).alloc (.cells #[.int .u64 s.b, .int .u64 s.c, .int .u64 s.d] 22))
  have HB := block_alloc_new (w.alloc (.cells s.vals 67)) (.cells #[.int .u64 s.b, .int .u64 s.c, .int .u64 s.d] 22)
  rw [World.size_alloc] at HB
  have HN : Nats ((w.alloc (.cells s.vals 67)).alloc (.cells #[.int .u64 s.b, .int .u64 s.c, .int .u64 s.d] 22)) (.slice (some ⟨w.heap.size + 1, 0, none⟩) 3 3) [s.b, s.c, s.d] := by
    refine ⟨_, _, rfl, fun i hi => ⟨_, _, rfl, ?_⟩⟩
    rw [cell_of_block HB]
    match i, hi with
    | 0, _ => rfl
    | 1, _ => rfl
    | 2, _ => rfl
  have HS := Lib.hid (refsum_spec HN (by simp) (fun k => by match k with | 0 => exact hs.2.1 | 1 => exact hs.2.2.1 | 2 => exact hs.2.2.2.1 | k + 3 => simp [List.getD]))
  clear HN HB
  unfold Cn.vals at *
  unfold Cn.errs
  generalize ssum [s.b, s.c, s.d] = r at *
  go_enter Tryz.func65, Tryz.ntmps65
  go_wp2_with fail
  refine HS.out.mono ?_
  rintro e w1 ⟨rfl, rfl⟩
  go_wp2_with fail
  go_ret
  exact ⟨rfl, HF.out⟩
theorem refvol_spec (w : World) (s : Cn) (hs : s.ok) :
    Calls Tryz.prog 21 #[.agg s.vals] w fun e w' => e = .returned (.int .u64 ((s.vol : Nat) : Int)) ∧ Fr [] w w' := by
  have HF := Lib.hid ((Fr.refl [] w).alloc (.cells s.vals 67))
  have HB := Lib.hid (block_alloc_new w (.cells s.vals 67))
  have HE := Lib.hid (fun w' => referrs_spec w' s hs)
  have HA := Lib.hid (fun w' => refadd_spec w' s.a s.errs hs.1 (ssum_lt _))
  unfold Cn.vol
  generalize sadd s.a s.errs = r at *
  generalize s.errs = q at *
  unfold Cn.vals at *
  clear hs
  obtain ⟨w2, hw2⟩ : ∃ w2, w2 = w.alloc (.cells #[.int .u64 s.a, .int .u64 s.b, .int .u64 s.c, .int .u64 s.d, .int .u64 s.e] 67) := ⟨_, rfl⟩
  rw [← hw2] at HF HB
  have HW := Lib.hid hw2
  clear hw2
  have KS : Hid (∀ w' : World, Fr [] w2 w' → w'.heap[w.heap.size]? = some (.cells #[.int .u64 s.a, .int .u64 s.b, .int .u64 s.c, .int .u64 s.d, .int .u64 s.e] 67)) := Lib.hid (fun w' F => F.keep HB.out (by simp))
  have hc1 : ∀ (w' : World) (i : Nat), w'.heap[w.heap.size]? = some (.cells #[.int .u64 s.a, .int .u64 s.b, .int .u64 s.c, .int .u64 s.d, .int .u64 s.e] 67) → w'.cell? ⟨w.heap.size, i, none⟩ = #[.int .u64 s.a, .int .u64 s.b, .int .u64 s.c, .int .u64 s.d, .int .u64 s.e][i]? := fun w' i h => cell_of_block h i
  go_enter Tryz.func21, Tryz.ntmps21
  go_wp2_with fail
  rw [← HW.out]
  have FX := Fr.refl [] w2
  go_region_held3 (fun w' => w'.heap[w.heap.size]? = some (.cells #[.int .u64 s.a, .int .u64 s.b, .int .u64 s.c, .int .u64 s.d, .int .u64 s.e] 67))
    (with_reducible exact KS.out _ (by with_reducible repeat (first | exact FX | exact Fr.refl _ _ | apply Fr.drew | apply Fr.drewN | apply Fr.alloc)))
    (first
      | (go_at_call 65; refine (HE.out _).mono ?_; rintro e wA ⟨rfl, F⟩; have FX : Fr [] w2 wA := Fr.trans (by with_reducible repeat (first | exact FX | exact Fr.refl _ _ | apply Fr.drew | apply Fr.drewN | apply Fr.alloc)) F; clear F)
      | (go_at_call 11; refine (HA.out _).mono ?_; rintro e wA ⟨rfl, rfl⟩; have FX : Fr [] w2 wA := (by with_reducible repeat (first | exact FX | exact Fr.refl _ _ | apply Fr.drew | apply Fr.drewN | apply Fr.alloc))))
  all_goals (
    clear KS hc1 HE HA
    go_wp2_with fail
    go_ret
    exact ⟨rfl, HF.out.trans (by with_reducible repeat (first | exact FX | exact Fr.refl _ _ | apply Fr.drew | apply Fr.drewN | apply Fr.alloc))⟩)

set_option maxHeartbeats 4000000 in
set_option maxRecDepth 20000 in
theorem refopens_spec (w : World) (s : Cn) (hs : s.ok) (k : CF) (hv1 : 1 ≤ k.vo) (hv : k.vo ≤ 9223372036854775807) (hp : k.pe ≤ 9223372036854775807) :
    Calls Tryz.prog 22 #[.agg s.vals, k.val] w fun e w' => e = .returned (.bool (s.opens k.vo k.pe)) ∧ Fr [] w w' := by
  have HF := Lib.hid (((Fr.refl [] w).alloc (.cells #[.int .u64 s.a, .int .u64 s.b, .int .u64 s.c, .int .u64 s.d, .int .u64 s.e] 67)).alloc (.cells #[.int .i64 k.mode, .int .i64 k.pool, .int .i64 k.queue, .int .i64 k.sem, .int .i64 k.fb, .int .i64 k.ch, .int .u64 k.t, .int .u64 k.ft, .int .i64 k.vo, .int .i64 k.pe, .int .u64 k.sl, .int .i64 k.bu, .int .u64 k.wi, .int .u64 k.wd, .int .i64 k.ba, .int .i64 k.fo] 24))
  have HB1 := Lib.hid (block_alloc (block_alloc_new w (.cells #[.int .u64 s.a, .int .u64 s.b, .int .u64 s.c, .int .u64 s.d, .int .u64 s.e] 67)) (.cells #[.int .i64 k.mode, .int .i64 k.pool, .int .i64 k.queue, .int .i64 k.sem, .int .i64 k.fb, .int .i64 k.ch, .int .u64 k.t, .int .u64 k.ft, .int .i64 k.vo, .int .i64 k.pe, .int .u64 k.sl, .int .i64 k.bu, .int .u64 k.wi, .int .u64 k.wd, .int .i64 k.ba, .int .i64 k.fo] 24))
  have HB2 := block_alloc_new (w.alloc (.cells #[.int .u64 s.a, .int .u64 s.b, .int .u64 s.c, .int .u64 s.d, .int .u64 s.e] 67)) (.cells #[.int .i64 k.mode, .int .i64 k.pool, .int .i64 k.queue, .int .i64 k.sem, .int .i64 k.fb, .int .i64 k.ch, .int .u64 k.t, .int .u64 k.ft, .int .i64 k.vo, .int .i64 k.pe, .int .u64 k.sl, .int .i64 k.bu, .int .u64 k.wi, .int .u64 k.wd, .int .i64 k.ba, .int .i64 k.fo] 24)
  rw [World.size_alloc] at HB2
  have HB2 := Lib.hid HB2
  have HE := Lib.hid (fun w' => referrs_spec w' s hs)
  have HV := Lib.hid (fun w' => refvol_spec w' s hs)
  have HA := Lib.hid (fun w' => refatleast_spec w' s.errs s.vol k.pe (ssum_lt _) (sadd_lt _ _) hp)
  obtain ⟨mx, hmx⟩ : ∃ x : Nat, k.vo = (x : Int) := ⟨k.vo.toNat, by omega⟩
  have hmx1 : 1 ≤ mx := by omega
  have hm1 : max k.vo 1 = (mx : Int) := by omega
  have HO : Hid (s.opens k.vo k.pe = (decide (mx ≤ s.vol) && watl s.errs s.vol k.pe)) := Lib.hid (by unfold Cn.opens; rw [hm1]; congr 2; exact propext Int.ofNat_le)
  have hcv : IntKind.u64.wrap (mx : Int) = (mx : Int) := by rw [IntKind.wrap_u64]; omega
  generalize s.opens k.vo k.pe = r at *
  generalize s.errs = q at *
  generalize s.vol = v at *
  obtain ⟨w2, hw2⟩ : ∃ w2, w2 = (w.alloc (.cells #[.int .u64 s.a, .int .u64 s.b, .int .u64 s.c, .int .u64 s.d, .int .u64 s.e] 67)).alloc (.cells #[.int .i64 k.mode, .int .i64 k.pool, .int .i64 k.queue, .int .i64 k.sem, .int .i64 k.fb, .int .i64 k.ch, .int .u64 k.t, .int .u64 k.ft, .int .i64 k.vo, .int .i64 k.pe, .int .u64 k.sl, .int .i64 k.bu, .int .u64 k.wi, .int .u64 k.wd, .int .i64 k.ba, .int .i64 k.fo] 24) := ⟨_, rfl⟩
  rw [← hw2] at HF HB1 HB2
  have HW := Lib.hid hw2
  clear hw2 hs hv hp hm1 hv1
  obtain ⟨k1, k2, k3, k4, k5, k6, k7, k8, kvo, kpe, k11, k12, k13, k14, k15, k16⟩ := k
  simp only at hmx
  subst hmx
  simp only at *
  unfold Cn.vals at *
  have h12 : mx = 1 ∨ 1 < mx := by omega
  rcases h12 with h12 | h12
  · have hn1 : ¬ (1 : Int) < (mx : Int) := by omega
    have hone : (mx : Int) = 1 := by omega
    have HONE := Lib.hid hone
    clear hone h12
    go_enter Tryz.func22, Tryz.ntmps22
    go_wp2_with fail
    rw [← HW.out]
    refine (HV.out _).mono ?_
    rintro e w3 ⟨rfl, F⟩
    have HF3 := Lib.hid (HF.out.trans F)
    have HC1 := Lib.hid (F.keep HB1.out (by simp))
    have HC2 := Lib.hid (F.keep HB2.out (by simp))
    have KS : Hid (∀ w' : World, Fr [] w3 w' → w'.heap[w.heap.size]? = some (.cells #[.int .u64 s.a, .int .u64 s.b, .int .u64 s.c, .int .u64 s.d, .int .u64 s.e] 67) ∧ w'.heap[w.heap.size + 1]? = some (.cells #[.int .i64 k1, .int .i64 k2, .int .i64 k3, .int .i64 k4, .int .i64 k5, .int .i64 k6, .int .u64 k7, .int .u64 k8, .int .i64 (mx : Int), .int .i64 kpe, .int .u64 k11, .int .i64 k12, .int .u64 k13, .int .u64 k14, .int .i64 k15, .int .i64 k16] 24)) := Lib.hid (fun w' F => ⟨F.keep HC1.out (by simp), F.keep HC2.out (by simp)⟩)
    have hc1 : ∀ (w' : World) (i : Nat), w'.heap[w.heap.size]? = some (.cells #[.int .u64 s.a, .int .u64 s.b, .int .u64 s.c, .int .u64 s.d, .int .u64 s.e] 67) → w'.cell? ⟨w.heap.size, i, none⟩ = #[.int .u64 s.a, .int .u64 s.b, .int .u64 s.c, .int .u64 s.d, .int .u64 s.e][i]? := fun w' i h => cell_of_block h i
    have hc2 : ∀ (w' : World) (i : Nat), w'.heap[w.heap.size + 1]? = some (.cells #[.int .i64 k1, .int .i64 k2, .int .i64 k3, .int .i64 k4, .int .i64 k5, .int .i64 k6, .int .u64 k7, .int .u64 k8, .int .i64 (mx : Int), .int .i64 kpe, .int .u64 k11, .int .i64 k12, .int .u64 k13, .int .u64 k14, .int .i64 k15, .int .i64 k16] 24) → w'.cell? ⟨w.heap.size + 1, i, none⟩ = #[.int .i64 k1, .int .i64 k2, .int .i64 k3, .int .i64 k4, .int .i64 k5, .int .i64 k6, .int .u64 k7, .int .u64 k8, .int .i64 (mx : Int), .int .i64 kpe, .int .u64 k11, .int .i64 k12, .int .u64 k13, .int .u64 k14, .int .i64 k15, .int .i64 k16][i]? := fun w' i h => cell_of_block h i
    clear F HC1 HC2 HB1 HB2 HV
    by_cases hge : mx ≤ v
    · have hd : decide (mx ≤ v) = true := decide_eq_true hge
      have hd2 : decide ((1 : Int) ≤ (v : Int)) = true := decide_eq_true (by have := HONE.out; omega)
      have HO2 : Hid (r = watl q v kpe) := Lib.hid (by rw [HO.out, hd, Bool.true_and])
      clear hge
      go_wp2_with fail
      have FX := Fr.refl [] w3
      go_region_held3 (fun w' => w'.heap[w.heap.size]? = some (.cells #[.int .u64 s.a, .int .u64 s.b, .int .u64 s.c, .int .u64 s.d, .int .u64 s.e] 67) ∧ w'.heap[w.heap.size + 1]? = some (.cells #[.int .i64 k1, .int .i64 k2, .int .i64 k3, .int .i64 k4, .int .i64 k5, .int .i64 k6, .int .u64 k7, .int .u64 k8, .int .i64 (mx : Int), .int .i64 kpe, .int .u64 k11, .int .i64 k12, .int .u64 k13, .int .u64 k14, .int .i64 k15, .int .i64 k16] 24))
        (with_reducible exact KS.out _ (by with_reducible repeat (first | exact FX | exact Fr.refl _ _ | apply Fr.drew | apply Fr.drewN | apply Fr.alloc)))
        (first
          | (go_at_call 65; refine (HE.out _).mono ?_; rintro e wA ⟨rfl, F⟩; have FX : Fr [] w3 wA := Fr.trans (by with_reducible repeat (first | exact FX | exact Fr.refl _ _ | apply Fr.drew | apply Fr.drewN | apply Fr.alloc)) F; clear F)
          | (go_at_call 66; refine (HA.out _).mono ?_; rintro e wA ⟨rfl, rfl⟩; have FX : Fr [] w3 wA := (by with_reducible repeat (first | exact FX | exact Fr.refl _ _ | apply Fr.drew | apply Fr.drewN | apply Fr.alloc))))
      all_goals (
        clear KS hc1 hc2 HE HA
        go_wp2_with fail
        go_ret
        exact ⟨ret_boolS HO2.out.symm, HF3.out.trans (by with_reducible repeat (first | exact FX | exact Fr.refl _ _ | apply Fr.drew | apply Fr.drewN | apply Fr.alloc))⟩)
    · have hd : decide (mx ≤ v) = false := decide_eq_false hge
      have hd2 : decide ((1 : Int) ≤ (v : Int)) = false := decide_eq_false (by have := HONE.out; omega)
      have HO2 : Hid (r = false) := Lib.hid (by rw [HO.out, hd, Bool.false_and])
      have c8 : w3.cell? ⟨w.heap.size + 1, 8, none⟩ = some (.int .i64 (mx : Int)) := by rw [cell_of_block (KS.out _ (Fr.refl _ _)).2]; rfl
      clear hge KS hc1 hc2 HE HA
      go_wp2_with fail
      go_quiet (fail)
      go_wp2_with fail
      go_ret
      exact ⟨ret_boolS HO2.out.symm, HF3.out.drewN _⟩

  · have hn1 : (1 : Int) < (mx : Int) := by omega
    clear h12
    go_enter Tryz.func22, Tryz.ntmps22
    go_wp2_with fail
    rw [← HW.out]
    refine (HV.out _).mono ?_
    rintro e w3 ⟨rfl, F⟩
    have HF3 := Lib.hid (HF.out.trans F)
    have HC1 := Lib.hid (F.keep HB1.out (by simp))
    have HC2 := Lib.hid (F.keep HB2.out (by simp))
    have KS : Hid (∀ w' : World, Fr [] w3 w' → w'.heap[w.heap.size]? = some (.cells #[.int .u64 s.a, .int .u64 s.b, .int .u64 s.c, .int .u64 s.d, .int .u64 s.e] 67) ∧ w'.heap[w.heap.size + 1]? = some (.cells #[.int .i64 k1, .int .i64 k2, .int .i64 k3, .int .i64 k4, .int .i64 k5, .int .i64 k6, .int .u64 k7, .int .u64 k8, .int .i64 (mx : Int), .int .i64 kpe, .int .u64 k11, .int .i64 k12, .int .u64 k13, .int .u64 k14, .int .i64 k15, .int .i64 k16] 24)) := Lib.hid (fun w' F => ⟨F.keep HC1.out (by simp), F.keep HC2.out (by simp)⟩)
    have hc1 : ∀ (w' : World) (i : Nat), w'.heap[w.heap.size]? = some (.cells #[.int .u64 s.a, .int .u64 s.b, .int .u64 s.c, .int .u64 s.d, .int .u64 s.e] 67) → w'.cell? ⟨w.heap.size, i, none⟩ = #[.int .u64 s.a, .int .u64 s.b, .int .u64 s.c, .int .u64 s.d, .int .u64 s.e][i]? := fun w' i h => cell_of_block h i
    have hc2 : ∀ (w' : World) (i : Nat), w'.heap[w.heap.size + 1]? = some (.cells #[.int .i64 k1, .int .i64 k2, .int .i64 k3, .int .i64 k4, .int .i64 k5, .int .i64 k6, .int .u64 k7, .int .u64 k8, .int .i64 (mx : Int), .int .i64 kpe, .int .u64 k11, .int .i64 k12, .int .u64 k13, .int .u64 k14, .int .i64 k15, .int .i64 k16] 24) → w'.cell? ⟨w.heap.size + 1, i, none⟩ = #[.int .i64 k1, .int .i64 k2, .int .i64 k3, .int .i64 k4, .int .i64 k5, .int .i64 k6, .int .u64 k7, .int .u64 k8, .int .i64 (mx : Int), .int .i64 kpe, .int .u64 k11, .int .i64 k12, .int .u64 k13, .int .u64 k14, .int .i64 k15, .int .i64 k16][i]? := fun w' i h => cell_of_block h i
    clear F HC1 HC2 HB1 HB2 HV
    by_cases hge : mx ≤ v
    · have hd : decide (mx ≤ v) = true := decide_eq_true hge
      have hd2 : decide ((mx : Int) ≤ (v : Int)) = true := decide_eq_true (by omega)
      have HO2 : Hid (r = watl q v kpe) := Lib.hid (by rw [HO.out, hd, Bool.true_and])
      clear hge
      go_wp2_with fail
      have FX := Fr.refl [] w3
      go_region_held3 (fun w' => w'.heap[w.heap.size]? = some (.cells #[.int .u64 s.a, .int .u64 s.b, .int .u64 s.c, .int .u64 s.d, .int .u64 s.e] 67) ∧ w'.heap[w.heap.size + 1]? = some (.cells #[.int .i64 k1, .int .i64 k2, .int .i64 k3, .int .i64 k4, .int .i64 k5, .int .i64 k6, .int .u64 k7, .int .u64 k8, .int .i64 (mx : Int), .int .i64 kpe, .int .u64 k11, .int .i64 k12, .int .u64 k13, .int .u64 k14, .int .i64 k15, .int .i64 k16] 24))
        (with_reducible exact KS.out _ (by with_reducible repeat (first | exact FX | exact Fr.refl _ _ | apply Fr.drew | apply Fr.drewN | apply Fr.alloc)))
        (first
          | (go_at_call 65; refine (HE.out _).mono ?_; rintro e wA ⟨rfl, F⟩; have FX : Fr [] w3 wA := Fr.trans (by with_reducible repeat (first | exact FX | exact Fr.refl _ _ | apply Fr.drew | apply Fr.drewN | apply Fr.alloc)) F; clear F)
          | (go_at_call 66; refine (HA.out _).mono ?_; rintro e wA ⟨rfl, rfl⟩; have FX : Fr [] w3 wA := (by with_reducible repeat (first | exact FX | exact Fr.refl _ _ | apply Fr.drew | apply Fr.drewN | apply Fr.alloc))))
      all_goals (
        clear KS hc1 hc2 HE HA
        go_wp2_with fail
        go_ret
        exact ⟨ret_boolS HO2.out.symm, HF3.out.trans (by with_reducible repeat (first | exact FX | exact Fr.refl _ _ | apply Fr.drew | apply Fr.drewN | apply Fr.alloc))⟩)
    · have hd : decide (mx ≤ v) = false := decide_eq_false hge
      have hd2 : decide ((mx : Int) ≤ (v : Int)) = false := decide_eq_false (by omega)
      have HO2 : Hid (r = false) := Lib.hid (by rw [HO.out, hd, Bool.false_and])
      have c8 : w3.cell? ⟨w.heap.size + 1, 8, none⟩ = some (.int .i64 (mx : Int)) := by rw [cell_of_block (KS.out _ (Fr.refl _ _)).2]; rfl
      clear hge KS hc1 hc2 HE HA
      go_wp2_with fail
      go_quiet (fail)
      go_wp2_with fail
      go_ret
      exact ⟨ret_boolS HO2.out.symm, HF3.out.drewN _⟩
end Go.Proofs.YtcnkhjgpjchkeaaGreat
