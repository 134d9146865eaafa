/-
  porpoiselaw17.DepBounds.
-/
import Derived.Test.YtcnkhjgpjchkeaaZ13
namespace Go.Proofs.Ytcnkhjgpjchkeaa
open Go.RowKit

set_option maxHeartbeats 8000000 in
set_option maxRecDepth 20000 in
theorem depBounds_spec {w : World} (k : CF) (hr : k.Ran) {v : Value} {l : List Dd} (hl : Dds w v l) :
    Calls Try.prog 3 #[k.val, v] w fun e w' => e = .returned (.bool true) ∧ Fr [] w w' := by
  have HL := Lib.hid hl
  have HN := Lib.hid (fun w' => ref17_new w' k hr)
  have HD := Lib.hid (fun w' hf => depNew_yes w' k hf hr)
  have hiR : Hid ((Try.prog.info? 43).map (·.size) = some (ref17L k).length) := Lib.hid (by kernel_rfl)
  have HONE := Lib.hid (ref17L_one k)
  have hkv : Hid (k.val = .agg ([.int .i64 k.mode, .int .i64 k.pool, .int .i64 k.queue, .int .i64 k.sem, .int .i64 k.fb, .int .i64 k.ch, .int .u64 k.t, .int .u64 k.ft, .int .i64 k.vo, .int .i64 k.pe, .int .u64 k.sl, .int .i64 k.bu, .int .u64 k.wi, .int .u64 k.wd, .int .i64 k.ba, .int .i64 k.fo] : List Value).toArray) := Lib.hid rfl
  obtain ⟨ao, cap, rfl, hn, -⟩ := hl
  have HBC := Lib.hid (block_alloc_new w (.cells ([.int .i64 k.mode, .int .i64 k.pool, .int .i64 k.queue, .int .i64 k.sem, .int .i64 k.fb, .int .i64 k.ch, .int .u64 k.t, .int .u64 k.ft, .int .i64 k.vo, .int .i64 k.pe, .int .u64 k.sl, .int .i64 k.bu, .int .u64 k.wi, .int .u64 k.wd, .int .i64 k.ba, .int .i64 k.fo] : List Value).toArray 24))
  have HFC := Lib.hid ((Fr.refl [] w).alloc (.cells ([.int .i64 k.mode, .int .i64 k.pool, .int .i64 k.queue, .int .i64 k.sem, .int .i64 k.fb, .int .i64 k.ch, .int .u64 k.t, .int .u64 k.ft, .int .i64 k.vo, .int .i64 k.pe, .int .u64 k.sl, .int .i64 k.bu, .int .u64 k.wi, .int .u64 k.wd, .int .i64 k.ba, .int .i64 k.fo] : List Value).toArray 24))
  have KZ : Hid (∀ w' : World, w'.heap[w.heap.size]? = some (.cells ([.int .i64 k.mode, .int .i64 k.pool, .int .i64 k.queue, .int .i64 k.sem, .int .i64 k.fb, .int .i64 k.ch, .int .u64 k.t, .int .u64 k.ft, .int .i64 k.vo, .int .i64 k.pe, .int .u64 k.sl, .int .i64 k.bu, .int .u64 k.wi, .int .u64 k.wd, .int .i64 k.ba, .int .i64 k.fo] : List Value).toArray 24 (0, 0)) → ∀ j v, ([.int .i64 k.mode, .int .i64 k.pool, .int .i64 k.queue, .int .i64 k.sem, .int .i64 k.fb, .int .i64 k.ch, .int .u64 k.t, .int .u64 k.ft, .int .i64 k.vo, .int .i64 k.pe, .int .u64 k.sl, .int .i64 k.bu, .int .u64 k.wi, .int .u64 k.wd, .int .i64 k.ba, .int .i64 k.fo] : List Value)[j]? = some v → w'.cell? ⟨w.heap.size, j, none⟩ = some v) := Lib.hid (fun w' h j v hj => by rw [cell_of_block h, List.getElem?_toArray]; exact hj)
  have HLN : Hid ((ref17L k).length = 37) := Lib.hid rfl
  have HN : Hid (∀ w', Calls Try.prog 7 #[k.val] w' fun e w'' => e = .returned (.tuple #[.agg (ref17L k).toArray, .bool k.fine]) ∧ Fr [] w' w'') := HN
  generalize ref17L k = RL at *
  clear hr
  go_enter Try.func3, Try.ntmps3
  go_wp2_with fail
  refine (awake_spec _).mono ?_
  rintro e w1 ⟨rfl, F1⟩
  have HF1 := Lib.hid (HFC.out.trans F1)
  have HB1 := Lib.hid (F1.keep HBC.out (by simp))
  have q := KZ.out _ HB1.out
  have z0 := q 0 _ rfl
  have z1 := q 1 _ rfl
  have z2 := q 2 _ rfl
  have z3 := q 3 _ rfl
  have z4 := q 4 _ rfl
  have z5 := q 5 _ rfl
  have z6 := q 6 _ rfl
  have z7 := q 7 _ rfl
  have z8 := q 8 _ rfl
  have z9 := q 9 _ rfl
  have z10 := q 10 _ rfl
  have z11 := q 11 _ rfl
  have z12 := q 12 _ rfl
  have z13 := q 13 _ rfl
  have z14 := q 14 _ rfl
  have z15 := q 15 _ rfl
  clear q F1 HBC HFC
  go_wp2_with fail
  refine (HN.out _).mono ?_
  rintro e w2 ⟨rfl, F2⟩
  have HF2 := Lib.hid (HF1.out.trans F2)
  have HB2 := Lib.hid (F2.keep HB1.out (by simp))
  have hbZ := block_alloc_new w2 (.cells ((.int .i64 0 :: .int .i64 0 :: .int .i64 0 :: .int .i64 0 :: .int .i64 0 :: .int .i64 0 :: .int .u64 0 :: .int .u64 0 :: .int .i64 0 :: .int .i64 0 :: .int .u64 0 :: .int .i64 0 :: .int .u64 0 :: .int .u64 0 :: .int .i64 0 :: .int .i64 0 :: .int .i64 0 :: .int .u64 0 :: .int .u64 0 :: .int .i64 0 :: .int .i64 0 :: .int .i64 0 :: .slice none 0 0 :: .slice none 0 0 :: .slice none 0 0 :: .int .i64 0 :: .int .u64 0 :: .int .u64 0 :: .slice none 0 0 :: .int .i64 0 :: .int .u64 0 :: .int .u64 0 :: .slice none 0 0 :: .slice none 0 0 :: .int .i64 0 :: .slice none 0 0 :: .slice none 0 0 :: []) : List Value).toArray 43)
  have hth : (w2.alloc (.cells ((.int .i64 0 :: .int .i64 0 :: .int .i64 0 :: .int .i64 0 :: .int .i64 0 :: .int .i64 0 :: .int .u64 0 :: .int .u64 0 :: .int .i64 0 :: .int .i64 0 :: .int .u64 0 :: .int .i64 0 :: .int .u64 0 :: .int .u64 0 :: .int .i64 0 :: .int .i64 0 :: .int .i64 0 :: .int .u64 0 :: .int .u64 0 :: .int .i64 0 :: .int .i64 0 :: .int .i64 0 :: .slice none 0 0 :: .slice none 0 0 :: .slice none 0 0 :: .int .i64 0 :: .int .u64 0 :: .int .u64 0 :: .slice none 0 0 :: .int .i64 0 :: .int .u64 0 :: .int .u64 0 :: .slice none 0 0 :: .slice none 0 0 :: .int .i64 0 :: .slice none 0 0 :: .slice none 0 0 :: []) : List Value).toArray 43)).there w2.heap.size 0 RL.length := there_of hbZ HLN.out
  have hF3 := Fr.setCells (S := []) (b := w2.heap.size) (.inr (Nat.le_refl _)) RL 0 _ ((Fr.refl [] w2).alloc (.cells ((.int .i64 0 :: .int .i64 0 :: .int .i64 0 :: .int .i64 0 :: .int .i64 0 :: .int .i64 0 :: .int .u64 0 :: .int .u64 0 :: .int .i64 0 :: .int .i64 0 :: .int .u64 0 :: .int .i64 0 :: .int .u64 0 :: .int .u64 0 :: .int .i64 0 :: .int .i64 0 :: .int .i64 0 :: .int .u64 0 :: .int .u64 0 :: .int .i64 0 :: .int .i64 0 :: .int .i64 0 :: .slice none 0 0 :: .slice none 0 0 :: .slice none 0 0 :: .int .i64 0 :: .int .u64 0 :: .int .u64 0 :: .slice none 0 0 :: .int .i64 0 :: .int .u64 0 :: .int .u64 0 :: .slice none 0 0 :: .slice none 0 0 :: .int .i64 0 :: .slice none 0 0 :: .slice none 0 0 :: []) : List Value).toArray 43))
  have HF3 := Lib.hid hF3
  clear F2 HF1 HB1 HN hbZ hF3 z0 z1 z2 z3 z4 z5 z6 z7 z8 z9 z10 z11 z12 z13 z14 z15
  cases hf : k.fine with
  | false =>
    go_wp2_with (refine wpList_store_mid rfl 43 (.tmp 6) (.tmp 16) rfl w2.heap.size 0 RL.toArray rfl rfl hth hiR.out (all_oneCell_toArray HONE.out) ?_)
    go_ret
    exact ⟨rfl, HF2.out.trans HF3.out⟩
  | true =>
    have HFN := Lib.hid hf
    clear hf
    go_wp2_with (refine wpList_store_mid rfl 43 (.tmp 6) (.tmp 16) rfl w2.heap.size 0 RL.toArray rfl rfl hth hiR.out (all_oneCell_toArray HONE.out) ?_)
    have F3 := HF3.out
    generalize ((w2.alloc (.cells ((.int .i64 0 :: .int .i64 0 :: .int .i64 0 :: .int .i64 0 :: .int .i64 0 :: .int .i64 0 :: .int .u64 0 :: .int .u64 0 :: .int .i64 0 :: .int .i64 0 :: .int .u64 0 :: .int .i64 0 :: .int .u64 0 :: .int .u64 0 :: .int .i64 0 :: .int .i64 0 :: .int .i64 0 :: .int .u64 0 :: .int .u64 0 :: .int .i64 0 :: .int .i64 0 :: .int .i64 0 :: .slice none 0 0 :: .slice none 0 0 :: .slice none 0 0 :: .int .i64 0 :: .int .u64 0 :: .int .u64 0 :: .slice none 0 0 :: .int .i64 0 :: .int .u64 0 :: .int .u64 0 :: .slice none 0 0 :: .slice none 0 0 :: .int .i64 0 :: .slice none 0 0 :: .slice none 0 0 :: []) : List Value).toArray 43)).setCells w2.heap.size 0 RL) = w3 at F3 ⊢
    have HF4 := Lib.hid (HF2.out.trans F3)
    have HB3 := Lib.hid (F3.keep HB2.out (by simp))
    clear hth HF3 F3 HB2 HF2 HN hiR HONE HLN
    refine (few17_spec (HL.out.fr0 HF4.out)).mono ?_
    rintro e w4 ⟨fb, rfl, hfb, F4⟩
    have HF5 := Lib.hid (HF4.out.trans F4)
    have HB4 := Lib.hid (F4.keep HB3.out (by simp))
    clear F4 HB3 HF4
    cases fb with
    | false =>
      go_wp2_with fail
      go_ret
      exact ⟨rfl, HF5.out⟩
    | true =>
      obtain ⟨h60, hsm⟩ := hfb rfl
      have HSM := Lib.hid hsm
      have q := KZ.out _ HB4.out
      have z0 := q 0 _ rfl
      have z1 := q 1 _ rfl
      have z2 := q 2 _ rfl
      have z3 := q 3 _ rfl
      have z4 := q 4 _ rfl
      have z5 := q 5 _ rfl
      have z6 := q 6 _ rfl
      have z7 := q 7 _ rfl
      have z8 := q 8 _ rfl
      have z9 := q 9 _ rfl
      have z10 := q 10 _ rfl
      have z11 := q 11 _ rfl
      have z12 := q 12 _ rfl
      have z13 := q 13 _ rfl
      have z14 := q 14 _ rfl
      have z15 := q 15 _ rfl
      clear q hfb hsm
      go_wp2_with fail
      refine (HD.out _ HFN.out).mono ?_
      rintro e w5 ⟨A, rfl, D0, hge, F5⟩
      have HI0 := Lib.hid (DI.new D0 hge F5)
      clear D0 hge F5 HD z0 z1 z2 z3 z4 z5 z6 z7 z8 z9 z10 z11 z12 z13 z14 z15
      go_wp2_with fail
      go_loopw [9, 10] (fun nv iv wr => ∃ (i now : Nat) (M : DepM), i ≤ l.length ∧ iv = .int .i64 i ∧ nv = .int .u64 now ∧ now < 18446744073709551616 ∧ Hid (DI k A w4 wr i M)) (fun _ iv _ => l.length - (intOf iv).toNat)
      case atStart => exact ⟨0, 0, DepM.new k, Nat.zero_le _, rfl, rfl, by decide, HI0⟩
      case round =>
        obtain ⟨i, now, M, hi2, rfl, rfl, hnow, HI⟩ := hrel
        clear HI0
        by_cases hlt : i < l.length
        · obtain ⟨b, o, vv, va, vm, rfl, h8, hdv, ht⟩ := HL.out.at hlt
          have hva := hdv.vals.noBlk (A := A) (fun x hx => Nat.le_trans HF5.out.size (HI.out.ge x hx))
          have HVA := Lib.hid hva
          have HDV := Lib.hid (hdv.fr0 (HF5.out.trans HI.out.fr))
          have H8 := Lib.hid h8
          have HSD := Lib.hid (HSM.out i hlt)
          have hi60 : i ≤ 60 := by omega
          clear hva hdv h8
          generalize l.getD i default = d at *
          obtain ⟨c0, c1, c2, c3, c4, c5, c6, c7⟩ := H8.out.fr0 (HF5.out.trans HI.out.fr)
          have hi0 : (0 : Int) ≤ (i : Int) := by omega
          have hi1 : (i : Int) < (l.length : Int) := by omega
          go_wp2_with fail
          refine (refadd_spec _ now d.t hnow ht).mono ?_
          rintro e w6 ⟨rfl, hw6⟩
          subst hw6
          have hnow2 := sadd_lt now d.t
          generalize sadd now d.t = now2 at *
          go_wp2_with fail
          refine (do17_spec HI.out.dep now2 hnow2 HI.out.inv HI.out.sz (by omega) HSD.out HDV.out HVA.out).mono ?_
          rintro e w7 R7
          have HI2 := Lib.hid (HI.out.deed hnow2 HSD.out R7)
          obtain ⟨pa, po, rfl, -, -, ra, ro⟩ := R7
          obtain ⟨qa, qc, hqa⟩ := ownsFormD ra
          obtain ⟨qo, qd, hqo⟩ := ownsFormD ro
          subst hqa hqo
          clear ra ro c0 c1 c2 c3 c4 c5 c6 c7
          have HBO := Lib.hid HI2.out.bounds
          have HMK : Hid ((M.deed now2 d).1.M.k = k) := Lib.hid HI2.out.k
          generalize (M.deed now2 d).1.M = M2 at *
          go_wp2_with fail
          refine (snapD_spec HI2.out.dep now2 hnow2).mono ?_
          rintro e w8 R8
          have HI3 := Lib.hid (HI2.out.seen R8)
          have O := CF.okay HI2.out.dep.fine HI2.out.dep.ran
          rw [HMK.out] at O
          have HO1 := O.pool
          have HO2 := O.sem
          obtain ⟨rfl, -, -⟩ := R8
          rw [snapV_eq]
          obtain ⟨q1, q2, q3, q4, q5⟩ := HBO.out
          have HM3 : Hid ((M2.seen now2).k = (M2.seen now2).k) := Lib.hid rfl
          generalize hM3 : M2.seen now2 = M3 at HI3
          clear hM3 HM3
          generalize M2.run.length = x1 at *
          generalize M2.wait.length = x2 at *
          generalize M2.falls.length = x3 at *
          generalize M2.calls.length = x4 at *
          generalize M2.br.st = x5 at *
          generalize (M2.win.to now2).cn.a = x6 at *
          generalize (M2.win.to now2).cn.b = x7 at *
          generalize (M2.win.to now2).cn.c = x8 at *
          generalize (M2.win.to now2).cn.d = x9 at *
          generalize (M2.win.to now2).cn.e = x10 at *
          generalize (M2.took.to now2).pct 50 = x11 at *
          generalize (M2.took.to now2).pct 100 = x12 at *
          have HI4 := Lib.hid (HI3.out.fr0 ((Fr.refl [] w8).alloc (.cells #[.int .i64 x1, .int .i64 x2, .int .i64 x3, .int .i64 x4, .int .i64 x5, .int .u64 x6, .int .u64 x7, .int .u64 x8, .int .u64 x9, .int .u64 x10, .int .u64 x11, .int .u64 x12] 63)))
          have q := KZ.out _ (HI4.out.fr.keep HB4.out (by simp))
          have z1 := q 1 _ rfl
          have z2 := q 2 _ rfl
          have z3 := q 3 _ rfl
          have z4 := q 4 _ rfl
          have hwrap : IntKind.i64.wrap (k.pool + k.sem) = k.pool + k.sem := by rw [IntKind.wrap_i64]; omega
          have g1 : ¬ k.pool + k.sem < (x1 : Int) := by omega
          have g2 : ¬ k.queue < (x2 : Int) := by omega
          have g3 : ¬ k.fb < (x3 : Int) := by omega
          have g4 : ¬ (x1 : Int) < 0 := by omega
          have g5 : ¬ (x4 : Int) < (x1 : Int) := by omega
          have g6 : ¬ (x4 : Int) < (x2 : Int) := by omega
          clear q O HO1 HO2 q1 q2 q3 q4 q5 HI3 HI2 HI HBO HMK
          go_wp2_with fail
          go_roundw
          case rel => exact ⟨i + 1, now2, M3, by omega, by go_num, rfl, hnow2, HI4⟩
          case measure => simp [intOf]; omega
        · obtain rfl : i = l.length := by omega
          go_wp2_with fail
          go_ret
          exact ⟨rfl, HF5.out.trans HI.out.fr⟩
end Go.Proofs.Ytcnkhjgpjchkeaa
