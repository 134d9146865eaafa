/-
  porpoiselaw17.DepOpens.
-/
import Derived.Test.YtcnkhjgpjchkeaaGreatZ12
namespace Go.Proofs.YtcnkhjgpjchkeaaGreat
open Go.RowKit

/-- What the law's boxes hold. -/
structure OpS (b1 b2 b : Nat) (s1 s2 : Int) (n1 n2 : Cn) (k : CF) (w : World) : Prop where
  a4 : w.cell? ⟨b1, 4, none⟩ = some (.int .i64 s1)
  a5 : w.cell? ⟨b1, 5, none⟩ = some (.int .u64 n1.a)
  a6 : w.cell? ⟨b1, 6, none⟩ = some (.int .u64 n1.b)
  a7 : w.cell? ⟨b1, 7, none⟩ = some (.int .u64 n1.c)
  a8 : w.cell? ⟨b1, 8, none⟩ = some (.int .u64 n1.d)
  a9 : w.cell? ⟨b1, 9, none⟩ = some (.int .u64 n1.e)
  b4 : w.cell? ⟨b2, 4, none⟩ = some (.int .i64 s2)
  b5 : w.cell? ⟨b2, 5, none⟩ = some (.int .u64 n2.a)
  b6 : w.cell? ⟨b2, 6, none⟩ = some (.int .u64 n2.b)
  b7 : w.cell? ⟨b2, 7, none⟩ = some (.int .u64 n2.c)
  b8 : w.cell? ⟨b2, 8, none⟩ = some (.int .u64 n2.d)
  b9 : w.cell? ⟨b2, 9, none⟩ = some (.int .u64 n2.e)
  cf : w.rangeAt b 0 [.int .i64 k.mode, .int .i64 k.pool, .int .i64 k.queue, .int .i64 k.sem, .int .i64 k.fb, .int .i64 k.ch, .int .u64 k.t, .int .u64 k.ft, .int .i64 k.vo, .int .i64 k.pe, .int .u64 k.sl, .int .i64 k.bu, .int .u64 k.wi, .int .u64 k.wd, .int .i64 k.ba, .int .i64 k.fo]
theorem OpS.mk' {b1 b2 b : Nat} {s1 s2 : Int} {n1 n2 : Cn} {k : CF} {w : World} {E F G : TypeId} {f1 f2 f3 : Nat × Nat} {u0 u1 u2 u3 u10 u11 x0 x1 x2 x3 x10 x11 : Value}
    (h1 : w.heap[b1]? = some (.cells #[u0, u1, u2, u3, .int .i64 s1, .int .u64 n1.a, .int .u64 n1.b, .int .u64 n1.c, .int .u64 n1.d, .int .u64 n1.e, u10, u11] E f1))
    (h2 : w.heap[b2]? = some (.cells #[x0, x1, x2, x3, .int .i64 s2, .int .u64 n2.a, .int .u64 n2.b, .int .u64 n2.c, .int .u64 n2.d, .int .u64 n2.e, x10, x11] F f2))
    (h3 : w.heap[b]? = some (.cells ([.int .i64 k.mode, .int .i64 k.pool, .int .i64 k.queue, .int .i64 k.sem, .int .i64 k.fb, .int .i64 k.ch, .int .u64 k.t, .int .u64 k.ft, .int .i64 k.vo, .int .i64 k.pe, .int .u64 k.sl, .int .i64 k.bu, .int .u64 k.wi, .int .u64 k.wd, .int .i64 k.ba, .int .i64 k.fo] : List Value).toArray G f3)) : OpS b1 b2 b s1 s2 n1 n2 k w := by
  refine ⟨?_, ?_, ?_, ?_, ?_, ?_, ?_, ?_, ?_, ?_, ?_, ?_, range_of h3⟩
  all_goals first | (rw [cell_of_block h1]; rfl) | (rw [cell_of_block h2]; rfl)
set_option maxHeartbeats 8000000 in
set_option maxRecDepth 20000 in
theorem depOpens_spec {w : World} (k : CF) (hr : k.Ran) {v : Value} {l : List Dd} (hl : Dds w v l) :
    Calls Tryz.prog 5 #[k.val, v] w fun e w' => e = .returned (.bool true) ∧ Fr [] w w' := by
  have HL := Lib.hid hl
  have HN := Lib.hid (fun w' => ref17_new w' k hr)
  have HD := Lib.hid (fun w' hf => depNew_yes w' k hf hr)
  have hiR : Hid ((Tryz.prog.info? 45).map (·.size) = some (ref17L k).length) := Lib.hid (by kernel_rfl)
  have HONE := Lib.hid (ref17L_one k)
  have hkv : Hid (k.val = .agg ([.int .i64 k.mode, .int .i64 k.pool, .int .i64 k.queue, .int .i64 k.sem, .int .i64 k.fb, .int .i64 k.ch, .int .u64 k.t, .int .u64 k.ft, .int .i64 k.vo, .int .i64 k.pe, .int .u64 k.sl, .int .i64 k.bu, .int .u64 k.wi, .int .u64 k.wd, .int .i64 k.ba, .int .i64 k.fo] : List Value).toArray) := Lib.hid rfl
  obtain ⟨ao, cap, rfl, hn, -⟩ := hl
  have HBC := Lib.hid (block_alloc_new w (.cells ([.int .i64 k.mode, .int .i64 k.pool, .int .i64 k.queue, .int .i64 k.sem, .int .i64 k.fb, .int .i64 k.ch, .int .u64 k.t, .int .u64 k.ft, .int .i64 k.vo, .int .i64 k.pe, .int .u64 k.sl, .int .i64 k.bu, .int .u64 k.wi, .int .u64 k.wd, .int .i64 k.ba, .int .i64 k.fo] : List Value).toArray 24))
  have HFC := Lib.hid ((Fr.refl [] w).alloc (.cells ([.int .i64 k.mode, .int .i64 k.pool, .int .i64 k.queue, .int .i64 k.sem, .int .i64 k.fb, .int .i64 k.ch, .int .u64 k.t, .int .u64 k.ft, .int .i64 k.vo, .int .i64 k.pe, .int .u64 k.sl, .int .i64 k.bu, .int .u64 k.wi, .int .u64 k.wd, .int .i64 k.ba, .int .i64 k.fo] : List Value).toArray 24))
  have KZ : Hid (∀ w' : World, w'.heap[w.heap.size]? = some (.cells ([.int .i64 k.mode, .int .i64 k.pool, .int .i64 k.queue, .int .i64 k.sem, .int .i64 k.fb, .int .i64 k.ch, .int .u64 k.t, .int .u64 k.ft, .int .i64 k.vo, .int .i64 k.pe, .int .u64 k.sl, .int .i64 k.bu, .int .u64 k.wi, .int .u64 k.wd, .int .i64 k.ba, .int .i64 k.fo] : List Value).toArray 24 (0, 0)) → ∀ j v, ([.int .i64 k.mode, .int .i64 k.pool, .int .i64 k.queue, .int .i64 k.sem, .int .i64 k.fb, .int .i64 k.ch, .int .u64 k.t, .int .u64 k.ft, .int .i64 k.vo, .int .i64 k.pe, .int .u64 k.sl, .int .i64 k.bu, .int .u64 k.wi, .int .u64 k.wd, .int .i64 k.ba, .int .i64 k.fo] : List Value)[j]? = some v → w'.cell? ⟨w.heap.size, j, none⟩ = some v) := Lib.hid (fun w' h j v hj => by rw [cell_of_block h, List.getElem?_toArray]; exact hj)
  have HLN : Hid ((ref17L k).length = 37) := Lib.hid rfl
  have HN : Hid (∀ w', Calls Tryz.prog 9 #[k.val] w' fun e w'' => e = .returned (.tuple #[.agg (ref17L k).toArray, .bool k.fine]) ∧ Fr [] w' w'') := HN
  generalize ref17L k = RL at *
  clear hr
  go_enter Tryz.func5, Tryz.ntmps5
  go_wp2_with fail
  refine (awake_spec _).mono ?_
  rintro e w1 ⟨rfl, F1⟩
  have HF1 := Lib.hid (HFC.out.trans F1)
  have HB1 := Lib.hid (F1.keep HBC.out (by simp))
  have q := KZ.out _ HB1.out
  have z0 := q 0 _ rfl
  have z1 := q 1 _ rfl
  have z2 := q 2 _ rfl
  have z3 := q 3 _ rfl
  have z4 := q 4 _ rfl
  have z5 := q 5 _ rfl
  have z6 := q 6 _ rfl
  have z7 := q 7 _ rfl
  have z8 := q 8 _ rfl
  have z9 := q 9 _ rfl
  have z10 := q 10 _ rfl
  have z11 := q 11 _ rfl
  have z12 := q 12 _ rfl
  have z13 := q 13 _ rfl
  have z14 := q 14 _ rfl
  have z15 := q 15 _ rfl
  clear q F1 HBC HFC
  go_wp2_with fail
  refine (HN.out _).mono ?_
  rintro e w2 ⟨rfl, F2⟩
  have HF2 := Lib.hid (HF1.out.trans F2)
  have HB2 := Lib.hid (F2.keep HB1.out (by simp))
  have hbZ := block_alloc_new w2 (.cells ((.int .i64 0 :: .int .i64 0 :: .int .i64 0 :: .int .i64 0 :: .int .i64 0 :: .int .i64 0 :: .int .u64 0 :: .int .u64 0 :: .int .i64 0 :: .int .i64 0 :: .int .u64 0 :: .int .i64 0 :: .int .u64 0 :: .int .u64 0 :: .int .i64 0 :: .int .i64 0 :: .int .i64 0 :: .int .u64 0 :: .int .u64 0 :: .int .i64 0 :: .int .i64 0 :: .int .i64 0 :: .slice none 0 0 :: .slice none 0 0 :: .slice none 0 0 :: .int .i64 0 :: .int .u64 0 :: .int .u64 0 :: .slice none 0 0 :: .int .i64 0 :: .int .u64 0 :: .int .u64 0 :: .slice none 0 0 :: .slice none 0 0 :: .int .i64 0 :: .slice none 0 0 :: .slice none 0 0 :: []) : List Value).toArray 45)
  have hth : (w2.alloc (.cells ((.int .i64 0 :: .int .i64 0 :: .int .i64 0 :: .int .i64 0 :: .int .i64 0 :: .int .i64 0 :: .int .u64 0 :: .int .u64 0 :: .int .i64 0 :: .int .i64 0 :: .int .u64 0 :: .int .i64 0 :: .int .u64 0 :: .int .u64 0 :: .int .i64 0 :: .int .i64 0 :: .int .i64 0 :: .int .u64 0 :: .int .u64 0 :: .int .i64 0 :: .int .i64 0 :: .int .i64 0 :: .slice none 0 0 :: .slice none 0 0 :: .slice none 0 0 :: .int .i64 0 :: .int .u64 0 :: .int .u64 0 :: .slice none 0 0 :: .int .i64 0 :: .int .u64 0 :: .int .u64 0 :: .slice none 0 0 :: .slice none 0 0 :: .int .i64 0 :: .slice none 0 0 :: .slice none 0 0 :: []) : List Value).toArray 45)).there w2.heap.size 0 RL.length := there_of hbZ HLN.out
  have hF3 := Fr.setCells (S := []) (b := w2.heap.size) (.inr (Nat.le_refl _)) RL 0 _ ((Fr.refl [] w2).alloc (.cells ((.int .i64 0 :: .int .i64 0 :: .int .i64 0 :: .int .i64 0 :: .int .i64 0 :: .int .i64 0 :: .int .u64 0 :: .int .u64 0 :: .int .i64 0 :: .int .i64 0 :: .int .u64 0 :: .int .i64 0 :: .int .u64 0 :: .int .u64 0 :: .int .i64 0 :: .int .i64 0 :: .int .i64 0 :: .int .u64 0 :: .int .u64 0 :: .int .i64 0 :: .int .i64 0 :: .int .i64 0 :: .slice none 0 0 :: .slice none 0 0 :: .slice none 0 0 :: .int .i64 0 :: .int .u64 0 :: .int .u64 0 :: .slice none 0 0 :: .int .i64 0 :: .int .u64 0 :: .int .u64 0 :: .slice none 0 0 :: .slice none 0 0 :: .int .i64 0 :: .slice none 0 0 :: .slice none 0 0 :: []) : List Value).toArray 45))
  have HF3 := Lib.hid hF3
  clear F2 HF1 HB1 HN hbZ hF3 z0 z1 z2 z3 z4 z5 z6 z7 z8 z9 z10 z11 z12 z13 z14 z15
  cases hf : k.fine with
  | false =>
    go_wp2_with (refine wpList_store_mid rfl 45 (.tmp 6) (.tmp 18) rfl w2.heap.size 0 RL.toArray rfl rfl hth hiR.out (all_oneCell_toArray HONE.out) ?_)
    go_ret
    exact ⟨rfl, HF2.out.trans HF3.out⟩
  | true =>
    have HFN := Lib.hid hf
    clear hf
    go_wp2_with (refine wpList_store_mid rfl 45 (.tmp 6) (.tmp 18) rfl w2.heap.size 0 RL.toArray rfl rfl hth hiR.out (all_oneCell_toArray HONE.out) ?_)
    have F3 := HF3.out
    generalize ((w2.alloc (.cells ((.int .i64 0 :: .int .i64 0 :: .int .i64 0 :: .int .i64 0 :: .int .i64 0 :: .int .i64 0 :: .int .u64 0 :: .int .u64 0 :: .int .i64 0 :: .int .i64 0 :: .int .u64 0 :: .int .i64 0 :: .int .u64 0 :: .int .u64 0 :: .int .i64 0 :: .int .i64 0 :: .int .i64 0 :: .int .u64 0 :: .int .u64 0 :: .int .i64 0 :: .int .i64 0 :: .int .i64 0 :: .slice none 0 0 :: .slice none 0 0 :: .slice none 0 0 :: .int .i64 0 :: .int .u64 0 :: .int .u64 0 :: .slice none 0 0 :: .int .i64 0 :: .int .u64 0 :: .int .u64 0 :: .slice none 0 0 :: .slice none 0 0 :: .int .i64 0 :: .slice none 0 0 :: .slice none 0 0 :: []) : List Value).toArray 45)).setCells w2.heap.size 0 RL) = w3 at F3 ⊢
    have HF4 := Lib.hid (HF2.out.trans F3)
    have HB3 := Lib.hid (F3.keep HB2.out (by simp))
    clear hth HF3 F3 HB2 HF2 HN hiR HONE HLN
    refine (few17_spec (HL.out.fr0 HF4.out)).mono ?_
    rintro e w4 ⟨fb, rfl, hfb, F4⟩
    have HF5 := Lib.hid (HF4.out.trans F4)
    have HB4 := Lib.hid (F4.keep HB3.out (by simp))
    clear F4 HB3 HF4
    cases fb with
    | false =>
      go_wp2_with fail
      go_ret
      exact ⟨rfl, HF5.out⟩
    | true =>
      obtain ⟨h60, hsm⟩ := hfb rfl
      have HSM := Lib.hid hsm
      have q := KZ.out _ HB4.out
      have z0 := q 0 _ rfl
      have z1 := q 1 _ rfl
      have z2 := q 2 _ rfl
      have z3 := q 3 _ rfl
      have z4 := q 4 _ rfl
      have z5 := q 5 _ rfl
      have z6 := q 6 _ rfl
      have z7 := q 7 _ rfl
      have z8 := q 8 _ rfl
      have z9 := q 9 _ rfl
      have z10 := q 10 _ rfl
      have z11 := q 11 _ rfl
      have z12 := q 12 _ rfl
      have z13 := q 13 _ rfl
      have z14 := q 14 _ rfl
      have z15 := q 15 _ rfl
      clear q hfb hsm
      by_cases hfo : k.fo = 0
      case neg =>
        have hfb : (k.fo != 0) = true := by simpa using hfo
        go_wp2_with fail
        go_ret
        exact ⟨rfl, HF5.out⟩
      have hfb : (k.fo != 0) = false := by simpa using hfo
      have HFO := Lib.hid hfo
      clear hfo
      go_wp2_with fail
      refine (HD.out _ HFN.out).mono ?_
      rintro e w5 ⟨A, rfl, D0, hge, F5⟩
      have HI0 := Lib.hid (DI.new D0 hge F5)
      clear D0 hge F5 HD z0 z1 z2 z3 z4 z5 z6 z7 z8 z9 z10 z11 z12 z13 z14 z15
      go_wp2_with fail
      go_loopw [9, 10] (fun nv iv wr => ∃ (i now : Nat) (M : DepM), i ≤ l.length ∧ iv = .int .i64 i ∧ nv = .int .u64 now ∧ now < 18446744073709551616 ∧ Hid (DI k A w4 wr i M) ∧ Hid (BInv M)) (fun _ iv _ => l.length - (intOf iv).toNat)
      case atStart => exact ⟨0, 0, DepM.new k, Nat.zero_le _, rfl, rfl, by decide, HI0, Lib.hid (BInv.new k)⟩
      case round =>
        obtain ⟨i, now, M, hi2, rfl, rfl, hnow, HI, HBI⟩ := hrel
        clear HI0
        by_cases hlt : i < l.length
        · obtain ⟨b, o, vv, va, vm, rfl, h8, hdv, ht⟩ := HL.out.at hlt
          have hva := hdv.vals.noBlk (A := A) (fun x hx => Nat.le_trans HF5.out.size (HI.out.ge x hx))
          have HVA := Lib.hid hva
          have HDV := Lib.hid (hdv.fr0 (HF5.out.trans HI.out.fr))
          have HDV0 := Lib.hid hdv
          have H8 := Lib.hid h8
          have HSD := Lib.hid (HSM.out i hlt)
          have hi60 : i ≤ 60 := by omega
          clear hva hdv h8
          generalize l.getD i default = d at *
          obtain ⟨c0, c1, c2, c3, c4, c5, c6, c7⟩ := H8.out.fr0 (HF5.out.trans HI.out.fr)
          have hi0 : (0 : Int) ≤ (i : Int) := by omega
          have hi1 : (i : Int) < (l.length : Int) := by omega
          go_wp2_with fail
          refine (refadd_spec _ now d.t hnow ht).mono ?_
          rintro e w6 ⟨rfl, hw6⟩
          subst hw6
          have hnow2 := sadd_lt now d.t
          generalize sadd now d.t = now2 at *
          go_wp2_with fail
          refine (snapD_spec HI.out.dep now2 hnow2).mono ?_
          rintro e w7 R7
          have HI1 := Lib.hid (HI.out.seen R7)
          have hlow1 := HI1.out.dep.low
          obtain ⟨rfl, -, -⟩ := R7
          rw [snapV_eq]
          have HLW := Lib.hid (opens_law HBI.out HI.out.inv HI.out.dep.win.n1 (by have := HI.out.sz.win; omega) (by rw [HI.out.k]; exact HFO.out) d (now := now2))
          rw [HI.out.k] at HLW
          have HB3 := Lib.hid ((HBI.out.seen now2).deed HI1.out.inv now2 d)
          have HOK1 : Hid ((M.win.to now2).cn.ok) := Lib.hid (IsWin.cnOk HI1.out.dep.win (by show M.win.L.length ≤ _; have := HI.out.sz.win; omega))
          have hst := HBI.out.st
          have HST := Lib.hid hst
          generalize hsn1 : M.run.length = x1 at *
          generalize hsn2 : M.wait.length = x2 at *
          generalize hsn3 : M.falls.length = x3 at *
          generalize hsn4 : M.calls.length = x4 at *
          generalize hsn5 : (M.took.to now2).pct 50 = x11 at *
          generalize hsn6 : (M.took.to now2).pct 100 = x12 at *
          clear hsn1 hsn2 hsn3 hsn4 hsn5 hsn6 hst
          generalize hcn1 : (M.win.to now2).cn = n1 at *
          generalize hst1 : M.br.st = s1 at *
          generalize hms : M.seen now2 = M1 at *
          clear hcn1 hst1 hms
          have hb1 := block_alloc_new w7 (.cells #[.int .i64 x1, .int .i64 x2, .int .i64 x3, .int .i64 x4, .int .i64 s1, .int .u64 n1.a, .int .u64 n1.b, .int .u64 n1.c, .int .u64 n1.d, .int .u64 n1.e, .int .u64 x11, .int .u64 x12] 75)
          have hF8 := (Fr.refl [] w7).alloc (.cells #[.int .i64 x1, .int .i64 x2, .int .i64 x3, .int .i64 x4, .int .i64 s1, .int .u64 n1.a, .int .u64 n1.b, .int .u64 n1.c, .int .u64 n1.d, .int .u64 n1.e, .int .u64 x11, .int .u64 x12] 75)
          have HI2 := Lib.hid (HI1.out.fr0 hF8)
          clear HI1 HI HBI c0 c1 c2 c3 c4 c5 c6 c7
          obtain ⟨c0, c1, c2, c3, c4, c5, c6, c7⟩ := H8.out.fr0 (HF5.out.trans HI2.out.fr)
          have HDV2 := Lib.hid (HDV0.out.fr0 (HF5.out.trans HI2.out.fr))
          go_wp2_with fail
          generalize (w7.alloc (.cells #[.int .i64 x1, .int .i64 x2, .int .i64 x3, .int .i64 x4, .int .i64 s1, .int .u64 n1.a, .int .u64 n1.b, .int .u64 n1.c, .int .u64 n1.d, .int .u64 n1.e, .int .u64 x11, .int .u64 x12] 75)) = w8 at *
          clear c0 c1 c2 c3 c4 c5 c6 c7 hF8
          generalize hbx1 : w7.heap.size = bx1 at *
          clear hbx1
          refine (do17_spec HI2.out.dep now2 hnow2 HI2.out.inv HI2.out.sz (by omega) HSD.out HDV2.out HVA.out).mono ?_
          rintro e w9 R9
          have HI3 := Lib.hid (HI2.out.deed hnow2 HSD.out R9)
          obtain ⟨pa, po, rfl, -, F9, ra, ro⟩ := R9
          obtain ⟨qa, qc, hqa⟩ := ownsFormD ra
          obtain ⟨qo, qd, hqo⟩ := ownsFormD ro
          subst hqa hqo
          have hlow2 : bx1 ∉ A.list := fun hs => by have := hlow1 _ hs; omega
          have hb1 := F9.keep hb1 hlow2
          clear ra ro F9 hlow1
          generalize (M1.deed now2 d).1.M = M2 at *
          go_wp2_with fail
          refine (snapD_spec HI3.out.dep now2 hnow2).mono ?_
          rintro e w10 R10
          have HI4 := Lib.hid (HI3.out.seen R10)
          have HOK2 : Hid ((M2.win.to now2).cn.ok) := Lib.hid (IsWin.cnOk HI4.out.dep.win (by show M2.win.L.length ≤ _; have := HI3.out.sz.win; omega))
          have O := CF.okay HI4.out.dep.fine HI4.out.dep.ran
          rw [HI4.out.k] at O
          have HV0 := Lib.hid O.vo
          have HP0 := Lib.hid O.pe
          obtain ⟨rfl, -, F10⟩ := R10
          have hb1 := F10.keep hb1 hlow2
          rw [snapV_eq]
          have HB5 := Lib.hid (HB3.out.seen now2)
          generalize hm3 : M2.seen now2 = M3 at HI4 HB5
          generalize M2.run.length = y1 at *
          generalize M2.wait.length = y2 at *
          generalize M2.falls.length = y3 at *
          generalize M2.calls.length = y4 at *
          generalize (M2.took.to now2).pct 50 = y11 at *
          generalize (M2.took.to now2).pct 100 = y12 at *
          generalize (M2.win.to now2).cn = n2 at *
          generalize M2.br.st = s2 at *
          clear hm3 F10 hlow2 O
          have hb2 := block_alloc_new w10 (.cells #[.int .i64 y1, .int .i64 y2, .int .i64 y3, .int .i64 y4, .int .i64 s2, .int .u64 n2.a, .int .u64 n2.b, .int .u64 n2.c, .int .u64 n2.d, .int .u64 n2.e, .int .u64 y11, .int .u64 y12] 75)
          have hb1 := block_alloc hb1 (.cells #[.int .i64 y1, .int .i64 y2, .int .i64 y3, .int .i64 y4, .int .i64 s2, .int .u64 n2.a, .int .u64 n2.b, .int .u64 n2.c, .int .u64 n2.d, .int .u64 n2.e, .int .u64 y11, .int .u64 y12] 75)
          have HI5 := Lib.hid (HI4.out.fr0 ((Fr.refl [] w10).alloc (.cells #[.int .i64 y1, .int .i64 y2, .int .i64 y3, .int .i64 y4, .int .i64 s2, .int .u64 n2.a, .int .u64 n2.b, .int .u64 n2.c, .int .u64 n2.d, .int .u64 n2.e, .int .u64 y11, .int .u64 y12] 75)))
          clear HI4 HI3 HI2 HB3
          go_wp2_with fail
          generalize (w10.alloc (.cells #[.int .i64 y1, .int .i64 y2, .int .i64 y3, .int .i64 y4, .int .i64 s2, .int .u64 n2.a, .int .u64 n2.b, .int .u64 n2.c, .int .u64 n2.d, .int .u64 n2.e, .int .u64 y11, .int .u64 y12] 75)) = w11 at *
          generalize w10.heap.size = bx2 at *
          have hbc := HI5.out.fr.keep HB4.out (by simp)
          have KS : Hid (∀ w' : World, Fr [] w11 w' → OpS bx1 bx2 w.heap.size s1 s2 n1 n2 k w') := Lib.hid (fun w' F => OpS.mk' (F.keep hb1 (by simp)) (F.keep hb2 (by simp)) (F.keep hbc (by simp)))
          have HV1 := Lib.hid (fun w' => refvol_spec w' n1 HOK1.out)
          have HV2 := Lib.hid (fun w' => refvol_spec w' n2 HOK2.out)
          have HOP := Lib.hid (fun w' => refopens_spec w' n2 HOK2.out k HV0.out.1 (by have := HV0.out.2; omega) (by have := HP0.out.2; omega))
          have hkv : k.val = .agg ([.int .i64 k.mode, .int .i64 k.pool, .int .i64 k.queue, .int .i64 k.sem, .int .i64 k.fb, .int .i64 k.ch, .int .u64 k.t, .int .u64 k.ft, .int .i64 k.vo, .int .i64 k.pe, .int .u64 k.sl, .int .i64 k.bu, .int .u64 k.wi, .int .u64 k.wd, .int .i64 k.ba, .int .i64 k.fo] : List Value).toArray := rfl
          rw [hkv] at HOP
          unfold Cn.vals at HV1 HV2 HOP
          have hu := Lib.hid Tryz.underlying24
          have hiC : Hid ((Tryz.prog.info? 24).map (·.size) = some ([.int .i64 k.mode, .int .i64 k.pool, .int .i64 k.queue, .int .i64 k.sem, .int .i64 k.fb, .int .i64 k.ch, .int .u64 k.t, .int .u64 k.ft, .int .i64 k.vo, .int .i64 k.pe, .int .u64 k.sl, .int .i64 k.bu, .int .u64 k.wi, .int .u64 k.wd, .int .i64 k.ba, .int .i64 k.fo] : List Value).length) := Lib.hid (by kernel_rfl)
          have F0 : Fr [] w11 w11.drew := (Fr.refl _ _).drew
          clear hb1 hb2 hbc HV0 HP0 hkv HOK1 HOK2
          generalize n2.opens k.vo k.pe = op at *
          generalize n1.vol = v1 at *
          generalize n2.vol = v2 at *
          have hcs : (s1 = 1 ∧ ¬ v1 < v2 ∧ s2 = 1) ∨ (s1 = 1 ∧ v1 < v2 ∧ (s2 == 2) = op) ∨ (s1 ≠ 1 ∧ v1 < v2) ∨ (s1 ≠ 1 ∧ ¬ v1 < v2) := by
            by_cases e1 : s1 = 1
            · rcases HLW.out e1 with ⟨h1, h2⟩ | ⟨h1, h2⟩
              · exact .inl ⟨e1, by simpa using h1, h2⟩
              · exact .inr (.inl ⟨e1, by simpa using h1, h2⟩)
            · by_cases e2 : v1 < v2
              · exact .inr (.inr (.inl ⟨e1, e2⟩))
              · exact .inr (.inr (.inr ⟨e1, e2⟩))
          clear HLW
          rcases hcs with ⟨rfl, hg, rfl⟩ | ⟨rfl, hg, hop⟩ | ⟨hs1, hg⟩ | ⟨hs1, hg⟩
          · have hgi : ¬ (v1 : Int) < (v2 : Int) := by omega
            refine wp_region_held_drew (S := OpS bx1 bx2 w.heap.size 1 1 n1 n2 k) (by kernel_rfl) (KS.out _ F0) (fun hHeld => ?_)
            have hRg : Array.replicate 8 false = #[false, false, false, false, false, false, false, false] := rfl
            refine (?_ : wpAnyH _ _ _ _ _ 8 (Array.replicate 8 false) _ _)
            rw [hRg]
            refine wpAnyH_hide (fun _ _ d _ _ h => by cases d <;> exact h) (fun ops Q hops hQ hQn => ?_)
            clear hRg
            have e0 := congrArg (fun x : Array Oper => x[0]?) hops.out
            simp only [List.getElem?_toArray, List.getElem?_cons_zero] at e0
            have e1 := congrArg (fun x : Array Oper => x[1]?) hops.out
            simp only [List.getElem?_toArray, List.getElem?_cons_zero, List.getElem?_cons_succ] at e1
            have e2 := congrArg (fun x : Array Oper => x[2]?) hops.out
            simp only [List.getElem?_toArray, List.getElem?_cons_zero, List.getElem?_cons_succ] at e2
            have e3 := congrArg (fun x : Array Oper => x[3]?) hops.out
            simp only [List.getElem?_toArray, List.getElem?_cons_zero, List.getElem?_cons_succ] at e3
            have e4 := congrArg (fun x : Array Oper => x[4]?) hops.out
            simp only [List.getElem?_toArray, List.getElem?_cons_zero, List.getElem?_cons_succ] at e4
            have e5 := congrArg (fun x : Array Oper => x[5]?) hops.out
            simp only [List.getElem?_toArray, List.getElem?_cons_zero, List.getElem?_cons_succ] at e5
            have e6 := congrArg (fun x : Array Oper => x[6]?) hops.out
            simp only [List.getElem?_toArray, List.getElem?_cons_zero, List.getElem?_cons_succ] at e6
            have e7 := congrArg (fun x : Array Oper => x[7]?) hops.out
            simp only [List.getElem?_toArray, List.getElem?_cons_zero, List.getElem?_cons_succ] at e7
            refine wpAnyH_take (i := 0) (v := .pointer (some ⟨bx2, 5, none⟩)) e0 (by rw [hops.out]; kernel_rfl) (by rw [hops.out]; kernel_rfl) (by rw [hops.out]; kernel_rfl) (fun c a w h => hQ c a _ _ w h) (Or.inl ⟨rfl, fun w' _ => by go_simp⟩) hHeld ?_
            (try simp only [Act.put, List.setIfInBounds_toArray, List.set_cons_zero, List.set_cons_succ])
            refine wpAnyH_take (i := 1) (v := .agg #[.int .u64 n2.a, .int .u64 n2.b, .int .u64 n2.c, .int .u64 n2.d, .int .u64 n2.e]) e1 (by rw [hops.out]; kernel_rfl) (by rw [hops.out]; kernel_rfl) (by rw [hops.out]; kernel_rfl) (fun c a w h => hQ c a _ _ w h) (Or.inl ⟨rfl, fun w' hS => by have z5 := hS.b5; have z6 := hS.b6; have z7 := hS.b7; have z8 := hS.b8; have z9 := hS.b9; go_simp⟩) hHeld ?_
            (try simp only [Act.put, List.setIfInBounds_toArray, List.set_cons_zero, List.set_cons_succ])
            refine wpAnyH_take (i := 3) (v := .pointer (some ⟨bx1, 5, none⟩)) e3 (by rw [hops.out]; kernel_rfl) (by rw [hops.out]; kernel_rfl) (by rw [hops.out]; kernel_rfl) (fun c a w h => hQ c a _ _ w h) (Or.inl ⟨rfl, fun w' _ => by go_simp⟩) hHeld ?_
            (try simp only [Act.put, List.setIfInBounds_toArray, List.set_cons_zero, List.set_cons_succ])
            refine wpAnyH_take (i := 4) (v := .agg #[.int .u64 n1.a, .int .u64 n1.b, .int .u64 n1.c, .int .u64 n1.d, .int .u64 n1.e]) e4 (by rw [hops.out]; kernel_rfl) (by rw [hops.out]; kernel_rfl) (by rw [hops.out]; kernel_rfl) (fun c a w h => hQ c a _ _ w h) (Or.inl ⟨rfl, fun w' hS => by have z5 := hS.a5; have z6 := hS.a6; have z7 := hS.a7; have z8 := hS.a8; have z9 := hS.a9; go_simp⟩) hHeld ?_
            (try simp only [Act.put, List.setIfInBounds_toArray, List.set_cons_zero, List.set_cons_succ])
            refine wpAnyH_ready (rs := [2]) (by rw [hops.out]; kernel_rfl) (by simp) ?_
            refine AllReadyH.cons e2 (fun K hK => ?_) AllReadyH.nil
            go_simp
            go_at_call 21
            refine (HV2.out _).mono ?_
            rintro e w12 ⟨rfl, FV⟩
            go_wp2_with fail
            have FA := F0.trans FV
            refine hK.out _ _ (KS.out _ FA) (fun hHeld => ?_)
            clear hK K
            (try simp only [List.setIfInBounds_toArray, List.set_cons_zero, List.set_cons_succ])
            refine wpAnyH_ready (rs := [5]) (by rw [hops.out]; kernel_rfl) (by simp) ?_
            refine AllReadyH.cons e5 (fun K hK => ?_) AllReadyH.nil
            go_simp
            go_at_call 21
            refine (HV1.out _).mono ?_
            rintro e w13 ⟨rfl, FV⟩
            go_wp2_with fail
            have FB := FA.trans FV
            refine hK.out _ _ (KS.out _ FB) (fun hHeld => ?_)
            clear hK K
            (try simp only [List.setIfInBounds_toArray, List.set_cons_zero, List.set_cons_succ])
            refine wpAnyH_take (i := 6) (v := .bool false) e6 (by rw [hops.out]; kernel_rfl) (by rw [hops.out]; kernel_rfl) (by rw [hops.out]; kernel_rfl) (fun c a w h => hQ c a _ _ w h) (Or.inl ⟨rfl, fun w' _ => by go_simp⟩) hHeld ?_
            (try simp only [Act.put, List.setIfInBounds_toArray, List.set_cons_zero, List.set_cons_succ])
            refine wpAnyH_take (i := 7) (v := .bool false) e7 (by rw [hops.out]; kernel_rfl) (by rw [hops.out]; kernel_rfl) (by rw [hops.out]; kernel_rfl) (fun c a w h => hQ c a _ _ w h) (Or.inl ⟨rfl, fun w' _ => by go_simp⟩) hHeld ?_
            (try simp only [Act.put, List.setIfInBounds_toArray, List.set_cons_zero, List.set_cons_succ])
            refine wpAnyH_done (by rw [hops.out]; kernel_rfl) (hQn.out _ _ ?_) _
            clear hQn hQ hops e0 e1 e2 e3 e4 e5 e6 e7 hHeld
            go_wp2_with fail
            have FD : Fr [] w11 w13.drew := FB.drew
            refine wp_region_held_drew (S := OpS bx1 bx2 w.heap.size 1 1 n1 n2 k) (by kernel_rfl) (KS.out _ FD) (fun hHeld => ?_)
            have hRg : Array.replicate 30 false = #[false, false, false, false, false, false, false, false, false, false, false, false, false, false, false, false, false, false, false, false, false, false, false, false, false, false, false, false, false, false] := rfl
            refine (?_ : wpAnyH _ _ _ _ _ 30 (Array.replicate 30 false) _ _)
            rw [hRg]
            refine wpAnyH_hide (fun _ _ d _ _ h => by cases d <;> exact h) (fun ops Q hops hQ hQn => ?_)
            clear hRg
            have e0 := congrArg (fun x : Array Oper => x[0]?) hops.out
            simp only [List.getElem?_toArray, List.getElem?_cons_zero] at e0
            have e1 := congrArg (fun x : Array Oper => x[1]?) hops.out
            simp only [List.getElem?_toArray, List.getElem?_cons_zero, List.getElem?_cons_succ] at e1
            have e2 := congrArg (fun x : Array Oper => x[2]?) hops.out
            simp only [List.getElem?_toArray, List.getElem?_cons_zero, List.getElem?_cons_succ] at e2
            have e3 := congrArg (fun x : Array Oper => x[3]?) hops.out
            simp only [List.getElem?_toArray, List.getElem?_cons_zero, List.getElem?_cons_succ] at e3
            have e4 := congrArg (fun x : Array Oper => x[4]?) hops.out
            simp only [List.getElem?_toArray, List.getElem?_cons_zero, List.getElem?_cons_succ] at e4
            have e5 := congrArg (fun x : Array Oper => x[5]?) hops.out
            simp only [List.getElem?_toArray, List.getElem?_cons_zero, List.getElem?_cons_succ] at e5
            have e6 := congrArg (fun x : Array Oper => x[6]?) hops.out
            simp only [List.getElem?_toArray, List.getElem?_cons_zero, List.getElem?_cons_succ] at e6
            have e7 := congrArg (fun x : Array Oper => x[7]?) hops.out
            simp only [List.getElem?_toArray, List.getElem?_cons_zero, List.getElem?_cons_succ] at e7
            have e8 := congrArg (fun x : Array Oper => x[8]?) hops.out
            simp only [List.getElem?_toArray, List.getElem?_cons_zero, List.getElem?_cons_succ] at e8
            have e9 := congrArg (fun x : Array Oper => x[9]?) hops.out
            simp only [List.getElem?_toArray, List.getElem?_cons_zero, List.getElem?_cons_succ] at e9
            have e10 := congrArg (fun x : Array Oper => x[10]?) hops.out
            simp only [List.getElem?_toArray, List.getElem?_cons_zero, List.getElem?_cons_succ] at e10
            have e11 := congrArg (fun x : Array Oper => x[11]?) hops.out
            simp only [List.getElem?_toArray, List.getElem?_cons_zero, List.getElem?_cons_succ] at e11
            have e12 := congrArg (fun x : Array Oper => x[12]?) hops.out
            simp only [List.getElem?_toArray, List.getElem?_cons_zero, List.getElem?_cons_succ] at e12
            have e13 := congrArg (fun x : Array Oper => x[13]?) hops.out
            simp only [List.getElem?_toArray, List.getElem?_cons_zero, List.getElem?_cons_succ] at e13
            have e14 := congrArg (fun x : Array Oper => x[14]?) hops.out
            simp only [List.getElem?_toArray, List.getElem?_cons_zero, List.getElem?_cons_succ] at e14
            have e15 := congrArg (fun x : Array Oper => x[15]?) hops.out
            simp only [List.getElem?_toArray, List.getElem?_cons_zero, List.getElem?_cons_succ] at e15
            have e16 := congrArg (fun x : Array Oper => x[16]?) hops.out
            simp only [List.getElem?_toArray, List.getElem?_cons_zero, List.getElem?_cons_succ] at e16
            have e17 := congrArg (fun x : Array Oper => x[17]?) hops.out
            simp only [List.getElem?_toArray, List.getElem?_cons_zero, List.getElem?_cons_succ] at e17
            have e18 := congrArg (fun x : Array Oper => x[18]?) hops.out
            simp only [List.getElem?_toArray, List.getElem?_cons_zero, List.getElem?_cons_succ] at e18
            have e19 := congrArg (fun x : Array Oper => x[19]?) hops.out
            simp only [List.getElem?_toArray, List.getElem?_cons_zero, List.getElem?_cons_succ] at e19
            have e20 := congrArg (fun x : Array Oper => x[20]?) hops.out
            simp only [List.getElem?_toArray, List.getElem?_cons_zero, List.getElem?_cons_succ] at e20
            have e21 := congrArg (fun x : Array Oper => x[21]?) hops.out
            simp only [List.getElem?_toArray, List.getElem?_cons_zero, List.getElem?_cons_succ] at e21
            have e22 := congrArg (fun x : Array Oper => x[22]?) hops.out
            simp only [List.getElem?_toArray, List.getElem?_cons_zero, List.getElem?_cons_succ] at e22
            have e23 := congrArg (fun x : Array Oper => x[23]?) hops.out
            simp only [List.getElem?_toArray, List.getElem?_cons_zero, List.getElem?_cons_succ] at e23
            have e24 := congrArg (fun x : Array Oper => x[24]?) hops.out
            simp only [List.getElem?_toArray, List.getElem?_cons_zero, List.getElem?_cons_succ] at e24
            have e25 := congrArg (fun x : Array Oper => x[25]?) hops.out
            simp only [List.getElem?_toArray, List.getElem?_cons_zero, List.getElem?_cons_succ] at e25
            have e26 := congrArg (fun x : Array Oper => x[26]?) hops.out
            simp only [List.getElem?_toArray, List.getElem?_cons_zero, List.getElem?_cons_succ] at e26
            have e27 := congrArg (fun x : Array Oper => x[27]?) hops.out
            simp only [List.getElem?_toArray, List.getElem?_cons_zero, List.getElem?_cons_succ] at e27
            have e28 := congrArg (fun x : Array Oper => x[28]?) hops.out
            simp only [List.getElem?_toArray, List.getElem?_cons_zero, List.getElem?_cons_succ] at e28
            have e29 := congrArg (fun x : Array Oper => x[29]?) hops.out
            simp only [List.getElem?_toArray, List.getElem?_cons_zero, List.getElem?_cons_succ] at e29
            refine wpAnyH_take (i := 0) (v := .pointer (some ⟨bx1, 4, none⟩)) e0 (by rw [hops.out]; kernel_rfl) (by rw [hops.out]; kernel_rfl) (by rw [hops.out]; kernel_rfl) (fun c a w h => hQ c a _ _ w h) (Or.inl ⟨by rw [hops.out]; rfl, fun w' _ => by go_simp⟩) hHeld ?_
            (try simp only [Act.put, List.setIfInBounds_toArray, List.set_cons_zero, List.set_cons_succ])
            refine wpAnyH_take (i := 1) (v := .int .i64 1) e1 (by rw [hops.out]; kernel_rfl) (by rw [hops.out]; kernel_rfl) (by rw [hops.out]; kernel_rfl) (fun c a w h => hQ c a _ _ w h) (Or.inl ⟨by rw [hops.out]; rfl, fun w' hS => by have z := hS.a4; go_simp⟩) hHeld ?_
            (try simp only [Act.put, List.setIfInBounds_toArray, List.set_cons_zero, List.set_cons_succ])
            refine wpAnyH_take (i := 2) (v := .bool true) e2 (by rw [hops.out]; kernel_rfl) (by rw [hops.out]; kernel_rfl) (by rw [hops.out]; kernel_rfl) (fun c a w h => hQ c a _ _ w h) (Or.inl ⟨by rw [hops.out]; rfl, fun w' _ => by go_simp⟩) hHeld ?_
            (try simp only [Act.put, List.setIfInBounds_toArray, List.set_cons_zero, List.set_cons_succ])
            refine wpAnyH_take (i := 3) (v := .bool true) e3 (by rw [hops.out]; kernel_rfl) (by rw [hops.out]; kernel_rfl) (by rw [hops.out]; kernel_rfl) (fun c a w h => hQ c a _ _ w h) (Or.inl ⟨by rw [hops.out]; rfl, fun w' _ => by go_simp⟩) hHeld ?_
            (try simp only [Act.put, List.setIfInBounds_toArray, List.set_cons_zero, List.set_cons_succ])
            refine wpAnyH_take (i := 4) (v := .bool false) e4 (by rw [hops.out]; kernel_rfl) (by rw [hops.out]; kernel_rfl) (by rw [hops.out]; kernel_rfl) (fun c a w h => hQ c a _ _ w h) (Or.inl ⟨by rw [hops.out]; rfl, fun w' _ => by go_simp⟩) hHeld ?_
            (try simp only [Act.put, List.setIfInBounds_toArray, List.set_cons_zero, List.set_cons_succ])
            refine wpAnyH_take (i := 5) (v := .bool false) e5 (by rw [hops.out]; kernel_rfl) (by rw [hops.out]; kernel_rfl) (by rw [hops.out]; kernel_rfl) (fun c a w h => hQ c a _ _ w h) (Or.inl ⟨by rw [hops.out]; rfl, fun w' _ => by go_simp⟩) hHeld ?_
            (try simp only [Act.put, List.setIfInBounds_toArray, List.set_cons_zero, List.set_cons_succ])
            refine wpAnyH_take (i := 6) (v := .bool false) e6 (by rw [hops.out]; kernel_rfl) (by rw [hops.out]; kernel_rfl) (by rw [hops.out]; kernel_rfl) (fun c a w h => hQ c a _ _ w h) (Or.inl ⟨by rw [hops.out]; rfl, fun w' _ => by go_simp⟩) hHeld ?_
            (try simp only [Act.put, List.setIfInBounds_toArray, List.set_cons_zero, List.set_cons_succ])
            refine wpAnyH_take (i := 7) (v := undef) e7 (by rw [hops.out]; kernel_rfl) (by rw [hops.out]; kernel_rfl) (by rw [hops.out]; kernel_rfl) (fun c a w h => hQ c a _ _ w h) (Or.inr ⟨by rw [hops.out]; rfl, rfl⟩) hHeld ?_
            (try simp only [Act.put, List.setIfInBounds_toArray, List.set_cons_zero, List.set_cons_succ])
            refine wpAnyH_take (i := 8) (v := undef) e8 (by rw [hops.out]; kernel_rfl) (by rw [hops.out]; kernel_rfl) (by rw [hops.out]; kernel_rfl) (fun c a w h => hQ c a _ _ w h) (Or.inr ⟨by rw [hops.out]; rfl, rfl⟩) hHeld ?_
            (try simp only [Act.put, List.setIfInBounds_toArray, List.set_cons_zero, List.set_cons_succ])
            refine wpAnyH_take (i := 9) (v := undef) e9 (by rw [hops.out]; kernel_rfl) (by rw [hops.out]; kernel_rfl) (by rw [hops.out]; kernel_rfl) (fun c a w h => hQ c a _ _ w h) (Or.inr ⟨by rw [hops.out]; rfl, rfl⟩) hHeld ?_
            (try simp only [Act.put, List.setIfInBounds_toArray, List.set_cons_zero, List.set_cons_succ])
            refine wpAnyH_take (i := 10) (v := undef) e10 (by rw [hops.out]; kernel_rfl) (by rw [hops.out]; kernel_rfl) (by rw [hops.out]; kernel_rfl) (fun c a w h => hQ c a _ _ w h) (Or.inr ⟨by rw [hops.out]; rfl, rfl⟩) hHeld ?_
            (try simp only [Act.put, List.setIfInBounds_toArray, List.set_cons_zero, List.set_cons_succ])
            refine wpAnyH_take (i := 11) (v := undef) e11 (by rw [hops.out]; kernel_rfl) (by rw [hops.out]; kernel_rfl) (by rw [hops.out]; kernel_rfl) (fun c a w h => hQ c a _ _ w h) (Or.inr ⟨by rw [hops.out]; rfl, rfl⟩) hHeld ?_
            (try simp only [Act.put, List.setIfInBounds_toArray, List.set_cons_zero, List.set_cons_succ])
            refine wpAnyH_take (i := 12) (v := undef) e12 (by rw [hops.out]; kernel_rfl) (by rw [hops.out]; kernel_rfl) (by rw [hops.out]; kernel_rfl) (fun c a w h => hQ c a _ _ w h) (Or.inr ⟨by rw [hops.out]; rfl, rfl⟩) hHeld ?_
            (try simp only [Act.put, List.setIfInBounds_toArray, List.set_cons_zero, List.set_cons_succ])
            refine wpAnyH_take (i := 13) (v := undef) e13 (by rw [hops.out]; kernel_rfl) (by rw [hops.out]; kernel_rfl) (by rw [hops.out]; kernel_rfl) (fun c a w h => hQ c a _ _ w h) (Or.inr ⟨by rw [hops.out]; rfl, rfl⟩) hHeld ?_
            (try simp only [Act.put, List.setIfInBounds_toArray, List.set_cons_zero, List.set_cons_succ])
            refine wpAnyH_take (i := 14) (v := undef) e14 (by rw [hops.out]; kernel_rfl) (by rw [hops.out]; kernel_rfl) (by rw [hops.out]; kernel_rfl) (fun c a w h => hQ c a _ _ w h) (Or.inr ⟨by rw [hops.out]; rfl, rfl⟩) hHeld ?_
            (try simp only [Act.put, List.setIfInBounds_toArray, List.set_cons_zero, List.set_cons_succ])
            refine wpAnyH_take (i := 15) (v := .bool false) e15 (by rw [hops.out]; kernel_rfl) (by rw [hops.out]; kernel_rfl) (by rw [hops.out]; kernel_rfl) (fun c a w h => hQ c a _ _ w h) (Or.inl ⟨by rw [hops.out]; rfl, fun w' _ => by go_simp⟩) hHeld ?_
            (try simp only [Act.put, List.setIfInBounds_toArray, List.set_cons_zero, List.set_cons_succ])
            refine wpAnyH_take (i := 16) (v := .bool false) e16 (by rw [hops.out]; kernel_rfl) (by rw [hops.out]; kernel_rfl) (by rw [hops.out]; kernel_rfl) (fun c a w h => hQ c a _ _ w h) (Or.inl ⟨by rw [hops.out]; rfl, fun w' _ => by go_simp⟩) hHeld ?_
            (try simp only [Act.put, List.setIfInBounds_toArray, List.set_cons_zero, List.set_cons_succ])
            refine wpAnyH_take (i := 17) (v := .pointer (some ⟨bx1, 4, none⟩)) e17 (by rw [hops.out]; kernel_rfl) (by rw [hops.out]; kernel_rfl) (by rw [hops.out]; kernel_rfl) (fun c a w h => hQ c a _ _ w h) (Or.inl ⟨by rw [hops.out]; rfl, fun w' _ => by go_simp⟩) hHeld ?_
            (try simp only [Act.put, List.setIfInBounds_toArray, List.set_cons_zero, List.set_cons_succ])
            refine wpAnyH_take (i := 18) (v := .int .i64 1) e18 (by rw [hops.out]; kernel_rfl) (by rw [hops.out]; kernel_rfl) (by rw [hops.out]; kernel_rfl) (fun c a w h => hQ c a _ _ w h) (Or.inl ⟨by rw [hops.out]; rfl, fun w' hS => by have z := hS.a4; go_simp⟩) hHeld ?_
            (try simp only [Act.put, List.setIfInBounds_toArray, List.set_cons_zero, List.set_cons_succ])
            refine wpAnyH_take (i := 19) (v := .bool true) e19 (by rw [hops.out]; kernel_rfl) (by rw [hops.out]; kernel_rfl) (by rw [hops.out]; kernel_rfl) (fun c a w h => hQ c a _ _ w h) (Or.inl ⟨by rw [hops.out]; rfl, fun w' _ => by go_simp⟩) hHeld ?_
            (try simp only [Act.put, List.setIfInBounds_toArray, List.set_cons_zero, List.set_cons_succ])
            refine wpAnyH_take (i := 20) (v := .bool true) e20 (by rw [hops.out]; kernel_rfl) (by rw [hops.out]; kernel_rfl) (by rw [hops.out]; kernel_rfl) (fun c a w h => hQ c a _ _ w h) (Or.inl ⟨by rw [hops.out]; rfl, fun w' _ => by go_simp⟩) hHeld ?_
            (try simp only [Act.put, List.setIfInBounds_toArray, List.set_cons_zero, List.set_cons_succ])
            refine wpAnyH_take (i := 21) (v := .bool false) e21 (by rw [hops.out]; kernel_rfl) (by rw [hops.out]; kernel_rfl) (by rw [hops.out]; kernel_rfl) (fun c a w h => hQ c a _ _ w h) (Or.inl ⟨by rw [hops.out]; rfl, fun w' _ => by go_simp⟩) hHeld ?_
            (try simp only [Act.put, List.setIfInBounds_toArray, List.set_cons_zero, List.set_cons_succ])
            refine wpAnyH_take (i := 22) (v := .bool true) e22 (by rw [hops.out]; kernel_rfl) (by rw [hops.out]; kernel_rfl) (by rw [hops.out]; kernel_rfl) (fun c a w h => hQ c a _ _ w h) (Or.inl ⟨by rw [hops.out]; rfl, fun w' _ => by go_simp⟩) hHeld ?_
            (try simp only [Act.put, List.setIfInBounds_toArray, List.set_cons_zero, List.set_cons_succ])
            refine wpAnyH_take (i := 23) (v := .bool true) e23 (by rw [hops.out]; kernel_rfl) (by rw [hops.out]; kernel_rfl) (by rw [hops.out]; kernel_rfl) (fun c a w h => hQ c a _ _ w h) (Or.inl ⟨by rw [hops.out]; rfl, fun w' _ => by go_simp⟩) hHeld ?_
            (try simp only [Act.put, List.setIfInBounds_toArray, List.set_cons_zero, List.set_cons_succ])
            refine wpAnyH_take (i := 24) (v := .bool true) e24 (by rw [hops.out]; kernel_rfl) (by rw [hops.out]; kernel_rfl) (by rw [hops.out]; kernel_rfl) (fun c a w h => hQ c a _ _ w h) (Or.inl ⟨by rw [hops.out]; rfl, fun w' _ => by go_simp⟩) hHeld ?_
            (try simp only [Act.put, List.setIfInBounds_toArray, List.set_cons_zero, List.set_cons_succ])
            refine wpAnyH_take (i := 25) (v := .pointer (some ⟨bx2, 4, none⟩)) e25 (by rw [hops.out]; kernel_rfl) (by rw [hops.out]; kernel_rfl) (by rw [hops.out]; kernel_rfl) (fun c a w h => hQ c a _ _ w h) (Or.inl ⟨by rw [hops.out]; rfl, fun w' _ => by go_simp⟩) hHeld ?_
            (try simp only [Act.put, List.setIfInBounds_toArray, List.set_cons_zero, List.set_cons_succ])
            refine wpAnyH_take (i := 26) (v := .int .i64 1) e26 (by rw [hops.out]; kernel_rfl) (by rw [hops.out]; kernel_rfl) (by rw [hops.out]; kernel_rfl) (fun c a w h => hQ c a _ _ w h) (Or.inl ⟨by rw [hops.out]; rfl, fun w' hS => by have z := hS.b4; go_simp⟩) hHeld ?_
            (try simp only [Act.put, List.setIfInBounds_toArray, List.set_cons_zero, List.set_cons_succ])
            refine wpAnyH_take (i := 27) (v := .bool false) e27 (by rw [hops.out]; kernel_rfl) (by rw [hops.out]; kernel_rfl) (by rw [hops.out]; kernel_rfl) (fun c a w h => hQ c a _ _ w h) (Or.inl ⟨by rw [hops.out]; rfl, fun w' _ => by go_simp⟩) hHeld ?_
            (try simp only [Act.put, List.setIfInBounds_toArray, List.set_cons_zero, List.set_cons_succ])
            refine wpAnyH_take (i := 28) (v := .bool false) e28 (by rw [hops.out]; kernel_rfl) (by rw [hops.out]; kernel_rfl) (by rw [hops.out]; kernel_rfl) (fun c a w h => hQ c a _ _ w h) (Or.inl ⟨by rw [hops.out]; rfl, fun w' _ => by go_simp⟩) hHeld ?_
            (try simp only [Act.put, List.setIfInBounds_toArray, List.set_cons_zero, List.set_cons_succ])
            refine wpAnyH_take (i := 29) (v := .bool false) e29 (by rw [hops.out]; kernel_rfl) (by rw [hops.out]; kernel_rfl) (by rw [hops.out]; kernel_rfl) (fun c a w h => hQ c a _ _ w h) (Or.inl ⟨by rw [hops.out]; rfl, fun w' _ => by go_simp⟩) hHeld ?_
            (try simp only [Act.put, List.setIfInBounds_toArray, List.set_cons_zero, List.set_cons_succ])
            refine wpAnyH_done (by rw [hops.out]; kernel_rfl) (hQn.out _ _ ?_) _
            clear hQn hQ hops e0 e1 e2 e3 e4 e5 e6 e7 e8 e9 e10 e11 e12 e13 e14 e15 e16 e17 e18 e19 e20 e21 e22 e23 e24 e25 e26 e27 e28 e29
            have HI6 := Lib.hid (HI5.out.fr0 FD)
            clear FD hHeld HV1 HV2 HOP KS
            go_wp2_with fail
            go_roundw
            case rel => exact ⟨i + 1, now2, M3, by omega, by go_num, rfl, hnow2, HI6, HB5⟩
            case measure => simp [intOf]; omega
          · have hgi : (v1 : Int) < (v2 : Int) := by omega
            have hop2 : ((s2 == 2) != op) = false := by rw [hop]; simp
            refine wp_region_held_drew (S := OpS bx1 bx2 w.heap.size 1 s2 n1 n2 k) (by kernel_rfl) (KS.out _ F0) (fun hHeld => ?_)
            have hRg : Array.replicate 8 false = #[false, false, false, false, false, false, false, false] := rfl
            refine (?_ : wpAnyH _ _ _ _ _ 8 (Array.replicate 8 false) _ _)
            rw [hRg]
            refine wpAnyH_hide (fun _ _ d _ _ h => by cases d <;> exact h) (fun ops Q hops hQ hQn => ?_)
            clear hRg
            have e0 := congrArg (fun x : Array Oper => x[0]?) hops.out
            simp only [List.getElem?_toArray, List.getElem?_cons_zero] at e0
            have e1 := congrArg (fun x : Array Oper => x[1]?) hops.out
            simp only [List.getElem?_toArray, List.getElem?_cons_zero, List.getElem?_cons_succ] at e1
            have e2 := congrArg (fun x : Array Oper => x[2]?) hops.out
            simp only [List.getElem?_toArray, List.getElem?_cons_zero, List.getElem?_cons_succ] at e2
            have e3 := congrArg (fun x : Array Oper => x[3]?) hops.out
            simp only [List.getElem?_toArray, List.getElem?_cons_zero, List.getElem?_cons_succ] at e3
            have e4 := congrArg (fun x : Array Oper => x[4]?) hops.out
            simp only [List.getElem?_toArray, List.getElem?_cons_zero, List.getElem?_cons_succ] at e4
            have e5 := congrArg (fun x : Array Oper => x[5]?) hops.out
            simp only [List.getElem?_toArray, List.getElem?_cons_zero, List.getElem?_cons_succ] at e5
            have e6 := congrArg (fun x : Array Oper => x[6]?) hops.out
            simp only [List.getElem?_toArray, List.getElem?_cons_zero, List.getElem?_cons_succ] at e6
            have e7 := congrArg (fun x : Array Oper => x[7]?) hops.out
            simp only [List.getElem?_toArray, List.getElem?_cons_zero, List.getElem?_cons_succ] at e7
            refine wpAnyH_take (i := 0) (v := .pointer (some ⟨bx2, 5, none⟩)) e0 (by rw [hops.out]; kernel_rfl) (by rw [hops.out]; kernel_rfl) (by rw [hops.out]; kernel_rfl) (fun c a w h => hQ c a _ _ w h) (Or.inl ⟨rfl, fun w' _ => by go_simp⟩) hHeld ?_
            (try simp only [Act.put, List.setIfInBounds_toArray, List.set_cons_zero, List.set_cons_succ])
            refine wpAnyH_take (i := 1) (v := .agg #[.int .u64 n2.a, .int .u64 n2.b, .int .u64 n2.c, .int .u64 n2.d, .int .u64 n2.e]) e1 (by rw [hops.out]; kernel_rfl) (by rw [hops.out]; kernel_rfl) (by rw [hops.out]; kernel_rfl) (fun c a w h => hQ c a _ _ w h) (Or.inl ⟨rfl, fun w' hS => by have z5 := hS.b5; have z6 := hS.b6; have z7 := hS.b7; have z8 := hS.b8; have z9 := hS.b9; go_simp⟩) hHeld ?_
            (try simp only [Act.put, List.setIfInBounds_toArray, List.set_cons_zero, List.set_cons_succ])
            refine wpAnyH_take (i := 3) (v := .pointer (some ⟨bx1, 5, none⟩)) e3 (by rw [hops.out]; kernel_rfl) (by rw [hops.out]; kernel_rfl) (by rw [hops.out]; kernel_rfl) (fun c a w h => hQ c a _ _ w h) (Or.inl ⟨rfl, fun w' _ => by go_simp⟩) hHeld ?_
            (try simp only [Act.put, List.setIfInBounds_toArray, List.set_cons_zero, List.set_cons_succ])
            refine wpAnyH_take (i := 4) (v := .agg #[.int .u64 n1.a, .int .u64 n1.b, .int .u64 n1.c, .int .u64 n1.d, .int .u64 n1.e]) e4 (by rw [hops.out]; kernel_rfl) (by rw [hops.out]; kernel_rfl) (by rw [hops.out]; kernel_rfl) (fun c a w h => hQ c a _ _ w h) (Or.inl ⟨rfl, fun w' hS => by have z5 := hS.a5; have z6 := hS.a6; have z7 := hS.a7; have z8 := hS.a8; have z9 := hS.a9; go_simp⟩) hHeld ?_
            (try simp only [Act.put, List.setIfInBounds_toArray, List.set_cons_zero, List.set_cons_succ])
            refine wpAnyH_ready (rs := [2]) (by rw [hops.out]; kernel_rfl) (by simp) ?_
            refine AllReadyH.cons e2 (fun K hK => ?_) AllReadyH.nil
            go_simp
            go_at_call 21
            refine (HV2.out _).mono ?_
            rintro e w12 ⟨rfl, FV⟩
            go_wp2_with fail
            have FA := F0.trans FV
            refine hK.out _ _ (KS.out _ FA) (fun hHeld => ?_)
            clear hK K
            (try simp only [List.setIfInBounds_toArray, List.set_cons_zero, List.set_cons_succ])
            refine wpAnyH_ready (rs := [5]) (by rw [hops.out]; kernel_rfl) (by simp) ?_
            refine AllReadyH.cons e5 (fun K hK => ?_) AllReadyH.nil
            go_simp
            go_at_call 21
            refine (HV1.out _).mono ?_
            rintro e w13 ⟨rfl, FV⟩
            go_wp2_with fail
            have FB := FA.trans FV
            refine hK.out _ _ (KS.out _ FB) (fun hHeld => ?_)
            clear hK K
            (try simp only [List.setIfInBounds_toArray, List.set_cons_zero, List.set_cons_succ])
            refine wpAnyH_take (i := 6) (v := .bool true) e6 (by rw [hops.out]; kernel_rfl) (by rw [hops.out]; kernel_rfl) (by rw [hops.out]; kernel_rfl) (fun c a w h => hQ c a _ _ w h) (Or.inl ⟨rfl, fun w' _ => by go_simp⟩) hHeld ?_
            (try simp only [Act.put, List.setIfInBounds_toArray, List.set_cons_zero, List.set_cons_succ])
            refine wpAnyH_take (i := 7) (v := .bool true) e7 (by rw [hops.out]; kernel_rfl) (by rw [hops.out]; kernel_rfl) (by rw [hops.out]; kernel_rfl) (fun c a w h => hQ c a _ _ w h) (Or.inl ⟨rfl, fun w' _ => by go_simp⟩) hHeld ?_
            (try simp only [Act.put, List.setIfInBounds_toArray, List.set_cons_zero, List.set_cons_succ])
            refine wpAnyH_done (by rw [hops.out]; kernel_rfl) (hQn.out _ _ ?_) _
            clear hQn hQ hops e0 e1 e2 e3 e4 e5 e6 e7 hHeld
            go_wp2_with fail
            have FD : Fr [] w11 w13.drew := FB.drew
            refine wp_region_held_drew (S := OpS bx1 bx2 w.heap.size 1 s2 n1 n2 k) (by kernel_rfl) (KS.out _ FD) (fun hHeld => ?_)
            have hRg : Array.replicate 30 false = #[false, false, false, false, false, false, false, false, false, false, false, false, false, false, false, false, false, false, false, false, false, false, false, false, false, false, false, false, false, false] := rfl
            refine (?_ : wpAnyH _ _ _ _ _ 30 (Array.replicate 30 false) _ _)
            rw [hRg]
            refine wpAnyH_hide (fun _ _ d _ _ h => by cases d <;> exact h) (fun ops Q hops hQ hQn => ?_)
            clear hRg
            have e0 := congrArg (fun x : Array Oper => x[0]?) hops.out
            simp only [List.getElem?_toArray, List.getElem?_cons_zero] at e0
            have e1 := congrArg (fun x : Array Oper => x[1]?) hops.out
            simp only [List.getElem?_toArray, List.getElem?_cons_zero, List.getElem?_cons_succ] at e1
            have e2 := congrArg (fun x : Array Oper => x[2]?) hops.out
            simp only [List.getElem?_toArray, List.getElem?_cons_zero, List.getElem?_cons_succ] at e2
            have e3 := congrArg (fun x : Array Oper => x[3]?) hops.out
            simp only [List.getElem?_toArray, List.getElem?_cons_zero, List.getElem?_cons_succ] at e3
            have e4 := congrArg (fun x : Array Oper => x[4]?) hops.out
            simp only [List.getElem?_toArray, List.getElem?_cons_zero, List.getElem?_cons_succ] at e4
            have e5 := congrArg (fun x : Array Oper => x[5]?) hops.out
            simp only [List.getElem?_toArray, List.getElem?_cons_zero, List.getElem?_cons_succ] at e5
            have e6 := congrArg (fun x : Array Oper => x[6]?) hops.out
            simp only [List.getElem?_toArray, List.getElem?_cons_zero, List.getElem?_cons_succ] at e6
            have e7 := congrArg (fun x : Array Oper => x[7]?) hops.out
            simp only [List.getElem?_toArray, List.getElem?_cons_zero, List.getElem?_cons_succ] at e7
            have e8 := congrArg (fun x : Array Oper => x[8]?) hops.out
            simp only [List.getElem?_toArray, List.getElem?_cons_zero, List.getElem?_cons_succ] at e8
            have e9 := congrArg (fun x : Array Oper => x[9]?) hops.out
            simp only [List.getElem?_toArray, List.getElem?_cons_zero, List.getElem?_cons_succ] at e9
            have e10 := congrArg (fun x : Array Oper => x[10]?) hops.out
            simp only [List.getElem?_toArray, List.getElem?_cons_zero, List.getElem?_cons_succ] at e10
            have e11 := congrArg (fun x : Array Oper => x[11]?) hops.out
            simp only [List.getElem?_toArray, List.getElem?_cons_zero, List.getElem?_cons_succ] at e11
            have e12 := congrArg (fun x : Array Oper => x[12]?) hops.out
            simp only [List.getElem?_toArray, List.getElem?_cons_zero, List.getElem?_cons_succ] at e12
            have e13 := congrArg (fun x : Array Oper => x[13]?) hops.out
            simp only [List.getElem?_toArray, List.getElem?_cons_zero, List.getElem?_cons_succ] at e13
            have e14 := congrArg (fun x : Array Oper => x[14]?) hops.out
            simp only [List.getElem?_toArray, List.getElem?_cons_zero, List.getElem?_cons_succ] at e14
            have e15 := congrArg (fun x : Array Oper => x[15]?) hops.out
            simp only [List.getElem?_toArray, List.getElem?_cons_zero, List.getElem?_cons_succ] at e15
            have e16 := congrArg (fun x : Array Oper => x[16]?) hops.out
            simp only [List.getElem?_toArray, List.getElem?_cons_zero, List.getElem?_cons_succ] at e16
            have e17 := congrArg (fun x : Array Oper => x[17]?) hops.out
            simp only [List.getElem?_toArray, List.getElem?_cons_zero, List.getElem?_cons_succ] at e17
            have e18 := congrArg (fun x : Array Oper => x[18]?) hops.out
            simp only [List.getElem?_toArray, List.getElem?_cons_zero, List.getElem?_cons_succ] at e18
            have e19 := congrArg (fun x : Array Oper => x[19]?) hops.out
            simp only [List.getElem?_toArray, List.getElem?_cons_zero, List.getElem?_cons_succ] at e19
            have e20 := congrArg (fun x : Array Oper => x[20]?) hops.out
            simp only [List.getElem?_toArray, List.getElem?_cons_zero, List.getElem?_cons_succ] at e20
            have e21 := congrArg (fun x : Array Oper => x[21]?) hops.out
            simp only [List.getElem?_toArray, List.getElem?_cons_zero, List.getElem?_cons_succ] at e21
            have e22 := congrArg (fun x : Array Oper => x[22]?) hops.out
            simp only [List.getElem?_toArray, List.getElem?_cons_zero, List.getElem?_cons_succ] at e22
            have e23 := congrArg (fun x : Array Oper => x[23]?) hops.out
            simp only [List.getElem?_toArray, List.getElem?_cons_zero, List.getElem?_cons_succ] at e23
            have e24 := congrArg (fun x : Array Oper => x[24]?) hops.out
            simp only [List.getElem?_toArray, List.getElem?_cons_zero, List.getElem?_cons_succ] at e24
            have e25 := congrArg (fun x : Array Oper => x[25]?) hops.out
            simp only [List.getElem?_toArray, List.getElem?_cons_zero, List.getElem?_cons_succ] at e25
            have e26 := congrArg (fun x : Array Oper => x[26]?) hops.out
            simp only [List.getElem?_toArray, List.getElem?_cons_zero, List.getElem?_cons_succ] at e26
            have e27 := congrArg (fun x : Array Oper => x[27]?) hops.out
            simp only [List.getElem?_toArray, List.getElem?_cons_zero, List.getElem?_cons_succ] at e27
            have e28 := congrArg (fun x : Array Oper => x[28]?) hops.out
            simp only [List.getElem?_toArray, List.getElem?_cons_zero, List.getElem?_cons_succ] at e28
            have e29 := congrArg (fun x : Array Oper => x[29]?) hops.out
            simp only [List.getElem?_toArray, List.getElem?_cons_zero, List.getElem?_cons_succ] at e29
            refine wpAnyH_take (i := 0) (v := .pointer (some ⟨bx1, 4, none⟩)) e0 (by rw [hops.out]; kernel_rfl) (by rw [hops.out]; kernel_rfl) (by rw [hops.out]; kernel_rfl) (fun c a w h => hQ c a _ _ w h) (Or.inl ⟨by rw [hops.out]; rfl, fun w' _ => by go_simp⟩) hHeld ?_
            (try simp only [Act.put, List.setIfInBounds_toArray, List.set_cons_zero, List.set_cons_succ])
            refine wpAnyH_take (i := 1) (v := .int .i64 1) e1 (by rw [hops.out]; kernel_rfl) (by rw [hops.out]; kernel_rfl) (by rw [hops.out]; kernel_rfl) (fun c a w h => hQ c a _ _ w h) (Or.inl ⟨by rw [hops.out]; rfl, fun w' hS => by have z := hS.a4; go_simp⟩) hHeld ?_
            (try simp only [Act.put, List.setIfInBounds_toArray, List.set_cons_zero, List.set_cons_succ])
            refine wpAnyH_take (i := 2) (v := .bool true) e2 (by rw [hops.out]; kernel_rfl) (by rw [hops.out]; kernel_rfl) (by rw [hops.out]; kernel_rfl) (fun c a w h => hQ c a _ _ w h) (Or.inl ⟨by rw [hops.out]; rfl, fun w' _ => by go_simp⟩) hHeld ?_
            (try simp only [Act.put, List.setIfInBounds_toArray, List.set_cons_zero, List.set_cons_succ])
            refine wpAnyH_take (i := 3) (v := .bool true) e3 (by rw [hops.out]; kernel_rfl) (by rw [hops.out]; kernel_rfl) (by rw [hops.out]; kernel_rfl) (fun c a w h => hQ c a _ _ w h) (Or.inl ⟨by rw [hops.out]; rfl, fun w' _ => by go_simp⟩) hHeld ?_
            (try simp only [Act.put, List.setIfInBounds_toArray, List.set_cons_zero, List.set_cons_succ])
            refine wpAnyH_take (i := 4) (v := .bool true) e4 (by rw [hops.out]; kernel_rfl) (by rw [hops.out]; kernel_rfl) (by rw [hops.out]; kernel_rfl) (fun c a w h => hQ c a _ _ w h) (Or.inl ⟨by rw [hops.out]; rfl, fun w' _ => by go_simp⟩) hHeld ?_
            (try simp only [Act.put, List.setIfInBounds_toArray, List.set_cons_zero, List.set_cons_succ])
            refine wpAnyH_take (i := 5) (v := .bool true) e5 (by rw [hops.out]; kernel_rfl) (by rw [hops.out]; kernel_rfl) (by rw [hops.out]; kernel_rfl) (fun c a w h => hQ c a _ _ w h) (Or.inl ⟨by rw [hops.out]; rfl, fun w' _ => by go_simp⟩) hHeld ?_
            (try simp only [Act.put, List.setIfInBounds_toArray, List.set_cons_zero, List.set_cons_succ])
            refine wpAnyH_take (i := 6) (v := .bool true) e6 (by rw [hops.out]; kernel_rfl) (by rw [hops.out]; kernel_rfl) (by rw [hops.out]; kernel_rfl) (fun c a w h => hQ c a _ _ w h) (Or.inl ⟨by rw [hops.out]; rfl, fun w' _ => by go_simp⟩) hHeld ?_
            (try simp only [Act.put, List.setIfInBounds_toArray, List.set_cons_zero, List.set_cons_succ])
            refine wpAnyH_take (i := 7) (v := .pointer (some ⟨bx2, 4, none⟩)) e7 (by rw [hops.out]; kernel_rfl) (by rw [hops.out]; kernel_rfl) (by rw [hops.out]; kernel_rfl) (fun c a w h => hQ c a _ _ w h) (Or.inl ⟨by rw [hops.out]; rfl, fun w' _ => by go_simp⟩) hHeld ?_
            (try simp only [Act.put, List.setIfInBounds_toArray, List.set_cons_zero, List.set_cons_succ])
            refine wpAnyH_take (i := 8) (v := .int .i64 s2) e8 (by rw [hops.out]; kernel_rfl) (by rw [hops.out]; kernel_rfl) (by rw [hops.out]; kernel_rfl) (fun c a w h => hQ c a _ _ w h) (Or.inl ⟨by rw [hops.out]; rfl, fun w' hS => by have z := hS.b4; go_simp⟩) hHeld ?_
            (try simp only [Act.put, List.setIfInBounds_toArray, List.set_cons_zero, List.set_cons_succ])
            refine wpAnyH_take (i := 9) (v := .bool (s2 == 2)) e9 (by rw [hops.out]; kernel_rfl) (by rw [hops.out]; kernel_rfl) (by rw [hops.out]; kernel_rfl) (fun c a w h => hQ c a _ _ w h) (Or.inl ⟨by rw [hops.out]; rfl, fun w' _ => by go_simp⟩) hHeld ?_
            (try simp only [Act.put, List.setIfInBounds_toArray, List.set_cons_zero, List.set_cons_succ])
            refine wpAnyH_take (i := 10) (v := .pointer (some ⟨bx2, 5, none⟩)) e10 (by rw [hops.out]; kernel_rfl) (by rw [hops.out]; kernel_rfl) (by rw [hops.out]; kernel_rfl) (fun c a w h => hQ c a _ _ w h) (Or.inl ⟨by rw [hops.out]; rfl, fun w' _ => by go_simp⟩) hHeld ?_
            (try simp only [Act.put, List.setIfInBounds_toArray, List.set_cons_zero, List.set_cons_succ])
            refine wpAnyH_take (i := 11) (v := .agg #[.int .u64 n2.a, .int .u64 n2.b, .int .u64 n2.c, .int .u64 n2.d, .int .u64 n2.e]) e11 (by rw [hops.out]; kernel_rfl) (by rw [hops.out]; kernel_rfl) (by rw [hops.out]; kernel_rfl) (fun c a w h => hQ c a _ _ w h) (Or.inl ⟨by rw [hops.out]; rfl, fun w' hS => by have z5 := hS.b5; have z6 := hS.b6; have z7 := hS.b7; have z8 := hS.b8; have z9 := hS.b9; go_simp⟩) hHeld ?_
            (try simp only [Act.put, List.setIfInBounds_toArray, List.set_cons_zero, List.set_cons_succ])
            refine wpAnyH_take (i := 12) (v := .agg ([.int .i64 k.mode, .int .i64 k.pool, .int .i64 k.queue, .int .i64 k.sem, .int .i64 k.fb, .int .i64 k.ch, .int .u64 k.t, .int .u64 k.ft, .int .i64 k.vo, .int .i64 k.pe, .int .u64 k.sl, .int .i64 k.bu, .int .u64 k.wi, .int .u64 k.wd, .int .i64 k.ba, .int .i64 k.fo] : List Value).toArray) e12 (by rw [hops.out]; kernel_rfl) (by rw [hops.out]; kernel_rfl) (by rw [hops.out]; kernel_rfl) (fun c a w h => hQ c a _ _ w h) (yieldsIf_load_mid (by rw [hops.out]; rfl) _ _ rfl w.heap.size 0 rfl _ _ (fun _ h => h.cf) hu.out rfl hiC.out) hHeld ?_
            (try simp only [Act.put, List.setIfInBounds_toArray, List.set_cons_zero, List.set_cons_succ])
            refine wpAnyH_ready (rs := [13]) (by rw [hops.out]; kernel_rfl) (by simp) ?_
            refine AllReadyH.cons e13 (fun K hK => ?_) AllReadyH.nil
            go_simp
            go_at_call 22
            refine (HOP.out _).mono ?_
            rintro e w14 ⟨rfl, FO⟩
            go_wp2_with fail
            have FD := FD.trans FO
            refine hK.out _ _ (KS.out _ FD) (fun hHeld => ?_)
            clear hK K
            (try simp only [List.setIfInBounds_toArray, List.set_cons_zero, List.set_cons_succ])
            refine wpAnyH_take (i := 14) (v := .bool false) e14 (by rw [hops.out]; kernel_rfl) (by rw [hops.out]; kernel_rfl) (by rw [hops.out]; kernel_rfl) (fun c a w h => hQ c a _ _ w h) (Or.inl ⟨by rw [hops.out]; rfl, fun w' hS => by have z := hop; go_simp⟩) hHeld ?_
            (try simp only [Act.put, List.setIfInBounds_toArray, List.set_cons_zero, List.set_cons_succ])
            refine wpAnyH_take (i := 15) (v := .bool false) e15 (by rw [hops.out]; kernel_rfl) (by rw [hops.out]; kernel_rfl) (by rw [hops.out]; kernel_rfl) (fun c a w h => hQ c a _ _ w h) (Or.inl ⟨by rw [hops.out]; rfl, fun w' _ => by go_simp⟩) hHeld ?_
            (try simp only [Act.put, List.setIfInBounds_toArray, List.set_cons_zero, List.set_cons_succ])
            refine wpAnyH_take (i := 16) (v := .bool false) e16 (by rw [hops.out]; kernel_rfl) (by rw [hops.out]; kernel_rfl) (by rw [hops.out]; kernel_rfl) (fun c a w h => hQ c a _ _ w h) (Or.inl ⟨by rw [hops.out]; rfl, fun w' _ => by go_simp⟩) hHeld ?_
            (try simp only [Act.put, List.setIfInBounds_toArray, List.set_cons_zero, List.set_cons_succ])
            refine wpAnyH_take (i := 17) (v := .pointer (some ⟨bx1, 4, none⟩)) e17 (by rw [hops.out]; kernel_rfl) (by rw [hops.out]; kernel_rfl) (by rw [hops.out]; kernel_rfl) (fun c a w h => hQ c a _ _ w h) (Or.inl ⟨by rw [hops.out]; rfl, fun w' _ => by go_simp⟩) hHeld ?_
            (try simp only [Act.put, List.setIfInBounds_toArray, List.set_cons_zero, List.set_cons_succ])
            refine wpAnyH_take (i := 18) (v := .int .i64 1) e18 (by rw [hops.out]; kernel_rfl) (by rw [hops.out]; kernel_rfl) (by rw [hops.out]; kernel_rfl) (fun c a w h => hQ c a _ _ w h) (Or.inl ⟨by rw [hops.out]; rfl, fun w' hS => by have z := hS.a4; go_simp⟩) hHeld ?_
            (try simp only [Act.put, List.setIfInBounds_toArray, List.set_cons_zero, List.set_cons_succ])
            refine wpAnyH_take (i := 19) (v := .bool true) e19 (by rw [hops.out]; kernel_rfl) (by rw [hops.out]; kernel_rfl) (by rw [hops.out]; kernel_rfl) (fun c a w h => hQ c a _ _ w h) (Or.inl ⟨by rw [hops.out]; rfl, fun w' _ => by go_simp⟩) hHeld ?_
            (try simp only [Act.put, List.setIfInBounds_toArray, List.set_cons_zero, List.set_cons_succ])
            refine wpAnyH_take (i := 20) (v := .bool true) e20 (by rw [hops.out]; kernel_rfl) (by rw [hops.out]; kernel_rfl) (by rw [hops.out]; kernel_rfl) (fun c a w h => hQ c a _ _ w h) (Or.inl ⟨by rw [hops.out]; rfl, fun w' _ => by go_simp⟩) hHeld ?_
            (try simp only [Act.put, List.setIfInBounds_toArray, List.set_cons_zero, List.set_cons_succ])
            refine wpAnyH_take (i := 21) (v := .bool true) e21 (by rw [hops.out]; kernel_rfl) (by rw [hops.out]; kernel_rfl) (by rw [hops.out]; kernel_rfl) (fun c a w h => hQ c a _ _ w h) (Or.inl ⟨by rw [hops.out]; rfl, fun w' _ => by go_simp⟩) hHeld ?_
            (try simp only [Act.put, List.setIfInBounds_toArray, List.set_cons_zero, List.set_cons_succ])
            refine wpAnyH_take (i := 22) (v := .bool false) e22 (by rw [hops.out]; kernel_rfl) (by rw [hops.out]; kernel_rfl) (by rw [hops.out]; kernel_rfl) (fun c a w h => hQ c a _ _ w h) (Or.inl ⟨by rw [hops.out]; rfl, fun w' _ => by go_simp⟩) hHeld ?_
            (try simp only [Act.put, List.setIfInBounds_toArray, List.set_cons_zero, List.set_cons_succ])
            refine wpAnyH_take (i := 23) (v := .bool false) e23 (by rw [hops.out]; kernel_rfl) (by rw [hops.out]; kernel_rfl) (by rw [hops.out]; kernel_rfl) (fun c a w h => hQ c a _ _ w h) (Or.inl ⟨by rw [hops.out]; rfl, fun w' _ => by go_simp⟩) hHeld ?_
            (try simp only [Act.put, List.setIfInBounds_toArray, List.set_cons_zero, List.set_cons_succ])
            refine wpAnyH_take (i := 24) (v := .bool false) e24 (by rw [hops.out]; kernel_rfl) (by rw [hops.out]; kernel_rfl) (by rw [hops.out]; kernel_rfl) (fun c a w h => hQ c a _ _ w h) (Or.inl ⟨by rw [hops.out]; rfl, fun w' _ => by go_simp⟩) hHeld ?_
            (try simp only [Act.put, List.setIfInBounds_toArray, List.set_cons_zero, List.set_cons_succ])
            refine wpAnyH_take (i := 25) (v := undef) e25 (by rw [hops.out]; kernel_rfl) (by rw [hops.out]; kernel_rfl) (by rw [hops.out]; kernel_rfl) (fun c a w h => hQ c a _ _ w h) (Or.inr ⟨by rw [hops.out]; rfl, rfl⟩) hHeld ?_
            (try simp only [Act.put, List.setIfInBounds_toArray, List.set_cons_zero, List.set_cons_succ])
            refine wpAnyH_take (i := 26) (v := undef) e26 (by rw [hops.out]; kernel_rfl) (by rw [hops.out]; kernel_rfl) (by rw [hops.out]; kernel_rfl) (fun c a w h => hQ c a _ _ w h) (Or.inr ⟨by rw [hops.out]; rfl, rfl⟩) hHeld ?_
            (try simp only [Act.put, List.setIfInBounds_toArray, List.set_cons_zero, List.set_cons_succ])
            refine wpAnyH_take (i := 27) (v := undef) e27 (by rw [hops.out]; kernel_rfl) (by rw [hops.out]; kernel_rfl) (by rw [hops.out]; kernel_rfl) (fun c a w h => hQ c a _ _ w h) (Or.inr ⟨by rw [hops.out]; rfl, rfl⟩) hHeld ?_
            (try simp only [Act.put, List.setIfInBounds_toArray, List.set_cons_zero, List.set_cons_succ])
            refine wpAnyH_take (i := 28) (v := .bool false) e28 (by rw [hops.out]; kernel_rfl) (by rw [hops.out]; kernel_rfl) (by rw [hops.out]; kernel_rfl) (fun c a w h => hQ c a _ _ w h) (Or.inl ⟨by rw [hops.out]; rfl, fun w' _ => by go_simp⟩) hHeld ?_
            (try simp only [Act.put, List.setIfInBounds_toArray, List.set_cons_zero, List.set_cons_succ])
            refine wpAnyH_take (i := 29) (v := .bool false) e29 (by rw [hops.out]; kernel_rfl) (by rw [hops.out]; kernel_rfl) (by rw [hops.out]; kernel_rfl) (fun c a w h => hQ c a _ _ w h) (Or.inl ⟨by rw [hops.out]; rfl, fun w' _ => by go_simp⟩) hHeld ?_
            (try simp only [Act.put, List.setIfInBounds_toArray, List.set_cons_zero, List.set_cons_succ])
            refine wpAnyH_done (by rw [hops.out]; kernel_rfl) (hQn.out _ _ ?_) _
            clear hQn hQ hops e0 e1 e2 e3 e4 e5 e6 e7 e8 e9 e10 e11 e12 e13 e14 e15 e16 e17 e18 e19 e20 e21 e22 e23 e24 e25 e26 e27 e28 e29
            have HI6 := Lib.hid (HI5.out.fr0 FD)
            clear FD hHeld HV1 HV2 HOP KS
            go_wp2_with fail
            go_roundw
            case rel => exact ⟨i + 1, now2, M3, by omega, by go_num, rfl, hnow2, HI6, HB5⟩
            case measure => simp [intOf]; omega
          · have hgi : (v1 : Int) < (v2 : Int) := by omega
            have hsb : (s1 == 1) = false := by simpa using hs1
            refine wp_region_held_drew (S := OpS bx1 bx2 w.heap.size s1 s2 n1 n2 k) (by kernel_rfl) (KS.out _ F0) (fun hHeld => ?_)
            have hRg : Array.replicate 8 false = #[false, false, false, false, false, false, false, false] := rfl
            refine (?_ : wpAnyH _ _ _ _ _ 8 (Array.replicate 8 false) _ _)
            rw [hRg]
            refine wpAnyH_hide (fun _ _ d _ _ h => by cases d <;> exact h) (fun ops Q hops hQ hQn => ?_)
            clear hRg
            have e0 := congrArg (fun x : Array Oper => x[0]?) hops.out
            simp only [List.getElem?_toArray, List.getElem?_cons_zero] at e0
            have e1 := congrArg (fun x : Array Oper => x[1]?) hops.out
            simp only [List.getElem?_toArray, List.getElem?_cons_zero, List.getElem?_cons_succ] at e1
            have e2 := congrArg (fun x : Array Oper => x[2]?) hops.out
            simp only [List.getElem?_toArray, List.getElem?_cons_zero, List.getElem?_cons_succ] at e2
            have e3 := congrArg (fun x : Array Oper => x[3]?) hops.out
            simp only [List.getElem?_toArray, List.getElem?_cons_zero, List.getElem?_cons_succ] at e3
            have e4 := congrArg (fun x : Array Oper => x[4]?) hops.out
            simp only [List.getElem?_toArray, List.getElem?_cons_zero, List.getElem?_cons_succ] at e4
            have e5 := congrArg (fun x : Array Oper => x[5]?) hops.out
            simp only [List.getElem?_toArray, List.getElem?_cons_zero, List.getElem?_cons_succ] at e5
            have e6 := congrArg (fun x : Array Oper => x[6]?) hops.out
            simp only [List.getElem?_toArray, List.getElem?_cons_zero, List.getElem?_cons_succ] at e6
            have e7 := congrArg (fun x : Array Oper => x[7]?) hops.out
            simp only [List.getElem?_toArray, List.getElem?_cons_zero, List.getElem?_cons_succ] at e7
            refine wpAnyH_take (i := 0) (v := .pointer (some ⟨bx2, 5, none⟩)) e0 (by rw [hops.out]; kernel_rfl) (by rw [hops.out]; kernel_rfl) (by rw [hops.out]; kernel_rfl) (fun c a w h => hQ c a _ _ w h) (Or.inl ⟨rfl, fun w' _ => by go_simp⟩) hHeld ?_
            (try simp only [Act.put, List.setIfInBounds_toArray, List.set_cons_zero, List.set_cons_succ])
            refine wpAnyH_take (i := 1) (v := .agg #[.int .u64 n2.a, .int .u64 n2.b, .int .u64 n2.c, .int .u64 n2.d, .int .u64 n2.e]) e1 (by rw [hops.out]; kernel_rfl) (by rw [hops.out]; kernel_rfl) (by rw [hops.out]; kernel_rfl) (fun c a w h => hQ c a _ _ w h) (Or.inl ⟨rfl, fun w' hS => by have z5 := hS.b5; have z6 := hS.b6; have z7 := hS.b7; have z8 := hS.b8; have z9 := hS.b9; go_simp⟩) hHeld ?_
            (try simp only [Act.put, List.setIfInBounds_toArray, List.set_cons_zero, List.set_cons_succ])
            refine wpAnyH_take (i := 3) (v := .pointer (some ⟨bx1, 5, none⟩)) e3 (by rw [hops.out]; kernel_rfl) (by rw [hops.out]; kernel_rfl) (by rw [hops.out]; kernel_rfl) (fun c a w h => hQ c a _ _ w h) (Or.inl ⟨rfl, fun w' _ => by go_simp⟩) hHeld ?_
            (try simp only [Act.put, List.setIfInBounds_toArray, List.set_cons_zero, List.set_cons_succ])
            refine wpAnyH_take (i := 4) (v := .agg #[.int .u64 n1.a, .int .u64 n1.b, .int .u64 n1.c, .int .u64 n1.d, .int .u64 n1.e]) e4 (by rw [hops.out]; kernel_rfl) (by rw [hops.out]; kernel_rfl) (by rw [hops.out]; kernel_rfl) (fun c a w h => hQ c a _ _ w h) (Or.inl ⟨rfl, fun w' hS => by have z5 := hS.a5; have z6 := hS.a6; have z7 := hS.a7; have z8 := hS.a8; have z9 := hS.a9; go_simp⟩) hHeld ?_
            (try simp only [Act.put, List.setIfInBounds_toArray, List.set_cons_zero, List.set_cons_succ])
            refine wpAnyH_ready (rs := [2]) (by rw [hops.out]; kernel_rfl) (by simp) ?_
            refine AllReadyH.cons e2 (fun K hK => ?_) AllReadyH.nil
            go_simp
            go_at_call 21
            refine (HV2.out _).mono ?_
            rintro e w12 ⟨rfl, FV⟩
            go_wp2_with fail
            have FA := F0.trans FV
            refine hK.out _ _ (KS.out _ FA) (fun hHeld => ?_)
            clear hK K
            (try simp only [List.setIfInBounds_toArray, List.set_cons_zero, List.set_cons_succ])
            refine wpAnyH_ready (rs := [5]) (by rw [hops.out]; kernel_rfl) (by simp) ?_
            refine AllReadyH.cons e5 (fun K hK => ?_) AllReadyH.nil
            go_simp
            go_at_call 21
            refine (HV1.out _).mono ?_
            rintro e w13 ⟨rfl, FV⟩
            go_wp2_with fail
            have FB := FA.trans FV
            refine hK.out _ _ (KS.out _ FB) (fun hHeld => ?_)
            clear hK K
            (try simp only [List.setIfInBounds_toArray, List.set_cons_zero, List.set_cons_succ])
            refine wpAnyH_take (i := 6) (v := .bool true) e6 (by rw [hops.out]; kernel_rfl) (by rw [hops.out]; kernel_rfl) (by rw [hops.out]; kernel_rfl) (fun c a w h => hQ c a _ _ w h) (Or.inl ⟨rfl, fun w' _ => by go_simp⟩) hHeld ?_
            (try simp only [Act.put, List.setIfInBounds_toArray, List.set_cons_zero, List.set_cons_succ])
            refine wpAnyH_take (i := 7) (v := .bool true) e7 (by rw [hops.out]; kernel_rfl) (by rw [hops.out]; kernel_rfl) (by rw [hops.out]; kernel_rfl) (fun c a w h => hQ c a _ _ w h) (Or.inl ⟨rfl, fun w' _ => by go_simp⟩) hHeld ?_
            (try simp only [Act.put, List.setIfInBounds_toArray, List.set_cons_zero, List.set_cons_succ])
            refine wpAnyH_done (by rw [hops.out]; kernel_rfl) (hQn.out _ _ ?_) _
            clear hQn hQ hops e0 e1 e2 e3 e4 e5 e6 e7 hHeld
            go_wp2_with fail
            have FD : Fr [] w11 w13.drew := FB.drew
            refine wp_region_held_drew (S := OpS bx1 bx2 w.heap.size s1 s2 n1 n2 k) (by kernel_rfl) (KS.out _ FD) (fun hHeld => ?_)
            have hRg : Array.replicate 30 false = #[false, false, false, false, false, false, false, false, false, false, false, false, false, false, false, false, false, false, false, false, false, false, false, false, false, false, false, false, false, false] := rfl
            refine (?_ : wpAnyH _ _ _ _ _ 30 (Array.replicate 30 false) _ _)
            rw [hRg]
            refine wpAnyH_hide (fun _ _ d _ _ h => by cases d <;> exact h) (fun ops Q hops hQ hQn => ?_)
            clear hRg
            have e0 := congrArg (fun x : Array Oper => x[0]?) hops.out
            simp only [List.getElem?_toArray, List.getElem?_cons_zero] at e0
            have e1 := congrArg (fun x : Array Oper => x[1]?) hops.out
            simp only [List.getElem?_toArray, List.getElem?_cons_zero, List.getElem?_cons_succ] at e1
            have e2 := congrArg (fun x : Array Oper => x[2]?) hops.out
            simp only [List.getElem?_toArray, List.getElem?_cons_zero, List.getElem?_cons_succ] at e2
            have e3 := congrArg (fun x : Array Oper => x[3]?) hops.out
            simp only [List.getElem?_toArray, List.getElem?_cons_zero, List.getElem?_cons_succ] at e3
            have e4 := congrArg (fun x : Array Oper => x[4]?) hops.out
            simp only [List.getElem?_toArray, List.getElem?_cons_zero, List.getElem?_cons_succ] at e4
            have e5 := congrArg (fun x : Array Oper => x[5]?) hops.out
            simp only [List.getElem?_toArray, List.getElem?_cons_zero, List.getElem?_cons_succ] at e5
            have e6 := congrArg (fun x : Array Oper => x[6]?) hops.out
            simp only [List.getElem?_toArray, List.getElem?_cons_zero, List.getElem?_cons_succ] at e6
            have e7 := congrArg (fun x : Array Oper => x[7]?) hops.out
            simp only [List.getElem?_toArray, List.getElem?_cons_zero, List.getElem?_cons_succ] at e7
            have e8 := congrArg (fun x : Array Oper => x[8]?) hops.out
            simp only [List.getElem?_toArray, List.getElem?_cons_zero, List.getElem?_cons_succ] at e8
            have e9 := congrArg (fun x : Array Oper => x[9]?) hops.out
            simp only [List.getElem?_toArray, List.getElem?_cons_zero, List.getElem?_cons_succ] at e9
            have e10 := congrArg (fun x : Array Oper => x[10]?) hops.out
            simp only [List.getElem?_toArray, List.getElem?_cons_zero, List.getElem?_cons_succ] at e10
            have e11 := congrArg (fun x : Array Oper => x[11]?) hops.out
            simp only [List.getElem?_toArray, List.getElem?_cons_zero, List.getElem?_cons_succ] at e11
            have e12 := congrArg (fun x : Array Oper => x[12]?) hops.out
            simp only [List.getElem?_toArray, List.getElem?_cons_zero, List.getElem?_cons_succ] at e12
            have e13 := congrArg (fun x : Array Oper => x[13]?) hops.out
            simp only [List.getElem?_toArray, List.getElem?_cons_zero, List.getElem?_cons_succ] at e13
            have e14 := congrArg (fun x : Array Oper => x[14]?) hops.out
            simp only [List.getElem?_toArray, List.getElem?_cons_zero, List.getElem?_cons_succ] at e14
            have e15 := congrArg (fun x : Array Oper => x[15]?) hops.out
            simp only [List.getElem?_toArray, List.getElem?_cons_zero, List.getElem?_cons_succ] at e15
            have e16 := congrArg (fun x : Array Oper => x[16]?) hops.out
            simp only [List.getElem?_toArray, List.getElem?_cons_zero, List.getElem?_cons_succ] at e16
            have e17 := congrArg (fun x : Array Oper => x[17]?) hops.out
            simp only [List.getElem?_toArray, List.getElem?_cons_zero, List.getElem?_cons_succ] at e17
            have e18 := congrArg (fun x : Array Oper => x[18]?) hops.out
            simp only [List.getElem?_toArray, List.getElem?_cons_zero, List.getElem?_cons_succ] at e18
            have e19 := congrArg (fun x : Array Oper => x[19]?) hops.out
            simp only [List.getElem?_toArray, List.getElem?_cons_zero, List.getElem?_cons_succ] at e19
            have e20 := congrArg (fun x : Array Oper => x[20]?) hops.out
            simp only [List.getElem?_toArray, List.getElem?_cons_zero, List.getElem?_cons_succ] at e20
            have e21 := congrArg (fun x : Array Oper => x[21]?) hops.out
            simp only [List.getElem?_toArray, List.getElem?_cons_zero, List.getElem?_cons_succ] at e21
            have e22 := congrArg (fun x : Array Oper => x[22]?) hops.out
            simp only [List.getElem?_toArray, List.getElem?_cons_zero, List.getElem?_cons_succ] at e22
            have e23 := congrArg (fun x : Array Oper => x[23]?) hops.out
            simp only [List.getElem?_toArray, List.getElem?_cons_zero, List.getElem?_cons_succ] at e23
            have e24 := congrArg (fun x : Array Oper => x[24]?) hops.out
            simp only [List.getElem?_toArray, List.getElem?_cons_zero, List.getElem?_cons_succ] at e24
            have e25 := congrArg (fun x : Array Oper => x[25]?) hops.out
            simp only [List.getElem?_toArray, List.getElem?_cons_zero, List.getElem?_cons_succ] at e25
            have e26 := congrArg (fun x : Array Oper => x[26]?) hops.out
            simp only [List.getElem?_toArray, List.getElem?_cons_zero, List.getElem?_cons_succ] at e26
            have e27 := congrArg (fun x : Array Oper => x[27]?) hops.out
            simp only [List.getElem?_toArray, List.getElem?_cons_zero, List.getElem?_cons_succ] at e27
            have e28 := congrArg (fun x : Array Oper => x[28]?) hops.out
            simp only [List.getElem?_toArray, List.getElem?_cons_zero, List.getElem?_cons_succ] at e28
            have e29 := congrArg (fun x : Array Oper => x[29]?) hops.out
            simp only [List.getElem?_toArray, List.getElem?_cons_zero, List.getElem?_cons_succ] at e29
            refine wpAnyH_take (i := 0) (v := .pointer (some ⟨bx1, 4, none⟩)) e0 (by rw [hops.out]; kernel_rfl) (by rw [hops.out]; kernel_rfl) (by rw [hops.out]; kernel_rfl) (fun c a w h => hQ c a _ _ w h) (Or.inl ⟨by rw [hops.out]; rfl, fun w' _ => by go_simp⟩) hHeld ?_
            (try simp only [Act.put, List.setIfInBounds_toArray, List.set_cons_zero, List.set_cons_succ])
            refine wpAnyH_take (i := 1) (v := .int .i64 s1) e1 (by rw [hops.out]; kernel_rfl) (by rw [hops.out]; kernel_rfl) (by rw [hops.out]; kernel_rfl) (fun c a w h => hQ c a _ _ w h) (Or.inl ⟨by rw [hops.out]; rfl, fun w' hS => by have z := hS.a4; go_simp⟩) hHeld ?_
            (try simp only [Act.put, List.setIfInBounds_toArray, List.set_cons_zero, List.set_cons_succ])
            refine wpAnyH_take (i := 2) (v := .bool false) e2 (by rw [hops.out]; kernel_rfl) (by rw [hops.out]; kernel_rfl) (by rw [hops.out]; kernel_rfl) (fun c a w h => hQ c a _ _ w h) (Or.inl ⟨by rw [hops.out]; rfl, fun w' _ => by go_simp⟩) hHeld ?_
            (try simp only [Act.put, List.setIfInBounds_toArray, List.set_cons_zero, List.set_cons_succ])
            refine wpAnyH_take (i := 3) (v := .bool false) e3 (by rw [hops.out]; kernel_rfl) (by rw [hops.out]; kernel_rfl) (by rw [hops.out]; kernel_rfl) (fun c a w h => hQ c a _ _ w h) (Or.inl ⟨by rw [hops.out]; rfl, fun w' _ => by go_simp⟩) hHeld ?_
            (try simp only [Act.put, List.setIfInBounds_toArray, List.set_cons_zero, List.set_cons_succ])
            refine wpAnyH_take (i := 4) (v := undef) e4 (by rw [hops.out]; kernel_rfl) (by rw [hops.out]; kernel_rfl) (by rw [hops.out]; kernel_rfl) (fun c a w h => hQ c a _ _ w h) (Or.inr ⟨by rw [hops.out]; rfl, rfl⟩) hHeld ?_
            (try simp only [Act.put, List.setIfInBounds_toArray, List.set_cons_zero, List.set_cons_succ])
            refine wpAnyH_take (i := 5) (v := .bool false) e5 (by rw [hops.out]; kernel_rfl) (by rw [hops.out]; kernel_rfl) (by rw [hops.out]; kernel_rfl) (fun c a w h => hQ c a _ _ w h) (Or.inl ⟨by rw [hops.out]; rfl, fun w' _ => by go_simp⟩) hHeld ?_
            (try simp only [Act.put, List.setIfInBounds_toArray, List.set_cons_zero, List.set_cons_succ])
            refine wpAnyH_take (i := 6) (v := .bool false) e6 (by rw [hops.out]; kernel_rfl) (by rw [hops.out]; kernel_rfl) (by rw [hops.out]; kernel_rfl) (fun c a w h => hQ c a _ _ w h) (Or.inl ⟨by rw [hops.out]; rfl, fun w' _ => by go_simp⟩) hHeld ?_
            (try simp only [Act.put, List.setIfInBounds_toArray, List.set_cons_zero, List.set_cons_succ])
            refine wpAnyH_take (i := 7) (v := undef) e7 (by rw [hops.out]; kernel_rfl) (by rw [hops.out]; kernel_rfl) (by rw [hops.out]; kernel_rfl) (fun c a w h => hQ c a _ _ w h) (Or.inr ⟨by rw [hops.out]; rfl, rfl⟩) hHeld ?_
            (try simp only [Act.put, List.setIfInBounds_toArray, List.set_cons_zero, List.set_cons_succ])
            refine wpAnyH_take (i := 8) (v := undef) e8 (by rw [hops.out]; kernel_rfl) (by rw [hops.out]; kernel_rfl) (by rw [hops.out]; kernel_rfl) (fun c a w h => hQ c a _ _ w h) (Or.inr ⟨by rw [hops.out]; rfl, rfl⟩) hHeld ?_
            (try simp only [Act.put, List.setIfInBounds_toArray, List.set_cons_zero, List.set_cons_succ])
            refine wpAnyH_take (i := 9) (v := undef) e9 (by rw [hops.out]; kernel_rfl) (by rw [hops.out]; kernel_rfl) (by rw [hops.out]; kernel_rfl) (fun c a w h => hQ c a _ _ w h) (Or.inr ⟨by rw [hops.out]; rfl, rfl⟩) hHeld ?_
            (try simp only [Act.put, List.setIfInBounds_toArray, List.set_cons_zero, List.set_cons_succ])
            refine wpAnyH_take (i := 10) (v := undef) e10 (by rw [hops.out]; kernel_rfl) (by rw [hops.out]; kernel_rfl) (by rw [hops.out]; kernel_rfl) (fun c a w h => hQ c a _ _ w h) (Or.inr ⟨by rw [hops.out]; rfl, rfl⟩) hHeld ?_
            (try simp only [Act.put, List.setIfInBounds_toArray, List.set_cons_zero, List.set_cons_succ])
            refine wpAnyH_take (i := 11) (v := undef) e11 (by rw [hops.out]; kernel_rfl) (by rw [hops.out]; kernel_rfl) (by rw [hops.out]; kernel_rfl) (fun c a w h => hQ c a _ _ w h) (Or.inr ⟨by rw [hops.out]; rfl, rfl⟩) hHeld ?_
            (try simp only [Act.put, List.setIfInBounds_toArray, List.set_cons_zero, List.set_cons_succ])
            refine wpAnyH_take (i := 12) (v := undef) e12 (by rw [hops.out]; kernel_rfl) (by rw [hops.out]; kernel_rfl) (by rw [hops.out]; kernel_rfl) (fun c a w h => hQ c a _ _ w h) (Or.inr ⟨by rw [hops.out]; rfl, rfl⟩) hHeld ?_
            (try simp only [Act.put, List.setIfInBounds_toArray, List.set_cons_zero, List.set_cons_succ])
            refine wpAnyH_take (i := 13) (v := undef) e13 (by rw [hops.out]; kernel_rfl) (by rw [hops.out]; kernel_rfl) (by rw [hops.out]; kernel_rfl) (fun c a w h => hQ c a _ _ w h) (Or.inr ⟨by rw [hops.out]; rfl, rfl⟩) hHeld ?_
            (try simp only [Act.put, List.setIfInBounds_toArray, List.set_cons_zero, List.set_cons_succ])
            refine wpAnyH_take (i := 14) (v := undef) e14 (by rw [hops.out]; kernel_rfl) (by rw [hops.out]; kernel_rfl) (by rw [hops.out]; kernel_rfl) (fun c a w h => hQ c a _ _ w h) (Or.inr ⟨by rw [hops.out]; rfl, rfl⟩) hHeld ?_
            (try simp only [Act.put, List.setIfInBounds_toArray, List.set_cons_zero, List.set_cons_succ])
            refine wpAnyH_take (i := 15) (v := .bool false) e15 (by rw [hops.out]; kernel_rfl) (by rw [hops.out]; kernel_rfl) (by rw [hops.out]; kernel_rfl) (fun c a w h => hQ c a _ _ w h) (Or.inl ⟨by rw [hops.out]; rfl, fun w' _ => by go_simp⟩) hHeld ?_
            (try simp only [Act.put, List.setIfInBounds_toArray, List.set_cons_zero, List.set_cons_succ])
            refine wpAnyH_take (i := 16) (v := .bool false) e16 (by rw [hops.out]; kernel_rfl) (by rw [hops.out]; kernel_rfl) (by rw [hops.out]; kernel_rfl) (fun c a w h => hQ c a _ _ w h) (Or.inl ⟨by rw [hops.out]; rfl, fun w' _ => by go_simp⟩) hHeld ?_
            (try simp only [Act.put, List.setIfInBounds_toArray, List.set_cons_zero, List.set_cons_succ])
            refine wpAnyH_take (i := 17) (v := .pointer (some ⟨bx1, 4, none⟩)) e17 (by rw [hops.out]; kernel_rfl) (by rw [hops.out]; kernel_rfl) (by rw [hops.out]; kernel_rfl) (fun c a w h => hQ c a _ _ w h) (Or.inl ⟨by rw [hops.out]; rfl, fun w' _ => by go_simp⟩) hHeld ?_
            (try simp only [Act.put, List.setIfInBounds_toArray, List.set_cons_zero, List.set_cons_succ])
            refine wpAnyH_take (i := 18) (v := .int .i64 s1) e18 (by rw [hops.out]; kernel_rfl) (by rw [hops.out]; kernel_rfl) (by rw [hops.out]; kernel_rfl) (fun c a w h => hQ c a _ _ w h) (Or.inl ⟨by rw [hops.out]; rfl, fun w' hS => by have z := hS.a4; go_simp⟩) hHeld ?_
            (try simp only [Act.put, List.setIfInBounds_toArray, List.set_cons_zero, List.set_cons_succ])
            refine wpAnyH_take (i := 19) (v := .bool false) e19 (by rw [hops.out]; kernel_rfl) (by rw [hops.out]; kernel_rfl) (by rw [hops.out]; kernel_rfl) (fun c a w h => hQ c a _ _ w h) (Or.inl ⟨by rw [hops.out]; rfl, fun w' _ => by go_simp⟩) hHeld ?_
            (try simp only [Act.put, List.setIfInBounds_toArray, List.set_cons_zero, List.set_cons_succ])
            refine wpAnyH_take (i := 20) (v := .bool false) e20 (by rw [hops.out]; kernel_rfl) (by rw [hops.out]; kernel_rfl) (by rw [hops.out]; kernel_rfl) (fun c a w h => hQ c a _ _ w h) (Or.inl ⟨by rw [hops.out]; rfl, fun w' _ => by go_simp⟩) hHeld ?_
            (try simp only [Act.put, List.setIfInBounds_toArray, List.set_cons_zero, List.set_cons_succ])
            refine wpAnyH_take (i := 21) (v := undef) e21 (by rw [hops.out]; kernel_rfl) (by rw [hops.out]; kernel_rfl) (by rw [hops.out]; kernel_rfl) (fun c a w h => hQ c a _ _ w h) (Or.inr ⟨by rw [hops.out]; rfl, rfl⟩) hHeld ?_
            (try simp only [Act.put, List.setIfInBounds_toArray, List.set_cons_zero, List.set_cons_succ])
            refine wpAnyH_take (i := 22) (v := undef) e22 (by rw [hops.out]; kernel_rfl) (by rw [hops.out]; kernel_rfl) (by rw [hops.out]; kernel_rfl) (fun c a w h => hQ c a _ _ w h) (Or.inr ⟨by rw [hops.out]; rfl, rfl⟩) hHeld ?_
            (try simp only [Act.put, List.setIfInBounds_toArray, List.set_cons_zero, List.set_cons_succ])
            refine wpAnyH_take (i := 23) (v := .bool false) e23 (by rw [hops.out]; kernel_rfl) (by rw [hops.out]; kernel_rfl) (by rw [hops.out]; kernel_rfl) (fun c a w h => hQ c a _ _ w h) (Or.inl ⟨by rw [hops.out]; rfl, fun w' _ => by go_simp⟩) hHeld ?_
            (try simp only [Act.put, List.setIfInBounds_toArray, List.set_cons_zero, List.set_cons_succ])
            refine wpAnyH_take (i := 24) (v := .bool false) e24 (by rw [hops.out]; kernel_rfl) (by rw [hops.out]; kernel_rfl) (by rw [hops.out]; kernel_rfl) (fun c a w h => hQ c a _ _ w h) (Or.inl ⟨by rw [hops.out]; rfl, fun w' _ => by go_simp⟩) hHeld ?_
            (try simp only [Act.put, List.setIfInBounds_toArray, List.set_cons_zero, List.set_cons_succ])
            refine wpAnyH_take (i := 25) (v := undef) e25 (by rw [hops.out]; kernel_rfl) (by rw [hops.out]; kernel_rfl) (by rw [hops.out]; kernel_rfl) (fun c a w h => hQ c a _ _ w h) (Or.inr ⟨by rw [hops.out]; rfl, rfl⟩) hHeld ?_
            (try simp only [Act.put, List.setIfInBounds_toArray, List.set_cons_zero, List.set_cons_succ])
            refine wpAnyH_take (i := 26) (v := undef) e26 (by rw [hops.out]; kernel_rfl) (by rw [hops.out]; kernel_rfl) (by rw [hops.out]; kernel_rfl) (fun c a w h => hQ c a _ _ w h) (Or.inr ⟨by rw [hops.out]; rfl, rfl⟩) hHeld ?_
            (try simp only [Act.put, List.setIfInBounds_toArray, List.set_cons_zero, List.set_cons_succ])
            refine wpAnyH_take (i := 27) (v := undef) e27 (by rw [hops.out]; kernel_rfl) (by rw [hops.out]; kernel_rfl) (by rw [hops.out]; kernel_rfl) (fun c a w h => hQ c a _ _ w h) (Or.inr ⟨by rw [hops.out]; rfl, rfl⟩) hHeld ?_
            (try simp only [Act.put, List.setIfInBounds_toArray, List.set_cons_zero, List.set_cons_succ])
            refine wpAnyH_take (i := 28) (v := .bool false) e28 (by rw [hops.out]; kernel_rfl) (by rw [hops.out]; kernel_rfl) (by rw [hops.out]; kernel_rfl) (fun c a w h => hQ c a _ _ w h) (Or.inl ⟨by rw [hops.out]; rfl, fun w' _ => by go_simp⟩) hHeld ?_
            (try simp only [Act.put, List.setIfInBounds_toArray, List.set_cons_zero, List.set_cons_succ])
            refine wpAnyH_take (i := 29) (v := .bool false) e29 (by rw [hops.out]; kernel_rfl) (by rw [hops.out]; kernel_rfl) (by rw [hops.out]; kernel_rfl) (fun c a w h => hQ c a _ _ w h) (Or.inl ⟨by rw [hops.out]; rfl, fun w' _ => by go_simp⟩) hHeld ?_
            (try simp only [Act.put, List.setIfInBounds_toArray, List.set_cons_zero, List.set_cons_succ])
            refine wpAnyH_done (by rw [hops.out]; kernel_rfl) (hQn.out _ _ ?_) _
            clear hQn hQ hops e0 e1 e2 e3 e4 e5 e6 e7 e8 e9 e10 e11 e12 e13 e14 e15 e16 e17 e18 e19 e20 e21 e22 e23 e24 e25 e26 e27 e28 e29
            have HI6 := Lib.hid (HI5.out.fr0 FD)
            clear FD hHeld HV1 HV2 HOP KS
            go_wp2_with fail
            go_roundw
            case rel => exact ⟨i + 1, now2, M3, by omega, by go_num, rfl, hnow2, HI6, HB5⟩
            case measure => simp [intOf]; omega
          · have hgi : ¬ (v1 : Int) < (v2 : Int) := by omega
            have hsb : (s1 == 1) = false := by simpa using hs1
            refine wp_region_held_drew (S := OpS bx1 bx2 w.heap.size s1 s2 n1 n2 k) (by kernel_rfl) (KS.out _ F0) (fun hHeld => ?_)
            have hRg : Array.replicate 8 false = #[false, false, false, false, false, false, false, false] := rfl
            refine (?_ : wpAnyH _ _ _ _ _ 8 (Array.replicate 8 false) _ _)
            rw [hRg]
            refine wpAnyH_hide (fun _ _ d _ _ h => by cases d <;> exact h) (fun ops Q hops hQ hQn => ?_)
            clear hRg
            have e0 := congrArg (fun x : Array Oper => x[0]?) hops.out
            simp only [List.getElem?_toArray, List.getElem?_cons_zero] at e0
            have e1 := congrArg (fun x : Array Oper => x[1]?) hops.out
            simp only [List.getElem?_toArray, List.getElem?_cons_zero, List.getElem?_cons_succ] at e1
            have e2 := congrArg (fun x : Array Oper => x[2]?) hops.out
            simp only [List.getElem?_toArray, List.getElem?_cons_zero, List.getElem?_cons_succ] at e2
            have e3 := congrArg (fun x : Array Oper => x[3]?) hops.out
            simp only [List.getElem?_toArray, List.getElem?_cons_zero, List.getElem?_cons_succ] at e3
            have e4 := congrArg (fun x : Array Oper => x[4]?) hops.out
            simp only [List.getElem?_toArray, List.getElem?_cons_zero, List.getElem?_cons_succ] at e4
            have e5 := congrArg (fun x : Array Oper => x[5]?) hops.out
            simp only [List.getElem?_toArray, List.getElem?_cons_zero, List.getElem?_cons_succ] at e5
            have e6 := congrArg (fun x : Array Oper => x[6]?) hops.out
            simp only [List.getElem?_toArray, List.getElem?_cons_zero, List.getElem?_cons_succ] at e6
            have e7 := congrArg (fun x : Array Oper => x[7]?) hops.out
            simp only [List.getElem?_toArray, List.getElem?_cons_zero, List.getElem?_cons_succ] at e7
            refine wpAnyH_take (i := 0) (v := .pointer (some ⟨bx2, 5, none⟩)) e0 (by rw [hops.out]; kernel_rfl) (by rw [hops.out]; kernel_rfl) (by rw [hops.out]; kernel_rfl) (fun c a w h => hQ c a _ _ w h) (Or.inl ⟨rfl, fun w' _ => by go_simp⟩) hHeld ?_
            (try simp only [Act.put, List.setIfInBounds_toArray, List.set_cons_zero, List.set_cons_succ])
            refine wpAnyH_take (i := 1) (v := .agg #[.int .u64 n2.a, .int .u64 n2.b, .int .u64 n2.c, .int .u64 n2.d, .int .u64 n2.e]) e1 (by rw [hops.out]; kernel_rfl) (by rw [hops.out]; kernel_rfl) (by rw [hops.out]; kernel_rfl) (fun c a w h => hQ c a _ _ w h) (Or.inl ⟨rfl, fun w' hS => by have z5 := hS.b5; have z6 := hS.b6; have z7 := hS.b7; have z8 := hS.b8; have z9 := hS.b9; go_simp⟩) hHeld ?_
            (try simp only [Act.put, List.setIfInBounds_toArray, List.set_cons_zero, List.set_cons_succ])
            refine wpAnyH_take (i := 3) (v := .pointer (some ⟨bx1, 5, none⟩)) e3 (by rw [hops.out]; kernel_rfl) (by rw [hops.out]; kernel_rfl) (by rw [hops.out]; kernel_rfl) (fun c a w h => hQ c a _ _ w h) (Or.inl ⟨rfl, fun w' _ => by go_simp⟩) hHeld ?_
            (try simp only [Act.put, List.setIfInBounds_toArray, List.set_cons_zero, List.set_cons_succ])
            refine wpAnyH_take (i := 4) (v := .agg #[.int .u64 n1.a, .int .u64 n1.b, .int .u64 n1.c, .int .u64 n1.d, .int .u64 n1.e]) e4 (by rw [hops.out]; kernel_rfl) (by rw [hops.out]; kernel_rfl) (by rw [hops.out]; kernel_rfl) (fun c a w h => hQ c a _ _ w h) (Or.inl ⟨rfl, fun w' hS => by have z5 := hS.a5; have z6 := hS.a6; have z7 := hS.a7; have z8 := hS.a8; have z9 := hS.a9; go_simp⟩) hHeld ?_
            (try simp only [Act.put, List.setIfInBounds_toArray, List.set_cons_zero, List.set_cons_succ])
            refine wpAnyH_ready (rs := [2]) (by rw [hops.out]; kernel_rfl) (by simp) ?_
            refine AllReadyH.cons e2 (fun K hK => ?_) AllReadyH.nil
            go_simp
            go_at_call 21
            refine (HV2.out _).mono ?_
            rintro e w12 ⟨rfl, FV⟩
            go_wp2_with fail
            have FA := F0.trans FV
            refine hK.out _ _ (KS.out _ FA) (fun hHeld => ?_)
            clear hK K
            (try simp only [List.setIfInBounds_toArray, List.set_cons_zero, List.set_cons_succ])
            refine wpAnyH_ready (rs := [5]) (by rw [hops.out]; kernel_rfl) (by simp) ?_
            refine AllReadyH.cons e5 (fun K hK => ?_) AllReadyH.nil
            go_simp
            go_at_call 21
            refine (HV1.out _).mono ?_
            rintro e w13 ⟨rfl, FV⟩
            go_wp2_with fail
            have FB := FA.trans FV
            refine hK.out _ _ (KS.out _ FB) (fun hHeld => ?_)
            clear hK K
            (try simp only [List.setIfInBounds_toArray, List.set_cons_zero, List.set_cons_succ])
            refine wpAnyH_take (i := 6) (v := .bool false) e6 (by rw [hops.out]; kernel_rfl) (by rw [hops.out]; kernel_rfl) (by rw [hops.out]; kernel_rfl) (fun c a w h => hQ c a _ _ w h) (Or.inl ⟨rfl, fun w' _ => by go_simp⟩) hHeld ?_
            (try simp only [Act.put, List.setIfInBounds_toArray, List.set_cons_zero, List.set_cons_succ])
            refine wpAnyH_take (i := 7) (v := .bool false) e7 (by rw [hops.out]; kernel_rfl) (by rw [hops.out]; kernel_rfl) (by rw [hops.out]; kernel_rfl) (fun c a w h => hQ c a _ _ w h) (Or.inl ⟨rfl, fun w' _ => by go_simp⟩) hHeld ?_
            (try simp only [Act.put, List.setIfInBounds_toArray, List.set_cons_zero, List.set_cons_succ])
            refine wpAnyH_done (by rw [hops.out]; kernel_rfl) (hQn.out _ _ ?_) _
            clear hQn hQ hops e0 e1 e2 e3 e4 e5 e6 e7 hHeld
            go_wp2_with fail
            have FD : Fr [] w11 w13.drew := FB.drew
            refine wp_region_held_drew (S := OpS bx1 bx2 w.heap.size s1 s2 n1 n2 k) (by kernel_rfl) (KS.out _ FD) (fun hHeld => ?_)
            have hRg : Array.replicate 30 false = #[false, false, false, false, false, false, false, false, false, false, false, false, false, false, false, false, false, false, false, false, false, false, false, false, false, false, false, false, false, false] := rfl
            refine (?_ : wpAnyH _ _ _ _ _ 30 (Array.replicate 30 false) _ _)
            rw [hRg]
            refine wpAnyH_hide (fun _ _ d _ _ h => by cases d <;> exact h) (fun ops Q hops hQ hQn => ?_)
            clear hRg
            have e0 := congrArg (fun x : Array Oper => x[0]?) hops.out
            simp only [List.getElem?_toArray, List.getElem?_cons_zero] at e0
            have e1 := congrArg (fun x : Array Oper => x[1]?) hops.out
            simp only [List.getElem?_toArray, List.getElem?_cons_zero, List.getElem?_cons_succ] at e1
            have e2 := congrArg (fun x : Array Oper => x[2]?) hops.out
            simp only [List.getElem?_toArray, List.getElem?_cons_zero, List.getElem?_cons_succ] at e2
            have e3 := congrArg (fun x : Array Oper => x[3]?) hops.out
            simp only [List.getElem?_toArray, List.getElem?_cons_zero, List.getElem?_cons_succ] at e3
            have e4 := congrArg (fun x : Array Oper => x[4]?) hops.out
            simp only [List.getElem?_toArray, List.getElem?_cons_zero, List.getElem?_cons_succ] at e4
            have e5 := congrArg (fun x : Array Oper => x[5]?) hops.out
            simp only [List.getElem?_toArray, List.getElem?_cons_zero, List.getElem?_cons_succ] at e5
            have e6 := congrArg (fun x : Array Oper => x[6]?) hops.out
            simp only [List.getElem?_toArray, List.getElem?_cons_zero, List.getElem?_cons_succ] at e6
            have e7 := congrArg (fun x : Array Oper => x[7]?) hops.out
            simp only [List.getElem?_toArray, List.getElem?_cons_zero, List.getElem?_cons_succ] at e7
            have e8 := congrArg (fun x : Array Oper => x[8]?) hops.out
            simp only [List.getElem?_toArray, List.getElem?_cons_zero, List.getElem?_cons_succ] at e8
            have e9 := congrArg (fun x : Array Oper => x[9]?) hops.out
            simp only [List.getElem?_toArray, List.getElem?_cons_zero, List.getElem?_cons_succ] at e9
            have e10 := congrArg (fun x : Array Oper => x[10]?) hops.out
            simp only [List.getElem?_toArray, List.getElem?_cons_zero, List.getElem?_cons_succ] at e10
            have e11 := congrArg (fun x : Array Oper => x[11]?) hops.out
            simp only [List.getElem?_toArray, List.getElem?_cons_zero, List.getElem?_cons_succ] at e11
            have e12 := congrArg (fun x : Array Oper => x[12]?) hops.out
            simp only [List.getElem?_toArray, List.getElem?_cons_zero, List.getElem?_cons_succ] at e12
            have e13 := congrArg (fun x : Array Oper => x[13]?) hops.out
            simp only [List.getElem?_toArray, List.getElem?_cons_zero, List.getElem?_cons_succ] at e13
            have e14 := congrArg (fun x : Array Oper => x[14]?) hops.out
            simp only [List.getElem?_toArray, List.getElem?_cons_zero, List.getElem?_cons_succ] at e14
            have e15 := congrArg (fun x : Array Oper => x[15]?) hops.out
            simp only [List.getElem?_toArray, List.getElem?_cons_zero, List.getElem?_cons_succ] at e15
            have e16 := congrArg (fun x : Array Oper => x[16]?) hops.out
            simp only [List.getElem?_toArray, List.getElem?_cons_zero, List.getElem?_cons_succ] at e16
            have e17 := congrArg (fun x : Array Oper => x[17]?) hops.out
            simp only [List.getElem?_toArray, List.getElem?_cons_zero, List.getElem?_cons_succ] at e17
            have e18 := congrArg (fun x : Array Oper => x[18]?) hops.out
            simp only [List.getElem?_toArray, List.getElem?_cons_zero, List.getElem?_cons_succ] at e18
            have e19 := congrArg (fun x : Array Oper => x[19]?) hops.out
            simp only [List.getElem?_toArray, List.getElem?_cons_zero, List.getElem?_cons_succ] at e19
            have e20 := congrArg (fun x : Array Oper => x[20]?) hops.out
            simp only [List.getElem?_toArray, List.getElem?_cons_zero, List.getElem?_cons_succ] at e20
            have e21 := congrArg (fun x : Array Oper => x[21]?) hops.out
            simp only [List.getElem?_toArray, List.getElem?_cons_zero, List.getElem?_cons_succ] at e21
            have e22 := congrArg (fun x : Array Oper => x[22]?) hops.out
            simp only [List.getElem?_toArray, List.getElem?_cons_zero, List.getElem?_cons_succ] at e22
            have e23 := congrArg (fun x : Array Oper => x[23]?) hops.out
            simp only [List.getElem?_toArray, List.getElem?_cons_zero, List.getElem?_cons_succ] at e23
            have e24 := congrArg (fun x : Array Oper => x[24]?) hops.out
            simp only [List.getElem?_toArray, List.getElem?_cons_zero, List.getElem?_cons_succ] at e24
            have e25 := congrArg (fun x : Array Oper => x[25]?) hops.out
            simp only [List.getElem?_toArray, List.getElem?_cons_zero, List.getElem?_cons_succ] at e25
            have e26 := congrArg (fun x : Array Oper => x[26]?) hops.out
            simp only [List.getElem?_toArray, List.getElem?_cons_zero, List.getElem?_cons_succ] at e26
            have e27 := congrArg (fun x : Array Oper => x[27]?) hops.out
            simp only [List.getElem?_toArray, List.getElem?_cons_zero, List.getElem?_cons_succ] at e27
            have e28 := congrArg (fun x : Array Oper => x[28]?) hops.out
            simp only [List.getElem?_toArray, List.getElem?_cons_zero, List.getElem?_cons_succ] at e28
            have e29 := congrArg (fun x : Array Oper => x[29]?) hops.out
            simp only [List.getElem?_toArray, List.getElem?_cons_zero, List.getElem?_cons_succ] at e29
            refine wpAnyH_take (i := 0) (v := .pointer (some ⟨bx1, 4, none⟩)) e0 (by rw [hops.out]; kernel_rfl) (by rw [hops.out]; kernel_rfl) (by rw [hops.out]; kernel_rfl) (fun c a w h => hQ c a _ _ w h) (Or.inl ⟨by rw [hops.out]; rfl, fun w' _ => by go_simp⟩) hHeld ?_
            (try simp only [Act.put, List.setIfInBounds_toArray, List.set_cons_zero, List.set_cons_succ])
            refine wpAnyH_take (i := 1) (v := .int .i64 s1) e1 (by rw [hops.out]; kernel_rfl) (by rw [hops.out]; kernel_rfl) (by rw [hops.out]; kernel_rfl) (fun c a w h => hQ c a _ _ w h) (Or.inl ⟨by rw [hops.out]; rfl, fun w' hS => by have z := hS.a4; go_simp⟩) hHeld ?_
            (try simp only [Act.put, List.setIfInBounds_toArray, List.set_cons_zero, List.set_cons_succ])
            refine wpAnyH_take (i := 2) (v := .bool false) e2 (by rw [hops.out]; kernel_rfl) (by rw [hops.out]; kernel_rfl) (by rw [hops.out]; kernel_rfl) (fun c a w h => hQ c a _ _ w h) (Or.inl ⟨by rw [hops.out]; rfl, fun w' _ => by go_simp⟩) hHeld ?_
            (try simp only [Act.put, List.setIfInBounds_toArray, List.set_cons_zero, List.set_cons_succ])
            refine wpAnyH_take (i := 3) (v := .bool false) e3 (by rw [hops.out]; kernel_rfl) (by rw [hops.out]; kernel_rfl) (by rw [hops.out]; kernel_rfl) (fun c a w h => hQ c a _ _ w h) (Or.inl ⟨by rw [hops.out]; rfl, fun w' _ => by go_simp⟩) hHeld ?_
            (try simp only [Act.put, List.setIfInBounds_toArray, List.set_cons_zero, List.set_cons_succ])
            refine wpAnyH_take (i := 4) (v := undef) e4 (by rw [hops.out]; kernel_rfl) (by rw [hops.out]; kernel_rfl) (by rw [hops.out]; kernel_rfl) (fun c a w h => hQ c a _ _ w h) (Or.inr ⟨by rw [hops.out]; rfl, rfl⟩) hHeld ?_
            (try simp only [Act.put, List.setIfInBounds_toArray, List.set_cons_zero, List.set_cons_succ])
            refine wpAnyH_take (i := 5) (v := .bool false) e5 (by rw [hops.out]; kernel_rfl) (by rw [hops.out]; kernel_rfl) (by rw [hops.out]; kernel_rfl) (fun c a w h => hQ c a _ _ w h) (Or.inl ⟨by rw [hops.out]; rfl, fun w' _ => by go_simp⟩) hHeld ?_
            (try simp only [Act.put, List.setIfInBounds_toArray, List.set_cons_zero, List.set_cons_succ])
            refine wpAnyH_take (i := 6) (v := .bool false) e6 (by rw [hops.out]; kernel_rfl) (by rw [hops.out]; kernel_rfl) (by rw [hops.out]; kernel_rfl) (fun c a w h => hQ c a _ _ w h) (Or.inl ⟨by rw [hops.out]; rfl, fun w' _ => by go_simp⟩) hHeld ?_
            (try simp only [Act.put, List.setIfInBounds_toArray, List.set_cons_zero, List.set_cons_succ])
            refine wpAnyH_take (i := 7) (v := undef) e7 (by rw [hops.out]; kernel_rfl) (by rw [hops.out]; kernel_rfl) (by rw [hops.out]; kernel_rfl) (fun c a w h => hQ c a _ _ w h) (Or.inr ⟨by rw [hops.out]; rfl, rfl⟩) hHeld ?_
            (try simp only [Act.put, List.setIfInBounds_toArray, List.set_cons_zero, List.set_cons_succ])
            refine wpAnyH_take (i := 8) (v := undef) e8 (by rw [hops.out]; kernel_rfl) (by rw [hops.out]; kernel_rfl) (by rw [hops.out]; kernel_rfl) (fun c a w h => hQ c a _ _ w h) (Or.inr ⟨by rw [hops.out]; rfl, rfl⟩) hHeld ?_
            (try simp only [Act.put, List.setIfInBounds_toArray, List.set_cons_zero, List.set_cons_succ])
            refine wpAnyH_take (i := 9) (v := undef) e9 (by rw [hops.out]; kernel_rfl) (by rw [hops.out]; kernel_rfl) (by rw [hops.out]; kernel_rfl) (fun c a w h => hQ c a _ _ w h) (Or.inr ⟨by rw [hops.out]; rfl, rfl⟩) hHeld ?_
            (try simp only [Act.put, List.setIfInBounds_toArray, List.set_cons_zero, List.set_cons_succ])
            refine wpAnyH_take (i := 10) (v := undef) e10 (by rw [hops.out]; kernel_rfl) (by rw [hops.out]; kernel_rfl) (by rw [hops.out]; kernel_rfl) (fun c a w h => hQ c a _ _ w h) (Or.inr ⟨by rw [hops.out]; rfl, rfl⟩) hHeld ?_
            (try simp only [Act.put, List.setIfInBounds_toArray, List.set_cons_zero, List.set_cons_succ])
            refine wpAnyH_take (i := 11) (v := undef) e11 (by rw [hops.out]; kernel_rfl) (by rw [hops.out]; kernel_rfl) (by rw [hops.out]; kernel_rfl) (fun c a w h => hQ c a _ _ w h) (Or.inr ⟨by rw [hops.out]; rfl, rfl⟩) hHeld ?_
            (try simp only [Act.put, List.setIfInBounds_toArray, List.set_cons_zero, List.set_cons_succ])
            refine wpAnyH_take (i := 12) (v := undef) e12 (by rw [hops.out]; kernel_rfl) (by rw [hops.out]; kernel_rfl) (by rw [hops.out]; kernel_rfl) (fun c a w h => hQ c a _ _ w h) (Or.inr ⟨by rw [hops.out]; rfl, rfl⟩) hHeld ?_
            (try simp only [Act.put, List.setIfInBounds_toArray, List.set_cons_zero, List.set_cons_succ])
            refine wpAnyH_take (i := 13) (v := undef) e13 (by rw [hops.out]; kernel_rfl) (by rw [hops.out]; kernel_rfl) (by rw [hops.out]; kernel_rfl) (fun c a w h => hQ c a _ _ w h) (Or.inr ⟨by rw [hops.out]; rfl, rfl⟩) hHeld ?_
            (try simp only [Act.put, List.setIfInBounds_toArray, List.set_cons_zero, List.set_cons_succ])
            refine wpAnyH_take (i := 14) (v := undef) e14 (by rw [hops.out]; kernel_rfl) (by rw [hops.out]; kernel_rfl) (by rw [hops.out]; kernel_rfl) (fun c a w h => hQ c a _ _ w h) (Or.inr ⟨by rw [hops.out]; rfl, rfl⟩) hHeld ?_
            (try simp only [Act.put, List.setIfInBounds_toArray, List.set_cons_zero, List.set_cons_succ])
            refine wpAnyH_take (i := 15) (v := .bool false) e15 (by rw [hops.out]; kernel_rfl) (by rw [hops.out]; kernel_rfl) (by rw [hops.out]; kernel_rfl) (fun c a w h => hQ c a _ _ w h) (Or.inl ⟨by rw [hops.out]; rfl, fun w' _ => by go_simp⟩) hHeld ?_
            (try simp only [Act.put, List.setIfInBounds_toArray, List.set_cons_zero, List.set_cons_succ])
            refine wpAnyH_take (i := 16) (v := .bool false) e16 (by rw [hops.out]; kernel_rfl) (by rw [hops.out]; kernel_rfl) (by rw [hops.out]; kernel_rfl) (fun c a w h => hQ c a _ _ w h) (Or.inl ⟨by rw [hops.out]; rfl, fun w' _ => by go_simp⟩) hHeld ?_
            (try simp only [Act.put, List.setIfInBounds_toArray, List.set_cons_zero, List.set_cons_succ])
            refine wpAnyH_take (i := 17) (v := .pointer (some ⟨bx1, 4, none⟩)) e17 (by rw [hops.out]; kernel_rfl) (by rw [hops.out]; kernel_rfl) (by rw [hops.out]; kernel_rfl) (fun c a w h => hQ c a _ _ w h) (Or.inl ⟨by rw [hops.out]; rfl, fun w' _ => by go_simp⟩) hHeld ?_
            (try simp only [Act.put, List.setIfInBounds_toArray, List.set_cons_zero, List.set_cons_succ])
            refine wpAnyH_take (i := 18) (v := .int .i64 s1) e18 (by rw [hops.out]; kernel_rfl) (by rw [hops.out]; kernel_rfl) (by rw [hops.out]; kernel_rfl) (fun c a w h => hQ c a _ _ w h) (Or.inl ⟨by rw [hops.out]; rfl, fun w' hS => by have z := hS.a4; go_simp⟩) hHeld ?_
            (try simp only [Act.put, List.setIfInBounds_toArray, List.set_cons_zero, List.set_cons_succ])
            refine wpAnyH_take (i := 19) (v := .bool false) e19 (by rw [hops.out]; kernel_rfl) (by rw [hops.out]; kernel_rfl) (by rw [hops.out]; kernel_rfl) (fun c a w h => hQ c a _ _ w h) (Or.inl ⟨by rw [hops.out]; rfl, fun w' _ => by go_simp⟩) hHeld ?_
            (try simp only [Act.put, List.setIfInBounds_toArray, List.set_cons_zero, List.set_cons_succ])
            refine wpAnyH_take (i := 20) (v := .bool false) e20 (by rw [hops.out]; kernel_rfl) (by rw [hops.out]; kernel_rfl) (by rw [hops.out]; kernel_rfl) (fun c a w h => hQ c a _ _ w h) (Or.inl ⟨by rw [hops.out]; rfl, fun w' _ => by go_simp⟩) hHeld ?_
            (try simp only [Act.put, List.setIfInBounds_toArray, List.set_cons_zero, List.set_cons_succ])
            refine wpAnyH_take (i := 21) (v := undef) e21 (by rw [hops.out]; kernel_rfl) (by rw [hops.out]; kernel_rfl) (by rw [hops.out]; kernel_rfl) (fun c a w h => hQ c a _ _ w h) (Or.inr ⟨by rw [hops.out]; rfl, rfl⟩) hHeld ?_
            (try simp only [Act.put, List.setIfInBounds_toArray, List.set_cons_zero, List.set_cons_succ])
            refine wpAnyH_take (i := 22) (v := undef) e22 (by rw [hops.out]; kernel_rfl) (by rw [hops.out]; kernel_rfl) (by rw [hops.out]; kernel_rfl) (fun c a w h => hQ c a _ _ w h) (Or.inr ⟨by rw [hops.out]; rfl, rfl⟩) hHeld ?_
            (try simp only [Act.put, List.setIfInBounds_toArray, List.set_cons_zero, List.set_cons_succ])
            refine wpAnyH_take (i := 23) (v := .bool false) e23 (by rw [hops.out]; kernel_rfl) (by rw [hops.out]; kernel_rfl) (by rw [hops.out]; kernel_rfl) (fun c a w h => hQ c a _ _ w h) (Or.inl ⟨by rw [hops.out]; rfl, fun w' _ => by go_simp⟩) hHeld ?_
            (try simp only [Act.put, List.setIfInBounds_toArray, List.set_cons_zero, List.set_cons_succ])
            refine wpAnyH_take (i := 24) (v := .bool false) e24 (by rw [hops.out]; kernel_rfl) (by rw [hops.out]; kernel_rfl) (by rw [hops.out]; kernel_rfl) (fun c a w h => hQ c a _ _ w h) (Or.inl ⟨by rw [hops.out]; rfl, fun w' _ => by go_simp⟩) hHeld ?_
            (try simp only [Act.put, List.setIfInBounds_toArray, List.set_cons_zero, List.set_cons_succ])
            refine wpAnyH_take (i := 25) (v := undef) e25 (by rw [hops.out]; kernel_rfl) (by rw [hops.out]; kernel_rfl) (by rw [hops.out]; kernel_rfl) (fun c a w h => hQ c a _ _ w h) (Or.inr ⟨by rw [hops.out]; rfl, rfl⟩) hHeld ?_
            (try simp only [Act.put, List.setIfInBounds_toArray, List.set_cons_zero, List.set_cons_succ])
            refine wpAnyH_take (i := 26) (v := undef) e26 (by rw [hops.out]; kernel_rfl) (by rw [hops.out]; kernel_rfl) (by rw [hops.out]; kernel_rfl) (fun c a w h => hQ c a _ _ w h) (Or.inr ⟨by rw [hops.out]; rfl, rfl⟩) hHeld ?_
            (try simp only [Act.put, List.setIfInBounds_toArray, List.set_cons_zero, List.set_cons_succ])
            refine wpAnyH_take (i := 27) (v := undef) e27 (by rw [hops.out]; kernel_rfl) (by rw [hops.out]; kernel_rfl) (by rw [hops.out]; kernel_rfl) (fun c a w h => hQ c a _ _ w h) (Or.inr ⟨by rw [hops.out]; rfl, rfl⟩) hHeld ?_
            (try simp only [Act.put, List.setIfInBounds_toArray, List.set_cons_zero, List.set_cons_succ])
            refine wpAnyH_take (i := 28) (v := .bool false) e28 (by rw [hops.out]; kernel_rfl) (by rw [hops.out]; kernel_rfl) (by rw [hops.out]; kernel_rfl) (fun c a w h => hQ c a _ _ w h) (Or.inl ⟨by rw [hops.out]; rfl, fun w' _ => by go_simp⟩) hHeld ?_
            (try simp only [Act.put, List.setIfInBounds_toArray, List.set_cons_zero, List.set_cons_succ])
            refine wpAnyH_take (i := 29) (v := .bool false) e29 (by rw [hops.out]; kernel_rfl) (by rw [hops.out]; kernel_rfl) (by rw [hops.out]; kernel_rfl) (fun c a w h => hQ c a _ _ w h) (Or.inl ⟨by rw [hops.out]; rfl, fun w' _ => by go_simp⟩) hHeld ?_
            (try simp only [Act.put, List.setIfInBounds_toArray, List.set_cons_zero, List.set_cons_succ])
            refine wpAnyH_done (by rw [hops.out]; kernel_rfl) (hQn.out _ _ ?_) _
            clear hQn hQ hops e0 e1 e2 e3 e4 e5 e6 e7 e8 e9 e10 e11 e12 e13 e14 e15 e16 e17 e18 e19 e20 e21 e22 e23 e24 e25 e26 e27 e28 e29
            have HI6 := Lib.hid (HI5.out.fr0 FD)
            clear FD hHeld HV1 HV2 HOP KS
            go_wp2_with fail
            go_roundw
            case rel => exact ⟨i + 1, now2, M3, by omega, by go_num, rfl, hnow2, HI6, HB5⟩
            case measure => simp [intOf]; omega
        · obtain rfl : i = l.length := by omega
          go_wp2_with fail
          go_ret
          exact ⟨rfl, HF5.out.trans HI.out.fr⟩
end Go.Proofs.YtcnkhjgpjchkeaaGreat
