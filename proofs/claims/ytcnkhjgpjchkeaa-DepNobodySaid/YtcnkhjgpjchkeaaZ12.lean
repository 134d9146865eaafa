/-
  Words, and contracts of functions of the program and of the document, for this seat's claims: each is a lemma on the way; conditions stand in each lemma.
-/
import Derived.Test.YtcnkhjgpjchkeaaZ11
import Derived.ProofKit
import Derived.OpenShut
import Derived.Deep.Slices
import Derived.Deep.Fields
import Derived.ChangeSame
import Derived.Test.YtcnkhjgpjchkeaaRows
namespace Go.Proofs.Ytcnkhjgpjchkeaa
open Go.RowKit

theorem DepM.count_k (M : DepM) (now : Nat) (id : Int) (kind : Nat) : (M.count now id kind).k = M.k := by
  obtain ⟨_, _, _, e⟩ := M.count_eq now id kind
  rw [e]
theorem fall_k (σ : DS) (now : Nat) (c : CallM) (cause : Int) : (σ.fall now c cause).M.k = σ.M.k := (Same.fall σ now c cause).k
theorem deed_k {M : DepM} (hi : DInv M NoOne) (now : Nat) (d : Dd) : (M.deed now d).1.M.k = M.k := by
  unfold DepM.deed
  repeat' split
  · unfold DepM.offer
    split
    · rfl
    · split
      · rfl
      · rename_i hk
        have W := offer_way hi now (by simpa using hk) ⟨d.args.length, d.ms, 1, 0, 0, now⟩
        show (DS.offer ⟨M, [], []⟩ now (leadOf d.ms) ⟨d.args.length, d.ms, 1, 0, 0, now⟩).M.k = M.k
        generalize DS.offer ⟨M, [], []⟩ now (leadOf d.ms) ⟨d.args.length, d.ms, 1, 0, 0, now⟩ = R at W
        cases W with
        | short _ => exact fall_k _ _ _ _
        | rej br _ => exact (fall_k _ _ _ _).trans (DepM.count_k _ _ _ _)
        | runs p _ _ => exact (Same.runs _ _).k.trans (Same.keep _ _).k
        | waits p _ _ => exact DepM.keep_k _ _
        | turn p y t _ _ => exact (Same.runs _ _).k.trans (Same.keep _ _).k
  · show M.pick.1.k = M.k
    unfold DepM.pick
    split
    · split
      · rfl
      · exact (Same.runs _ _).k
    · rfl
  · unfold DepM.answer
    repeat' split
    · exact (DepM.keep_k _ _).trans (DepM.count_k _ _ _ _)
    · exact (fall_k _ _ _ _).trans (DepM.count_k _ _ _ _)
    · exact DepM.keep_k _ _
    · rfl
  · unfold DepM.fallback
    repeat' split
    · exact DepM.keep_k _ _
    · exact fall_k _ _ _ _
    · exact DepM.keep_k _ _
    · rfl
  · show (M.late now d.id).M.k = M.k
    unfold DepM.late
    repeat' split
    · rfl
    · exact (fall_k _ _ _ _).trans (DepM.count_k _ _ _ _)
    · exact (fall_k _ _ _ _).trans (DepM.count_k _ _ _ _)
    · exact fall_k _ _ _ _
/-- A dependency of configuration k lies at A, as M, n deeds on; it was made behind wx. -/
structure DI (k : CF) (A : DepA) (wx wr : World) (n : Nat) (M : DepM) : Prop where
  dep : IsDep wr A M
  inv : DInv M NoOne
  sz : DSz n M
  k : M.k = k
  fr : Fr [] wx wr
  ge : ∀ x ∈ A.list, wx.heap.size ≤ x
section
variable {k : CF} {A : DepA} {wx wr : World} {n : Nat} {M : DepM} (h : DI k A wx wr n M)
include h
theorem DI.fr0 {w' : World} (F : Fr [] wr w') : DI k A wx w' n M := ⟨h.dep.fr0 F, h.inv, h.sz, h.k, h.fr.trans F, h.ge⟩
theorem DI.step {w' : World} {M' : DepM} {m : Nat} (F : Fr A.list wr w') (hd : IsDep w' A M') (hi : DInv M' NoOne) (hz : DSz m M') (hk : M'.k = M.k) : DI k A wx w' m M' :=
  ⟨hd, hi, hz, hk.trans h.k, h.fr.trans' F fun s hs => .inr (h.ge s hs), h.ge⟩
theorem DI.ch : 0 ≤ M.k.ch ∧ M.k.ch ≤ 3 := (CF.okay h.dep.fine h.dep.ran).ch
theorem DI.deed {w' : World} {now : Nat} (hnow : now < 18446744073709551616) {d : Dd} (hd : d.small) {err : Int} {e : Ending} (R : PubR wr A (M.deed now d).1 err e w') : DI k A wx w' (n + 1) (M.deed now d).1.M := by
  obtain ⟨_, _, _, D, F, _, _⟩ := R
  exact h.step F D (h.inv.deed h.ch now hd) (h.sz.deed h.inv hnow d) (deed_k h.inv now d)
theorem DI.seen {w' : World} {now : Nat} {e : Ending} (R : SnapR wr A M now e w') : DI k A wx w' n (M.seen now) := by
  obtain ⟨_, D, F⟩ := R
  exact h.step F D (h.inv.seen now) (h.sz.seen now) rfl
/-- The bounds. -/
theorem DI.bounds : (M.run.length : Int) ≤ k.pool + k.sem ∧ (M.wait.length : Int) ≤ k.queue ∧ (M.falls.length : Int) ≤ k.fb ∧ M.run.length ≤ M.calls.length ∧ M.wait.length ≤ M.calls.length := by
  have O := CF.okay h.dep.fine h.dep.ran
  have L := h.dep.bulk.lens
  have S := h.dep.falls.2.2.1
  obtain ⟨l1, l2⟩ := h.inv.lens
  have e1 : M.pool = M.k.most.toNat := rfl
  have e2 : M.que = M.k.que.toNat := rfl
  rw [h.k] at O S e1 e2
  have h1 := O.most; have h2 := O.que; have h3 := O.pool; have h4 := O.queue; have h5 := O.sem; have h6 := O.fb
  have m1 : k.most ≤ k.pool + k.sem := by unfold CF.most; split <;> omega
  have m2 : k.que ≤ k.queue := by unfold CF.que; split <;> omega
  exact ⟨by omega, by omega, by omega, l1, l2⟩
end
theorem DI.new {k : CF} {A : DepA} {wx wr : World} (hd : IsDep wr A (DepM.new k)) (hge : ∀ x ∈ A.list, wx.heap.size ≤ x) (F : Fr [] wx wr) : DI k A wx wr 0 (DepM.new k) :=
  ⟨hd, DInv.new k, ⟨by show 0 < 18446744073709551616; decide, Nat.le_refl _, Nat.le_refl _⟩, rfl, F, hge⟩
/-- A deed's values lie in no block of the dependency's. -/
theorem DI.apart {k : CF} {A : DepA} {w wx wr : World} {n : Nat} {M : DepM} (h : DI k A wx wr n M) (F : w.heap.size ≤ wx.heap.size) {vv : Value} {xs : List Int} (hv : RdInts w vv xs) : RdInts wr (.slice none 0 0) [] ∧ (xs = [] ∨ ∀ g, vv.ownBlock = some g → g ∉ A.list) := by
  refine ⟨⟨none, 0, rfl, Nat.le_refl _, fun _ => rfl, fun j hj => by simp at hj⟩, ?_⟩
  exact hv.noBlk (fun x hx => Nat.le_trans F (h.ge x hx))
/-- What Snap tells, written out. -/
theorem snapV_eq (M : DepM) (now : Nat) : M.snapV now = #[.int .i64 M.run.length, .int .i64 M.wait.length, .int .i64 M.falls.length, .int .i64 M.calls.length, .int .i64 M.br.st, .int .u64 (M.win.to now).cn.a, .int .u64 (M.win.to now).cn.b, .int .u64 (M.win.to now).cn.c, .int .u64 (M.win.to now).cn.d, .int .u64 (M.win.to now).cn.e, .int .u64 ((M.took.to now).pct 50 : Nat), .int .u64 ((M.took.to now).pct 100 : Nat)] := rfl
end Go.Proofs.Ytcnkhjgpjchkeaa

namespace Go.Proofs.Ytcnkhjgpjchkeaa
open Go.RowKit

theorem answer_nilD (w : World) (now : Nat) (id : Int) (ok : Bool) (v : Value) : Calls Try.prog 17 #[.pointer none, .int .u64 now, .int .i64 id, .bool ok, v] w fun e w' => e = .returned (.tuple #[.agg #[.slice none 0 0, .slice none 0 0], .int .i64 1]) ∧ Fr [] w w' := by
  go_enter Try.func17, Try.ntmps17
  go_wp2
  refine bodyPost_ret (v := .tuple #[.agg #[.slice none 0 0, .slice none 0 0], .int .i64 1]) (by simp [results, Try.results17, go_sem]) rfl ?_
  exact ⟨rfl, (Fr.refl _ _).alloc _⟩
theorem fallback_nilD (w : World) (now : Nat) (id step : Int) (ok : Bool) (v : Value) : Calls Try.prog 18 #[.pointer none, .int .u64 now, .int .i64 id, .int .i64 step, .bool ok, v] w fun e w' => e = .returned (.tuple #[.agg #[.slice none 0 0, .slice none 0 0], .int .i64 1]) ∧ Fr [] w w' := by
  go_enter Try.func18, Try.ntmps18
  go_wp2
  refine bodyPost_ret (v := .tuple #[.agg #[.slice none 0 0, .slice none 0 0], .int .i64 1]) (by simp [results, Try.results18, go_sem]) rfl ?_
  exact ⟨rfl, (Fr.refl _ _).alloc _⟩
theorem eqSnap0 (w : World) : (Op.equalIn 9999 61 (.agg #[.int .u64 0, .int .u64 0, .int .u64 0, .int .u64 0, .int .u64 0]) (.agg #[.int .u64 0, .int .u64 0, .int .u64 0, .int .u64 0, .int .u64 0])).run Try.prog w = .ok true w := by kernel_rfl
theorem fldOuts (w : World) : (Instr.field 57 (.agg #[.slice none 0 0, .slice none 0 0]) 1).run Try.prog w = .ok (.slice none 0 0) w := by kernel_rfl
theorem fldCalls (x0 x1 x2 x3 x4 x5 x6 x7 x8 x9 x10 x11 : Value) (w : World) : (Instr.field 63 (.agg #[x0, x1, x2, x3, x4, x5, x6, x7, x8, x9, x10, x11]) 3).run Try.prog w = .ok x3 w := by kernel_rfl
theorem new_pick (k : CF) : (DepM.new k).pick = (DepM.new k, 3) := by
  unfold DepM.pick
  split
  · rfl
  · rfl
theorem new_answer (k : CF) (now : Nat) (id : Int) (ok : Bool) (vals : List Int) : (DepM.new k).answer now id ok vals = (⟨DepM.new k, [], []⟩, 3) := DepM.answer_none (fun h => by cases h)
theorem new_offer (k : CF) (now : Nat) : (DepM.new k).offer now 0 [] = (⟨DepM.new k, [], []⟩, 1) := rfl
theorem new_ok (k : CF) : (DepM.new k).ok := fun _ h => by cases h
set_option maxHeartbeats 8000000 in
set_option maxRecDepth 20000 in
theorem depNobody_spec (w : World) (k : CF) (hr : k.Ran) (id : Int) (now : Nat) (hnow : now < 18446744073709551616) :
    Calls Try.prog 5 #[k.val, .int .i64 id, .int .u64 now] w fun e w' => e = .returned (.bool true) ∧ Fr [] w w' := by
  have HOF := Lib.hid (fun (w' : World) (a0 : Option Addr) (c0 : Nat) (vm : Value) (hm : Mems w' vm [(1, 0)]) => offer_nilD (a0 := a0) (n0 := 1) (c0 := c0) hm (by simp) now)
  have HC8 := Lib.hid (fun w' => check8_spec w' k hr)
  have HNY := Lib.hid (fun w' h => depNew_yes w' k h hr)
  have HNN := Lib.hid (fun w' h => depNew_no w' k h)
  have HEQ := Lib.hid eqSnap0
  have HB := Lib.hid (block_alloc_new w (.cells #[.int .i64 k.mode, .int .i64 k.pool, .int .i64 k.queue, .int .i64 k.sem, .int .i64 k.fb, .int .i64 k.ch, .int .u64 k.t, .int .u64 k.ft, .int .i64 k.vo, .int .i64 k.pe, .int .u64 k.sl, .int .i64 k.bu, .int .u64 k.wi, .int .u64 k.wd, .int .i64 k.ba, .int .i64 k.fo] 24))
  have HF := Lib.hid ((Fr.refl [] w).alloc (.cells #[.int .i64 k.mode, .int .i64 k.pool, .int .i64 k.queue, .int .i64 k.sem, .int .i64 k.fb, .int .i64 k.ch, .int .u64 k.t, .int .u64 k.ft, .int .i64 k.vo, .int .i64 k.pe, .int .u64 k.sl, .int .i64 k.bu, .int .u64 k.wi, .int .u64 k.wd, .int .i64 k.ba, .int .i64 k.fo] 24))
  obtain ⟨wc, hwc⟩ : ∃ wc, wc = w.alloc (.cells #[.int .i64 k.mode, .int .i64 k.pool, .int .i64 k.queue, .int .i64 k.sem, .int .i64 k.fb, .int .i64 k.ch, .int .u64 k.t, .int .u64 k.ft, .int .i64 k.vo, .int .i64 k.pe, .int .u64 k.sl, .int .i64 k.bu, .int .u64 k.wi, .int .u64 k.wd, .int .i64 k.ba, .int .i64 k.fo] 24) := ⟨_, rfl⟩
  rw [← hwc] at HB HF
  have HWC := Lib.hid hwc
  have HCELL : Hid (∀ w' : World, Fr [] wc w' → w'.cell? ⟨w.heap.size, 0, none⟩ = some (.int .i64 k.mode) ∧ w'.cell? ⟨w.heap.size, 1, none⟩ = some (.int .i64 k.pool) ∧ w'.cell? ⟨w.heap.size, 2, none⟩ = some (.int .i64 k.queue) ∧ w'.cell? ⟨w.heap.size, 3, none⟩ = some (.int .i64 k.sem) ∧ w'.cell? ⟨w.heap.size, 4, none⟩ = some (.int .i64 k.fb) ∧ w'.cell? ⟨w.heap.size, 5, none⟩ = some (.int .i64 k.ch) ∧ w'.cell? ⟨w.heap.size, 6, none⟩ = some (.int .u64 k.t) ∧ w'.cell? ⟨w.heap.size, 7, none⟩ = some (.int .u64 k.ft) ∧ w'.cell? ⟨w.heap.size, 8, none⟩ = some (.int .i64 k.vo) ∧ w'.cell? ⟨w.heap.size, 9, none⟩ = some (.int .i64 k.pe) ∧ w'.cell? ⟨w.heap.size, 10, none⟩ = some (.int .u64 k.sl) ∧ w'.cell? ⟨w.heap.size, 11, none⟩ = some (.int .i64 k.bu) ∧ w'.cell? ⟨w.heap.size, 12, none⟩ = some (.int .u64 k.wi) ∧ w'.cell? ⟨w.heap.size, 13, none⟩ = some (.int .u64 k.wd) ∧ w'.cell? ⟨w.heap.size, 14, none⟩ = some (.int .i64 k.ba) ∧ w'.cell? ⟨w.heap.size, 15, none⟩ = some (.int .i64 k.fo)) := Lib.hid (fun w' F => by
    have hb := F.keep HB.out (by simp)
    refine ⟨?_, ?_, ?_, ?_, ?_, ?_, ?_, ?_, ?_, ?_, ?_, ?_, ?_, ?_, ?_, ?_⟩
    all_goals (rw [cell_of_block hb]; rfl))
  clear hwc
  go_enter Try.func5, Try.ntmps5
  go_wp2_with fail
  rw [← HWC.out]
  have CUR : Fr [] wc wc := Fr.refl _ _
  refine (awake_spec _).mono ?_
  rintro e w1 ⟨rfl, F1⟩
  have CUR := Fr.trans (by with_reducible repeat (first | exact CUR | apply Fr.alloc)) F1
  go_wp2_with fail
  refine (lawOne_spec _ 1 1).mono ?_
  rintro e w2 ⟨⟨va, vm, rfl, ⟨a0, c0, rfl⟩, hM⟩, F2⟩
  have CUR := Fr.trans (by with_reducible repeat (first | exact CUR | apply Fr.alloc)) F2
  have HX := Lib.hid (HOF.out w2 a0 c0 vm hM)
  obtain ⟨am, cm, rfl, -, -⟩ := hM
  clear F1 F2 HOF
  go_wp2_with fail
  refine HX.out.mono ?_
  rintro e w3 ⟨rfl, F3⟩
  have CUR := Fr.trans (by with_reducible repeat (first | exact CUR | apply Fr.alloc)) F3
  go_wp2_with fail
  refine (pick_nilD _ now).mono ?_
  rintro e w4 ⟨rfl, F4⟩
  have CUR := Fr.trans (by with_reducible repeat (first | exact CUR | apply Fr.alloc)) F4
  go_wp2_with fail
  refine (answer_nilD _ now id true _).mono ?_
  rintro e w5 ⟨rfl, F5⟩
  have CUR := Fr.trans (by with_reducible repeat (first | exact CUR | apply Fr.alloc)) F5
  go_wp2_with fail
  refine (fallback_nilD _ now id 1 true _).mono ?_
  rintro e w6 ⟨rfl, F6⟩
  have CUR := Fr.trans (by with_reducible repeat (first | exact CUR | apply Fr.alloc)) F6
  clear HX F3 F4 F5 F6
  go_wp2_with fail
  refine (late_nilD _ now id).mono ?_
  rintro e w7 ⟨rfl, F7⟩
  have CUR := Fr.trans (by with_reducible repeat (first | exact CUR | apply Fr.alloc)) F7
  have hfo := fldOuts w7
  go_wp2_with fail
  refine (knows_nil _ id).mono ?_
  rintro e w8 ⟨rfl, hv8⟩
  obtain rfl : w7 = w8 := hv8.symm
  go_wp2_with fail
  refine (snap_nilD _ now).mono ?_
  rintro e w9 ⟨rfl, F9⟩
  have CUR := Fr.trans (by with_reducible repeat (first | exact CUR | apply Fr.alloc)) F9
  have hq := HEQ.out w9
  obtain ⟨z0, z1, z2, z3, z4, z5, z6, z7, z8, z9, za, zb, zc, zd, ze, zf⟩ := HCELL.out _ CUR
  have HS9 := Lib.hid CUR.size
  clear F7 F9
  go_wp2_with fail
  clear hq hfo HEQ
  cases hf : k.fine with
  | false =>
    have HX := Lib.hid (HNN.out w9 hf)
    have HFN := Lib.hid hf
    clear hf
    refine HX.out.mono ?_
    rintro e wa ⟨rfl, Fa⟩
    have CUR := Fr.trans (by with_reducible repeat (first | exact CUR | apply Fr.alloc)) Fa
    obtain ⟨z0, z1, z2, z3, z4, z5, z6, z7, z8, z9, za, zb, zc, zd, ze, zf⟩ := HCELL.out _ CUR
    clear Fa HX
    go_wp2_with fail
    refine (HC8.out _).mono ?_
    rintro e wb ⟨n, rfl, hn0, hn1, hn2, Fb⟩
    have CUR := Fr.trans (by with_reducible repeat (first | exact CUR | apply Fr.alloc)) Fb
    have hpos : 0 < n := by
      rcases Int.lt_or_eq_of_le hn0 with h | h
      · exact h
      · exact absurd (hn2.1 h.symm) (by rw [HFN.out]; decide)
    clear hn2 Fb
    go_wp2_with fail
    go_ret
    exact ⟨rfl, HF.out.trans CUR⟩
  | true =>
    have HX := Lib.hid (HNY.out w9 hf)
    have HFN := Lib.hid hf
    clear hf
    refine HX.out.mono ?_
    rintro e wa ⟨A, rfl, D0, hge, Fa⟩
    have CUR := Fr.trans (by with_reducible repeat (first | exact CUR | apply Fr.alloc)) Fa
    have HCU := Lib.hid CUR
    have HGE := Lib.hid (show ∀ x ∈ A.list, w9.heap.size ≤ x from hge)
    have HSZ9 : Hid (wc.heap.size ≤ w9.heap.size) := Lib.hid HS9.out
    have HD0 := Lib.hid D0
    have HLOW := Lib.hid D0.low
    have HPK := pickD_spec D0 now (new_ok k)
    rw [new_pick] at HPK
    have HPK := Lib.hid HPK
    have HFa := Lib.hid Fa
    have DUR : Fr A.list wa wa := Fr.refl _ _
    clear hge Fa HX D0 CUR
    go_wp2_with fail
    refine HPK.out.mono ?_
    rintro e wb ⟨pa, po, rfl, Db, Fb, ra, ro⟩
    obtain ⟨qab, qcb, hva⟩ := ownsFormD ra
    obtain ⟨qob, qdb, hvo⟩ := ownsFormD ro
    change pa = .slice qab 0 qcb at hva
    change po = .slice qob 0 qdb at hvo
    subst hva hvo
    have HDb := Lib.hid Db
    have DUR := Fr.trans (by with_reducible repeat (first | exact DUR | apply Fr.alloc)) Fb
    clear ra ro Db Fb
    have HAN := Lib.hid (fun (w' : World) (F : Fr [] wb w') => answerD_spec (HDb.out.fr0 F) now hnow (show (0 : Nat) < 1000000000000000 by decide) (show (0 : Nat) < 1000000000000000 by decide) (new_ok k) id true (vv := .slice none 0 0) (vals := []) ⟨none, 0, rfl, Nat.le_refl _, fun _ => rfl, fun j hj => by simp at hj⟩ (.inl rfl) (by simp))
    simp only [new_answer] at HAN
    go_wp2_with fail
    refine (HAN.out _ (by with_reducible repeat (first | exact Fr.refl _ _ | apply Fr.alloc))).mono ?_
    rintro e wd ⟨pa, po, rfl, Dd, Fd, ra, ro⟩
    obtain ⟨qad, qcd, hva⟩ := ownsFormD ra
    obtain ⟨qod, qdd, hvo⟩ := ownsFormD ro
    change pa = .slice qad 0 qcd at hva
    change po = .slice qod 0 qdd at hvo
    subst hva hvo
    have HDd := Lib.hid Dd
    have DUR := Fr.trans (by with_reducible repeat (first | exact DUR | apply Fr.alloc)) Fd
    clear ra ro Dd Fd
    have HFB := Lib.hid (fun (w' : World) (F : Fr [] wd w') => fallbackD_no (HDd.out.fr0 F) now id 1 true (vv := .slice none 0 0) (fun h => by cases h))
    clear HAN HPK
    go_wp2_with fail
    refine (HFB.out _ (by with_reducible repeat (first | exact Fr.refl _ _ | apply Fr.alloc))).mono ?_
    rintro e we ⟨pa, po, rfl, De, Fe, ra, ro⟩
    obtain ⟨qae, qce, hva⟩ := ownsFormD ra
    obtain ⟨qoe, qde, hvo⟩ := ownsFormD ro
    change pa = .slice qae 0 qce at hva
    change po = .slice qoe 0 qde at hvo
    subst hva hvo
    have HDe := Lib.hid De
    have DUR := Fr.trans (by with_reducible repeat (first | exact DUR | apply Fr.alloc)) Fe
    clear ra ro De Fe
    have HOFF := Lib.hid (fun (w' : World) (F : Fr [] we w') => offerD_spec (nargs := 0) (HDe.out.fr0 F) now hnow (show (0 : Nat) < 18446744073709551616 by decide) (show (0 : Nat) < 1000000000000000 by decide) (new_ok k) (va := .slice none 0 0) (vm := .slice none 0 0) ⟨none, 0, rfl⟩ (ms := []) ⟨none, 0, rfl, Nat.le_refl _, fun i hi => by simp at hi⟩ (by simp))
    simp only [new_offer] at HOFF
    clear HFB
    go_wp2_with fail
    refine (HOFF.out _ (by with_reducible repeat (first | exact Fr.refl _ _ | apply Fr.alloc))).mono ?_
    rintro e wg ⟨pa, po, rfl, Dg, Fg, ra, ro⟩
    obtain ⟨qag, qcg, hva⟩ := ownsFormD ra
    obtain ⟨qog, qdg, hvo⟩ := ownsFormD ro
    change pa = .slice qag 0 qcg at hva
    change po = .slice qog 0 qdg at hvo
    subst hva hvo
    have HDg := Lib.hid Dg
    have DUR := Fr.trans (by with_reducible repeat (first | exact DUR | apply Fr.alloc)) Fg
    clear ra ro Dg Fg
    clear HOFF
    have hgeS : ∀ x ∈ A.list, wc.heap.size ≤ x := fun x hx => Nat.le_trans (HSZ9.out) (HGE.out x hx)
    have CUR := Fr.trans' HCU.out DUR (fun s hs => .inr (hgeS s hs))
    have CUR : Fr [] wc (wg.alloc (.cells #[.slice qag 0 qcg, .slice qog 0 qdg] 57)) := CUR.alloc _
    obtain ⟨z0, z1, z2, z3, z4, z5, z6, z7, z8, z9, za, zb, zc, zd, ze, zf⟩ := HCELL.out _ CUR
    have HCUR := Lib.hid CUR
    clear HFa CUR DUR hgeS
    go_wp2_with fail
    refine (HC8.out _).mono ?_
    rintro e wh ⟨n, rfl, hn0, hn1, hn2, Fh⟩
    obtain rfl := hn2.2 HFN.out
    have HCU2 := Lib.hid (HCUR.out.trans Fh)
    have HDh := Lib.hid (HDg.out.fr0 (((Fr.refl [] wg).alloc _).trans Fh))
    clear Fh hn0 hn1 hn2
    go_wp2_with fail
    refine (knows_spec HDh.out id).mono ?_
    rintro e wi ⟨rfl, Fi⟩
    have hkn : (DepM.new k).knows id = false := rfl
    rw [hkn]
    have HCU3 := Lib.hid (HCU2.out.trans Fi)
    have HSN := Lib.hid (snapD_spec (HDh.out.fr0 Fi) now hnow)
    clear Fi hkn
    go_wp2_with fail
    refine HSN.out.mono ?_
    rintro e wj ⟨rfl, Dj, Fj⟩
    have hsv : (DepM.new k).snapV now = #[.int .i64 0, .int .i64 0, .int .i64 0, .int .i64 0, .int .i64 1, ((DepM.new k).snapV now)[5]!, ((DepM.new k).snapV now)[6]!, ((DepM.new k).snapV now)[7]!, ((DepM.new k).snapV now)[8]!, ((DepM.new k).snapV now)[9]!, ((DepM.new k).snapV now)[10]!, ((DepM.new k).snapV now)[11]!] := rfl
    rw [hsv]
    generalize ((DepM.new k).snapV now)[5]! = s5
    generalize ((DepM.new k).snapV now)[6]! = s6
    generalize ((DepM.new k).snapV now)[7]! = s7
    generalize ((DepM.new k).snapV now)[8]! = s8
    generalize ((DepM.new k).snapV now)[9]! = s9
    generalize ((DepM.new k).snapV now)[10]! = s10
    generalize ((DepM.new k).snapV now)[11]! = s11
    have HEND := Lib.hid (HF.out.trans (HCU3.out.trans' Fj (fun s hs => .inr (Nat.le_trans HSZ9.out (HGE.out s hs)))))
    clear Dj Fj hsv HSN HDh
    have hfc := fldCalls (.int .i64 0) (.int .i64 0) (.int .i64 0) (.int .i64 0) (.int .i64 1) s5 s6 s7 s8 s9 s10 s11 wj
    go_wp2_with fail
    go_ret
    exact ⟨rfl, HEND.out⟩
end Go.Proofs.Ytcnkhjgpjchkeaa

namespace Go.Proofs.Ytcnkhjgpjchkeaa
open Go.ChangeShapes Go.WideShapes Go.ChangeAt Go.RowKit Go.Deep

theorem own : ownKnob Try.prog.godebug = none := by kernel_rfl
theorem laid : laidOutB Try.prog = true := by kernel_rfl

theorem trodAll_below {H : Type} {enc : TypeId × Value → H} {W W' : World} (hb : Below W.heap.size W W') : ∀ (ts : List TypeId) (vs : List Value) (ds : List (DataW H)) (ps : List MemPlace),
    (ts.all fun t => Try.prog.readableRec t && decide (t < Try.prog.types.size)) = true → DataW.TrodAll enc Try.prog W 0 (fun _ => true) true ts vs ds ps → (∀ x ∈ ps, x.block < W.heap.size) →
    DataW.TrodAll enc Try.prog W' 0 (fun b => decide (b < W.heap.size)) true ts vs ds ps := by
  intro ts
  induction ts with
  | nil =>
    intro vs ds ps _ h _
    match vs, ds, h with
    | [], [], h => exact h
  | cons t ts ih =>
    intro vs ds ps ht h hp
    obtain ⟨v, vs', d, ds', p, q, rfl, rfl, rfl, h1, h2⟩ := trodAll_cons h
    rw [List.all_cons, Bool.and_eq_true, Bool.and_eq_true] at ht
    exact trodAll_cons_mk (Below.trod laid ht.1.1 (of_decide_eq_true ht.1.2) h1 hb (fun x hx => hp x (List.mem_append_left _ hx))) (ih vs' ds' q ht.2 h2 (fun x hx => hp x (List.mem_append_right _ hx)))

/-- The post of a law. -/
theorem law_post {H : Type} {enc : TypeId × Value → H} {f : Func} {s : ChangeSpec} {W W' : World} {args : Array Value} {ds gs : List (DataW H)} {before : List MemPlace}
    (hW : DataW.Whole enc Try.prog f.params.toList s.vars false W args.toList ds gs before) (hb : Below W.heap.size W W')
    (hv : s.vars = []) (hr : f.resultTypes = #[4]) (hp : (f.params.toList.all fun t => Try.prog.readableRec t && decide (t < Try.prog.types.size)) = true)
    (hres : (s.fn H (ds ++ gs)).results = [.lit (.bool true)]) (harg : (s.fn H (ds ++ gs)).args = ds) (hvar : (s.fn H (ds ++ gs)).vars = []) :
    s.post enc Try.prog f false true false false W args (.bool true) W' := by
  have hlt := hW.lt
  obtain ⟨p, q, hA, hV, rfl, hfz, hnd⟩ := hW
  refine ⟨ds, gs, p ++ q, [], p, [], ⟨p, q, hA, hV, rfl, hfz, hnd⟩, ?_, ?_, ?_, hb.frame _, fun h => by cases h⟩
  · rw [hr, hres]
    exact trodAll_cons_mk (shut_bool Try.underlying4 _) trodAll_mk0
  · rw [harg]
    exact trodAll_below hb _ _ _ _ hp hA (fun x hx => hlt x (by simp [hx]))
  · rw [hv, hvar]
    rfl

theorem cell_spot {w : World} {a : Addr} {v : Value} (h : w.cell? a = some v) : a.spot = none := by
  unfold World.cell? at h
  split at h
  · cases hs : a.spot with
    | none => rfl
    | some _ => simp [hs] at h
  · cases h

end Go.Proofs.Ytcnkhjgpjchkeaa
