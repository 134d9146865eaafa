/-
  Words, and contracts of functions of the program and of the document, for this seat's claims: each is a lemma on the way; conditions stand in each lemma.
-/
import Derived.Test.YtcnkhjgpjchkeaaZ10
import Derived.Laws.ResultCell
namespace Go.Proofs.Ytcnkhjgpjchkeaa
open Go.RowKit

theorem PubR.put {w w2 w3 : World} {y : Nat} {cs : Array Value} {A : DepA} {M : DepM} {σ : DS} {va vo : Value} (k : Fr [] w w2) (h2 : IsDep w2 A M) (hb : w2.heap[y]? = some (.cells cs 57 (0, 0))) (hy : w.heap.size ≤ y) (hd : IsDep w3 A σ.M) (F : Fr A.list w2 w3)
    (ra : w3.ownsRow w2.heap.size 80 3 va σ.ac.length (σ.ac.flatMap ActM.cells)) (ro : w3.ownsRow w2.heap.size 82 5 vo σ.ou.length (σ.ou.flatMap Ou.cells)) {err : Int} {e : Ending} (he : e = .returned (.tuple #[.agg #[va, vo], .int .i64 err])) (u0 u1 : Value) :
    PubR w A σ err e ((w3.setCell ⟨y, 0, none⟩ u0).setCell ⟨y, 1, none⟩ u1) := by
  have hyn : y ∉ A.list := fun hs => h2.nobox (.inr (.inr (.inr rfl))) _ hs _ _ hb
  have hb3 := F.keep hb hyn
  have k1 : Fr [y] w3 ((w3.setCell ⟨y, 0, none⟩ u0).setCell ⟨y, 1, none⟩ u1) := ((Fr.refl _ _).setCell (p := ⟨y, 0, none⟩) (.inl (by simp)) _).setCell (p := ⟨y, 1, none⟩) (.inl (by simp)) _
  have hn : ∀ s ∈ A.list, s ∉ [y] := fun s hs h => by
    simp at h; subst h
    exact hyn hs
  have hm : NoMem w3 [y] := NoMem.cons (NoMem.nil w3) hb3 (by intro _ _ e; simp only [Obj.cells.injEq] at e; exact absurd e.2.1 (by decide))
  refine ⟨va, vo, he, hd.fr k1 hn hm, ((k.mono (S' := A.list) (by simp)).trans F).trans' k1 (fun s hs => .inr (by simp at hs; subst hs; exact hy)), ownsRow_fr (ownsRow_lower ra k.size) k1 ?_, ownsRow_fr (ownsRow_lower ro k.size) k1 ?_⟩
  · intro g hg hs; simp at hs; exact owns_neD ra hb3 (by show (80 : TypeId) ≠ 57; decide) g hg hs
  · intro g hg hs; simp at hs; exact owns_neD ro hb3 (by show (82 : TypeId) ≠ 57; decide) g hg hs
/-- A value's block stands ahead of the dependency's. -/
theorem ahead {A : DepA} {n : Nat} (hA : ∀ x ∈ A.list, n ≤ x) {vv : Value} (hv : ∀ g, vv.ownBlock = some g → g < n) : ∀ g, vv.ownBlock = some g → g ∉ A.list := fun g hg hm => by
  have := hA g hm; have := hv g hg; omega
theorem RdInts.noBlk {w : World} {vv : Value} {xs : List Int} (h : RdInts w vv xs) {A : DepA} (hA : ∀ x ∈ A.list, w.heap.size ≤ x) : xs = [] ∨ ∀ g, vv.ownBlock = some g → g ∉ A.list := by
  cases xs with
  | nil => exact .inl rfl
  | cons x xs =>
    refine .inr (ahead hA fun g hg => ?_)
    obtain ⟨ao, cap, rfl, _, _, h4⟩ := h
    obtain ⟨b, o, rfl, hc⟩ := h4 0 (by simp)
    simp only [Value.ownBlock, Option.some.injEq] at hg
    subst hg
    exact World.block_lt_of_cell? _ _ hc
set_option maxHeartbeats 8000000 in
set_option maxRecDepth 20000 in
theorem do17_spec {w : World} {A : DepA} {M : DepM} (h : IsDep w A M) (now : Nat) (hnow : now < 18446744073709551616) (hi : DInv M NoOne) {n : Nat} (hz : DSz n M) (hn : n ≤ 100000000000000) {d : Dd} (hd : d.small) {vv va vm : Value} (hv : DdV w vv va vm d) (hva : d.vals = [] ∨ ∀ g, vv.ownBlock = some g → g ∉ A.list) :
    Calls Try.prog 11 #[.pointer (some ⟨A.d, 0, none⟩), .int .u64 now, .agg #[.int .i64 d.kind, .int .i64 d.id, .int .i64 d.step, .int .u64 d.t, .bool d.ok, vv, va, vm]] w (PubR w A (M.deed now d).1 (M.deed now d).2) := by
  have hch := (CF.okay h.fine h.ran).ch
  have hok := hi.ok hch.2
  have HV := Lib.hid hv
  obtain ⟨av, cv, rfl, -⟩ := hv.vals
  obtain ⟨aa, ca, rfl, -⟩ := hv.args
  obtain ⟨am, cm, rfl, -⟩ := hv.ms
  have HB := Lib.hid (block_alloc_new (w.alloc (.cells #[.int .i64 d.kind, .int .i64 d.id, .int .i64 d.step, .int .u64 d.t, .bool d.ok, .slice av d.vals.length cv, .slice aa d.args.length ca, .slice am d.ms.length cm] 54)) (.cells #[.slice none 0 0, .slice none 0 0] 57))
  have HF := Lib.hid (((Fr.refl [] w).alloc (.cells #[.int .i64 d.kind, .int .i64 d.id, .int .i64 d.step, .int .u64 d.t, .bool d.ok, .slice av d.vals.length cv, .slice aa d.args.length ca, .slice am d.ms.length cm] 54)).alloc (.cells #[.slice none 0 0, .slice none 0 0] 57))
  have hz2 : (zeroValue 57).run Try.prog (w.alloc (.cells #[.int .i64 d.kind, .int .i64 d.id, .int .i64 d.step, .int .u64 d.t, .bool d.ok, .slice av d.vals.length cv, .slice aa d.args.length ca, .slice am d.ms.length cm] 54)) = .ok (.agg #[.slice none 0 0, .slice none 0 0]) (w.alloc (.cells #[.int .i64 d.kind, .int .i64 d.id, .int .i64 d.step, .int .u64 d.t, .bool d.ok, .slice av d.vals.length cv, .slice aa d.args.length ca, .slice am d.ms.length cm] 54)) := by kernel_rfl
  have hbx := block_alloc (block_alloc_new w (.cells #[.int .i64 d.kind, .int .i64 d.id, .int .i64 d.step, .int .u64 d.t, .bool d.ok, .slice av d.vals.length cv, .slice aa d.args.length ca, .slice am d.ms.length cm] 54)) (.cells #[.slice none 0 0, .slice none 0 0] 57)
  obtain ⟨w2, hw2⟩ : ∃ w2, w2 = (w.alloc (.cells #[.int .i64 d.kind, .int .i64 d.id, .int .i64 d.step, .int .u64 d.t, .bool d.ok, .slice av d.vals.length cv, .slice aa d.args.length ca, .slice am d.ms.length cm] 54)).alloc (.cells #[.slice none 0 0, .slice none 0 0] 57) := ⟨_, rfl⟩
  rw [← hw2] at HB HF hbx
  rw [World.size_alloc] at HB
  have HW2 := Lib.hid hw2
  have h2 := h.fr0 HF.out
  have HV2 := Lib.hid (HV.out.fr0 HF.out)
  have H2 := Lib.hid h2
  have HOK := Lib.hid hok
  have HZ := Lib.hid hz
  have HD := Lib.hid hd
  have HVA := Lib.hid hva
  have b0 : w2.cell? ⟨w.heap.size, 0, none⟩ = some (.int .i64 d.kind) := (cell_of_block hbx 0).trans rfl
  have b1 : w2.cell? ⟨w.heap.size, 1, none⟩ = some (.int .i64 d.id) := (cell_of_block hbx 1).trans rfl
  have b2 : w2.cell? ⟨w.heap.size, 2, none⟩ = some (.int .i64 d.step) := (cell_of_block hbx 2).trans rfl
  have b4 : w2.cell? ⟨w.heap.size, 4, none⟩ = some (.bool d.ok) := (cell_of_block hbx 4).trans rfl
  have b5 : w2.cell? ⟨w.heap.size, 5, none⟩ = some (.slice av d.vals.length cv) := (cell_of_block hbx 5).trans rfl
  have b6 : w2.cell? ⟨w.heap.size, 6, none⟩ = some (.slice aa d.args.length ca) := (cell_of_block hbx 6).trans rfl
  have b7 : w2.cell? ⟨w.heap.size, 7, none⟩ = some (.slice am d.ms.length cm) := (cell_of_block hbx 7).trans rfl
  have HHY := Lib.hid (Nat.le_succ w.heap.size)
  clear hw2 hbx h h2 hi hz hd hv hva hok hch
  by_cases e1 : d.kind = 1
  · have HE : Hid (M.deed now d = M.offer now d.args.length d.ms) := Lib.hid (by unfold DepM.deed; rw [if_pos e1])
    have hk1 : (d.kind == 1) = true := by simpa using e1
    clear e1
    have HMA := Lib.hid (made17_spec HV2.out.args HV2.out.ms (by have := HD.out.2.1; omega))
    clear b1 b2 b4 b5
    go_enter Try.func11, Try.ntmps11
    go_wp2_with fail
    rw [← HW2.out]
    refine HMA.out.mono ?_
    rintro e w4 ⟨⟨va, vm, rfl, hA, hM⟩, F4⟩
    have HN := Lib.hid (H2.out.fr0 F4)
    have HK := Lib.hid (HF.out.trans F4)
    have HB4 := F4.keep HB.out (by simp)
    have HOF := Lib.hid (offerD_spec HN.out now hnow HZ.out.since (by have := HZ.out.win; omega) HOK.out hA hM (by have := HD.out.2.1; omega))
    generalize M.offer now d.args.length d.ms = R at HE HOF
    obtain ⟨R1, R2⟩ := R
    simp only at HOF
    obtain ⟨a0, c0, rfl⟩ := hA
    obtain ⟨am', cm', rfl, -, -⟩ := hM
    clear F4 HMA b0 b6 b7
    go_wp2_with fail
    refine HOF.out.mono ?_
    rintro e w5 ⟨pa, po, rfl, D5, F5, ra, ro⟩
    clear HOF
    obtain ⟨qa, qc, hqa⟩ := ownsFormD ra
    obtain ⟨qo, qd, hqo⟩ := ownsFormD ro
    subst hqa hqo
    have hb3 := F5.keep HB4 (fun hs => HN.out.nobox (.inr (.inr (.inr rfl))) _ hs _ _ HB4)
    have r0 : w5.cell? ⟨w.heap.size + 1, 0, none⟩ = some (.slice none 0 0) := (cell_of_block hb3 0).trans rfl
    have r1 : w5.cell? ⟨w.heap.size + 1, 1, none⟩ = some (.slice none 0 0) := (cell_of_block hb3 1).trans rfl
    have g0 := free_of_block hb3 0
    have g1 := free_of_block hb3 1
    have HEND := Lib.hid (PubR.put HK.out HN.out HB4 HHY.out D5 F5 ra ro (err := R2) rfl (.slice qa R1.ac.length qc) (.slice qo R1.ou.length qd))
    clear hb3 F5 D5 ra ro
    go_wp2_with fail
    refine bodyPost_ret (v := .tuple #[.agg #[.slice qa R1.ac.length qc, .slice qo R1.ou.length qd], .int .i64 (R2)]) (by simp [results, Try.results11, go_sem, r0, r1]) rfl ?_
    rw [HE.out]
    exact HEND.out
  by_cases e2 : d.kind = 2
  · have HE : Hid (M.deed now d = (⟨M.pick.1, [], []⟩, M.pick.2)) := Lib.hid (by unfold DepM.deed; rw [if_neg e1, if_pos e2])
    have hk1 : (d.kind == 1) = false := by simpa using e1
    have hk2 : (d.kind == 2) = true := by simpa using e2
    clear e2
    have HN := H2
    have HK := HF
    have HB4 := HB.out
    have HOF := Lib.hid (pickD_spec HN.out now HOK.out)
    generalize M.pick = R at HE HOF
    obtain ⟨R1', R2⟩ := R
    simp only at HOF HE
    obtain ⟨R1, hR1⟩ : ∃ R1 : DS, R1 = ⟨R1', [], []⟩ := ⟨_, rfl⟩
    rw [← hR1] at HOF HE
    clear hR1
    clear b1 b2 b4 b5 b6 b7
    go_enter Try.func11, Try.ntmps11
    go_wp2_with fail
    rw [← HW2.out]
    refine HOF.out.mono ?_
    rintro e w5 ⟨pa, po, rfl, D5, F5, ra, ro⟩
    clear HOF
    obtain ⟨qa, qc, hqa⟩ := ownsFormD ra
    obtain ⟨qo, qd, hqo⟩ := ownsFormD ro
    subst hqa hqo
    have hb3 := F5.keep HB4 (fun hs => HN.out.nobox (.inr (.inr (.inr rfl))) _ hs _ _ HB4)
    have r0 : w5.cell? ⟨w.heap.size + 1, 0, none⟩ = some (.slice none 0 0) := (cell_of_block hb3 0).trans rfl
    have r1 : w5.cell? ⟨w.heap.size + 1, 1, none⟩ = some (.slice none 0 0) := (cell_of_block hb3 1).trans rfl
    have g0 := free_of_block hb3 0
    have g1 := free_of_block hb3 1
    have HEND := Lib.hid (PubR.put HK.out HN.out HB4 HHY.out D5 F5 ra ro (err := R2) rfl (.slice qa R1.ac.length qc) (.slice qo R1.ou.length qd))
    clear hb3 F5 D5 ra ro
    go_wp2_with fail
    refine bodyPost_ret (v := .tuple #[.agg #[.slice qa R1.ac.length qc, .slice qo R1.ou.length qd], .int .i64 (R2)]) (by simp [results, Try.results11, go_sem, r0, r1]) rfl ?_
    rw [HE.out]
    exact HEND.out
  by_cases e3 : d.kind = 3
  · have HE : Hid (M.deed now d = M.answer now d.id d.ok d.vals) := Lib.hid (by unfold DepM.deed; rw [if_neg e1, if_neg e2, if_pos e3])
    have hk1 : (d.kind == 1) = false := by simpa using e1
    have hk2 : (d.kind == 2) = false := by simpa using e2
    have hk3 : (d.kind == 3) = true := by simpa using e3
    clear e3
    have HN := H2
    have HK := HF
    have HB4 := HB.out
    have HOF := Lib.hid (answerD_spec HN.out now hnow (by have := HZ.out.win; omega) (by have := HZ.out.took; omega) HOK.out d.id d.ok HV2.out.vals HVA.out (by have := HD.out.2.2; omega))
    generalize M.answer now d.id d.ok d.vals = R at HE HOF
    obtain ⟨R1, R2⟩ := R
    simp only at HOF
    clear b2 b6 b7
    go_enter Try.func11, Try.ntmps11
    go_wp2_with fail
    rw [← HW2.out]
    refine HOF.out.mono ?_
    rintro e w5 ⟨pa, po, rfl, D5, F5, ra, ro⟩
    clear HOF
    obtain ⟨qa, qc, hqa⟩ := ownsFormD ra
    obtain ⟨qo, qd, hqo⟩ := ownsFormD ro
    subst hqa hqo
    have hb3 := F5.keep HB4 (fun hs => HN.out.nobox (.inr (.inr (.inr rfl))) _ hs _ _ HB4)
    have r0 : w5.cell? ⟨w.heap.size + 1, 0, none⟩ = some (.slice none 0 0) := (cell_of_block hb3 0).trans rfl
    have r1 : w5.cell? ⟨w.heap.size + 1, 1, none⟩ = some (.slice none 0 0) := (cell_of_block hb3 1).trans rfl
    have g0 := free_of_block hb3 0
    have g1 := free_of_block hb3 1
    have HEND := Lib.hid (PubR.put HK.out HN.out HB4 HHY.out D5 F5 ra ro (err := R2) rfl (.slice qa R1.ac.length qc) (.slice qo R1.ou.length qd))
    clear hb3 F5 D5 ra ro
    go_wp2_with fail
    refine bodyPost_ret (v := .tuple #[.agg #[.slice qa R1.ac.length qc, .slice qo R1.ou.length qd], .int .i64 (R2)]) (by simp [results, Try.results11, go_sem, r0, r1]) rfl ?_
    rw [HE.out]
    exact HEND.out
  by_cases e4 : d.kind = 4
  · have HE : Hid (M.deed now d = M.fallback now d.id d.step d.ok d.vals) := Lib.hid (by unfold DepM.deed; rw [if_neg e1, if_neg e2, if_neg e3, if_pos e4])
    have hk1 : (d.kind == 1) = false := by simpa using e1
    have hk2 : (d.kind == 2) = false := by simpa using e2
    have hk3 : (d.kind == 3) = false := by simpa using e3
    have hk4 : (d.kind == 4) = true := by simpa using e4
    clear e4
    have HN := H2
    have HK := HF
    have HB4 := HB.out
    have HOF := Lib.hid (fallbackD_spec HN.out now hnow HOK.out d.id d.step d.ok HV2.out.vals HVA.out (by have := HD.out.2.2; omega))
    generalize M.fallback now d.id d.step d.ok d.vals = R at HE HOF
    obtain ⟨R1, R2⟩ := R
    simp only at HOF
    clear b6 b7
    go_enter Try.func11, Try.ntmps11
    go_wp2_with fail
    rw [← HW2.out]
    refine HOF.out.mono ?_
    rintro e w5 ⟨pa, po, rfl, D5, F5, ra, ro⟩
    clear HOF
    obtain ⟨qa, qc, hqa⟩ := ownsFormD ra
    obtain ⟨qo, qd, hqo⟩ := ownsFormD ro
    subst hqa hqo
    have hb3 := F5.keep HB4 (fun hs => HN.out.nobox (.inr (.inr (.inr rfl))) _ hs _ _ HB4)
    have r0 : w5.cell? ⟨w.heap.size + 1, 0, none⟩ = some (.slice none 0 0) := (cell_of_block hb3 0).trans rfl
    have r1 : w5.cell? ⟨w.heap.size + 1, 1, none⟩ = some (.slice none 0 0) := (cell_of_block hb3 1).trans rfl
    have g0 := free_of_block hb3 0
    have g1 := free_of_block hb3 1
    have HEND := Lib.hid (PubR.put HK.out HN.out HB4 HHY.out D5 F5 ra ro (err := R2) rfl (.slice qa R1.ac.length qc) (.slice qo R1.ou.length qd))
    clear hb3 F5 D5 ra ro
    go_wp2_with fail
    refine bodyPost_ret (v := .tuple #[.agg #[.slice qa R1.ac.length qc, .slice qo R1.ou.length qd], .int .i64 (R2)]) (by simp [results, Try.results11, go_sem, r0, r1]) rfl ?_
    rw [HE.out]
    exact HEND.out
  · have HE : Hid (M.deed now d = (M.late now d.id, 0)) := Lib.hid (by unfold DepM.deed; rw [if_neg e1, if_neg e2, if_neg e3, if_neg e4])
    have HN := H2
    have HK := HF
    have HB4 := HB.out
    have hk1 : (d.kind == 1) = false := by simpa using e1
    have hk2 : (d.kind == 2) = false := by simpa using e2
    have hk3 : (d.kind == 3) = false := by simpa using e3
    have hk4 : (d.kind == 4) = false := by simpa using e4
    have HOF := Lib.hid (lateD_spec HN.out now hnow (by have := HZ.out.win; omega) HOK.out d.id)
    generalize M.late now d.id = R1 at HE HOF
    clear b2 b4 b5 b6 b7
    go_enter Try.func11, Try.ntmps11
    go_wp2_with fail
    rw [← HW2.out]
    refine HOF.out.mono ?_
    rintro e w5 ⟨pa, po, rfl, D5, F5, ra, ro⟩
    clear HOF
    obtain ⟨qa, qc, hqa⟩ := ownsFormD ra
    obtain ⟨qo, qd, hqo⟩ := ownsFormD ro
    subst hqa hqo
    have hb3 := F5.keep HB4 (fun hs => HN.out.nobox (.inr (.inr (.inr rfl))) _ hs _ _ HB4)
    have r0 : w5.cell? ⟨w.heap.size + 1, 0, none⟩ = some (.slice none 0 0) := (cell_of_block hb3 0).trans rfl
    have r1 : w5.cell? ⟨w.heap.size + 1, 1, none⟩ = some (.slice none 0 0) := (cell_of_block hb3 1).trans rfl
    have g0 := free_of_block hb3 0
    have g1 := free_of_block hb3 1
    have HEND := Lib.hid (PubR.put HK.out HN.out HB4 HHY.out D5 F5 ra ro (err := 0) rfl (.slice qa R1.ac.length qc) (.slice qo R1.ou.length qd))
    clear hb3 F5 D5 ra ro
    go_wp2_with fail
    refine bodyPost_ret (v := .tuple #[.agg #[.slice qa R1.ac.length qc, .slice qo R1.ou.length qd], .int .i64 (0)]) (by simp [results, Try.results11, go_sem, r0, r1]) rfl ?_
    rw [HE.out]
    exact HEND.out
end Go.Proofs.Ytcnkhjgpjchkeaa

namespace Go.Proofs.Ytcnkhjgpjchkeaa
open Go.RowKit

set_option maxHeartbeats 4000000 in
set_option maxRecDepth 20000 in
theorem depNew_no (w : World) (k : CF) (hf : k.fine = false) : Calls Try.prog 9 #[k.val] w fun e w' => e = .returned (.pointer none) ∧ Fr [] w w' := by
  have CC := Lib.hid (fun w' => check_spec w' k)
  have HF := Lib.hid ((Fr.refl [] w).alloc (.cells #[.int .i64 k.mode, .int .i64 k.pool, .int .i64 k.queue, .int .i64 k.sem, .int .i64 k.fb, .int .i64 k.ch, .int .u64 k.t, .int .u64 k.ft, .int .i64 k.vo, .int .i64 k.pe, .int .u64 k.sl, .int .i64 k.bu, .int .u64 k.wi, .int .u64 k.wd, .int .i64 k.ba, .int .i64 k.fo] 24))
  go_enter Try.func9, Try.ntmps9
  go_wp2_with fail
  refine (CC.out _).mono ?_
  rintro e w3 ⟨n, rfl, F3⟩
  rw [hf]
  go_wp2_with fail
  go_ret
  exact ⟨rfl, HF.out.trans F3⟩
end Go.Proofs.Ytcnkhjgpjchkeaa

namespace Go.Proofs.Ytcnkhjgpjchkeaa
open Go.RowKit

set_option maxHeartbeats 2000000 in
set_option maxRecDepth 20000 in
theorem ref09_new (k : CF) (w : World) : Calls Try.prog 23 #[.agg ([.int .i64 k.mode, .int .i64 k.pool, .int .i64 k.queue, .int .i64 k.sem, .int .i64 k.fb, .int .i64 k.ch, .int .u64 k.t, .int .u64 k.ft, .int .i64 k.vo, .int .i64 k.pe, .int .u64 k.sl, .int .i64 k.bu, .int .u64 k.wi, .int .u64 k.wd, .int .i64 k.ba, .int .i64 k.fo] : List Value).toArray] w fun e w' => e = .returned (.agg #[.int .i64 1, .int .u64 0, .int .u64 k.sl, .int .i64 k.fo]) ∧ Fr [] w w' := by
  go_enter Try.func23, Try.ntmps23
  go_wp2_with fail
  refine bodyPost_ret (v := .agg #[.int .i64 1, .int .u64 0, .int .u64 k.sl, .int .i64 k.fo]) (by simp [results, Try.results23, go_sem]) rfl ?_
  exact ⟨rfl, ((Fr.refl _ _).alloc _).alloc _⟩
/-- A new dependency, as the document has it. -/
def ref17L (k : CF) : List Value := [.int .i64 k.mode, .int .i64 k.pool, .int .i64 k.queue, .int .i64 k.sem, .int .i64 k.fb, .int .i64 k.ch, .int .u64 k.t, .int .u64 k.ft, .int .i64 k.vo, .int .i64 k.pe, .int .u64 k.sl, .int .i64 k.bu, .int .u64 k.wi, .int .u64 k.wd, .int .i64 k.ba, .int .i64 k.fo, .int .i64 1, .int .u64 0, .int .u64 k.sl, .int .i64 k.fo, .int .i64 k.most, .int .i64 k.que, .slice none 0 0, .slice none 0 0, .slice none 0 0, .int .i64 k.bu, .int .u64 k.wi, .int .u64 0, .slice none 0 0, .int .i64 k.bu, .int .u64 k.wi, .int .u64 0, .slice none 0 0, .slice none 0 0, .int .i64 0, .slice none 0 0, .slice none 0 0]
set_option maxHeartbeats 8000000 in
set_option maxRecDepth 20000 in
theorem ref17Build (w : World) (k : CF) : (Instr.build 43 #[(0, .agg ([.int .i64 k.mode, .int .i64 k.pool, .int .i64 k.queue, .int .i64 k.sem, .int .i64 k.fb, .int .i64 k.ch, .int .u64 k.t, .int .u64 k.ft, .int .i64 k.vo, .int .i64 k.pe, .int .u64 k.sl, .int .i64 k.bu, .int .u64 k.wi, .int .u64 k.wd, .int .i64 k.ba, .int .i64 k.fo] : List Value).toArray), (1, .agg #[.int .i64 1, .int .u64 0, .int .u64 k.sl, .int .i64 k.fo]), (2, .agg #[.int .i64 k.most, .int .i64 k.que, .slice none 0 0, .slice none 0 0]), (4, .agg #[.int .i64 k.bu, .int .u64 k.wi, .int .u64 0, .slice none 0 0]), (5, .agg #[.int .i64 k.bu, .int .u64 k.wi, .int .u64 0, .slice none 0 0])]).run Try.prog w = .ok (.agg (ref17L k).toArray) w := by
  go_simp
  rfl
theorem ref17L_one (k : CF) : ∀ v ∈ ref17L k, v.oneCell' = true := by
  intro v hv
  simp only [ref17L, List.mem_cons, List.not_mem_nil, or_false] at hv
  rcases hv with rfl | rfl | rfl | rfl | rfl | rfl | rfl | rfl | rfl | rfl | rfl | rfl | rfl | rfl | rfl | rfl | rfl | rfl | rfl | rfl | rfl | rfl | rfl | rfl | rfl | rfl | rfl | rfl | rfl | rfl | rfl | rfl | rfl | rfl | rfl | rfl | rfl <;> rfl
theorem there_of {w : World} {b : Nat} {cs : Array Value} {E : TypeId} (h : w.heap[b]? = some (.cells cs E (0, 0))) {n : Nat} (hn : n = cs.size) : w.there b 0 n := fun j hj => by
  rw [Nat.zero_add, cell_of_block h]
  exact ⟨by simp [hn ▸ hj], free_of_block h j⟩
theorem range_of {w : World} {b : Nat} {cs : List Value} {E : TypeId} {fr : Nat × Nat} (h : w.heap[b]? = some (.cells cs.toArray E fr)) : w.rangeAt b 0 cs := fun j v hj => by
  rw [Nat.zero_add, cell_of_block h, List.getElem?_toArray]; exact hj
theorem results_cell_tmpD {fn : Func} {p u : Tmp} {ty : TypeId} (h : fn.results = #[.cell p ty, .tmp u]) (tmps : Array Value) (P : Program) (w : World) {b : Nat} {v : Value}
    (hp : tmps.getD p undef = .pointer (some ⟨b, 0, none⟩)) (hl : (loadVar ty ⟨b, 0, none⟩).run P w = .ok v w) : (results fn tmps).run P w = .ok (.tuple #[v, tmps.getD u undef]) w := by
  rw [results_cell_tmp h, hp]
  simp [asAddr, hl]
def Ref17R (k : CF) (w : World) (e : Ending) (w' : World) : Prop := e = .returned (.tuple #[.agg (ref17L k).toArray, .bool k.fine]) ∧ Fr [] w w'
set_option maxHeartbeats 8000000 in
set_option maxRecDepth 20000 in
theorem ref17_new (w : World) (k : CF) (hr : k.Ran) : Calls Try.prog 7 #[k.val] w (Ref17R k w) := by
  have HC8 := Lib.hid (fun w' => check8_spec w' k hr)
  have HK := Lib.hid (fun w' => ref10_new k w')
  have HB := Lib.hid (fun w' => ref09_new k w')
  have HBD := Lib.hid (fun w' => ref17Build w' k)
  have hu := Lib.hid Try.underlying24
  have hu2 := Lib.hid Try.underlying43
  have hiC : Hid ((Try.prog.info? 24).map (·.size) = some ([.int .i64 k.mode, .int .i64 k.pool, .int .i64 k.queue, .int .i64 k.sem, .int .i64 k.fb, .int .i64 k.ch, .int .u64 k.t, .int .u64 k.ft, .int .i64 k.vo, .int .i64 k.pe, .int .u64 k.sl, .int .i64 k.bu, .int .u64 k.wi, .int .u64 k.wd, .int .i64 k.ba, .int .i64 k.fo] : List Value).length) := Lib.hid (by kernel_rfl)
  have hiR : Hid ((Try.prog.info? 43).map (·.size) = some (ref17L k).length) := Lib.hid (by kernel_rfl)
  have HONE := Lib.hid (ref17L_one k)
  have hlR : Hid ((ref17L k).length = 37) := Lib.hid rfl
  have hkv : Hid (k.val = .agg ([.int .i64 k.mode, .int .i64 k.pool, .int .i64 k.queue, .int .i64 k.sem, .int .i64 k.fb, .int .i64 k.ch, .int .u64 k.t, .int .u64 k.ft, .int .i64 k.vo, .int .i64 k.pe, .int .u64 k.sl, .int .i64 k.bu, .int .u64 k.wi, .int .u64 k.wd, .int .i64 k.ba, .int .i64 k.fo] : List Value).toArray) := Lib.hid rfl
  have hb1 := block_alloc (block_alloc_new w (.cells ([.int .i64 k.mode, .int .i64 k.pool, .int .i64 k.queue, .int .i64 k.sem, .int .i64 k.fb, .int .i64 k.ch, .int .u64 k.t, .int .u64 k.ft, .int .i64 k.vo, .int .i64 k.pe, .int .u64 k.sl, .int .i64 k.bu, .int .u64 k.wi, .int .u64 k.wd, .int .i64 k.ba, .int .i64 k.fo] : List Value).toArray 24)) (.cells ((.int .i64 0 :: .int .i64 0 :: .int .i64 0 :: .int .i64 0 :: .int .i64 0 :: .int .i64 0 :: .int .u64 0 :: .int .u64 0 :: .int .i64 0 :: .int .i64 0 :: .int .u64 0 :: .int .i64 0 :: .int .u64 0 :: .int .u64 0 :: .int .i64 0 :: .int .i64 0 :: .int .i64 0 :: .int .u64 0 :: .int .u64 0 :: .int .i64 0 :: .int .i64 0 :: .int .i64 0 :: .slice none 0 0 :: .slice none 0 0 :: .slice none 0 0 :: .int .i64 0 :: .int .u64 0 :: .int .u64 0 :: .slice none 0 0 :: .int .i64 0 :: .int .u64 0 :: .int .u64 0 :: .slice none 0 0 :: .slice none 0 0 :: .int .i64 0 :: .slice none 0 0 :: .slice none 0 0 :: []) : List Value).toArray 43)
  have hb2 := block_alloc_new (w.alloc (.cells ([.int .i64 k.mode, .int .i64 k.pool, .int .i64 k.queue, .int .i64 k.sem, .int .i64 k.fb, .int .i64 k.ch, .int .u64 k.t, .int .u64 k.ft, .int .i64 k.vo, .int .i64 k.pe, .int .u64 k.sl, .int .i64 k.bu, .int .u64 k.wi, .int .u64 k.wd, .int .i64 k.ba, .int .i64 k.fo] : List Value).toArray 24)) (.cells ((.int .i64 0 :: .int .i64 0 :: .int .i64 0 :: .int .i64 0 :: .int .i64 0 :: .int .i64 0 :: .int .u64 0 :: .int .u64 0 :: .int .i64 0 :: .int .i64 0 :: .int .u64 0 :: .int .i64 0 :: .int .u64 0 :: .int .u64 0 :: .int .i64 0 :: .int .i64 0 :: .int .i64 0 :: .int .u64 0 :: .int .u64 0 :: .int .i64 0 :: .int .i64 0 :: .int .i64 0 :: .slice none 0 0 :: .slice none 0 0 :: .slice none 0 0 :: .int .i64 0 :: .int .u64 0 :: .int .u64 0 :: .slice none 0 0 :: .int .i64 0 :: .int .u64 0 :: .int .u64 0 :: .slice none 0 0 :: .slice none 0 0 :: .int .i64 0 :: .slice none 0 0 :: .slice none 0 0 :: []) : List Value).toArray 43)
  have hF := ((Fr.refl [] w).alloc (.cells ([.int .i64 k.mode, .int .i64 k.pool, .int .i64 k.queue, .int .i64 k.sem, .int .i64 k.fb, .int .i64 k.ch, .int .u64 k.t, .int .u64 k.ft, .int .i64 k.vo, .int .i64 k.pe, .int .u64 k.sl, .int .i64 k.bu, .int .u64 k.wi, .int .u64 k.wd, .int .i64 k.ba, .int .i64 k.fo] : List Value).toArray 24)).alloc (.cells ((.int .i64 0 :: .int .i64 0 :: .int .i64 0 :: .int .i64 0 :: .int .i64 0 :: .int .i64 0 :: .int .u64 0 :: .int .u64 0 :: .int .i64 0 :: .int .i64 0 :: .int .u64 0 :: .int .i64 0 :: .int .u64 0 :: .int .u64 0 :: .int .i64 0 :: .int .i64 0 :: .int .i64 0 :: .int .u64 0 :: .int .u64 0 :: .int .i64 0 :: .int .i64 0 :: .int .i64 0 :: .slice none 0 0 :: .slice none 0 0 :: .slice none 0 0 :: .int .i64 0 :: .int .u64 0 :: .int .u64 0 :: .slice none 0 0 :: .int .i64 0 :: .int .u64 0 :: .int .u64 0 :: .slice none 0 0 :: .slice none 0 0 :: .int .i64 0 :: .slice none 0 0 :: .slice none 0 0 :: []) : List Value).toArray 43)
  obtain ⟨w0, hw0⟩ : ∃ w0, w0 = (w.alloc (.cells ([.int .i64 k.mode, .int .i64 k.pool, .int .i64 k.queue, .int .i64 k.sem, .int .i64 k.fb, .int .i64 k.ch, .int .u64 k.t, .int .u64 k.ft, .int .i64 k.vo, .int .i64 k.pe, .int .u64 k.sl, .int .i64 k.bu, .int .u64 k.wi, .int .u64 k.wd, .int .i64 k.ba, .int .i64 k.fo] : List Value).toArray 24)).alloc (.cells ((.int .i64 0 :: .int .i64 0 :: .int .i64 0 :: .int .i64 0 :: .int .i64 0 :: .int .i64 0 :: .int .u64 0 :: .int .u64 0 :: .int .i64 0 :: .int .i64 0 :: .int .u64 0 :: .int .i64 0 :: .int .u64 0 :: .int .u64 0 :: .int .i64 0 :: .int .i64 0 :: .int .i64 0 :: .int .u64 0 :: .int .u64 0 :: .int .i64 0 :: .int .i64 0 :: .int .i64 0 :: .slice none 0 0 :: .slice none 0 0 :: .slice none 0 0 :: .int .i64 0 :: .int .u64 0 :: .int .u64 0 :: .slice none 0 0 :: .int .i64 0 :: .int .u64 0 :: .int .u64 0 :: .slice none 0 0 :: .slice none 0 0 :: .int .i64 0 :: .slice none 0 0 :: .slice none 0 0 :: []) : List Value).toArray 43) := ⟨_, rfl⟩
  rw [← hw0] at hb1 hb2 hF
  rw [World.size_alloc] at hb2
  have HW0 := Lib.hid hw0
  have HB1 := Lib.hid hb1
  have HB2 := Lib.hid hb2
  have HF := Lib.hid hF
  clear hw0 hb1 hb2 hF hr
  go_enter Try.func7, Try.ntmps7
  go_wp2_with fail
  rw [← HW0.out]
  refine (HK.out _).mono ?_
  rintro e w1 ⟨rfl, F1⟩
  have HF1 := Lib.hid (HF.out.trans F1)
  have HB11 := Lib.hid (F1.keep HB1.out (by simp))
  have HB21 := Lib.hid (F1.keep HB2.out (by simp))
  clear F1 HK HW0 HF
  go_wp2_with fail
  have hbK := block_alloc_new w1 (.cells #[.int .i64 k.most, .int .i64 k.que, .slice none 0 0, .slice none 0 0] 31)
  have hb1 := block_alloc HB11.out (.cells #[.int .i64 k.most, .int .i64 k.que, .slice none 0 0, .slice none 0 0] 31)
  have hb2 := block_alloc HB21.out (.cells #[.int .i64 k.most, .int .i64 k.que, .slice none 0 0, .slice none 0 0] 31)
  have hF2 := HF1.out.alloc (.cells #[.int .i64 k.most, .int .i64 k.que, .slice none 0 0, .slice none 0 0] 31)
  generalize hw2 : w1.alloc (.cells #[.int .i64 k.most, .int .i64 k.que, .slice none 0 0, .slice none 0 0] 31) = w2 at *
  have KS : Hid (∀ w' : World, Fr [] w2 w' → w'.rangeAt w.heap.size 0 [.int .i64 k.mode, .int .i64 k.pool, .int .i64 k.queue, .int .i64 k.sem, .int .i64 k.fb, .int .i64 k.ch, .int .u64 k.t, .int .u64 k.ft, .int .i64 k.vo, .int .i64 k.pe, .int .u64 k.sl, .int .i64 k.bu, .int .u64 k.wi, .int .u64 k.wd, .int .i64 k.ba, .int .i64 k.fo] ∧ w'.cell? ⟨w.heap.size, 11, none⟩ = some (.int .i64 k.bu) ∧ w'.cell? ⟨w.heap.size, 12, none⟩ = some (.int .u64 k.wi) ∧ w'.cell? ⟨w1.heap.size, 0, none⟩ = some (.int .i64 k.most) ∧ w'.cell? ⟨w1.heap.size, 1, none⟩ = some (.int .i64 k.que) ∧ w'.cell? ⟨w1.heap.size, 2, none⟩ = some (.slice none 0 0) ∧ w'.cell? ⟨w1.heap.size, 3, none⟩ = some (.slice none 0 0)) := Lib.hid (fun w' F => by
    have h1 := F.keep hb1 (by simp)
    have h2 := F.keep hbK (by simp)
    exact ⟨range_of h1, (cell_of_block h1 11).trans rfl, (cell_of_block h1 12).trans rfl, (cell_of_block h2 0).trans rfl, (cell_of_block h2 1).trans rfl, (cell_of_block h2 2).trans rfl, (cell_of_block h2 3).trans rfl⟩)
  have HB1 := Lib.hid hb1
  have HB2 := Lib.hid hb2
  have HF2 := Lib.hid hF2
  have F0 : Fr [] w2 w2.drew := (Fr.refl _ _).drew
  clear hbK hb1 hb2 hF2 hw2 HF1 HB11 HB21
  refine wp_region_held_drew (S := fun w' => w'.rangeAt w.heap.size 0 [.int .i64 k.mode, .int .i64 k.pool, .int .i64 k.queue, .int .i64 k.sem, .int .i64 k.fb, .int .i64 k.ch, .int .u64 k.t, .int .u64 k.ft, .int .i64 k.vo, .int .i64 k.pe, .int .u64 k.sl, .int .i64 k.bu, .int .u64 k.wi, .int .u64 k.wd, .int .i64 k.ba, .int .i64 k.fo] ∧ w'.cell? ⟨w.heap.size, 11, none⟩ = some (.int .i64 k.bu) ∧ w'.cell? ⟨w.heap.size, 12, none⟩ = some (.int .u64 k.wi) ∧ w'.cell? ⟨w1.heap.size, 0, none⟩ = some (.int .i64 k.most) ∧ w'.cell? ⟨w1.heap.size, 1, none⟩ = some (.int .i64 k.que) ∧ w'.cell? ⟨w1.heap.size, 2, none⟩ = some (.slice none 0 0) ∧ w'.cell? ⟨w1.heap.size, 3, none⟩ = some (.slice none 0 0)) (by kernel_rfl) (KS.out _ F0) (fun hHeld => ?_)
  have hRg : Array.replicate 17 false = #[false, false, false, false, false, false, false, false, false, false, false, false, false, false, false, false, false] := rfl
  refine (?_ : wpAnyH _ _ _ _ _ 17 (Array.replicate 17 false) _ _)
  rw [hRg]
  refine wpAnyH_hide (fun _ _ d _ _ h => by cases d <;> exact h) (fun ops Q hops hQ hQn => ?_)
  clear hRg
  have e0 := congrArg (fun x : Array Oper => x[0]?) hops.out
  simp only [List.getElem?_toArray, List.getElem?_cons_zero] at e0
  have e1 := congrArg (fun x : Array Oper => x[1]?) hops.out
  simp only [List.getElem?_toArray, List.getElem?_cons_zero, List.getElem?_cons_succ] at e1
  have e2 := congrArg (fun x : Array Oper => x[2]?) hops.out
  simp only [List.getElem?_toArray, List.getElem?_cons_zero, List.getElem?_cons_succ] at e2
  have e3 := congrArg (fun x : Array Oper => x[3]?) hops.out
  simp only [List.getElem?_toArray, List.getElem?_cons_zero, List.getElem?_cons_succ] at e3
  have e4 := congrArg (fun x : Array Oper => x[4]?) hops.out
  simp only [List.getElem?_toArray, List.getElem?_cons_zero, List.getElem?_cons_succ] at e4
  have e5 := congrArg (fun x : Array Oper => x[5]?) hops.out
  simp only [List.getElem?_toArray, List.getElem?_cons_zero, List.getElem?_cons_succ] at e5
  have e6 := congrArg (fun x : Array Oper => x[6]?) hops.out
  simp only [List.getElem?_toArray, List.getElem?_cons_zero, List.getElem?_cons_succ] at e6
  have e7 := congrArg (fun x : Array Oper => x[7]?) hops.out
  simp only [List.getElem?_toArray, List.getElem?_cons_zero, List.getElem?_cons_succ] at e7
  have e8 := congrArg (fun x : Array Oper => x[8]?) hops.out
  simp only [List.getElem?_toArray, List.getElem?_cons_zero, List.getElem?_cons_succ] at e8
  have e9 := congrArg (fun x : Array Oper => x[9]?) hops.out
  simp only [List.getElem?_toArray, List.getElem?_cons_zero, List.getElem?_cons_succ] at e9
  have e10 := congrArg (fun x : Array Oper => x[10]?) hops.out
  simp only [List.getElem?_toArray, List.getElem?_cons_zero, List.getElem?_cons_succ] at e10
  have e11 := congrArg (fun x : Array Oper => x[11]?) hops.out
  simp only [List.getElem?_toArray, List.getElem?_cons_zero, List.getElem?_cons_succ] at e11
  have e12 := congrArg (fun x : Array Oper => x[12]?) hops.out
  simp only [List.getElem?_toArray, List.getElem?_cons_zero, List.getElem?_cons_succ] at e12
  have e13 := congrArg (fun x : Array Oper => x[13]?) hops.out
  simp only [List.getElem?_toArray, List.getElem?_cons_zero, List.getElem?_cons_succ] at e13
  have e14 := congrArg (fun x : Array Oper => x[14]?) hops.out
  simp only [List.getElem?_toArray, List.getElem?_cons_zero, List.getElem?_cons_succ] at e14
  have e15 := congrArg (fun x : Array Oper => x[15]?) hops.out
  simp only [List.getElem?_toArray, List.getElem?_cons_zero, List.getElem?_cons_succ] at e15
  have e16 := congrArg (fun x : Array Oper => x[16]?) hops.out
  simp only [List.getElem?_toArray, List.getElem?_cons_zero, List.getElem?_cons_succ] at e16
  refine wpAnyH_take (i := 0) (v := .agg ([.int .i64 k.mode, .int .i64 k.pool, .int .i64 k.queue, .int .i64 k.sem, .int .i64 k.fb, .int .i64 k.ch, .int .u64 k.t, .int .u64 k.ft, .int .i64 k.vo, .int .i64 k.pe, .int .u64 k.sl, .int .i64 k.bu, .int .u64 k.wi, .int .u64 k.wd, .int .i64 k.ba, .int .i64 k.fo] : List Value).toArray) e0 (by rw [hops.out]; kernel_rfl) (by rw [hops.out]; kernel_rfl) (by rw [hops.out]; kernel_rfl) (fun c a w h => hQ c a _ _ w h) (yieldsIf_load_mid rfl _ _ rfl w.heap.size 0 rfl _ _ (fun _ h => h.1) hu.out rfl hiC.out) hHeld ?_
  (try simp only [Act.put, List.setIfInBounds_toArray, List.set_cons_zero, List.set_cons_succ])
  refine wpAnyH_take (i := 1) (v := .agg ([.int .i64 k.mode, .int .i64 k.pool, .int .i64 k.queue, .int .i64 k.sem, .int .i64 k.fb, .int .i64 k.ch, .int .u64 k.t, .int .u64 k.ft, .int .i64 k.vo, .int .i64 k.pe, .int .u64 k.sl, .int .i64 k.bu, .int .u64 k.wi, .int .u64 k.wd, .int .i64 k.ba, .int .i64 k.fo] : List Value).toArray) e1 (by rw [hops.out]; kernel_rfl) (by rw [hops.out]; kernel_rfl) (by rw [hops.out]; kernel_rfl) (fun c a w h => hQ c a _ _ w h) (yieldsIf_load_mid rfl _ _ rfl w.heap.size 0 rfl _ _ (fun _ h => h.1) hu.out rfl hiC.out) hHeld ?_
  (try simp only [Act.put, List.setIfInBounds_toArray, List.set_cons_zero, List.set_cons_succ])
  refine wpAnyH_take (i := 3) (v := .agg #[.int .i64 k.most, .int .i64 k.que, .slice none 0 0, .slice none 0 0]) e3 (by rw [hops.out]; kernel_rfl) (by rw [hops.out]; kernel_rfl) (by rw [hops.out]; kernel_rfl) (fun c a w h => hQ c a _ _ w h) (Or.inl ⟨rfl, fun w' hS => by obtain ⟨-, -, -, s0, s1, s2, s3⟩ := hS; go_simp⟩) hHeld ?_
  (try simp only [Act.put, List.setIfInBounds_toArray, List.set_cons_zero, List.set_cons_succ])
  refine wpAnyH_take (i := 4) (v := .pointer (some ⟨w.heap.size, 11, none⟩)) e4 (by rw [hops.out]; kernel_rfl) (by rw [hops.out]; kernel_rfl) (by rw [hops.out]; kernel_rfl) (fun c a w h => hQ c a _ _ w h) (Or.inl ⟨rfl, fun w' _ => by go_simp⟩) hHeld ?_
  (try simp only [Act.put, List.setIfInBounds_toArray, List.set_cons_zero, List.set_cons_succ])
  refine wpAnyH_take (i := 5) (v := .int .i64 k.bu) e5 (by rw [hops.out]; kernel_rfl) (by rw [hops.out]; kernel_rfl) (by rw [hops.out]; kernel_rfl) (fun c a w h => hQ c a _ _ w h) (Or.inl ⟨rfl, fun w' hS => by have hS := hS.2.1; go_simp⟩) hHeld ?_
  (try simp only [Act.put, List.setIfInBounds_toArray, List.set_cons_zero, List.set_cons_succ])
  refine wpAnyH_take (i := 6) (v := .pointer (some ⟨w.heap.size, 12, none⟩)) e6 (by rw [hops.out]; kernel_rfl) (by rw [hops.out]; kernel_rfl) (by rw [hops.out]; kernel_rfl) (fun c a w h => hQ c a _ _ w h) (Or.inl ⟨rfl, fun w' _ => by go_simp⟩) hHeld ?_
  (try simp only [Act.put, List.setIfInBounds_toArray, List.set_cons_zero, List.set_cons_succ])
  refine wpAnyH_take (i := 7) (v := .int .u64 k.wi) e7 (by rw [hops.out]; kernel_rfl) (by rw [hops.out]; kernel_rfl) (by rw [hops.out]; kernel_rfl) (fun c a w h => hQ c a _ _ w h) (Or.inl ⟨rfl, fun w' hS => by have hS := hS.2.2.1; go_simp⟩) hHeld ?_
  (try simp only [Act.put, List.setIfInBounds_toArray, List.set_cons_zero, List.set_cons_succ])
  refine wpAnyH_take (i := 8) (v := .agg #[.int .i64 k.bu, .int .u64 k.wi, .int .u64 0, .slice none 0 0]) e8 (by rw [hops.out]; kernel_rfl) (by rw [hops.out]; kernel_rfl) (by rw [hops.out]; kernel_rfl) (fun c a w h => hQ c a _ _ w h) (Or.inl ⟨rfl, fun w' _ => by go_simp⟩) hHeld ?_
  (try simp only [Act.put, List.setIfInBounds_toArray, List.set_cons_zero, List.set_cons_succ])
  refine wpAnyH_take (i := 9) (v := .pointer (some ⟨w.heap.size, 11, none⟩)) e9 (by rw [hops.out]; kernel_rfl) (by rw [hops.out]; kernel_rfl) (by rw [hops.out]; kernel_rfl) (fun c a w h => hQ c a _ _ w h) (Or.inl ⟨rfl, fun w' _ => by go_simp⟩) hHeld ?_
  (try simp only [Act.put, List.setIfInBounds_toArray, List.set_cons_zero, List.set_cons_succ])
  refine wpAnyH_take (i := 10) (v := .int .i64 k.bu) e10 (by rw [hops.out]; kernel_rfl) (by rw [hops.out]; kernel_rfl) (by rw [hops.out]; kernel_rfl) (fun c a w h => hQ c a _ _ w h) (Or.inl ⟨rfl, fun w' hS => by have hS := hS.2.1; go_simp⟩) hHeld ?_
  (try simp only [Act.put, List.setIfInBounds_toArray, List.set_cons_zero, List.set_cons_succ])
  refine wpAnyH_take (i := 11) (v := .pointer (some ⟨w.heap.size, 12, none⟩)) e11 (by rw [hops.out]; kernel_rfl) (by rw [hops.out]; kernel_rfl) (by rw [hops.out]; kernel_rfl) (fun c a w h => hQ c a _ _ w h) (Or.inl ⟨rfl, fun w' _ => by go_simp⟩) hHeld ?_
  (try simp only [Act.put, List.setIfInBounds_toArray, List.set_cons_zero, List.set_cons_succ])
  refine wpAnyH_take (i := 12) (v := .int .u64 k.wi) e12 (by rw [hops.out]; kernel_rfl) (by rw [hops.out]; kernel_rfl) (by rw [hops.out]; kernel_rfl) (fun c a w h => hQ c a _ _ w h) (Or.inl ⟨rfl, fun w' hS => by have hS := hS.2.2.1; go_simp⟩) hHeld ?_
  (try simp only [Act.put, List.setIfInBounds_toArray, List.set_cons_zero, List.set_cons_succ])
  refine wpAnyH_take (i := 13) (v := .agg #[.int .i64 k.bu, .int .u64 k.wi, .int .u64 0, .slice none 0 0]) e13 (by rw [hops.out]; kernel_rfl) (by rw [hops.out]; kernel_rfl) (by rw [hops.out]; kernel_rfl) (fun c a w h => hQ c a _ _ w h) (Or.inl ⟨rfl, fun w' _ => by go_simp⟩) hHeld ?_
  (try simp only [Act.put, List.setIfInBounds_toArray, List.set_cons_zero, List.set_cons_succ])
  refine wpAnyH_ready (rs := [2, 15]) (by rw [hops.out]; kernel_rfl) (by simp) ?_
  refine AllReadyH.cons e2 (fun K hK => ?_) ?_
  · go_simp
    go_at_call 23
    refine (HB.out _).mono ?_
    rintro e w3 ⟨rfl, F3⟩
    go_wp2_with fail
    have F3 := F0.trans F3
    refine hK.out _ _ (KS.out _ F3) (fun hHeld => ?_)
    clear hK K
    (try simp only [List.setIfInBounds_toArray, List.set_cons_zero, List.set_cons_succ])
    refine wpAnyH_take (i := 14) (v := .agg (ref17L k).toArray) e14 (by rw [hops.out]; kernel_rfl) (by rw [hops.out]; kernel_rfl) (by rw [hops.out]; kernel_rfl) (fun c a w h => hQ c a _ _ w h) (yieldsIf_build rfl _ _ rfl _ (by simp only [List.map_toArray, List.map_cons, List.map_nil]; rfl) _ (fun w' _ => HBD.out w')) hHeld ?_
    (try simp only [Act.put, List.setIfInBounds_toArray, List.set_cons_zero, List.set_cons_succ])
    refine wpAnyH_ready (rs := [15]) (by rw [hops.out]; kernel_rfl) (by simp) ?_
    refine AllReadyH.cons e15 (fun K hK => ?_) AllReadyH.nil
    go_simp
    have FX := F3.alloc (.cells ((.int .i64 0 :: .int .i64 0 :: .int .i64 0 :: .int .i64 0 :: .int .i64 0 :: .int .i64 0 :: .int .u64 0 :: .int .u64 0 :: .int .i64 0 :: .int .i64 0 :: .int .u64 0 :: .int .i64 0 :: .int .u64 0 :: .int .u64 0 :: .int .i64 0 :: .int .i64 0 :: .int .i64 0 :: .int .u64 0 :: .int .u64 0 :: .int .i64 0 :: .int .i64 0 :: .int .i64 0 :: .slice none 0 0 :: .slice none 0 0 :: .slice none 0 0 :: .int .i64 0 :: .int .u64 0 :: .int .u64 0 :: .slice none 0 0 :: .int .i64 0 :: .int .u64 0 :: .int .u64 0 :: .slice none 0 0 :: .slice none 0 0 :: .int .i64 0 :: .slice none 0 0 :: .slice none 0 0 :: []) : List Value).toArray 43)
    refine hK.out _ _ (KS.out _ FX) (fun hHeld => ?_)
    clear hK K
    (try simp only [List.setIfInBounds_toArray, List.set_cons_zero, List.set_cons_succ])
    have hbZ := block_alloc_new w3 (.cells ((.int .i64 0 :: .int .i64 0 :: .int .i64 0 :: .int .i64 0 :: .int .i64 0 :: .int .i64 0 :: .int .u64 0 :: .int .u64 0 :: .int .i64 0 :: .int .i64 0 :: .int .u64 0 :: .int .i64 0 :: .int .u64 0 :: .int .u64 0 :: .int .i64 0 :: .int .i64 0 :: .int .i64 0 :: .int .u64 0 :: .int .u64 0 :: .int .i64 0 :: .int .i64 0 :: .int .i64 0 :: .slice none 0 0 :: .slice none 0 0 :: .slice none 0 0 :: .int .i64 0 :: .int .u64 0 :: .int .u64 0 :: .slice none 0 0 :: .int .i64 0 :: .int .u64 0 :: .int .u64 0 :: .slice none 0 0 :: .slice none 0 0 :: .int .i64 0 :: .slice none 0 0 :: .slice none 0 0 :: []) : List Value).toArray 43)
    have hge := F3.size
    clear F3
    have hth : (w3.alloc (.cells ((.int .i64 0 :: .int .i64 0 :: .int .i64 0 :: .int .i64 0 :: .int .i64 0 :: .int .i64 0 :: .int .u64 0 :: .int .u64 0 :: .int .i64 0 :: .int .i64 0 :: .int .u64 0 :: .int .i64 0 :: .int .u64 0 :: .int .u64 0 :: .int .i64 0 :: .int .i64 0 :: .int .i64 0 :: .int .u64 0 :: .int .u64 0 :: .int .i64 0 :: .int .i64 0 :: .int .i64 0 :: .slice none 0 0 :: .slice none 0 0 :: .slice none 0 0 :: .int .i64 0 :: .int .u64 0 :: .int .u64 0 :: .slice none 0 0 :: .int .i64 0 :: .int .u64 0 :: .int .u64 0 :: .slice none 0 0 :: .slice none 0 0 :: .int .i64 0 :: .slice none 0 0 :: .slice none 0 0 :: []) : List Value).toArray 43)).there w3.heap.size 0 (ref17L k).length := there_of hbZ rfl
    refine wpAnyH_ready (rs := [16]) (by rw [hops.out]; kernel_rfl) (by simp) ?_
    refine AllReadyH.cons e16 (fun K hK => ?_) AllReadyH.nil
    rw [if_pos (by rfl)]
    refine wp_store_mid _ _ _ rfl w3.heap.size 0 (ref17L k).toArray rfl rfl hth hiR.out (all_oneCell_toArray HONE.out) ?_
    simp only [Act.put]
    have F5 := Fr.setCells (S := []) (b := w3.heap.size) (.inr hge) (ref17L k) 0 _ FX
    have hb6 := row_setCells hbZ (ref17L k) rfl
    refine hK.out _ _ (KS.out _ F5) (fun hHeld => ?_)
    clear hK K
    refine wpAnyH_done (by rw [hops.out]; kernel_rfl) (hQn.out _ _ ?_) _
    clear hQn hQ hops e0 e1 e2 e3 e4 e5 e6 e7 e8 e9 e10 e11 e12 e13 e14 e15 e16 hth
    generalize (w3.alloc (.cells ((.int .i64 0 :: .int .i64 0 :: .int .i64 0 :: .int .i64 0 :: .int .i64 0 :: .int .i64 0 :: .int .u64 0 :: .int .u64 0 :: .int .i64 0 :: .int .i64 0 :: .int .u64 0 :: .int .i64 0 :: .int .u64 0 :: .int .u64 0 :: .int .i64 0 :: .int .i64 0 :: .int .i64 0 :: .int .u64 0 :: .int .u64 0 :: .int .i64 0 :: .int .i64 0 :: .int .i64 0 :: .slice none 0 0 :: .slice none 0 0 :: .slice none 0 0 :: .int .i64 0 :: .int .u64 0 :: .int .u64 0 :: .slice none 0 0 :: .int .i64 0 :: .int .u64 0 :: .int .u64 0 :: .slice none 0 0 :: .slice none 0 0 :: .int .i64 0 :: .slice none 0 0 :: .slice none 0 0 :: []) : List Value).toArray 43)).setCells w3.heap.size 0 (ref17L k) = w4 at hb6 F5 ⊢
    obtain ⟨b6, hb6e⟩ : ∃ b6, b6 = w3.heap.size := ⟨_, rfl⟩
    rw [← hb6e] at hb6 hge ⊢
    have hlt2 := lt_of_block HB2.out
    have hc4 := F5.keep HB1.out (by simp)
    have hz4 := F5.keep HB2.out (by simp)
    have KS3 : Hid (∀ w' : World, Fr [w.heap.size + 1] w4 w' → w'.rangeAt b6 0 (ref17L k) ∧ w'.rangeAt w.heap.size 0 [.int .i64 k.mode, .int .i64 k.pool, .int .i64 k.queue, .int .i64 k.sem, .int .i64 k.fb, .int .i64 k.ch, .int .u64 k.t, .int .u64 k.ft, .int .i64 k.vo, .int .i64 k.pe, .int .u64 k.sl, .int .i64 k.bu, .int .u64 k.wi, .int .u64 k.wd, .int .i64 k.ba, .int .i64 k.fo]) := Lib.hid (fun w' F => ⟨range_of (F.keep hb6 (fun hs => by rw [List.mem_singleton] at hs; omega)), range_of (F.keep hc4 (fun hs => by rw [List.mem_singleton] at hs; omega))⟩)
    have HZ4 := Lib.hid hz4
    have HF5 := Lib.hid (HF2.out.trans F5)
    have F6 : Fr [w.heap.size + 1] w4 w4.drew := (Fr.refl _ _).drew
    have F6n : Fr [] w4 w4.drew := (Fr.refl _ _).drew
    clear hb6 hb6e hge hlt2 hc4 hz4 F5 FX hbZ hHeld KS HBD HB HB1 HB2 HF2
    go_wp2_with fail
    refine wp_region_held_drew (S := fun w' => w'.rangeAt b6 0 (ref17L k) ∧ w'.rangeAt w.heap.size 0 [.int .i64 k.mode, .int .i64 k.pool, .int .i64 k.queue, .int .i64 k.sem, .int .i64 k.fb, .int .i64 k.ch, .int .u64 k.t, .int .u64 k.ft, .int .i64 k.vo, .int .i64 k.pe, .int .u64 k.sl, .int .i64 k.bu, .int .u64 k.wi, .int .u64 k.wd, .int .i64 k.ba, .int .i64 k.fo]) (by kernel_rfl) (KS3.out _ F6) (fun hHeld => ?_)
    have hRg : Array.replicate 6 false = #[false, false, false, false, false, false] := rfl
    refine (?_ : wpAnyH _ _ _ _ _ 6 (Array.replicate 6 false) _ _)
    rw [hRg]
    refine wpAnyH_hide (fun _ _ d _ _ h => by cases d <;> exact h) (fun ops Q hops hQ hQn => ?_)
    clear hRg
    have e0 := congrArg (fun x : Array Oper => x[0]?) hops.out
    simp only [List.getElem?_toArray, List.getElem?_cons_zero] at e0
    have e1 := congrArg (fun x : Array Oper => x[1]?) hops.out
    simp only [List.getElem?_toArray, List.getElem?_cons_zero, List.getElem?_cons_succ] at e1
    have e2 := congrArg (fun x : Array Oper => x[2]?) hops.out
    simp only [List.getElem?_toArray, List.getElem?_cons_zero, List.getElem?_cons_succ] at e2
    have e3 := congrArg (fun x : Array Oper => x[3]?) hops.out
    simp only [List.getElem?_toArray, List.getElem?_cons_zero, List.getElem?_cons_succ] at e3
    have e4 := congrArg (fun x : Array Oper => x[4]?) hops.out
    simp only [List.getElem?_toArray, List.getElem?_cons_zero, List.getElem?_cons_succ] at e4
    have e5 := congrArg (fun x : Array Oper => x[5]?) hops.out
    simp only [List.getElem?_toArray, List.getElem?_cons_zero, List.getElem?_cons_succ] at e5
    refine wpAnyH_take (i := 0) (v := .agg (ref17L k).toArray) e0 (by rw [hops.out]; kernel_rfl) (by rw [hops.out]; kernel_rfl) (by rw [hops.out]; kernel_rfl) (fun c a w h => hQ c a _ _ w h) (yieldsIf_load_mid rfl _ _ rfl b6 0 rfl _ _ (fun _ h => h.1) hu2.out rfl hiR.out) hHeld ?_
    (try simp only [Act.put, List.setIfInBounds_toArray, List.set_cons_zero, List.set_cons_succ])
    refine wpAnyH_take (i := 1) (v := .agg ([.int .i64 k.mode, .int .i64 k.pool, .int .i64 k.queue, .int .i64 k.sem, .int .i64 k.fb, .int .i64 k.ch, .int .u64 k.t, .int .u64 k.ft, .int .i64 k.vo, .int .i64 k.pe, .int .u64 k.sl, .int .i64 k.bu, .int .u64 k.wi, .int .u64 k.wd, .int .i64 k.ba, .int .i64 k.fo] : List Value).toArray) e1 (by rw [hops.out]; kernel_rfl) (by rw [hops.out]; kernel_rfl) (by rw [hops.out]; kernel_rfl) (fun c a w h => hQ c a _ _ w h) (yieldsIf_load_mid rfl _ _ rfl w.heap.size 0 rfl _ _ (fun _ h => h.2) hu.out rfl hiC.out) hHeld ?_
    (try simp only [Act.put, List.setIfInBounds_toArray, List.set_cons_zero, List.set_cons_succ])
    refine wpAnyH_ready (rs := [2]) (by rw [hops.out]; kernel_rfl) (by simp) ?_
    refine AllReadyH.cons e2 (fun K hK => ?_) AllReadyH.nil
    go_simp
    go_at_call 21
    refine (HC8.out _).mono ?_
    rintro e w5 ⟨n, rfl, hn0, hn1, hn2, F7⟩
    go_wp2_with fail
    have F7n : Fr [] w4 w5 := F6n.trans F7
    have F7 : Fr [w.heap.size + 1] w4 w5 := F6.trans (F7.mono (by simp))
    refine hK.out _ _ (KS3.out _ F7) (fun hHeld => ?_)
    clear hK K
    (try simp only [List.setIfInBounds_toArray, List.set_cons_zero, List.set_cons_succ])
    have hn : (n == 0) = k.fine := by
      cases hf : k.fine with
      | true => rw [hn2.2 hf]; rfl
      | false =>
        have : n ≠ 0 := fun e => by have := hn2.1 e; rw [hf] at this; cases this
        simpa using this
    have hz5 := F7n.keep HZ4.out (by simp)
    refine wpAnyH_take (i := 3) (v := .bool k.fine) e3 (by rw [hops.out]; kernel_rfl) (by rw [hops.out]; kernel_rfl) (by rw [hops.out]; kernel_rfl) (fun c a w h => hQ c a _ _ w h) (Or.inl ⟨rfl, fun w' hS => by rw [← hn]; go_simp⟩) hHeld ?_
    (try simp only [Act.put, List.setIfInBounds_toArray, List.set_cons_zero, List.set_cons_succ])
    have hth : w5.there (w.heap.size + 1) 0 (ref17L k).length := there_of hz5 rfl
    refine wpAnyH_ready (rs := [4]) (by rw [hops.out]; kernel_rfl) (by simp) ?_
    refine AllReadyH.cons e4 (fun K hK => ?_) AllReadyH.nil
    rw [if_pos (by rfl)]
    refine wp_store_mid _ _ _ rfl (w.heap.size + 1) 0 (ref17L k).toArray rfl rfl hth hiR.out (all_oneCell_toArray HONE.out) ?_
    simp only [Act.put]
    have F8 := Fr.setCells (S := [w.heap.size + 1]) (b := w.heap.size + 1) (.inl (by simp)) (ref17L k) 0 _ F7
    have hb8 := row_setCells hz5 (ref17L k) rfl
    refine hK.out _ _ (KS3.out _ F8) (fun hHeld => ?_)
    clear hK K
    refine wpAnyH_take (i := 5) (v := .bool k.fine) e5 (by rw [hops.out]; kernel_rfl) (by rw [hops.out]; kernel_rfl) (by rw [hops.out]; kernel_rfl) (fun c a w h => hQ c a _ _ w h) (Or.inl ⟨rfl, fun w' _ => by go_simp⟩) hHeld ?_
    (try simp only [Act.put, List.setIfInBounds_toArray, List.set_cons_zero, List.set_cons_succ])
    refine wpAnyH_done (by rw [hops.out]; kernel_rfl) (hQn.out _ _ ?_) _
    clear hQn hQ hops e0 e1 e2 e3 e4 e5 hth
    have HEND := Lib.hid (HF5.out.trans' F8 (fun s hs => .inr (by rw [List.mem_singleton] at hs; omega)))
    generalize w5.setCells (w.heap.size + 1) 0 (ref17L k) = w6 at hb8 F8 HEND ⊢
    have hrg := range_of hb8
    have hlv := run_loadVar_mid (P := Try.prog) w6 (w.heap.size + 1) 0 43 (ref17L k) _ hrg hu2.out rfl hiR.out
    clear hb8 F8 hHeld hz5 F7 F7n hn hn2 hn0 hn1 F6 F6n hrg
    go_wp2_with fail
    refine bodyPost_ret (v := .tuple #[.agg (ref17L k).toArray, .bool k.fine]) (results_cell_tmpD Try.results7 _ _ _ rfl hlv) rfl ?_
    exact ⟨rfl, HEND.out⟩
  refine AllReadyH.cons e15 (fun K hK => ?_) AllReadyH.nil
  go_simp
  have F4 := F0.alloc (.cells ((.int .i64 0 :: .int .i64 0 :: .int .i64 0 :: .int .i64 0 :: .int .i64 0 :: .int .i64 0 :: .int .u64 0 :: .int .u64 0 :: .int .i64 0 :: .int .i64 0 :: .int .u64 0 :: .int .i64 0 :: .int .u64 0 :: .int .u64 0 :: .int .i64 0 :: .int .i64 0 :: .int .i64 0 :: .int .u64 0 :: .int .u64 0 :: .int .i64 0 :: .int .i64 0 :: .int .i64 0 :: .slice none 0 0 :: .slice none 0 0 :: .slice none 0 0 :: .int .i64 0 :: .int .u64 0 :: .int .u64 0 :: .slice none 0 0 :: .int .i64 0 :: .int .u64 0 :: .int .u64 0 :: .slice none 0 0 :: .slice none 0 0 :: .int .i64 0 :: .slice none 0 0 :: .slice none 0 0 :: []) : List Value).toArray 43)
  have hbZ := block_alloc_new w2.drew (.cells ((.int .i64 0 :: .int .i64 0 :: .int .i64 0 :: .int .i64 0 :: .int .i64 0 :: .int .i64 0 :: .int .u64 0 :: .int .u64 0 :: .int .i64 0 :: .int .i64 0 :: .int .u64 0 :: .int .i64 0 :: .int .u64 0 :: .int .u64 0 :: .int .i64 0 :: .int .i64 0 :: .int .i64 0 :: .int .u64 0 :: .int .u64 0 :: .int .i64 0 :: .int .i64 0 :: .int .i64 0 :: .slice none 0 0 :: .slice none 0 0 :: .slice none 0 0 :: .int .i64 0 :: .int .u64 0 :: .int .u64 0 :: .slice none 0 0 :: .int .i64 0 :: .int .u64 0 :: .int .u64 0 :: .slice none 0 0 :: .slice none 0 0 :: .int .i64 0 :: .slice none 0 0 :: .slice none 0 0 :: []) : List Value).toArray 43)
  refine hK.out _ _ (KS.out _ F4) (fun hHeld => ?_)
  clear hK K
  (try simp only [List.setIfInBounds_toArray, List.set_cons_zero, List.set_cons_succ])
  refine wpAnyH_ready (rs := [2]) (by rw [hops.out]; kernel_rfl) (by simp) ?_
  refine AllReadyH.cons e2 (fun K hK => ?_) AllReadyH.nil
  go_simp
  go_at_call 23
  refine (HB.out _).mono ?_
  rintro e w3 ⟨rfl, F3⟩
  go_wp2_with fail
  have hbZ := F3.keep hbZ (by simp)
  have FX := F4.trans F3
  refine hK.out _ _ (KS.out _ FX) (fun hHeld => ?_)
  clear hK K
  (try simp only [List.setIfInBounds_toArray, List.set_cons_zero, List.set_cons_succ])
  refine wpAnyH_take (i := 14) (v := .agg (ref17L k).toArray) e14 (by rw [hops.out]; kernel_rfl) (by rw [hops.out]; kernel_rfl) (by rw [hops.out]; kernel_rfl) (fun c a w h => hQ c a _ _ w h) (yieldsIf_build rfl _ _ rfl _ (by simp only [List.map_toArray, List.map_cons, List.map_nil]; rfl) _ (fun w' _ => HBD.out w')) hHeld ?_
  (try simp only [Act.put, List.setIfInBounds_toArray, List.set_cons_zero, List.set_cons_succ])
  have hge : w2.heap.size ≤ w2.heap.size := Nat.le_refl _
  clear F3 F4
  change w3.heap[w2.heap.size]? = _ at hbZ
  have hth : w3.there w2.heap.size 0 (ref17L k).length := there_of hbZ rfl
  refine wpAnyH_ready (rs := [16]) (by rw [hops.out]; kernel_rfl) (by simp) ?_
  refine AllReadyH.cons e16 (fun K hK => ?_) AllReadyH.nil
  rw [if_pos (by rfl)]
  refine wp_store_mid _ _ _ rfl w2.heap.size 0 (ref17L k).toArray rfl rfl hth hiR.out (all_oneCell_toArray HONE.out) ?_
  simp only [Act.put]
  have F5 := Fr.setCells (S := []) (b := w2.heap.size) (.inr hge) (ref17L k) 0 _ FX
  have hb6 := row_setCells hbZ (ref17L k) rfl
  refine hK.out _ _ (KS.out _ F5) (fun hHeld => ?_)
  clear hK K
  refine wpAnyH_done (by rw [hops.out]; kernel_rfl) (hQn.out _ _ ?_) _
  clear hQn hQ hops e0 e1 e2 e3 e4 e5 e6 e7 e8 e9 e10 e11 e12 e13 e14 e15 e16 hth
  generalize w3.setCells w2.heap.size 0 (ref17L k) = w4 at hb6 F5 ⊢
  obtain ⟨b6, hb6e⟩ : ∃ b6, b6 = w2.heap.size := ⟨_, rfl⟩
  rw [← hb6e] at hb6 hge ⊢
  have hlt2 := lt_of_block HB2.out
  have hc4 := F5.keep HB1.out (by simp)
  have hz4 := F5.keep HB2.out (by simp)
  have KS3 : Hid (∀ w' : World, Fr [w.heap.size + 1] w4 w' → w'.rangeAt b6 0 (ref17L k) ∧ w'.rangeAt w.heap.size 0 [.int .i64 k.mode, .int .i64 k.pool, .int .i64 k.queue, .int .i64 k.sem, .int .i64 k.fb, .int .i64 k.ch, .int .u64 k.t, .int .u64 k.ft, .int .i64 k.vo, .int .i64 k.pe, .int .u64 k.sl, .int .i64 k.bu, .int .u64 k.wi, .int .u64 k.wd, .int .i64 k.ba, .int .i64 k.fo]) := Lib.hid (fun w' F => ⟨range_of (F.keep hb6 (fun hs => by rw [List.mem_singleton] at hs; omega)), range_of (F.keep hc4 (fun hs => by rw [List.mem_singleton] at hs; omega))⟩)
  have HZ4 := Lib.hid hz4
  have HF5 := Lib.hid (HF2.out.trans F5)
  have F6 : Fr [w.heap.size + 1] w4 w4.drew := (Fr.refl _ _).drew
  have F6n : Fr [] w4 w4.drew := (Fr.refl _ _).drew
  clear hb6 hb6e hge hlt2 hc4 hz4 F5 FX hbZ hHeld KS HBD HB HB1 HB2 HF2
  go_wp2_with fail
  refine wp_region_held_drew (S := fun w' => w'.rangeAt b6 0 (ref17L k) ∧ w'.rangeAt w.heap.size 0 [.int .i64 k.mode, .int .i64 k.pool, .int .i64 k.queue, .int .i64 k.sem, .int .i64 k.fb, .int .i64 k.ch, .int .u64 k.t, .int .u64 k.ft, .int .i64 k.vo, .int .i64 k.pe, .int .u64 k.sl, .int .i64 k.bu, .int .u64 k.wi, .int .u64 k.wd, .int .i64 k.ba, .int .i64 k.fo]) (by kernel_rfl) (KS3.out _ F6) (fun hHeld => ?_)
  have hRg : Array.replicate 6 false = #[false, false, false, false, false, false] := rfl
  refine (?_ : wpAnyH _ _ _ _ _ 6 (Array.replicate 6 false) _ _)
  rw [hRg]
  refine wpAnyH_hide (fun _ _ d _ _ h => by cases d <;> exact h) (fun ops Q hops hQ hQn => ?_)
  clear hRg
  have e0 := congrArg (fun x : Array Oper => x[0]?) hops.out
  simp only [List.getElem?_toArray, List.getElem?_cons_zero] at e0
  have e1 := congrArg (fun x : Array Oper => x[1]?) hops.out
  simp only [List.getElem?_toArray, List.getElem?_cons_zero, List.getElem?_cons_succ] at e1
  have e2 := congrArg (fun x : Array Oper => x[2]?) hops.out
  simp only [List.getElem?_toArray, List.getElem?_cons_zero, List.getElem?_cons_succ] at e2
  have e3 := congrArg (fun x : Array Oper => x[3]?) hops.out
  simp only [List.getElem?_toArray, List.getElem?_cons_zero, List.getElem?_cons_succ] at e3
  have e4 := congrArg (fun x : Array Oper => x[4]?) hops.out
  simp only [List.getElem?_toArray, List.getElem?_cons_zero, List.getElem?_cons_succ] at e4
  have e5 := congrArg (fun x : Array Oper => x[5]?) hops.out
  simp only [List.getElem?_toArray, List.getElem?_cons_zero, List.getElem?_cons_succ] at e5
  refine wpAnyH_take (i := 0) (v := .agg (ref17L k).toArray) e0 (by rw [hops.out]; kernel_rfl) (by rw [hops.out]; kernel_rfl) (by rw [hops.out]; kernel_rfl) (fun c a w h => hQ c a _ _ w h) (yieldsIf_load_mid rfl _ _ rfl b6 0 rfl _ _ (fun _ h => h.1) hu2.out rfl hiR.out) hHeld ?_
  (try simp only [Act.put, List.setIfInBounds_toArray, List.set_cons_zero, List.set_cons_succ])
  refine wpAnyH_take (i := 1) (v := .agg ([.int .i64 k.mode, .int .i64 k.pool, .int .i64 k.queue, .int .i64 k.sem, .int .i64 k.fb, .int .i64 k.ch, .int .u64 k.t, .int .u64 k.ft, .int .i64 k.vo, .int .i64 k.pe, .int .u64 k.sl, .int .i64 k.bu, .int .u64 k.wi, .int .u64 k.wd, .int .i64 k.ba, .int .i64 k.fo] : List Value).toArray) e1 (by rw [hops.out]; kernel_rfl) (by rw [hops.out]; kernel_rfl) (by rw [hops.out]; kernel_rfl) (fun c a w h => hQ c a _ _ w h) (yieldsIf_load_mid rfl _ _ rfl w.heap.size 0 rfl _ _ (fun _ h => h.2) hu.out rfl hiC.out) hHeld ?_
  (try simp only [Act.put, List.setIfInBounds_toArray, List.set_cons_zero, List.set_cons_succ])
  refine wpAnyH_ready (rs := [2]) (by rw [hops.out]; kernel_rfl) (by simp) ?_
  refine AllReadyH.cons e2 (fun K hK => ?_) AllReadyH.nil
  go_simp
  go_at_call 21
  refine (HC8.out _).mono ?_
  rintro e w5 ⟨n, rfl, hn0, hn1, hn2, F7⟩
  go_wp2_with fail
  have F7n : Fr [] w4 w5 := F6n.trans F7
  have F7 : Fr [w.heap.size + 1] w4 w5 := F6.trans (F7.mono (by simp))
  refine hK.out _ _ (KS3.out _ F7) (fun hHeld => ?_)
  clear hK K
  (try simp only [List.setIfInBounds_toArray, List.set_cons_zero, List.set_cons_succ])
  have hn : (n == 0) = k.fine := by
    cases hf : k.fine with
    | true => rw [hn2.2 hf]; rfl
    | false =>
      have : n ≠ 0 := fun e => by have := hn2.1 e; rw [hf] at this; cases this
      simpa using this
  have hz5 := F7n.keep HZ4.out (by simp)
  refine wpAnyH_take (i := 3) (v := .bool k.fine) e3 (by rw [hops.out]; kernel_rfl) (by rw [hops.out]; kernel_rfl) (by rw [hops.out]; kernel_rfl) (fun c a w h => hQ c a _ _ w h) (Or.inl ⟨rfl, fun w' hS => by rw [← hn]; go_simp⟩) hHeld ?_
  (try simp only [Act.put, List.setIfInBounds_toArray, List.set_cons_zero, List.set_cons_succ])
  have hth : w5.there (w.heap.size + 1) 0 (ref17L k).length := there_of hz5 rfl
  refine wpAnyH_ready (rs := [4]) (by rw [hops.out]; kernel_rfl) (by simp) ?_
  refine AllReadyH.cons e4 (fun K hK => ?_) AllReadyH.nil
  rw [if_pos (by rfl)]
  refine wp_store_mid _ _ _ rfl (w.heap.size + 1) 0 (ref17L k).toArray rfl rfl hth hiR.out (all_oneCell_toArray HONE.out) ?_
  simp only [Act.put]
  have F8 := Fr.setCells (S := [w.heap.size + 1]) (b := w.heap.size + 1) (.inl (by simp)) (ref17L k) 0 _ F7
  have hb8 := row_setCells hz5 (ref17L k) rfl
  refine hK.out _ _ (KS3.out _ F8) (fun hHeld => ?_)
  clear hK K
  refine wpAnyH_take (i := 5) (v := .bool k.fine) e5 (by rw [hops.out]; kernel_rfl) (by rw [hops.out]; kernel_rfl) (by rw [hops.out]; kernel_rfl) (fun c a w h => hQ c a _ _ w h) (Or.inl ⟨rfl, fun w' _ => by go_simp⟩) hHeld ?_
  (try simp only [Act.put, List.setIfInBounds_toArray, List.set_cons_zero, List.set_cons_succ])
  refine wpAnyH_done (by rw [hops.out]; kernel_rfl) (hQn.out _ _ ?_) _
  clear hQn hQ hops e0 e1 e2 e3 e4 e5 hth
  have HEND := Lib.hid (HF5.out.trans' F8 (fun s hs => .inr (by rw [List.mem_singleton] at hs; omega)))
  generalize w5.setCells (w.heap.size + 1) 0 (ref17L k) = w6 at hb8 F8 HEND ⊢
  have hrg := range_of hb8
  have hlv := run_loadVar_mid (P := Try.prog) w6 (w.heap.size + 1) 0 43 (ref17L k) _ hrg hu2.out rfl hiR.out
  clear hb8 F8 hHeld hz5 F7 F7n hn hn2 hn0 hn1 F6 F6n hrg
  go_wp2_with fail
  refine bodyPost_ret (v := .tuple #[.agg (ref17L k).toArray, .bool k.fine]) (results_cell_tmpD Try.results7 _ _ _ rfl hlv) rfl ?_
  exact ⟨rfl, HEND.out⟩
end Go.Proofs.Ytcnkhjgpjchkeaa

namespace Go.Proofs.Ytcnkhjgpjchkeaa
open Go.RowKit

def awK : CF := ⟨1, 1, 1, 0, 0, 0, 10, 5, 9, 50, 0, 2, 10, 0, 0, 0⟩
/-- What the contracts ask of how a dependency stands. -/
def DepM.good (M : DepM) : Prop := M.br.since < 18446744073709551616 ∧ M.win.L.length < 1000000000000000 ∧ M.took.L.length < 1000000000000000 ∧ ∀ p ∈ M.calls, p.2.ms.length ≤ 1000000 ∧ 0 ≤ p.2.step ∧ p.2.step ≤ 3
instance (M : DepM) : Decidable M.good := inferInstanceAs (Decidable (_ ∧ _))
theorem good_of {M : DepM} (h : decide M.good = true) : M.good := of_decide_eq_true h
theorem awK_fine : awK.fine = true := by kernel_rfl
theorem aw_all : ∃ M0 M1 M2 M3 M4 M5 M6 : DepM, ∃ a2 : ActM, ∃ o4 o5 : Ou, DepM.new awK = M0 ∧ M0.good
    ∧ M0.offer 0 1 [(1, 0)] = (⟨M1, [⟨true, 1, 10⟩], []⟩, 0) ∧ M1.good
    ∧ M1.offer 1 1 [(2, 0)] = (⟨M2, [a2], []⟩, 0) ∧ M2.good
    ∧ M2.offer 2 1 [(3, 0)] = (⟨M3, [], [⟨3, 4, 3, 0, 2⟩]⟩, 0) ∧ M3.good
    ∧ M3.late 10 1 = ⟨M4, [], [o4]⟩ ∧ M4.good
    ∧ M4.late 11 2 = ⟨M5, [], [o5]⟩ ∧ M5.good
    ∧ M5.answer 20 1 true [9] = (⟨M6, [], []⟩, 0)
    ∧ M6.snapV 20 = #[.int .i64 0, .int .i64 0, .int .i64 0, .int .i64 0, .int .i64 1, .int .u64 0, .int .u64 0, .int .u64 2, .int .u64 0, .int .u64 0, .int .u64 0, .int .u64 0] :=
  ⟨DepM.new awK, ((DepM.new awK).offer 0 1 [(1, 0)]).1.M, (((DepM.new awK).offer 0 1 [(1, 0)]).1.M.offer 1 1 [(2, 0)]).1.M, ((((DepM.new awK).offer 0 1 [(1, 0)]).1.M.offer 1 1 [(2, 0)]).1.M.offer 2 1 [(3, 0)]).1.M,
    (((((DepM.new awK).offer 0 1 [(1, 0)]).1.M.offer 1 1 [(2, 0)]).1.M.offer 2 1 [(3, 0)]).1.M.late 10 1).M, ((((((DepM.new awK).offer 0 1 [(1, 0)]).1.M.offer 1 1 [(2, 0)]).1.M.offer 2 1 [(3, 0)]).1.M.late 10 1).M.late 11 2).M,
    (((((((DepM.new awK).offer 0 1 [(1, 0)]).1.M.offer 1 1 [(2, 0)]).1.M.offer 2 1 [(3, 0)]).1.M.late 10 1).M.late 11 2).M.answer 20 1 true [9]).1.M, ⟨true, 2, 11⟩, ⟨1, 4, 2, 0, 10⟩, ⟨2, 4, 2, 0, 11⟩,
    rfl, good_of (by kernel_rfl), by kernel_rfl, good_of (by kernel_rfl), by kernel_rfl, good_of (by kernel_rfl), by kernel_rfl, good_of (by kernel_rfl), by kernel_rfl, good_of (by kernel_rfl), by kernel_rfl, good_of (by kernel_rfl), by kernel_rfl, by kernel_rfl⟩
end Go.Proofs.Ytcnkhjgpjchkeaa

namespace Go.Proofs.Ytcnkhjgpjchkeaa
open Go.RowKit

set_option maxHeartbeats 1000000 in
theorem lawOne_spec (w : World) (id arg : Int) : Calls Try.prog 15 #[.int .i64 id, .int .i64 arg] w fun e w' => (∃ va vm, e = .returned (.agg #[va, vm]) ∧ ArgsV va 1 ∧ Mems w' vm [(id, 0)]) ∧ Fr [] w w' := by
  have HO := Lib.hid (fun w' => one_spec w' id arg)
  have hb0 := block_alloc_new w (.cells #[.slice none 0 0, .slice none 0 0] 70)
  have HB0 := Lib.hid hb0
  clear hb0
  go_enter Try.func15, Try.ntmps15
  go_wp2_with fail
  refine (HO.out _).mono ?_
  rintro e w2 ⟨⟨va, vm, rfl, ⟨a0, c0, rfl⟩, hM⟩, F⟩
  have HM := Lib.hid hM
  obtain ⟨am, cm, rfl, -, -⟩ := hM
  have hb := F.keep HB0.out (by simp)
  have r0 : w2.cell? ⟨w.heap.size, 0, none⟩ = some (.slice none 0 0) := (cell_of_block hb 0).trans rfl
  have r1 : w2.cell? ⟨w.heap.size, 1, none⟩ = some (.slice none 0 0) := (cell_of_block hb 1).trans rfl
  have g0 := free_of_block hb 0
  have g1 := free_of_block hb 1
  have HF := Lib.hid ((((Fr.refl [] w).alloc (.cells #[.slice none 0 0, .slice none 0 0] 70)).trans F).setCell (p := ⟨w.heap.size, 0, none⟩) (.inr (Nat.le_refl _)) (.slice a0 1 c0))
  have HF2 := Lib.hid (HF.out.setCell (p := ⟨w.heap.size, 1, none⟩) (.inr (Nat.le_refl _)) (.slice am [(id, (0 : Int))].length cm))
  have kz : Fr [w.heap.size] w2 ((w2.setCell ⟨w.heap.size, 0, none⟩ (.slice a0 1 c0)).setCell ⟨w.heap.size, 1, none⟩ (.slice am [(id, (0 : Int))].length cm)) := ((Fr.refl _ _).setCell (p := ⟨w.heap.size, 0, none⟩) (.inl (by simp)) _).setCell (p := ⟨w.heap.size, 1, none⟩) (.inl (by simp)) _
  have HM2 := Lib.hid (HM.out.fr kz (NoMem.cons (NoMem.nil w2) hb (by intro _ _ e; cases e)))
  clear hb F kz HB0
  go_wp2_with fail
  refine bodyPost_ret (v := .agg #[.slice a0 1 c0, .slice am 1 cm]) (by simp [results, Try.results15, go_sem, r0, r1]) rfl ?_
  exact ⟨⟨_, _, rfl, ⟨a0, c0, rfl⟩, HM2.out⟩, HF2.out⟩

/-- One element of three cells. -/
theorem row3 {w : World} {base : Nat} {v : Value} {u0 u1 u2 : Value} (h : w.ownsRow base 80 3 v 1 [u0, u1, u2]) : ∃ g cap cs, v = .slice (some ⟨g, 0, none⟩) 1 cap ∧ base ≤ g ∧ w.heap[g]? = some (.cells cs 80 (0, 0)) ∧ cs[0]? = some u0 ∧ cs[1]? = some u1 ∧ cs[2]? = some u2 := by
  rcases h.2 with ⟨_, h0⟩ | ⟨g, cap, cur, hv, hb, hh, h1, _, h3, ht⟩
  · cases h0
  · refine ⟨g, cap, cur, hv, hb, hh, ?_, ?_, ?_⟩
    · have e := congrArg (fun l : List Value => l[0]?) ht
      simp only [List.getElem?_take] at e
      simpa using e
    · have e := congrArg (fun l : List Value => l[1]?) ht
      simp only [List.getElem?_take] at e
      simpa using e
    · have e := congrArg (fun l : List Value => l[2]?) ht
      simp only [List.getElem?_take] at e
      simpa using e
theorem row5 {w : World} {base : Nat} {v : Value} {u0 u1 u2 u3 u4 : Value} (h : w.ownsRow base 82 5 v 1 [u0, u1, u2, u3, u4]) : ∃ g cap cs, v = .slice (some ⟨g, 0, none⟩) 1 cap ∧ base ≤ g ∧ w.heap[g]? = some (.cells cs 82 (0, 0)) ∧ cs[2]? = some u2 := by
  rcases h.2 with ⟨_, h0⟩ | ⟨g, cap, cur, hv, hb, hh, h1, _, h3, ht⟩
  · cases h0
  · refine ⟨g, cap, cur, hv, hb, hh, ?_⟩
    have e := congrArg (fun l : List Value => l[2]?) ht
    simp only [List.getElem?_take] at e
    simpa using e
theorem eqAct (w : World) : (Op.equalIn 10000 80 (.agg #[.bool true, .int .i64 1, .int .u64 10]) (.agg #[.bool true, .int .i64 1, .int .u64 10])).run Try.prog w = .ok true w := by kernel_rfl
set_option maxHeartbeats 8000000 in
set_option maxRecDepth 20000 in
theorem awake_spec (w : World) : Calls Try.prog 6 #[] w fun e w' => e = .returned (.bool true) ∧ Fr [] w w' := by
  have HNEW := depNew_yes w awK awK_fine (by unfold CF.Ran awK; decide)
  obtain ⟨M0, M1, M2, M3, M4, M5, M6, a2, o4, o5, e0, q0, e1, q1, e2, q2, e3, q3, e4, q4, e5, q5, e6, e7⟩ := aw_all
  change Calls _ _ #[.agg #[.int .i64 1, .int .i64 1, .int .i64 1, .int .i64 0, .int .i64 0, .int .i64 0, .int .u64 10, .int .u64 5, .int .i64 9, .int .i64 50, .int .u64 0, .int .i64 2, .int .u64 10, .int .u64 0, .int .i64 0, .int .i64 0]] w (NewDep awK w) at HNEW
  have HNEW := Lib.hid HNEW
  have E0 := Lib.hid e0
  have E1 := Lib.hid e1
  have E2 := Lib.hid e2
  have E3 := Lib.hid e3
  have E4 := Lib.hid e4
  have E5 := Lib.hid e5
  have E6 := Lib.hid e6
  have E7 := Lib.hid e7
  have Q0 := Lib.hid q0
  have Q1 := Lib.hid q1
  have Q2 := Lib.hid q2
  have Q3 := Lib.hid q3
  have Q4 := Lib.hid q4
  have Q5 := Lib.hid q5
  clear e0 e1 e2 e3 e4 e5 e6 e7 q0 q1 q2 q3 q4 q5
  go_enter Try.func6, Try.ntmps6
  go_wp2_with fail
  refine HNEW.out.mono ?_
  rintro e w0 ⟨A, rfl, D0, hge, F0⟩
  have hlow := D0.low
  have HLOW := Lib.hid hlow
  have HGE := Lib.hid hge
  have HD0 : Hid (IsDep w0 A M0) := Lib.hid (by rw [← E0.out]; exact D0)
  have HF0 := Lib.hid F0
  clear D0 hlow hge F0 HNEW
  go_wp2_with fail
  refine (lawOne_spec _ 1 5).mono ?_
  rintro e u1 ⟨⟨xa, xm, rfl, ⟨ya, yc, rfl⟩, hM⟩, G1⟩
  have HOF := offerD_spec (nargs := 1) (HD0.out.fr0 G1) 0 (by decide) Q0.out.1 Q0.out.2.1 Q0.out.2.2.2 ⟨ya, yc, rfl⟩ hM (by simp)
  rw [E1.out] at HOF
  have HOF := Lib.hid HOF
  obtain ⟨ym, yd, rfl, -, -⟩ := hM
  have zG1 := G1.size
  go_wp2_with fail
  refine HOF.out.mono ?_
  rintro e v1 ⟨pa1, po1, rfl, D1, H1, ra1, ro1⟩
  obtain ⟨gA, cA, csA, hvA, hgA, HA, ea0, ea1, ea2⟩ := row3 (show v1.ownsRow _ _ 3 _ 1 [.bool true, .int .i64 1, .int .u64 10] from ra1)
  subst hvA
  obtain ⟨qo1, qd1, hvo1⟩ := ownsFormD ro1
  change po1 = .slice qo1 0 qd1 at hvo1
  subst hvo1
  have zH1 := H1.size
  have B1 := block_alloc_new v1 (.cells #[.slice (some ⟨gA, 0, none⟩) 1 cA, .slice qo1 0 qd1] 57)
  have HB1 := Lib.hid B1
  have P1 := Lib.hid (((G1.mono (S' := A.list) (by simp)).trans H1).alloc (.cells #[.slice (some ⟨gA, 0, none⟩) 1 cA, .slice qo1 0 qd1] 57))
  have HD1 : Hid (IsDep (v1.alloc (.cells #[.slice (some ⟨gA, 0, none⟩) 1 cA, .slice qo1 0 qd1] 57)) A M1) := Lib.hid (D1.fr0 ((Fr.refl [] _).alloc (.cells #[.slice (some ⟨gA, 0, none⟩) 1 cA, .slice qo1 0 qd1] 57)))
  have zb1 : v1.heap.size < (v1.alloc (.cells #[.slice (some ⟨gA, 0, none⟩) 1 cA, .slice qo1 0 qd1] 57)).heap.size := by simp
  have zs1 := World.size_alloc v1 (.cells #[.slice (some ⟨gA, 0, none⟩) 1 cA, .slice qo1 0 qd1] 57)
  have HRA := Lib.hid (block_alloc HA (.cells #[.slice (some ⟨gA, 0, none⟩) 1 cA, .slice qo1 0 qd1] 57))
  have HEA := Lib.hid (And.intro ea0 (And.intro ea1 ea2))
  clear B1 D1 H1 ra1 ro1 G1 HA ea0 ea1 ea2 HOF
  go_wp2_with fail
  generalize (v1.alloc (.cells #[.slice (some ⟨gA, 0, none⟩) 1 cA, .slice qo1 0 qd1] 57)) = w1 at *
  refine (lawOne_spec _ 2 6).mono ?_
  rintro e u2 ⟨⟨xa, xm, rfl, ⟨ya, yc, rfl⟩, hM⟩, G2⟩
  have HOF := offerD_spec (nargs := 1) (HD1.out.fr0 G2) 1 (by decide) Q1.out.1 Q1.out.2.1 Q1.out.2.2.2 ⟨ya, yc, rfl⟩ hM (by simp)
  rw [E2.out] at HOF
  have HOF := Lib.hid HOF
  obtain ⟨ym, yd, rfl, -, -⟩ := hM
  have zG2 := G2.size
  go_wp2_with fail
  refine HOF.out.mono ?_
  rintro e v2 ⟨pa2, po2, rfl, D2, H2, ra2, ro2⟩
  obtain ⟨qa2, qc2, hva2⟩ := ownsFormD ra2
  change pa2 = .slice qa2 1 qc2 at hva2
  subst hva2
  obtain ⟨qo2, qd2, hvo2⟩ := ownsFormD ro2
  change po2 = .slice qo2 0 qd2 at hvo2
  subst hvo2
  have zH2 := H2.size
  have B2 := block_alloc_new v2 (.cells #[.slice qa2 1 qc2, .slice qo2 0 qd2] 57)
  have HB2 := Lib.hid B2
  have P2 := Lib.hid (((G2.mono (S' := A.list) (by simp)).trans H2).alloc (.cells #[.slice qa2 1 qc2, .slice qo2 0 qd2] 57))
  have HD2 : Hid (IsDep (v2.alloc (.cells #[.slice qa2 1 qc2, .slice qo2 0 qd2] 57)) A M2) := Lib.hid (D2.fr0 ((Fr.refl [] _).alloc (.cells #[.slice qa2 1 qc2, .slice qo2 0 qd2] 57)))
  have zb2 : v2.heap.size < (v2.alloc (.cells #[.slice qa2 1 qc2, .slice qo2 0 qd2] 57)).heap.size := by simp
  have zs2 := World.size_alloc v2 (.cells #[.slice qa2 1 qc2, .slice qo2 0 qd2] 57)
  clear B2 D2 H2 ra2 ro2 G2 HOF
  go_wp2_with fail
  generalize (v2.alloc (.cells #[.slice qa2 1 qc2, .slice qo2 0 qd2] 57)) = w2 at *
  refine (lawOne_spec _ 3 7).mono ?_
  rintro e u3 ⟨⟨xa, xm, rfl, ⟨ya, yc, rfl⟩, hM⟩, G3⟩
  have HOF := offerD_spec (nargs := 1) (HD2.out.fr0 G3) 2 (by decide) Q2.out.1 Q2.out.2.1 Q2.out.2.2.2 ⟨ya, yc, rfl⟩ hM (by simp)
  rw [E3.out] at HOF
  have HOF := Lib.hid HOF
  obtain ⟨ym, yd, rfl, -, -⟩ := hM
  have zG3 := G3.size
  go_wp2_with fail
  refine HOF.out.mono ?_
  rintro e v3 ⟨pa3, po3, rfl, D3, H3, ra3, ro3⟩
  obtain ⟨qa3, qc3, hva3⟩ := ownsFormD ra3
  change pa3 = .slice qa3 0 qc3 at hva3
  subst hva3
  obtain ⟨gX, cX, csX, hvX, hgX, HX, ex2⟩ := row5 (show v3.ownsRow _ _ 5 _ 1 [.int .i64 3, .int .i64 4, .int .i64 3, .int .i64 0, .int .u64 2] from ro3)
  subst hvX
  have zH3 := H3.size
  have B3 := block_alloc_new v3 (.cells #[.slice qa3 0 qc3, .slice (some ⟨gX, 0, none⟩) 1 cX] 57)
  have HB3 := Lib.hid B3
  have P3 := Lib.hid (((G3.mono (S' := A.list) (by simp)).trans H3).alloc (.cells #[.slice qa3 0 qc3, .slice (some ⟨gX, 0, none⟩) 1 cX] 57))
  have HD3 : Hid (IsDep (v3.alloc (.cells #[.slice qa3 0 qc3, .slice (some ⟨gX, 0, none⟩) 1 cX] 57)) A M3) := Lib.hid (D3.fr0 ((Fr.refl [] _).alloc (.cells #[.slice qa3 0 qc3, .slice (some ⟨gX, 0, none⟩) 1 cX] 57)))
  have zb3 : v3.heap.size < (v3.alloc (.cells #[.slice qa3 0 qc3, .slice (some ⟨gX, 0, none⟩) 1 cX] 57)).heap.size := by simp
  have zs3 := World.size_alloc v3 (.cells #[.slice qa3 0 qc3, .slice (some ⟨gX, 0, none⟩) 1 cX] 57)
  have HRX := Lib.hid (block_alloc HX (.cells #[.slice qa3 0 qc3, .slice (some ⟨gX, 0, none⟩) 1 cX] 57))
  have HEX := Lib.hid ex2
  clear B3 D3 H3 ra3 ro3 G3 HX ex2 HOF
  go_wp2_with fail
  generalize (v3.alloc (.cells #[.slice qa3 0 qc3, .slice (some ⟨gX, 0, none⟩) 1 cX] 57)) = w3 at *
  have HLA := lateD_spec HD3.out 10 (by decide) Q3.out.2.1 Q3.out.2.2.2 1
  rw [E4.out] at HLA
  have HLA := Lib.hid HLA
  refine HLA.out.mono ?_
  rintro e v4 ⟨pa4, po4, rfl, D4, H4, ra4, ro4⟩
  clear HLA
  obtain ⟨qa4, qc4, hva4⟩ := ownsFormD ra4
  change pa4 = .slice qa4 0 qc4 at hva4
  subst hva4
  obtain ⟨qo4, qd4, hvo4⟩ := ownsFormD ro4
  change po4 = .slice qo4 1 qd4 at hvo4
  subst hvo4
  have zH4 := H4.size
  have B4 := block_alloc_new v4 (.cells #[.slice qa4 0 qc4, .slice qo4 1 qd4] 57)
  have HB4 := Lib.hid B4
  have P4 := Lib.hid (H4.alloc (.cells #[.slice qa4 0 qc4, .slice qo4 1 qd4] 57))
  have HD4 : Hid (IsDep (v4.alloc (.cells #[.slice qa4 0 qc4, .slice qo4 1 qd4] 57)) A M4) := Lib.hid (D4.fr0 ((Fr.refl [] _).alloc (.cells #[.slice qa4 0 qc4, .slice qo4 1 qd4] 57)))
  have zb4 : v4.heap.size < (v4.alloc (.cells #[.slice qa4 0 qc4, .slice qo4 1 qd4] 57)).heap.size := by simp
  have zs4 := World.size_alloc v4 (.cells #[.slice qa4 0 qc4, .slice qo4 1 qd4] 57)
  clear B4 D4 H4 ra4 ro4
  go_wp2_with fail
  generalize (v4.alloc (.cells #[.slice qa4 0 qc4, .slice qo4 1 qd4] 57)) = w4 at *
  have HLA := lateD_spec HD4.out 11 (by decide) Q4.out.2.1 Q4.out.2.2.2 2
  rw [E5.out] at HLA
  have HLA := Lib.hid HLA
  refine HLA.out.mono ?_
  rintro e v5 ⟨pa5, po5, rfl, D5, H5, ra5, ro5⟩
  clear HLA
  obtain ⟨qa5, qc5, hva5⟩ := ownsFormD ra5
  change pa5 = .slice qa5 0 qc5 at hva5
  subst hva5
  obtain ⟨qo5, qd5, hvo5⟩ := ownsFormD ro5
  change po5 = .slice qo5 1 qd5 at hvo5
  subst hvo5
  have zH5 := H5.size
  have B5 := block_alloc_new v5 (.cells #[.slice qa5 0 qc5, .slice qo5 1 qd5] 57)
  have HB5 := Lib.hid B5
  have P5 := Lib.hid (H5.alloc (.cells #[.slice qa5 0 qc5, .slice qo5 1 qd5] 57))
  have HD5 : Hid (IsDep (v5.alloc (.cells #[.slice qa5 0 qc5, .slice qo5 1 qd5] 57)) A M5) := Lib.hid (D5.fr0 ((Fr.refl [] _).alloc (.cells #[.slice qa5 0 qc5, .slice qo5 1 qd5] 57)))
  have zb5 : v5.heap.size < (v5.alloc (.cells #[.slice qa5 0 qc5, .slice qo5 1 qd5] 57)).heap.size := by simp
  have zs5 := World.size_alloc v5 (.cells #[.slice qa5 0 qc5, .slice qo5 1 qd5] 57)
  clear B5 D5 H5 ra5 ro5
  go_wp2_with fail
  generalize (v5.alloc (.cells #[.slice qa5 0 qc5, .slice qo5 1 qd5] 57)) = w5 at *
  have IB := block_alloc_new w5 (.cells #[.int .i64 9] 3)
  have G6 := (Fr.refl [] w5).alloc (.cells #[.int .i64 9] 3)
  have hlo := HLOW.out
  have zz5 : w0.heap.size ≤ w5.heap.size := by omega
  have zG6 := G6.size
  rw [zs5] at IB
  have HAN := answerD_spec (HD5.out.fr0 G6) 20 (by decide) Q5.out.2.1 Q5.out.2.2.1 Q5.out.2.2.2 1 true (vv := .slice (some ⟨v5.heap.size + 1, 0, none⟩) 1 1) (vals := [9]) ⟨_, 1, rfl, Nat.le_refl _, (fun h => by cases h), fun j hj => ⟨v5.heap.size + 1, 0, rfl, by simp at hj; subst hj; exact (cell_of_block IB 0).trans rfl⟩⟩ (.inr (fun g hg hm => by simp [Value.ownBlock] at hg; subst hg; have := hlo _ hm; omega)) (by simp)
  rw [E6.out] at HAN
  have HAN := Lib.hid HAN
  clear IB hlo
  refine HAN.out.mono ?_
  rintro e v6 ⟨pa6, po6, rfl, D6, H6, ra6, ro6⟩
  clear HAN
  obtain ⟨qa6, qc6, hva6⟩ := ownsFormD ra6
  change pa6 = .slice qa6 0 qc6 at hva6
  subst hva6
  obtain ⟨qo6, qd6, hvo6⟩ := ownsFormD ro6
  change po6 = .slice qo6 0 qd6 at hvo6
  subst hvo6
  have zH6 := H6.size
  have B6 := block_alloc_new v6 (.cells #[.slice qa6 0 qc6, .slice qo6 0 qd6] 57)
  have HB6 := Lib.hid B6
  have P6 := Lib.hid (((G6.mono (S' := A.list) (by simp)).trans H6).alloc (.cells #[.slice qa6 0 qc6, .slice qo6 0 qd6] 57))
  have HD6 : Hid (IsDep (v6.alloc (.cells #[.slice qa6 0 qc6, .slice qo6 0 qd6] 57)) A M6) := Lib.hid (D6.fr0 ((Fr.refl [] _).alloc (.cells #[.slice qa6 0 qc6, .slice qo6 0 qd6] 57)))
  have zb6 : v6.heap.size < (v6.alloc (.cells #[.slice qa6 0 qc6, .slice qo6 0 qd6] 57)).heap.size := by simp
  have zs6 := World.size_alloc v6 (.cells #[.slice qa6 0 qc6, .slice qo6 0 qd6] 57)
  clear B6 D6 H6 ra6 ro6 G6
  go_wp2_with fail
  generalize (v6.alloc (.cells #[.slice qa6 0 qc6, .slice qo6 0 qd6] 57)) = w6 at *
  have HSN := Lib.hid (snapD_spec HD6.out 20 (by decide))
  refine HSN.out.mono ?_
  rintro e w7 ⟨rfl, D7, H7⟩
  rw [E7.out]
  have T7 : Fr A.list w7 w7 := Fr.refl _ _
  have T6 := H7
  have T5 := P6.out.trans T6
  have T4 := P5.out.trans T5
  have T3 := P4.out.trans T4
  have T2 := P3.out.trans T3
  have T1 := P2.out.trans T2
  have T0 := P1.out.trans T1
  have hlo := HLOW.out
  have zw7 := H7.size
  have SB := block_alloc_new w7 (.cells #[.int .i64 0, .int .i64 0, .int .i64 0, .int .i64 0, .int .i64 1, .int .u64 0, .int .u64 0, .int .u64 2, .int .u64 0, .int .u64 0, .int .u64 0, .int .u64 0] 63)
  have bb1 := block_alloc (T1.keep HB1.out (fun h => by have := hlo _ h; omega)) (.cells #[.int .i64 0, .int .i64 0, .int .i64 0, .int .i64 0, .int .i64 1, .int .u64 0, .int .u64 0, .int .u64 2, .int .u64 0, .int .u64 0, .int .u64 0, .int .u64 0] 63)
  have bc1 := cell_of_block bb1 0
  have bd1 := cell_of_block bb1 1
  have bb2 := block_alloc (T2.keep HB2.out (fun h => by have := hlo _ h; omega)) (.cells #[.int .i64 0, .int .i64 0, .int .i64 0, .int .i64 0, .int .i64 1, .int .u64 0, .int .u64 0, .int .u64 2, .int .u64 0, .int .u64 0, .int .u64 0, .int .u64 0] 63)
  have bc2 := cell_of_block bb2 0
  have bd2 := cell_of_block bb2 1
  have bb3 := block_alloc (T3.keep HB3.out (fun h => by have := hlo _ h; omega)) (.cells #[.int .i64 0, .int .i64 0, .int .i64 0, .int .i64 0, .int .i64 1, .int .u64 0, .int .u64 0, .int .u64 2, .int .u64 0, .int .u64 0, .int .u64 0, .int .u64 0] 63)
  have bc3 := cell_of_block bb3 0
  have bd3 := cell_of_block bb3 1
  have bb4 := block_alloc (T4.keep HB4.out (fun h => by have := hlo _ h; omega)) (.cells #[.int .i64 0, .int .i64 0, .int .i64 0, .int .i64 0, .int .i64 1, .int .u64 0, .int .u64 0, .int .u64 2, .int .u64 0, .int .u64 0, .int .u64 0, .int .u64 0] 63)
  have bc4 := cell_of_block bb4 0
  have bd4 := cell_of_block bb4 1
  have bb5 := block_alloc (T5.keep HB5.out (fun h => by have := hlo _ h; omega)) (.cells #[.int .i64 0, .int .i64 0, .int .i64 0, .int .i64 0, .int .i64 1, .int .u64 0, .int .u64 0, .int .u64 2, .int .u64 0, .int .u64 0, .int .u64 0, .int .u64 0] 63)
  have bc5 := cell_of_block bb5 0
  have bd5 := cell_of_block bb5 1
  have bb6 := block_alloc (T6.keep HB6.out (fun h => by have := hlo _ h; omega)) (.cells #[.int .i64 0, .int .i64 0, .int .i64 0, .int .i64 0, .int .i64 1, .int .u64 0, .int .u64 0, .int .u64 2, .int .u64 0, .int .u64 0, .int .u64 0, .int .u64 0] 63)
  have bc6 := cell_of_block bb6 0
  have bd6 := cell_of_block bb6 1
  have rA := block_alloc (T1.keep HRA.out (fun h => by have := hlo _ h; omega)) (.cells #[.int .i64 0, .int .i64 0, .int .i64 0, .int .i64 0, .int .i64 1, .int .u64 0, .int .u64 0, .int .u64 2, .int .u64 0, .int .u64 0, .int .u64 0, .int .u64 0] 63)
  have rX := block_alloc (T3.keep HRX.out (fun h => by have := hlo _ h; omega)) (.cells #[.int .i64 0, .int .i64 0, .int .i64 0, .int .i64 0, .int .i64 1, .int .u64 0, .int .u64 0, .int .u64 2, .int .u64 0, .int .u64 0, .int .u64 0, .int .u64 0] 63)
  have fa0 := (cell_of_block rA 0).trans HEA.out.1
  have fa1 := (cell_of_block rA 1).trans HEA.out.2.1
  have fa2 := (cell_of_block rA 2).trans HEA.out.2.2
  have fx2 := (cell_of_block rX 2).trans HEX.out
  have eqa := eqAct (w7.alloc (.cells #[.int .i64 0, .int .i64 0, .int .i64 0, .int .i64 0, .int .i64 1, .int .u64 0, .int .u64 0, .int .u64 2, .int .u64 0, .int .u64 0, .int .u64 0, .int .u64 0] 63))
  have eqc := eq_arr5D 0 0 2 0 0 0 0 2 0 0 (w7.alloc (.cells #[.int .i64 0, .int .i64 0, .int .i64 0, .int .i64 0, .int .i64 1, .int .u64 0, .int .u64 0, .int .u64 2, .int .u64 0, .int .u64 0, .int .u64 0, .int .u64 0] 63))
  have HEND := Lib.hid ((HF0.out.trans' T0 (fun x hx => .inr (HGE.out x hx))).alloc (.cells #[.int .i64 0, .int .i64 0, .int .i64 0, .int .i64 0, .int .i64 1, .int .u64 0, .int .u64 0, .int .u64 2, .int .u64 0, .int .u64 0, .int .u64 0, .int .u64 0] 63))
  clear hlo HSN D7 H7 T0 T1 T2 T3 T4 T5 T6 T7 bb1 bb2 bb3 bb4 bb5 bb6 rA rX HB1 HB2 HB3 HB4 HB5 HB6 P1 P2 P3 P4 P5 P6 HD0 HD1 HD2 HD3 HD4 HD5 HD6 HRA HRX HEA HEX
  go_wp2_with fail
  go_ret
  exact ⟨rfl, HEND.out⟩
end Go.Proofs.Ytcnkhjgpjchkeaa
