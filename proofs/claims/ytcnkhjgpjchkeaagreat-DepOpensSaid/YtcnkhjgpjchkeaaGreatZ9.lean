/-
  Words, and contracts of functions of the program and of the document, for this seat's claims: each is a lemma on the way; conditions stand in each lemma.
-/
import Derived.Test.YtcnkhjgpjchkeaaGreatZ8
namespace Go.Proofs.YtcnkhjgpjchkeaaGreat
open Go.RowKit

theorem DeedV.sub {bs bs' : Bx} {w0 w : World} {x : Nat} {A : DepA} {now : Nat} {σ : DS} {va vo : Value} (D : DeedV bs w0 w x A now σ va vo) (h : ∀ p ∈ bs', p ∈ bs) : DeedV bs' w0 w x A now σ va vo :=
  ⟨D.fr, D.dep, D.calls, D.low, D.nomem, D.hx, D.blk, D.acts, D.outs, fun p hp => D.box p (h p hp)⟩
/-- A call comes in, or not. -/
def DS.offer (σ : DS) (now : Nat) (id : Int) (c : CallM) : DS :=
  if (σ.M.br.ask now).2 = 3 then ({ σ with M := { σ.M with br := (σ.M.br.ask now).1, win := σ.M.win.add now 4 } } : DS).fall now c 4
  else if (admitM σ.M.pool σ.M.que σ.M.run σ.M.wait id).2.2.1 = 3 then
    ({ σ with M := ({ σ.M with run := (admitM σ.M.pool σ.M.que σ.M.run σ.M.wait id).1, wait := (admitM σ.M.pool σ.M.que σ.M.run σ.M.wait id).2.1, br := if (σ.M.br.ask now).2 = 2 then (σ.M.br.ask now).1.back else (σ.M.br.ask now).1 } : DepM).count now id 3 } : DS).fall now c 3
  else
    { M := (if (admitM σ.M.pool σ.M.que σ.M.run σ.M.wait id).2.2.1 = 1 then
        (({ σ.M with br := (σ.M.br.ask now).1, run := (admitM σ.M.pool σ.M.que σ.M.run σ.M.wait id).1, wait := (admitM σ.M.pool σ.M.que σ.M.run σ.M.wait id).2.1, probe := if (σ.M.br.ask now).2 = 2 then id else σ.M.probe } : DepM).keep c).runs [id]
        else (({ σ.M with br := (σ.M.br.ask now).1, run := (admitM σ.M.pool σ.M.que σ.M.run σ.M.wait id).1, wait := (admitM σ.M.pool σ.M.que σ.M.run σ.M.wait id).2.1, probe := if (σ.M.br.ask now).2 = 2 then id else σ.M.probe } : DepM).keep c)).runs (admitM σ.M.pool σ.M.que σ.M.run σ.M.wait id).2.2.2,
      ac := σ.ac ++ [⟨true, id, sadd now σ.M.k.t.toNat⟩], ou := σ.ou }
section
variable {σ : DS} {now : Nat} {id : Int} {c : CallM} {b1 : Brk} {h1 w1 ids : List Int}
theorem DS.offer_short (hr : σ.M.br.ask now = (b1, 3)) : σ.offer now id c = ({ σ with M := { σ.M with br := b1, win := σ.M.win.add now 4 } } : DS).fall now c 4 := by
  unfold DS.offer; rw [hr, if_pos rfl]
theorem DS.offer_rej1 (hr : σ.M.br.ask now = (b1, 1)) (ha : admitM σ.M.pool σ.M.que σ.M.run σ.M.wait id = (h1, w1, 3, ids)) : σ.offer now id c = ({ σ with M := ({ σ.M with br := b1, run := h1, wait := w1 } : DepM).count now id 3 } : DS).fall now c 3 := by
  unfold DS.offer; rw [hr, ha, if_neg (by simp), if_pos rfl, if_neg (by simp)]
theorem DS.offer_rej2 (hr : σ.M.br.ask now = (b1, 2)) (ha : admitM σ.M.pool σ.M.que σ.M.run σ.M.wait id = (h1, w1, 3, ids)) : σ.offer now id c = ({ σ with M := ({ σ.M with br := b1.back, run := h1, wait := w1 } : DepM).count now id 3 } : DS).fall now c 3 := by
  unfold DS.offer; rw [hr, ha, if_neg (by simp), if_pos rfl, if_pos rfl]
theorem DS.offer_in11 (hr : σ.M.br.ask now = (b1, 1)) (ha : admitM σ.M.pool σ.M.que σ.M.run σ.M.wait id = (h1, w1, 1, ids)) : σ.offer now id c = { M := ((({ σ.M with br := b1, run := h1, wait := w1, probe := σ.M.probe } : DepM).keep c).runs [id]).runs ids, ac := σ.ac ++ [⟨true, id, sadd now σ.M.k.t.toNat⟩], ou := σ.ou } := by
  unfold DS.offer; rw [hr, ha]; simp
theorem DS.offer_in12 (hr : σ.M.br.ask now = (b1, 1)) (ha : admitM σ.M.pool σ.M.que σ.M.run σ.M.wait id = (h1, w1, 2, ids)) : σ.offer now id c = { M := ((({ σ.M with br := b1, run := h1, wait := w1, probe := σ.M.probe } : DepM).keep c)).runs ids, ac := σ.ac ++ [⟨true, id, sadd now σ.M.k.t.toNat⟩], ou := σ.ou } := by
  unfold DS.offer; rw [hr, ha]; simp
theorem DS.offer_in21 (hr : σ.M.br.ask now = (b1, 2)) (ha : admitM σ.M.pool σ.M.que σ.M.run σ.M.wait id = (h1, w1, 1, ids)) : σ.offer now id c = { M := ((({ σ.M with br := b1, run := h1, wait := w1, probe := id } : DepM).keep c).runs [id]).runs ids, ac := σ.ac ++ [⟨true, id, sadd now σ.M.k.t.toNat⟩], ou := σ.ou } := by
  unfold DS.offer; rw [hr, ha]; simp
theorem DS.offer_in22 (hr : σ.M.br.ask now = (b1, 2)) (ha : admitM σ.M.pool σ.M.que σ.M.run σ.M.wait id = (h1, w1, 2, ids)) : σ.offer now id c = { M := ((({ σ.M with br := b1, run := h1, wait := w1, probe := id } : DepM).keep c)).runs ids, ac := σ.ac ++ [⟨true, id, sadd now σ.M.k.t.toNat⟩], ou := σ.ou } := by
  unfold DS.offer; rw [hr, ha]; simp
end
theorem Brk.ask_told (s : Brk) (now : Nat) : (s.ask now).2 = 1 ∨ (s.ask now).2 = 2 ∨ (s.ask now).2 = 3 := by
  unfold Brk.ask
  split
  · exact .inr (.inr rfl)
  · split
    · exact .inl rfl
    · split
      · exact .inr (.inl rfl)
      · exact .inr (.inr rfl)
theorem admit_how (m q : Nat) (hs ws : List Int) (x : Int) : (admitM m q hs ws x).2.2.1 = 1 ∨ (admitM m q hs ws x).2.2.1 = 2 ∨ (admitM m q hs ws x).2.2.1 = 3 := by
  unfold admitM
  split
  · exact .inr (.inr rfl)
  · split
    · exact .inl rfl
    · split
      · exact .inr (.inl rfl)
      · split
        · exact .inr (.inl rfl)
        · exact .inr (.inr rfl)
theorem admit_len (m q : Nat) (hs ws : List Int) (x : Int) : (admitM m q hs ws x).2.2.2.length ≤ 1 := by
  unfold admitM
  repeat' split
  all_goals simp
/-- Ints in a block of ints: as a box beside a deed. -/
theorem ids_box {w : World} {base : Nat} {v : Value} {ids : List Int} (h : Lst w base v ids) (t : IntT w v) (bs : Bx) : ∃ bx : Bx, IdsIn (bx ++ bs) v ids ∧ ∀ p ∈ bx, p.2.2 = 3 ∧ w.heap[p.1]? = some (.cells p.2.1 p.2.2 (0, 0)) := by
  obtain ⟨⟨ao, cap, rfl, h2, h3, h4⟩, -⟩ := h
  by_cases hz : ids = []
  · exact ⟨[], ⟨⟨ao, cap, rfl⟩, fun j hj => by rw [hz] at hj; simp at hj⟩, fun p hp => by cases hp⟩
  · obtain ⟨b, o, rfl, hc⟩ := h4 0 (List.length_pos_iff.2 hz)
    obtain ⟨cs, hb⟩ := t b rfl
    refine ⟨[(b, cs, 3)], ⟨⟨_, cap, rfl⟩, fun j hj => ?_⟩, fun p hp => by simp at hp; subst hp; exact ⟨rfl, hb⟩⟩
    obtain ⟨b', o', e, hc'⟩ := h4 j hj
    simp only [Option.some.injEq, Addr.mk.injEq] at e
    obtain ⟨rfl, rfl, -⟩ := e
    refine ⟨b, o, cap, cs, rfl, by simp, ?_⟩
    rw [cell_of_block hb] at hc'
    simpa [el, hj] using hc'
theorem DeedV.addBoxes {bs : Bx} {w0 w : World} {x : Nat} {A : DepA} {now : Nat} {σ : DS} {va vo : Value} (D : DeedV bs w0 w x A now σ va vo) {bx : Bx} (h : ∀ p ∈ bx, p.2.2 = 3 ∧ w.heap[p.1]? = some (.cells p.2.1 p.2.2 (0, 0))) : DeedV (bx ++ bs) w0 w x A now σ va vo :=
  ⟨D.fr, D.dep, D.calls, D.low, D.nomem, D.hx, D.blk, D.acts, D.outs, fun p hp => by
    rcases List.mem_append.1 hp with hp | hp
    · exact ⟨.inr (.inr (.inl (h p hp).1)), (h p hp).2⟩
    · exact D.box p hp⟩
theorem IdsIn.mono {bs bs' : Bx} {v : Value} {ids : List Int} (h : IdsIn bs v ids) (hs : ∀ p ∈ bs, p ∈ bs') : IdsIn bs' v ids :=
  ⟨h.1, fun j hj => by
    obtain ⟨g, o, cap, cs, h1, h2, h3⟩ := h.2 j hj
    exact ⟨g, o, cap, cs, h1, hs _ h2, h3⟩⟩

set_option maxHeartbeats 8000000 in
set_option maxRecDepth 20000 in
theorem offer_spec {bs : Bx} {w0 w : World} {x : Nat} {A : DepA} {now : Nat} {σ : DS} {va vo : Value} (D : DeedV bs w0 w x A now σ va vo) (hnow : now < 18446744073709551616) (hac : σ.ac.length ≤ 1000000) (hou : σ.ou.length ≤ 1000000)
    (hsince : σ.M.br.since < 18446744073709551616) (hwl : σ.M.win.L.length < 1000000000000000) (hok : σ.M.ok) {v : Value} {c : CallM} (hv : CallV w0 v c) (hm : c.ms.length ≤ 1000000) (hs0 : 0 ≤ c.step) (hs3 : c.step ≤ 3) (id : Int) :
    Calls Tryz.prog 71 #[.pointer (some ⟨x, 0, none⟩), .int .i64 id, v] w (DeedR bs w0 x A now (σ.offer now id c)) := by
  have hv2 := hv.fr D.fr D.nomem
  have HV := Lib.hid hv
  have O := CF.okay D.dep.fine D.dep.ran
  obtain ⟨t, ht⟩ : ∃ n : Nat, σ.M.k.t = n := ⟨σ.M.k.t.toNat, by have := O.t; omega⟩
  have HT : Hid (σ.M.k.t.toNat = t) := Lib.hid (by omega)
  have HT2 := Lib.hid ht
  have HOK := Lib.hid hok
  obtain ⟨ao, vm, rfl, ⟨a0, c0, rfl⟩, hms⟩ := hv2
  obtain ⟨am, cm, rfl, -, -⟩ := hms
  have D1 := (D.fr0 ((Fr.refl [] w).alloc (.cells #[.slice a0 c.nargs c0, .slice am c.ms.length cm, .int .i64 c.st, .int .i64 c.step, .int .i64 c.cause, .int .u64 c.start] 134))).addBox (.inl rfl) (block_alloc_new w (.cells #[.slice a0 c.nargs c0, .slice am c.ms.length cm, .int .i64 c.st, .int .i64 c.step, .int .i64 c.cause, .int .u64 c.start] 134))
  generalize hbs : ((w.heap.size, #[.slice a0 c.nargs c0, .slice am c.ms.length cm, .int .i64 c.st, .int .i64 c.step, .int .i64 c.cause, .int .u64 c.start], 134) :: bs : Bx) = bs1 at D1
  have HYM : Hid ((w.heap.size, #[.slice a0 c.nargs c0, .slice am c.ms.length cm, .int .i64 c.st, .int .i64 c.step, .int .i64 c.cause, .int .u64 c.start], 134) ∈ bs1) := Lib.hid (by rw [← hbs]; exact List.mem_cons_self ..)
  have HSB : Hid (∀ p ∈ bs, p ∈ bs1) := Lib.hid (fun p hp => by rw [← hbs]; exact List.mem_cons_of_mem _ hp)
  have HD1 := Lib.hid D1
  have HASK := Lib.hid ((D1.fr0 (Fr.refl [] _).drew).dep.brk.askC now hsince)
  have hq := D1.dc
  have htold := σ.M.br.ask_told now
  generalize hr : σ.M.br.ask now = r at *
  obtain ⟨b1, told⟩ := r
  have HR := Lib.hid hr
  simp only at htold HASK
  have HTO := Lib.hid htold
  clear D hv O ht hbs D1 hr htold hsince hok
  go_enter Tryz.func71, Tryz.ntmps71
  go_wp2_with fail
  generalize (w.alloc (.cells #[.slice a0 c.nargs c0, .slice am c.ms.length cm, .int .i64 c.st, .int .i64 c.step, .int .i64 c.cause, .int .u64 c.start] 134)) = wa at *
  have hqa : DC x A σ.M now va vo wa.drew := hq
  have ka0 := hq.x0
  have ka1 := hq.d0
  have ka2 := hq.x3
  go_region_held3 (fun w' => w'.cell? ⟨x, 0, none⟩ = some (.pointer (some ⟨A.d, 0, none⟩)) ∧ w'.cell? ⟨A.d, 0, none⟩ = some (.pointer (some ⟨A.brk, 0, none⟩)) ∧ w'.cell? ⟨x, 3, none⟩ = some (.int .u64 now))
    (first | exact ⟨hqa.x0, hqa.d0, hqa.x3⟩ | exact ⟨D2.dc.x0, D2.dc.d0, D2.dc.x3⟩)
    (first | (go_at_call 130; refine HASK.out.mono ?_; rintro e w2 ⟨rfl, B2, F2⟩; have D2 := (HD1.out.fr0 (Fr.refl [] _).drew).setBrk F2 B2))
  have HD2 := Lib.hid D2
  clear D2 B2 F2 HASK HD1 hq hqa ka0 ka1 ka2
  rcases HTO.out with rfl | rfl | rfl
  · have HAD := Lib.hid (HD2.out.dep.bulk.admitM id)
    have hhow := admit_how σ.M.pool σ.M.que σ.M.run σ.M.wait id
    have hlen := admit_len σ.M.pool σ.M.que σ.M.run σ.M.wait id
    change Hid (Calls _ _ _ _ (fun e w' => ∃ v, e = .returned (.tuple #[.int .i64 (admitM σ.M.pool σ.M.que σ.M.run σ.M.wait id).2.2.1, v]) ∧ Lst w' w2.heap.size v (admitM σ.M.pool σ.M.que σ.M.run σ.M.wait id).2.2.2 ∧ IsBulk w' A.blk A.s A.r A.g (admitM σ.M.pool σ.M.que σ.M.run σ.M.wait id).1 (admitM σ.M.pool σ.M.que σ.M.run σ.M.wait id).2.1 σ.M.pool σ.M.que ∧ Fr [A.r, A.g] w2 w' ∧ IntT w' v)) at HAD
    generalize ha : admitM σ.M.pool σ.M.que σ.M.run σ.M.wait id = a at *
    obtain ⟨h1, w1, how, ids⟩ := a
    have HA := Lib.hid ha
    simp only at hhow HAD hlen
    have HHO := Lib.hid hhow
    clear ha hhow
    have k20 := HD2.out.dc.x0
    have k21 := HD2.out.dc.d1
    go_wp2_with fail
    refine HAD.out.mono ?_
    rintro e w3 ⟨vo3, rfl, L3, B3, F3, T3⟩
    have D3 := HD2.out.setBulk F3 B3
    obtain ⟨bx, HI, HBX⟩ := ids_box L3 T3 bs1
    have HI := Lib.hid HI
    have HD3 := Lib.hid (D3.addBoxes HBX)
    obtain ⟨ao3, cap3, e3⟩ := HI.out.1
    subst e3
    clear D3 B3 F3 T3 L3 HBX HAD HD2 k20 k21
    rcases HHO.out with rfl | rfl | rfl
    · have k30 := HD3.out.dc.x0
      have HD4 := HD3
      obtain ⟨y0, y1, y2, y3, y4, y5⟩ := six (HD4.out.box _ (List.mem_append_right _ HYM.out)).2
      have HKP := Lib.hid (fun (w' : World) (F : Fr [] w3 w') => keep_spec (HD4.out.fr0 F) HV.out (by omega))
      have q4 := (HD4.out.fr0 (Fr.refl [] w3).drew).dc.x0
      have q6 := six ((HD4.out.fr0 (Fr.refl [] w3).drew).box _ (List.mem_append_right _ HYM.out)).2
      go_wp2_with fail
      go_region_held3 (fun w' => w'.cell? ⟨x, 0, none⟩ = some (.pointer (some ⟨A.d, 0, none⟩)) ∧ w'.cell? ⟨w.heap.size, 0, none⟩ = some (.slice a0 c.nargs c0) ∧ w'.cell? ⟨w.heap.size, 1, none⟩ = some (.slice am c.ms.length cm) ∧ w'.cell? ⟨w.heap.size, 2, none⟩ = some (.int .i64 c.st) ∧ w'.cell? ⟨w.heap.size, 3, none⟩ = some (.int .i64 c.step) ∧ w'.cell? ⟨w.heap.size, 4, none⟩ = some (.int .i64 c.cause) ∧ w'.cell? ⟨w.heap.size, 5, none⟩ = some (.int .u64 c.start))
        (first | exact ⟨q4, q6⟩ | exact ⟨D5.dc.x0, six (D5.box _ (List.mem_append_right _ HYM.out)).2⟩)
        (first | (go_at_call 58; refine (HKP.out _ (by with_reducible repeat (first | exact Fr.refl _ _ | apply Fr.drew))).mono ?_; rintro e w5 ⟨rfl, va5, vo5, D5⟩))
      have k50 := D5.dc.x0
      have k58 : w5.cell? ⟨A.d, 8, none⟩ = some (.int .u64 σ.M.k.t) := D5.dep.cells.2.2.2.2.2.2.2.2.2.1.trans (by rw [DepM.keep_k])
      rw [HT2.out] at k58
      have HSET := Lib.hid (set_spec D5 hnow hac id t)
      have HKO := Lib.hid ((DepM.ok.keep (M := { σ.M with br := b1, run := h1, wait := w1, probe := σ.M.probe }) HOK.out ⟨hm, hs0, hs3⟩))
      clear D5 HKP q4 y0 y1 y2 y3 y4 y5 k30 HD4 HD3
      go_wp2_with fail
      refine HSET.out.mono ?_
      rintro e w6 ⟨rfl, va6, vo6, D6⟩
      have hb1 : w6.heap.size < (w6.alloc (.cells #[.int .i64 id] 3)).heap.size := by simp
      have D7 := (D6.fr0 ((Fr.refl [] w6).alloc (.cells #[.int .i64 id] 3))).addBox (.inr (.inr (.inl rfl))) (block_alloc_new w6 (.cells #[.int .i64 id] 3))
      have HRU := Lib.hid (runs_spec (ids := [id]) D7 HKO.out (v := .slice (some ⟨w6.heap.size, 0, none⟩) 1 1) ⟨⟨_, 1, rfl⟩, fun j hj => ⟨w6.heap.size, 0, 1, _, rfl, List.mem_cons_self .., by simp at hj; subst hj; rfl⟩⟩ (by simp))
      clear D6 D7 HSET k50 k58
      go_wp2_with fail
      refine HRU.out.mono ?_
      rintro e w8 ⟨rfl, va8, vo8, D8⟩
      have HRU2 := Lib.hid (runs_spec D8.dropBox (HKO.out.runs [id]) HI.out (by omega))
      clear D8 HRU
      go_wp2_with fail
      refine HRU2.out.mono ?_
      rintro e w9 ⟨rfl, va9, vo9, D9⟩
      have HD9 := Lib.hid D9
      clear D9 HRU2
      go_wp2_with fail
      go_end0
      rw [DS.offer_in11 HR.out HA.out, HT.out]
      exact DeedR.mk (HD9.out.sub (fun p hp => List.mem_append_right _ (HSB.out p hp)))
    · have k30 := HD3.out.dc.x0
      have HD4 := HD3
      obtain ⟨y0, y1, y2, y3, y4, y5⟩ := six (HD4.out.box _ (List.mem_append_right _ HYM.out)).2
      have HKP := Lib.hid (fun (w' : World) (F : Fr [] w3 w') => keep_spec (HD4.out.fr0 F) HV.out (by omega))
      have q4 := (HD4.out.fr0 (Fr.refl [] w3).drew).dc.x0
      have q6 := six ((HD4.out.fr0 (Fr.refl [] w3).drew).box _ (List.mem_append_right _ HYM.out)).2
      go_wp2_with fail
      go_region_held3 (fun w' => w'.cell? ⟨x, 0, none⟩ = some (.pointer (some ⟨A.d, 0, none⟩)) ∧ w'.cell? ⟨w.heap.size, 0, none⟩ = some (.slice a0 c.nargs c0) ∧ w'.cell? ⟨w.heap.size, 1, none⟩ = some (.slice am c.ms.length cm) ∧ w'.cell? ⟨w.heap.size, 2, none⟩ = some (.int .i64 c.st) ∧ w'.cell? ⟨w.heap.size, 3, none⟩ = some (.int .i64 c.step) ∧ w'.cell? ⟨w.heap.size, 4, none⟩ = some (.int .i64 c.cause) ∧ w'.cell? ⟨w.heap.size, 5, none⟩ = some (.int .u64 c.start))
        (first | exact ⟨q4, q6⟩ | exact ⟨D5.dc.x0, six (D5.box _ (List.mem_append_right _ HYM.out)).2⟩)
        (first | (go_at_call 58; refine (HKP.out _ (by with_reducible repeat (first | exact Fr.refl _ _ | apply Fr.drew))).mono ?_; rintro e w5 ⟨rfl, va5, vo5, D5⟩))
      have k50 := D5.dc.x0
      have k58 : w5.cell? ⟨A.d, 8, none⟩ = some (.int .u64 σ.M.k.t) := D5.dep.cells.2.2.2.2.2.2.2.2.2.1.trans (by rw [DepM.keep_k])
      rw [HT2.out] at k58
      have HSET := Lib.hid (set_spec D5 hnow hac id t)
      have HKO := Lib.hid ((DepM.ok.keep (M := { σ.M with br := b1, run := h1, wait := w1, probe := σ.M.probe }) HOK.out ⟨hm, hs0, hs3⟩))
      clear D5 HKP q4 y0 y1 y2 y3 y4 y5 k30 HD4 HD3
      go_wp2_with fail
      refine HSET.out.mono ?_
      rintro e w6 ⟨rfl, va6, vo6, D6⟩
      have HRU2 := Lib.hid (runs_spec D6 HKO.out HI.out (by omega))
      clear D6 HSET k50 k58
      go_wp2_with fail
      refine HRU2.out.mono ?_
      rintro e w9 ⟨rfl, va9, vo9, D9⟩
      have HD9 := Lib.hid D9
      clear D9 HRU2
      go_wp2_with fail
      go_end0
      rw [DS.offer_in12 HR.out HA.out, HT.out]
      exact DeedR.mk (HD9.out.sub (fun p hp => List.mem_append_right _ (HSB.out p hp)))
    · have HD3' := Lib.hid (HD3.out.sub (bs' := bs1) (fun p hp => List.mem_append_right _ hp))
      clear HD3
      have k30 := HD3'.out.dc.x0
      have HD4 := HD3'
      have HCO := Lib.hid (count_spec HD4.out hnow hwl id 3 (by decide))
      clear HD4
      go_wp2_with fail
      refine HCO.out.mono ?_
      rintro e w5 ⟨rfl, va5, vo5, D5⟩
      have HD5 := Lib.hid D5
      clear D5 HCO
      have HFALL := Lib.hid (fall_spec HD5.out hnow hac hou HV.out hm hs0 hs3 3)
      obtain ⟨y0, y1, y2, y3, y4, y5⟩ := six (HD5.out.box _ HYM.out).2
      go_wp2_with fail
      refine HFALL.out.mono ?_
      rintro e wz ⟨rfl, vaz, voz, Dz⟩
      have HDz := Lib.hid Dz
      clear Dz HFALL y0 y1 y2 y3 y4 y5
      go_wp2_with fail
      go_end0
      rw [DS.offer_rej1 HR.out HA.out]
      exact DeedR.mk (HDz.out.sub HSB.out)
  · have HAD := Lib.hid (HD2.out.dep.bulk.admitM id)
    have hhow := admit_how σ.M.pool σ.M.que σ.M.run σ.M.wait id
    have hlen := admit_len σ.M.pool σ.M.que σ.M.run σ.M.wait id
    change Hid (Calls _ _ _ _ (fun e w' => ∃ v, e = .returned (.tuple #[.int .i64 (admitM σ.M.pool σ.M.que σ.M.run σ.M.wait id).2.2.1, v]) ∧ Lst w' w2.heap.size v (admitM σ.M.pool σ.M.que σ.M.run σ.M.wait id).2.2.2 ∧ IsBulk w' A.blk A.s A.r A.g (admitM σ.M.pool σ.M.que σ.M.run σ.M.wait id).1 (admitM σ.M.pool σ.M.que σ.M.run σ.M.wait id).2.1 σ.M.pool σ.M.que ∧ Fr [A.r, A.g] w2 w' ∧ IntT w' v)) at HAD
    generalize ha : admitM σ.M.pool σ.M.que σ.M.run σ.M.wait id = a at *
    obtain ⟨h1, w1, how, ids⟩ := a
    have HA := Lib.hid ha
    simp only at hhow HAD hlen
    have HHO := Lib.hid hhow
    clear ha hhow
    have k20 := HD2.out.dc.x0
    have k21 := HD2.out.dc.d1
    go_wp2_with fail
    refine HAD.out.mono ?_
    rintro e w3 ⟨vo3, rfl, L3, B3, F3, T3⟩
    have D3 := HD2.out.setBulk F3 B3
    obtain ⟨bx, HI, HBX⟩ := ids_box L3 T3 bs1
    have HI := Lib.hid HI
    have HD3 := Lib.hid (D3.addBoxes HBX)
    obtain ⟨ao3, cap3, e3⟩ := HI.out.1
    subst e3
    clear D3 B3 F3 T3 L3 HBX HAD HD2 k20 k21
    rcases HHO.out with rfl | rfl | rfl
    · have k30 := HD3.out.dc.x0
      have f22 := HD3.out.dep.cells.2.2.2.2.2.2.2.1
      have HD4 := Lib.hid (HD3.out.setProbe id)
      have c22 := HD3.out.dc.d22
      obtain ⟨y0, y1, y2, y3, y4, y5⟩ := six (HD4.out.box _ (List.mem_append_right _ HYM.out)).2
      have k40 := HD4.out.dc.x0
      clear HD3
      have HKP := Lib.hid (fun (w' : World) (F : Fr [] (w3.setCell ⟨A.d, 22, none⟩ (.int .i64 id)) w') => keep_spec (HD4.out.fr0 F) HV.out (by omega))
      have q4 := (HD4.out.fr0 (Fr.refl [] (w3.setCell ⟨A.d, 22, none⟩ (.int .i64 id))).drew).dc.x0
      have q6 := six ((HD4.out.fr0 (Fr.refl [] (w3.setCell ⟨A.d, 22, none⟩ (.int .i64 id))).drew).box _ (List.mem_append_right _ HYM.out)).2
      go_wp2_with fail
      go_region_held3 (fun w' => w'.cell? ⟨x, 0, none⟩ = some (.pointer (some ⟨A.d, 0, none⟩)) ∧ w'.cell? ⟨w.heap.size, 0, none⟩ = some (.slice a0 c.nargs c0) ∧ w'.cell? ⟨w.heap.size, 1, none⟩ = some (.slice am c.ms.length cm) ∧ w'.cell? ⟨w.heap.size, 2, none⟩ = some (.int .i64 c.st) ∧ w'.cell? ⟨w.heap.size, 3, none⟩ = some (.int .i64 c.step) ∧ w'.cell? ⟨w.heap.size, 4, none⟩ = some (.int .i64 c.cause) ∧ w'.cell? ⟨w.heap.size, 5, none⟩ = some (.int .u64 c.start))
        (first | exact ⟨q4, q6⟩ | exact ⟨D5.dc.x0, six (D5.box _ (List.mem_append_right _ HYM.out)).2⟩)
        (first | (go_at_call 58; refine (HKP.out _ (by with_reducible repeat (first | exact Fr.refl _ _ | apply Fr.drew))).mono ?_; rintro e w5 ⟨rfl, va5, vo5, D5⟩))
      have k50 := D5.dc.x0
      have k58 : w5.cell? ⟨A.d, 8, none⟩ = some (.int .u64 σ.M.k.t) := D5.dep.cells.2.2.2.2.2.2.2.2.2.1.trans (by rw [DepM.keep_k])
      rw [HT2.out] at k58
      have HSET := Lib.hid (set_spec D5 hnow hac id t)
      have HKO := Lib.hid ((DepM.ok.keep (M := { σ.M with br := b1, run := h1, wait := w1, probe := id }) HOK.out ⟨hm, hs0, hs3⟩))
      clear D5 HKP q4 y0 y1 y2 y3 y4 y5 k30 HD4 k40 f22 c22
      go_wp2_with fail
      refine HSET.out.mono ?_
      rintro e w6 ⟨rfl, va6, vo6, D6⟩
      have hb1 : w6.heap.size < (w6.alloc (.cells #[.int .i64 id] 3)).heap.size := by simp
      have D7 := (D6.fr0 ((Fr.refl [] w6).alloc (.cells #[.int .i64 id] 3))).addBox (.inr (.inr (.inl rfl))) (block_alloc_new w6 (.cells #[.int .i64 id] 3))
      have HRU := Lib.hid (runs_spec (ids := [id]) D7 HKO.out (v := .slice (some ⟨w6.heap.size, 0, none⟩) 1 1) ⟨⟨_, 1, rfl⟩, fun j hj => ⟨w6.heap.size, 0, 1, _, rfl, List.mem_cons_self .., by simp at hj; subst hj; rfl⟩⟩ (by simp))
      clear D6 D7 HSET k50 k58
      go_wp2_with fail
      refine HRU.out.mono ?_
      rintro e w8 ⟨rfl, va8, vo8, D8⟩
      have HRU2 := Lib.hid (runs_spec D8.dropBox (HKO.out.runs [id]) HI.out (by omega))
      clear D8 HRU
      go_wp2_with fail
      refine HRU2.out.mono ?_
      rintro e w9 ⟨rfl, va9, vo9, D9⟩
      have HD9 := Lib.hid D9
      clear D9 HRU2
      go_wp2_with fail
      go_end0
      rw [DS.offer_in21 HR.out HA.out, HT.out]
      exact DeedR.mk (HD9.out.sub (fun p hp => List.mem_append_right _ (HSB.out p hp)))
    · have k30 := HD3.out.dc.x0
      have f22 := HD3.out.dep.cells.2.2.2.2.2.2.2.1
      have HD4 := Lib.hid (HD3.out.setProbe id)
      have c22 := HD3.out.dc.d22
      obtain ⟨y0, y1, y2, y3, y4, y5⟩ := six (HD4.out.box _ (List.mem_append_right _ HYM.out)).2
      have k40 := HD4.out.dc.x0
      clear HD3
      have HKP := Lib.hid (fun (w' : World) (F : Fr [] (w3.setCell ⟨A.d, 22, none⟩ (.int .i64 id)) w') => keep_spec (HD4.out.fr0 F) HV.out (by omega))
      have q4 := (HD4.out.fr0 (Fr.refl [] (w3.setCell ⟨A.d, 22, none⟩ (.int .i64 id))).drew).dc.x0
      have q6 := six ((HD4.out.fr0 (Fr.refl [] (w3.setCell ⟨A.d, 22, none⟩ (.int .i64 id))).drew).box _ (List.mem_append_right _ HYM.out)).2
      go_wp2_with fail
      go_region_held3 (fun w' => w'.cell? ⟨x, 0, none⟩ = some (.pointer (some ⟨A.d, 0, none⟩)) ∧ w'.cell? ⟨w.heap.size, 0, none⟩ = some (.slice a0 c.nargs c0) ∧ w'.cell? ⟨w.heap.size, 1, none⟩ = some (.slice am c.ms.length cm) ∧ w'.cell? ⟨w.heap.size, 2, none⟩ = some (.int .i64 c.st) ∧ w'.cell? ⟨w.heap.size, 3, none⟩ = some (.int .i64 c.step) ∧ w'.cell? ⟨w.heap.size, 4, none⟩ = some (.int .i64 c.cause) ∧ w'.cell? ⟨w.heap.size, 5, none⟩ = some (.int .u64 c.start))
        (first | exact ⟨q4, q6⟩ | exact ⟨D5.dc.x0, six (D5.box _ (List.mem_append_right _ HYM.out)).2⟩)
        (first | (go_at_call 58; refine (HKP.out _ (by with_reducible repeat (first | exact Fr.refl _ _ | apply Fr.drew))).mono ?_; rintro e w5 ⟨rfl, va5, vo5, D5⟩))
      have k50 := D5.dc.x0
      have k58 : w5.cell? ⟨A.d, 8, none⟩ = some (.int .u64 σ.M.k.t) := D5.dep.cells.2.2.2.2.2.2.2.2.2.1.trans (by rw [DepM.keep_k])
      rw [HT2.out] at k58
      have HSET := Lib.hid (set_spec D5 hnow hac id t)
      have HKO := Lib.hid ((DepM.ok.keep (M := { σ.M with br := b1, run := h1, wait := w1, probe := id }) HOK.out ⟨hm, hs0, hs3⟩))
      clear D5 HKP q4 y0 y1 y2 y3 y4 y5 k30 HD4 k40 f22 c22
      go_wp2_with fail
      refine HSET.out.mono ?_
      rintro e w6 ⟨rfl, va6, vo6, D6⟩
      have HRU2 := Lib.hid (runs_spec D6 HKO.out HI.out (by omega))
      clear D6 HSET k50 k58
      go_wp2_with fail
      refine HRU2.out.mono ?_
      rintro e w9 ⟨rfl, va9, vo9, D9⟩
      have HD9 := Lib.hid D9
      clear D9 HRU2
      go_wp2_with fail
      go_end0
      rw [DS.offer_in22 HR.out HA.out, HT.out]
      exact DeedR.mk (HD9.out.sub (fun p hp => List.mem_append_right _ (HSB.out p hp)))
    · have HD3' := Lib.hid (HD3.out.sub (bs' := bs1) (fun p hp => List.mem_append_right _ hp))
      clear HD3
      have k30 := HD3'.out.dc.x0
      have k31 := HD3'.out.dc.d0
      have HBK := Lib.hid (HD3'.out.dep.brk.backC)
      go_wp2_with fail
      refine HBK.out.mono ?_
      rintro e w4 ⟨⟨rb, rfl⟩, B4, F4⟩
      have HD4 := Lib.hid (HD3'.out.setBrk F4 B4)
      clear B4 F4 HBK HD3' k30 k31
      have HCO := Lib.hid (count_spec HD4.out hnow hwl id 3 (by decide))
      clear HD4
      go_wp2_with fail
      refine HCO.out.mono ?_
      rintro e w5 ⟨rfl, va5, vo5, D5⟩
      have HD5 := Lib.hid D5
      clear D5 HCO
      have HFALL := Lib.hid (fall_spec HD5.out hnow hac hou HV.out hm hs0 hs3 3)
      obtain ⟨y0, y1, y2, y3, y4, y5⟩ := six (HD5.out.box _ HYM.out).2
      go_wp2_with fail
      refine HFALL.out.mono ?_
      rintro e wz ⟨rfl, vaz, voz, Dz⟩
      have HDz := Lib.hid Dz
      clear Dz HFALL y0 y1 y2 y3 y4 y5
      go_wp2_with fail
      go_end0
      rw [DS.offer_rej2 HR.out HA.out]
      exact DeedR.mk (HDz.out.sub HSB.out)
  · have HAD := Lib.hid (winAdd_spec ((HD2.out.fr0 (Fr.refl [] w2).drew).dep.win) now hnow 4 (by decide) hwl)
    have hqb := (HD2.out.fr0 (Fr.refl [] w2).drew).dc
    have kb0 := HD2.out.dc.x0
    go_wp2_with fail
    go_region_held3 (fun w' => w'.cell? ⟨x, 0, none⟩ = some (.pointer (some ⟨A.d, 0, none⟩)) ∧ w'.cell? ⟨A.d, 19, none⟩ = some (.pointer (some ⟨A.wi, 0, none⟩)) ∧ w'.cell? ⟨x, 3, none⟩ = some (.int .u64 now))
      (first | exact ⟨hqb.x0, hqb.d19, hqb.x3⟩ | exact ⟨D3.dc.x0, D3.dc.d19, D3.dc.x3⟩)
      (first | (go_at_call 116; refine HAD.out.mono ?_; rintro e w3 ⟨rfl, B3, F3⟩; have D3 := (HD2.out.fr0 (Fr.refl [] w2).drew).setWin F3 B3))
    have HD3 := Lib.hid D3
    clear D3 B3 F3 HAD HD2 hqb kb0
    have HFALL := Lib.hid (fall_spec HD3.out hnow hac hou HV.out hm hs0 hs3 4)
    obtain ⟨y0, y1, y2, y3, y4, y5⟩ := six (HD3.out.box _ HYM.out).2
    go_wp2_with fail
    refine HFALL.out.mono ?_
    rintro e wz ⟨rfl, vaz, voz, Dz⟩
    have HDz := Lib.hid Dz
    clear Dz HFALL y0 y1 y2 y3 y4 y5
    go_wp2_with fail
    go_end0
    rw [DS.offer_short HR.out]
    exact DeedR.mk (HDz.out.sub HSB.out)
end Go.Proofs.YtcnkhjgpjchkeaaGreat

namespace Go.Proofs.YtcnkhjgpjchkeaaGreat
open Go.RowKit

/-- A deed that has just been made. -/
theorem DeedV.start {w w1 : World} {A : DepA} {M : DepM} (h : IsDep w A M) (k : Fr [] w w1) {hb : Bx} (hx : ∀ p ∈ hb, (p.2.2 = 134 ∨ p.2.2 = 91 ∨ p.2.2 = 3 ∨ p.2.2 = 57) ∧ w1.heap[p.1]? = some (.cells p.2.1 p.2.2 (0, 0))) (now : Nat) :
    DeedV hb w (w1.alloc (.cells #[.pointer (some ⟨A.d, 0, none⟩), .slice none 0 0, .slice none 0 0, .int .u64 now] 142)) w1.heap.size A now ⟨M, [], []⟩ (.slice none 0 0) (.slice none 0 0) where
  fr := (k.mono (by simp)).alloc _
  dep := h.fr0 (k.alloc _)
  calls := by
    obtain ⟨vs, h1, h2⟩ := h.calls
    exact ⟨vs, h1.fr (k.alloc _) (by simp), h2⟩
  low := by
    obtain ⟨_, _, hw⟩ := h.win
    obtain ⟨cw, hw1, _⟩ := hw
    obtain ⟨_, _, hh⟩ := h.took
    obtain ⟨ch, hh1, _⟩ := hh
    obtain ⟨vs, hc, _⟩ := h.calls
    obtain ⟨_, _, hc1⟩ := hc.obj
    obtain ⟨_, _, hs1⟩ := h.bulk.set.2.1.obj
    obtain ⟨_, _, hf1⟩ := h.falls.2.1.obj
    obtain ⟨_, hr1⟩ := h.bulk.ring.obj
    intro s hs
    simp only [DepA.list, List.mem_cons, List.not_mem_nil, or_false] at hs
    rcases hs with rfl | rfl | rfl | rfl | rfl | rfl | rfl | rfl | rfl | rfl | rfl
    · exact lt_of_block h.blk
    · exact lt_of_block h.brk
    · exact lt_of_block h.bulk.blk
    · exact lt_of_block h.bulk.set.1
    · exact lt_of_block hs1
    · exact lt_of_block hr1
    · exact lt_of_block h.falls.1
    · exact lt_of_block hf1
    · exact lt_of_block hw1
    · exact lt_of_block hh1
    · exact lt_of_block hc1
  nomem := h.nomem
  hx := k.size
  blk := block_alloc_new _ _
  acts := World.ownsRow_nil _ _ _ _
  outs := World.ownsRow_nil _ _ _ _
  box := fun p hp => ⟨(hx p hp).1, block_alloc (hx p hp).2 _⟩
/-- The function tells a result, and an error; the dependency stands so. -/
def PubR (w : World) (A : DepA) (σ : DS) (err : Int) (e : Ending) (w' : World) : Prop :=
  ∃ va vo, e = .returned (.tuple #[.agg #[va, vo], .int .i64 err]) ∧ IsDep w' A σ.M ∧ Fr A.list w w' ∧ w'.ownsRow w.heap.size 95 3 va σ.ac.length (σ.ac.flatMap ActM.cells) ∧ w'.ownsRow w.heap.size 87 5 vo σ.ou.length (σ.ou.flatMap Ou.cells)
theorem PubR.nothing {w w' : World} {A : DepA} {M : DepM} (err : Int) (h : IsDep w' A M) (k : Fr A.list w w') : PubR w A ⟨M, [], []⟩ err (.returned (.tuple #[.agg #[.slice none 0 0, .slice none 0 0], .int .i64 err])) w' :=
  ⟨_, _, rfl, h, k, World.ownsRow_nil _ _ _ _, World.ownsRow_nil _ _ _ _⟩
theorem PubR.mk {bs : Bx} {w w' : World} {x : Nat} {A : DepA} {now : Nat} {σ : DS} {va vo : Value} (D : DeedV bs w w' x A now σ va vo) {err : Int} {e : Ending} (he : e = .returned (.tuple #[.agg #[va, vo], .int .i64 err])) : PubR w A σ err e w' :=
  ⟨va, vo, he, D.dep, D.fr, D.acts, D.outs⟩

theorem knows_nil (w : World) (id : Int) : Calls Tryz.prog 17 #[.pointer none, .int .i64 id] w fun e w' => e = .returned (.bool false) ∧ w' = w := by
  go_enter Tryz.func17, Tryz.ntmps17
  go_wp2
  go_ret
  exact ⟨rfl, rfl⟩
def DepM.knows (M : DepM) (id : Int) : Bool := (alook M.calls id).isSome
set_option maxHeartbeats 1000000 in
theorem knows_spec {w : World} {A : DepA} {M : DepM} (h : IsDep w A M) (id : Int) : Calls Tryz.prog 17 #[.pointer (some ⟨A.d, 0, none⟩), .int .i64 id] w fun e w' => e = .returned (.bool (M.knows id)) ∧ Fr [] w w' := by
  obtain ⟨vs, h1, h2⟩ := h.calls
  have hl := run_look (keyOk_int (P := Tryz.prog) Tryz.underlying3) Tryz.underlying108 zeroCall h1 id true
  have kd := h.cells.2.2.2.2.2.1
  have hkn : Hid ((look vs id).isSome = M.knows id) := Lib.hid (by
    unfold DepM.knows
    rcases h2.look id with ⟨e1, e2⟩ | ⟨v, c, e1, e2, -⟩ <;> rw [e1, e2] <;> rfl)
  have hform : ∃ (u0 u1 : Option Addr × Nat × Nat) (u2 u3 u4 u5 : Int), (look vs id).getD (.agg #[.slice none 0 0, .slice none 0 0, .int .i64 0, .int .i64 0, .int .i64 0, .int .u64 0]) = .agg #[.slice u0.1 u0.2.1 u0.2.2, .slice u1.1 u1.2.1 u1.2.2, .int .i64 u2, .int .i64 u3, .int .i64 u4, .int .u64 u5] := by
    rcases h2.look id with ⟨e1, e2⟩ | ⟨v, c, e1, e2, ⟨va, vm, rfl, ⟨a0, c0, rfl⟩, ⟨a1, c1, rfl, -⟩⟩⟩
    · rw [e2]; exact ⟨⟨none, 0, 0⟩, ⟨none, 0, 0⟩, 0, 0, 0, 0, rfl⟩
    · rw [e2]; exact ⟨⟨a0, c.nargs, c0⟩, ⟨a1, c.ms.length, c1⟩, c.st, c.step, c.cause, (c.start : Int), rfl⟩
  obtain ⟨⟨u01, u02, u03⟩, ⟨u11, u12, u13⟩, u2, u3, u4, u5, hf⟩ := hform
  simp only [encI, if_true, hf] at hl
  rw [hkn.out] at hl
  have hz := zeroCall w
  clear h h1 h2 hf hkn
  go_enter Tryz.func17, Tryz.ntmps17
  go_wp2_with fail
  go_ret
  exact ⟨rfl, (Fr.refl [] w).alloc _⟩
end Go.Proofs.YtcnkhjgpjchkeaaGreat

namespace Go.Proofs.YtcnkhjgpjchkeaaGreat
open Go.RowKit

theorem ownsRow_lower {w : World} {base base' : Nat} {e : TypeId} {size : Nat} {v : Value} {n : Nat} {xs : List Value} (h : w.ownsRow base e size v n xs) (hb : base' ≤ base) : w.ownsRow base' e size v n xs := by
  obtain ⟨h1, h2⟩ := h
  rcases h2 with h2 | ⟨g, cap, cur, hv, hg, r⟩
  · exact ⟨h1, .inl h2⟩
  · exact ⟨h1, .inr ⟨g, cap, cur, hv, Nat.le_trans hb hg, r⟩⟩
theorem PubR.mk2 {bs : Bx} {w w0 w' : World} {x : Nat} {A : DepA} {now : Nat} {σ : DS} {va vo : Value} (k : Fr A.list w w0) (D : DeedV bs w0 w' x A now σ va vo) {err : Int} {e : Ending} (he : e = .returned (.tuple #[.agg #[va, vo], .int .i64 err])) : PubR w A σ err e w' :=
  ⟨va, vo, he, D.dep, k.trans D.fr, ownsRow_lower D.acts k.size, ownsRow_lower D.outs k.size⟩
/-- What a result's box is told in the end. -/
theorem PubR.finish {bs : Bx} {w w0 w' : World} {x y : Nat} {A : DepA} {now : Nat} {σ : DS} {va vo : Value} (k : Fr A.list w w0) (D : DeedV bs w0 w' x A now σ va vo) {cs : Array Value} (hy : (y, cs, 57) ∈ bs) (hyw : w.heap.size ≤ y) {err : Int} {e : Ending} (he : e = .returned (.tuple #[.agg #[va, vo], .int .i64 err])) (u0 u1 : Value) :
    PubR w A σ err e ((w'.setCell ⟨y, 0, none⟩ u0).setCell ⟨y, 1, none⟩ u1) := by
  have hb := (D.box _ hy).2
  have k1 : Fr [y] w' ((w'.setCell ⟨y, 0, none⟩ u0).setCell ⟨y, 1, none⟩ u1) := ((Fr.refl _ _).setCell (p := ⟨y, 0, none⟩) (.inl (by simp)) _).setCell (p := ⟨y, 1, none⟩) (.inl (by simp)) _
  have hn : ∀ s ∈ A.list, s ∉ [y] := fun s hs h => by
    simp at h; subst h
    exact D.dep.nobox (D.box _ hy).1 _ hs _ _ hb
  have hm : NoMem w' [y] := NoMem.cons (NoMem.nil w') hb (by intro _ _ e; simp only [Obj.cells.injEq] at e; exact absurd e.2.1 (by decide))
  refine ⟨va, vo, he, D.dep.fr k1 hn hm, (k.trans D.fr).trans' k1 (fun s hs => .inr (by simp at hs; subst hs; exact hyw)), ownsRow_fr (ownsRow_lower D.acts k.size) k1 ?_, ownsRow_fr (ownsRow_lower D.outs k.size) k1 ?_⟩
  · intro g hg hs; simp at hs; exact owns_neD D.acts hb (by show (95 : TypeId) ≠ 57; decide) g hg hs
  · intro g hg hs; simp at hs; exact owns_neD D.outs hb (by show (87 : TypeId) ≠ 57; decide) g hg hs

theorem pick_nilD (w : World) (now : Nat) : Calls Tryz.prog 39 #[.pointer none, .int .u64 now] w fun e w' => e = .returned (.tuple #[.agg #[.slice none 0 0, .slice none 0 0], .int .i64 1]) ∧ Fr [] w w' := by
  go_enter Tryz.func39, Tryz.ntmps39
  go_wp2
  refine bodyPost_ret (v := .tuple #[.agg #[.slice none 0 0, .slice none 0 0], .int .i64 1]) (by simp [results, Tryz.results39, go_sem]) rfl ?_
  exact ⟨rfl, (Fr.refl _ _).alloc _⟩
def DepM.pick (M : DepM) : DepM × Int := if M.run.length < M.pool then (match M.wait with | [] => (M, 3) | x :: ws => (({ M with run := M.run ++ [x], wait := ws } : DepM).runs [x], 0)) else (M, 3)
set_option maxHeartbeats 4000000 in
set_option maxRecDepth 20000 in
theorem pickD_yes {w : World} {A : DepA} {M : DepM} (h : IsDep w A M) (now : Nat) (hok : M.ok) {y : Int} {ws : List Int} (hw : M.wait = y :: ws) (hm : M.run.length < M.pool) :
    Calls Tryz.prog 39 #[.pointer (some ⟨A.d, 0, none⟩), .int .u64 now] w (PubR w A ⟨({ M with run := M.run ++ [y], wait := ws } : DepM).runs [y], [], []⟩ 0) := by
  have h1 := h.fr0 ((Fr.refl [] w).alloc (.cells #[.slice none 0 0, .slice none 0 0] 57))
  have hbk := h1.bulk
  rw [hw] at hbk
  have HPK := Lib.hid (hbk.pick_yes hm)
  have H1 := Lib.hid h1
  have HR := block_alloc_new w (.cells #[.slice none 0 0, .slice none 0 0] 57)
  have HF := Lib.hid ((Fr.refl A.list w).alloc (.cells #[.slice none 0 0, .slice none 0 0] 57))
  have kd := h1.cells.2.1
  have HOK := Lib.hid hok
  have hne : w.heap.size ∉ [A.r, A.g] := by
    intro hs; simp at hs
    have := h.bulk.set.2.1.lt
    have := lt_of_block h.bulk.ring.obj.choose_spec
    omega
  have hz : (zeroValue 57).run Tryz.prog w = .ok (.agg #[.slice none 0 0, .slice none 0 0]) w := by kernel_rfl
  clear h h1 hbk hw hok
  go_enter Tryz.func39, Tryz.ntmps39
  go_wp2_with fail
  refine HPK.out.mono ?_
  rintro e w2 ⟨rfl, B2, F2⟩
  have h2 := H1.out.setBulk F2 B2
  have hr2 := F2.keep HR hne
  have D0 := DeedV.start h2 (Fr.refl [] w2) (hb := [(w.heap.size, #[.slice none 0 0, .slice none 0 0], 57)]) (by intro p hp; simp at hp; subst hp; exact ⟨.inr (.inr (.inr rfl)), hr2⟩) now
  have k2 := Lib.hid (HF.out.trans (F2.mono (S' := A.list) (by intro x hx; left; simp at hx; rcases hx with rfl | rfl <;> simp [DepA.list])))
  have hyw := Lib.hid (Nat.le_refl w.heap.size)
  clear h2 B2 F2 hr2 HR HPK H1 kd hne HF
  have D1 := (D0.fr0 ((Fr.refl [] _).alloc (.cells #[.int .i64 y] 3))).addBox (.inr (.inr (.inl rfl))) (block_alloc_new _ (.cells #[.int .i64 y] 3))
  have HRU := Lib.hid (runs_spec (ids := [y]) D1 HOK.out (v := .slice (some ⟨(w2.alloc (.cells #[.pointer (some ⟨A.d, 0, none⟩), .slice none 0 0, .slice none 0 0, .int .u64 now] 142)).heap.size, 0, none⟩) 1 1) ⟨⟨_, 1, rfl⟩, fun j hj => ⟨_, 0, 1, _, rfl, List.mem_cons_self .., by simp at hj; subst hj; rfl⟩⟩ (by simp))
  rw [World.size_alloc] at HRU
  clear D0 D1
  go_wp2_with fail
  refine HRU.out.mono ?_
  rintro e w3 ⟨rfl, va, vo, D3⟩
  obtain ⟨ao3, cap3, rfl⟩ := ownsFormD D3.acts
  obtain ⟨ao4, cap4, rfl⟩ := ownsFormD D3.outs
  have D4 := Lib.hid D3.dropBox
  obtain ⟨k0, k1, k2', -, -, -⟩ := D3.cells
  have hb := (D3.dropBox.box _ (List.mem_cons_self ..)).2
  have r0 : w3.cell? ⟨w.heap.size, 0, none⟩ = some (.slice none 0 0) := (cell_of_block hb 0).trans rfl
  have r1 : w3.cell? ⟨w.heap.size, 1, none⟩ = some (.slice none 0 0) := (cell_of_block hb 1).trans rfl
  have g0 := free_of_block hb 0
  have g1 := free_of_block hb 1
  clear D3 hb HRU
  go_wp2_with fail
  refine bodyPost_ret (v := .tuple #[.agg #[.slice ao3 0 cap3, .slice ao4 0 cap4], .int .i64 0]) (by simp [results, Tryz.results39, go_sem, r0, r1]) rfl ?_
  exact PubR.finish k2.out D4.out (List.mem_cons_self ..) hyw.out rfl _ _
set_option maxHeartbeats 4000000 in
theorem pickD_no {w : World} {A : DepA} {M : DepM} (h : IsDep w A M) (now : Nat) (hno : M.run.length = M.pool ∨ M.wait = []) :
    Calls Tryz.prog 39 #[.pointer (some ⟨A.d, 0, none⟩), .int .u64 now] w (PubR w A ⟨M, [], []⟩ 3) := by
  have h1 := h.fr0 ((Fr.refl [] w).alloc (.cells #[.slice none 0 0, .slice none 0 0] 57))
  have HPK := Lib.hid (h1.bulk.pick_no hno)
  have H1 := Lib.hid h1
  have HR := block_alloc_new w (.cells #[.slice none 0 0, .slice none 0 0] 57)
  have HF := Lib.hid ((Fr.refl A.list w).alloc (.cells #[.slice none 0 0, .slice none 0 0] 57))
  have kd := h1.cells.2.1
  have hne : w.heap.size ∉ [A.r, A.g] := by
    intro hs; simp at hs
    have := h.bulk.set.2.1.lt
    have := lt_of_block h.bulk.ring.obj.choose_spec
    omega
  have hz : (zeroValue 57).run Tryz.prog w = .ok (.agg #[.slice none 0 0, .slice none 0 0]) w := by kernel_rfl
  clear h h1 hno
  go_enter Tryz.func39, Tryz.ntmps39
  go_wp2_with fail
  refine HPK.out.mono ?_
  rintro e w2 ⟨rfl, B2, F2⟩
  have h2 := H1.out.setBulk F2 B2
  have hb := F2.keep HR hne
  have r0 : w2.cell? ⟨w.heap.size, 0, none⟩ = some (.slice none 0 0) := (cell_of_block hb 0).trans rfl
  have r1 : w2.cell? ⟨w.heap.size, 1, none⟩ = some (.slice none 0 0) := (cell_of_block hb 1).trans rfl
  have g0 := free_of_block hb 0
  have g1 := free_of_block hb 1
  have k2 := HF.out.trans (F2.mono (S' := A.list) (by intro x hx; left; simp at hx; rcases hx with rfl | rfl <;> simp [DepA.list]))
  have kz : Fr [w.heap.size] w2 ((w2.setCell ⟨w.heap.size, 0, none⟩ (.slice none 0 0)).setCell ⟨w.heap.size, 1, none⟩ (.slice none 0 0)) := ((Fr.refl _ _).setCell (p := ⟨w.heap.size, 0, none⟩) (.inl (by simp)) _).setCell (p := ⟨w.heap.size, 1, none⟩) (.inl (by simp)) _
  have hn : ∀ s ∈ A.list, s ∉ [w.heap.size] := fun s hs h => by
    simp at h; subst h
    exact h2.nobox (.inr (.inr (.inr rfl))) _ hs _ _ hb
  have h3 := Lib.hid (h2.fr kz hn (NoMem.cons (NoMem.nil w2) hb (by intro _ _ e; cases e)))
  have k3 := Lib.hid (k2.trans' kz (fun s hs => .inr (by simp at hs; subst hs; exact Nat.le_refl _)))
  clear h2 hb B2 F2 k2 kz HF HR H1 HPK
  go_wp2_with fail
  refine bodyPost_ret (v := .tuple #[.agg #[.slice none 0 0, .slice none 0 0], .int .i64 3]) (by simp [results, Tryz.results39, go_sem, r0, r1]) rfl ?_
  exact PubR.nothing 3 h3.out k3.out
theorem pickD_spec {w : World} {A : DepA} {M : DepM} (h : IsDep w A M) (now : Nat) (hok : M.ok) :
    Calls Tryz.prog 39 #[.pointer (some ⟨A.d, 0, none⟩), .int .u64 now] w (PubR w A ⟨M.pick.1, [], []⟩ M.pick.2) := by
  unfold DepM.pick
  by_cases hm : M.run.length < M.pool
  · rw [if_pos hm]
    cases hw : M.wait with
    | nil => exact pickD_no h now (.inr hw)
    | cons y ws => exact pickD_yes h now hok hw hm
  · rw [if_neg hm]
    exact pickD_no h now (.inl (by have := h.bulk.set.2.2.1; simp [own0] at this; omega))

/-! ### Offer -/
def DepM.offer (M : DepM) (now : Nat) (nargs : Nat) (ms : List (Int × Int)) : DS × Int :=
  if leadOf ms < 1 then (⟨M, [], []⟩, 1) else if M.knows (leadOf ms) = true then (⟨M, [], []⟩, 4) else (DS.offer ⟨M, [], []⟩ now (leadOf ms) ⟨nargs, ms, 1, 0, 0, now⟩, 0)
set_option maxHeartbeats 4000000 in
theorem offer_nilD {w : World} {a0 : Option Addr} {n0 c0 : Nat} {vm : Value} {ms : List (Int × Int)} (hms : Mems w vm ms) (hl : ms.length ≤ 1000000) (now : Nat) : Calls Tryz.prog 26 #[.pointer none, .int .u64 now, .agg #[.slice a0 n0 c0, vm]] w fun e w' => e = .returned (.tuple #[.agg #[.slice none 0 0, .slice none 0 0], .int .i64 1]) ∧ Fr [] w w' := by
  have HLE := Lib.hid (fun (w' : World) (F : Fr [] w w') => lead_spec (a0 := a0) (n0 := n0) (c0 := c0) (hms.fr0 F) (by omega : ms.length ≤ 9223372036854775807))
  obtain ⟨am, cm, rfl, -, -⟩ := hms
  have hz : (zeroValue 57).run Tryz.prog (w.alloc (.cells #[.slice a0 n0 c0, .slice am ms.length cm] 91)) = .ok (.agg #[.slice none 0 0, .slice none 0 0]) (w.alloc (.cells #[.slice a0 n0 c0, .slice am ms.length cm] 91)) := by kernel_rfl
  have HF := Lib.hid (((Fr.refl [] w).alloc (.cells #[.slice a0 n0 c0, .slice am ms.length cm] 91)).alloc (.cells #[.slice none 0 0, .slice none 0 0] 57))
  have HR := Lib.hid (block_alloc_new (w.alloc (.cells #[.slice a0 n0 c0, .slice am ms.length cm] 91)) (.cells #[.slice none 0 0, .slice none 0 0] 57))
  have HSZ : Hid ((w.alloc (.cells #[.slice a0 n0 c0, .slice am ms.length cm] 91)).heap.size = w.heap.size + 1) := Lib.hid (World.size_alloc _ _)
  rw [HSZ.out] at HR
  go_enter Tryz.func26, Tryz.ntmps26
  go_wp2_with fail
  refine (HLE.out _ HF.out).mono ?_
  rintro e w2 ⟨rfl, F2⟩
  have hb := F2.keep HR.out (by simp)
  have r0 : w2.cell? ⟨w.heap.size + 1, 0, none⟩ = some (.slice none 0 0) := (cell_of_block hb 0).trans rfl
  have r1 : w2.cell? ⟨w.heap.size + 1, 1, none⟩ = some (.slice none 0 0) := (cell_of_block hb 1).trans rfl
  have g0 := free_of_block hb 0
  have g1 := free_of_block hb 1
  have hF := Lib.hid (((HF.out.trans F2).setCell (p := ⟨w.heap.size + 1, 0, none⟩) (.inr (Nat.le_succ _)) (.slice none 0 0)).setCell (p := ⟨w.heap.size + 1, 1, none⟩) (.inr (Nat.le_succ _)) (.slice none 0 0))
  clear hb F2 HR HF HLE
  go_wp2_with fail
  all_goals (
    refine bodyPost_ret (v := .tuple #[.agg #[.slice none 0 0, .slice none 0 0], .int .i64 1]) (by simp [results, Tryz.results26, go_sem, r0, r1]) rfl ?_
    exact ⟨rfl, hF.out⟩)
end Go.Proofs.YtcnkhjgpjchkeaaGreat

namespace Go.Proofs.YtcnkhjgpjchkeaaGreat
open Go.RowKit

/-- The result's box is told empty. -/
theorem PubR.empty {w w1 : World} {y : Nat} {A : DepA} {M : DepM} (h : IsDep w1 A M) (k : Fr A.list w w1) (hb : w1.heap[y]? = some (.cells #[.slice none 0 0, .slice none 0 0] 57 (0, 0))) (hy : w.heap.size ≤ y) (err : Int) :
    PubR w A ⟨M, [], []⟩ err (.returned (.tuple #[.agg #[.slice none 0 0, .slice none 0 0], .int .i64 err])) ((w1.setCell ⟨y, 0, none⟩ (.slice none 0 0)).setCell ⟨y, 1, none⟩ (.slice none 0 0)) := by
  have kz : Fr [y] w1 ((w1.setCell ⟨y, 0, none⟩ (.slice none 0 0)).setCell ⟨y, 1, none⟩ (.slice none 0 0)) := ((Fr.refl _ _).setCell (p := ⟨y, 0, none⟩) (.inl (by simp)) _).setCell (p := ⟨y, 1, none⟩) (.inl (by simp)) _
  have hn : ∀ s ∈ A.list, s ∉ [y] := fun s hs h' => by
    simp at h'; subst h'
    exact h.nobox (.inr (.inr (.inr rfl))) _ hs _ _ hb
  exact PubR.nothing err (h.fr kz hn (NoMem.cons (NoMem.nil w1) hb (by intro _ _ e; cases e))) (k.trans' kz (fun s hs => .inr (by simp at hs; subst hs; exact hy)))
set_option maxHeartbeats 8000000 in
set_option maxRecDepth 20000 in
theorem offerD_spec {w : World} {A : DepA} {M : DepM} (h : IsDep w A M) (now : Nat) (hnow : now < 18446744073709551616) (hsince : M.br.since < 18446744073709551616) (hwl : M.win.L.length < 1000000000000000) (hok : M.ok) {va vm : Value} {nargs : Nat} (hva : ArgsV va nargs) {ms : List (Int × Int)} (hms : Mems w vm ms) (hl : ms.length ≤ 1000000) :
    Calls Tryz.prog 26 #[.pointer (some ⟨A.d, 0, none⟩), .int .u64 now, .agg #[va, vm]] w (PubR w A (M.offer now nargs ms).1 (M.offer now nargs ms).2) := by
  obtain ⟨a0, c0, rfl⟩ := hva
  have HLE := Lib.hid (fun (w' : World) (F : Fr [] w w') => lead_spec (a0 := a0) (n0 := nargs) (c0 := c0) (hms.fr0 F) (by omega : ms.length ≤ 9223372036854775807))
  have HMS := Lib.hid hms
  obtain ⟨am, cm, rfl, -, -⟩ := hms
  have hz : (zeroValue 57).run Tryz.prog (w.alloc (.cells #[.slice a0 nargs c0, .slice am ms.length cm] 91)) = .ok (.agg #[.slice none 0 0, .slice none 0 0]) (w.alloc (.cells #[.slice a0 nargs c0, .slice am ms.length cm] 91)) := by kernel_rfl
  have HF := Lib.hid (((Fr.refl [] w).alloc (.cells #[.slice a0 nargs c0, .slice am ms.length cm] 91)).alloc (.cells #[.slice none 0 0, .slice none 0 0] 57))
  have HB := Lib.hid (block_alloc (block_alloc_new w (.cells #[.slice a0 nargs c0, .slice am ms.length cm] 91)) (.cells #[.slice none 0 0, .slice none 0 0] 57))
  have HR := Lib.hid (block_alloc_new (w.alloc (.cells #[.slice a0 nargs c0, .slice am ms.length cm] 91)) (.cells #[.slice none 0 0, .slice none 0 0] 57))
  have HSZ : Hid ((w.alloc (.cells #[.slice a0 nargs c0, .slice am ms.length cm] 91)).heap.size = w.heap.size + 1) := Lib.hid (World.size_alloc _ _)
  rw [HSZ.out] at HR
  have HD := Lib.hid h
  have HKN := Lib.hid (fun (w' : World) (F : Fr [] w w') => knows_spec (h.fr0 F) (leadOf ms))
  have HOK := Lib.hid hok
  have HE : Hid (M.offer now nargs ms = if leadOf ms < 1 then (⟨M, [], []⟩, 1) else if M.knows (leadOf ms) = true then (⟨M, [], []⟩, 4) else (DS.offer ⟨M, [], []⟩ now (leadOf ms) ⟨nargs, ms, 1, 0, 0, now⟩, 0)) := Lib.hid rfl
  generalize M.offer now nargs ms = R at *
  generalize hld : leadOf ms = ld at *
  clear h hok hld
  go_enter Tryz.func26, Tryz.ntmps26
  go_wp2_with fail
  refine (HLE.out _ HF.out).mono ?_
  rintro e w2 ⟨rfl, F2⟩
  have HF2 := Lib.hid (HF.out.trans F2)
  have HB2 := Lib.hid (F2.keep HB.out (by simp))
  have HR2 := Lib.hid (F2.keep HR.out (by simp))
  clear F2 HB HR HLE HF hz HSZ
  by_cases h1 : ld < 1
  · have HEE := HE.out
    rw [if_pos h1] at HEE
    subst HEE
    have r0 : w2.cell? ⟨w.heap.size + 1, 0, none⟩ = some (.slice none 0 0) := (cell_of_block HR2.out 0).trans rfl
    have r1 : w2.cell? ⟨w.heap.size + 1, 1, none⟩ = some (.slice none 0 0) := (cell_of_block HR2.out 1).trans rfl
    have g0 := free_of_block HR2.out 0
    have g1 := free_of_block HR2.out 1
    have hEND := Lib.hid (PubR.empty (HD.out.fr0 HF2.out) (HF2.out.mono (S' := A.list) (by simp)) HR2.out (Nat.le_succ _) 1)
    clear HE
    go_wp2_with fail
    refine bodyPost_ret (v := .tuple #[.agg #[.slice none 0 0, .slice none 0 0], .int .i64 1]) (by simp [results, Tryz.results26, go_sem, r0, r1]) rfl ?_
    exact hEND.out
  · have HX := Lib.hid (HKN.out _ HF2.out)
    go_wp2_with fail
    refine HX.out.mono ?_
    rintro e w3 ⟨rfl, F3⟩
    have HF3 := Lib.hid (HF2.out.trans F3)
    have HB3 := Lib.hid (F3.keep HB2.out (by simp))
    have HR3 := Lib.hid (F3.keep HR2.out (by simp))
    clear F3 HB2 HR2 HX HKN HF2
    cases hk : M.knows ld with
    | true =>
      have HEE := HE.out
      rw [if_neg (by omega : ¬ ld < 1), if_pos hk] at HEE
      subst HEE
      have r0 : w3.cell? ⟨w.heap.size + 1, 0, none⟩ = some (.slice none 0 0) := (cell_of_block HR3.out 0).trans rfl
      have r1 : w3.cell? ⟨w.heap.size + 1, 1, none⟩ = some (.slice none 0 0) := (cell_of_block HR3.out 1).trans rfl
      have g0 := free_of_block HR3.out 0
      have g1 := free_of_block HR3.out 1
      have hEND := Lib.hid (PubR.empty (HD.out.fr0 HF3.out) (HF3.out.mono (S' := A.list) (by simp)) HR3.out (Nat.le_succ _) 4)
      clear HE hk
      go_wp2_with fail
      refine bodyPost_ret (v := .tuple #[.agg #[.slice none 0 0, .slice none 0 0], .int .i64 4]) (by simp [results, Tryz.results26, go_sem, r0, r1]) rfl ?_
      exact hEND.out
    | false =>
      have HEE := HE.out
      rw [if_neg (by omega : ¬ ld < 1), if_neg (by rw [hk]; simp)] at HEE
      subst HEE
      clear HE hk
      have D0 := DeedV.start HD.out HF3.out (hb := [(w.heap.size + 1, #[.slice none 0 0, .slice none 0 0], 57)]) (by intro p hp; simp at hp; subst hp; exact ⟨.inr (.inr (.inr rfl)), HR3.out⟩) now
      have HY := block_alloc HB3.out (.cells #[.pointer (some ⟨A.d, 0, none⟩), .slice none 0 0, .slice none 0 0, .int .u64 now] 142)
      have b0 : (w3.alloc (.cells #[.pointer (some ⟨A.d, 0, none⟩), .slice none 0 0, .slice none 0 0, .int .u64 now] 142)).cell? ⟨w.heap.size, 0, none⟩ = some (.slice a0 nargs c0) := (cell_of_block HY 0).trans rfl
      have b1 : (w3.alloc (.cells #[.pointer (some ⟨A.d, 0, none⟩), .slice none 0 0, .slice none 0 0, .int .u64 now] 142)).cell? ⟨w.heap.size, 1, none⟩ = some (.slice am ms.length cm) := (cell_of_block HY 1).trans rfl
      have HBE := Lib.hid (fun w' => begin_spec w' a0 nargs c0 am ms.length cm now)
      have HVC : Hid (CallV w (.agg #[.slice a0 nargs c0, .slice am ms.length cm, .int .i64 1, .int .i64 0, .int .i64 0, .int .u64 now]) ⟨nargs, ms, 1, 0, 0, now⟩) := Lib.hid ⟨_, _, rfl, ⟨a0, c0, rfl⟩, HMS.out⟩
      have HOF := Lib.hid (fun (w' : World) (F : Fr [] _ w') => offer_spec (D0.fr0 F) hnow (by simp) (by simp) hsince hwl HOK.out HVC.out hl (Int.le_refl 0) (show (0 : Int) ≤ 3 by decide) ld)
      clear D0 HY HB3 HR3 HD HMS
      go_wp2_with fail
      refine (HBE.out _).mono ?_
      rintro e w4 ⟨rfl, F4⟩
      have HX := Lib.hid (HOF.out _ F4)
      clear F4 HOF b0 b1
      go_wp2_with fail
      refine HX.out.mono ?_
      rintro e w5 ⟨rfl, va5, vo5, D5⟩
      generalize DS.offer ⟨M, [], []⟩ now ld ⟨nargs, ms, 1, 0, 0, now⟩ = σR at *
      obtain ⟨ao3, cap3, rfl⟩ := ownsFormD D5.acts
      obtain ⟨ao4, cap4, rfl⟩ := ownsFormD D5.outs
      have HD5 := Lib.hid D5
      obtain ⟨k0, k1, k2', -, -, -⟩ := D5.cells
      have hb := (D5.box _ (List.mem_cons_self ..)).2
      have r0 : w5.cell? ⟨w.heap.size + 1, 0, none⟩ = some (.slice none 0 0) := (cell_of_block hb 0).trans rfl
      have r1 : w5.cell? ⟨w.heap.size + 1, 1, none⟩ = some (.slice none 0 0) := (cell_of_block hb 1).trans rfl
      have g0 := free_of_block hb 0
      have g1 := free_of_block hb 1
      clear D5 hb HX
      go_wp2_with fail
      refine bodyPost_ret (v := .tuple #[.agg #[.slice ao3 σR.ac.length cap3, .slice ao4 σR.ou.length cap4], .int .i64 0]) (by simp [results, Tryz.results26, go_sem, r0, r1]) rfl ?_
      exact PubR.finish (Fr.refl _ _) HD5.out (List.mem_cons_self ..) (Nat.le_succ _) rfl _ _
end Go.Proofs.YtcnkhjgpjchkeaaGreat

namespace Go.Proofs.YtcnkhjgpjchkeaaGreat
open Go.RowKit

def DepM.answer (M : DepM) (now : Nat) (id : Int) (ok : Bool) (vals : List Int) : DS × Int :=
  if id ∈ M.run then
    (if (M.call id).st = 2 then
      (if ok = true ∧ vals.length = (M.call id).nargs then
        (⟨({ (({ M with run := rem id M.run } : DepM).count now id 0) with took := (({ M with run := rem id M.run } : DepM).count now id 0).took.add now (bitLen (now - (M.call id).start)) } : DepM).keep (M.call id).fin, [⟨false, id, 0⟩], (M.call id).fin.outs 1 vals now⟩, 0)
      else ((⟨({ M with run := rem id M.run } : DepM).count now id 1, [⟨false, id, 0⟩], []⟩ : DS).fall now (M.call id) 1, 0))
    else (⟨({ M with run := rem id M.run } : DepM).keep (M.call id), [], []⟩, 0))
  else (⟨M, [], []⟩, 3)
section
variable {M : DepM} {now : Nat} {id : Int} {ok : Bool} {vals : List Int}
theorem DepM.answer_none (h : id ∉ M.run) : M.answer now id ok vals = (⟨M, [], []⟩, 3) := if_neg h
theorem DepM.answer_not (h : id ∈ M.run) (h2 : (M.call id).st ≠ 2) : M.answer now id ok vals = (⟨({ M with run := rem id M.run } : DepM).keep (M.call id), [], []⟩, 0) := by
  unfold DepM.answer; rw [if_pos h, if_neg h2]
theorem DepM.answer_no (h : id ∈ M.run) (h2 : (M.call id).st = 2) (h3 : ¬ (ok = true ∧ vals.length = (M.call id).nargs)) : M.answer now id ok vals = ((⟨({ M with run := rem id M.run } : DepM).count now id 1, [⟨false, id, 0⟩], []⟩ : DS).fall now (M.call id) 1, 0) := by
  unfold DepM.answer; rw [if_pos h, if_pos h2, if_neg h3]
theorem DepM.answer_yes (h : id ∈ M.run) (h2 : (M.call id).st = 2) (h3 : ok = true ∧ vals.length = (M.call id).nargs) : M.answer now id ok vals = (⟨({ (({ M with run := rem id M.run } : DepM).count now id 0) with took := (({ M with run := rem id M.run } : DepM).count now id 0).took.add now (bitLen (now - (M.call id).start)) } : DepM).keep (M.call id).fin, [⟨false, id, 0⟩], (M.call id).fin.outs 1 vals now⟩, 0) := by
  unfold DepM.answer; rw [if_pos h, if_pos h2, if_pos h3]
end
theorem DepM.count_took (M : DepM) (now : Nat) (id : Int) (kind : Nat) : (M.count now id kind).took = M.took := by
  unfold DepM.count; repeat' split
  all_goals rfl
theorem rem_notin {x : Int} : ∀ {l : List Int}, x ∉ l → rem x l = l
  | [], _ => rfl
  | y :: l, h => by
    have h0 : y ≠ x := fun e => h (by simp [e])
    have ih := rem_notin (x := x) (l := l) (fun h' => h (by simp [h']))
    simp [rem, h0, ih]

set_option maxHeartbeats 8000000 in
set_option maxRecDepth 20000 in
theorem answerD_spec {w : World} {A : DepA} {M : DepM} (h : IsDep w A M) (now : Nat) (hnow : now < 18446744073709551616) (hwl : M.win.L.length < 1000000000000000) (htl : M.took.L.length < 1000000000000000) (hok : M.ok) (id : Int) (ok : Bool)
    {vv : Value} {vals : List Int} (hvv : RdInts w vv vals) (hva : vals = [] ∨ ∀ g, vv.ownBlock = some g → g ∉ A.list) (_hvl : vals.length ≤ 1000000000) :
    Calls Tryz.prog 20 #[.pointer (some ⟨A.d, 0, none⟩), .int .u64 now, .int .i64 id, .bool ok, vv] w (PubR w A (M.answer now id ok vals).1 (M.answer now id ok vals).2) := by
  obtain ⟨av, cv, rfl, hvc⟩ : ∃ av cv, vv = .slice av vals.length cv ∧ RdInts w (.slice av vals.length cv) vals := by
    obtain ⟨av, cv, rfl, q⟩ := hvv
    exact ⟨av, cv, rfl, av, cv, rfl, q⟩
  have h1 := h.fr0 ((Fr.refl [] w).alloc (.cells #[.slice none 0 0, .slice none 0 0] 57))
  have HFREE := Lib.hid (h1.bulk.free id)
  have H1 := Lib.hid h1
  have HR := block_alloc_new w (.cells #[.slice none 0 0, .slice none 0 0] 57)
  have HF := Lib.hid ((Fr.refl A.list w).alloc (.cells #[.slice none 0 0, .slice none 0 0] 57))
  have kd := h1.cells.2.1
  have HOK := Lib.hid hok
  have hne : w.heap.size ∉ [A.r, A.g] := by
    intro hs; simp at hs
    have := h.bulk.set.2.1.lt
    have := lt_of_block h.bulk.ring.obj.choose_spec
    omega
  have hz : (zeroValue 57).run Tryz.prog w = .ok (.agg #[.slice none 0 0, .slice none 0 0]) w := by kernel_rfl
  have HRM := Lib.hid (fun (hn : id ∉ M.run) => (rem_notin hn))
  have HVV := Lib.hid hvc
  have HVA := Lib.hid hva
  clear h h1 hok hvv hvc hva
  go_enter Tryz.func20, Tryz.ntmps20
  go_wp2_with fail
  refine HFREE.out.mono ?_
  rintro e w2 ⟨rfl, B2, F2⟩
  have h2 := H1.out.setBulk F2 B2
  have hr2 := F2.keep HR hne
  have k2 := Lib.hid (HF.out.trans (F2.mono (S' := A.list) (by intro x hx; left; simp at hx; rcases hx with rfl | rfl <;> simp [DepA.list])))
  clear B2 F2 HFREE H1 HR hne kd HF hz
  by_cases hin : id ∈ M.run
  case neg =>
    rw [decide_eq_false hin]
    have h2' : IsDep w2 A M := by
      have := HRM.out hin
      rw [this] at h2; exact h2
    have hEND := Lib.hid (PubR.empty h2' k2.out hr2 (Nat.le_refl _) 3)
    have r0 : w2.cell? ⟨w.heap.size, 0, none⟩ = some (.slice none 0 0) := (cell_of_block hr2 0).trans rfl
    have r1 : w2.cell? ⟨w.heap.size, 1, none⟩ = some (.slice none 0 0) := (cell_of_block hr2 1).trans rfl
    have g0 := free_of_block hr2 0
    have g1 := free_of_block hr2 1
    have HE := Lib.hid (DepM.answer_none (now := now) (ok := ok) (vals := vals) hin)
    clear h2 h2' hr2 hin HRM
    go_wp2_with fail
    refine bodyPost_ret (v := .tuple #[.agg #[.slice none 0 0, .slice none 0 0], .int .i64 3]) (by simp [results, Tryz.results20, go_sem, r0, r1]) rfl ?_
    rw [HE.out]
    exact hEND.out
  case pos =>
    rw [decide_eq_true hin]
    have D0 := DeedV.start h2 (Fr.refl [] w2) (hb := [(w.heap.size, #[.slice none 0 0, .slice none 0 0], 57)]) (by intro p hp; simp at hp; subst hp; exact ⟨.inr (.inr (.inr rfl)), hr2⟩) now
    obtain ⟨vc, hvc, hlk⟩ := D0.lookup id false
    simp only [Bool.false_eq_true, if_false] at hlk
    have HIN := Lib.hid hin
    have HSAME : Hid (({ M with run := rem id M.run } : DepM).call id = M.call id) := Lib.hid rfl
    change CallV w2 vc (M.call id) at hvc
    have HC := Lib.hid (HOK.out.call id)
    generalize hc : M.call id = c at *
    have HCC := Lib.hid hc
    have HVC := Lib.hid hvc
    obtain ⟨va1, vm1, rfl, ⟨a0, c0, rfl⟩, ⟨am, cm, rfl, -, -⟩⟩ := hvc
    have hz2 : (zeroValue 134).run Tryz.prog (w2.alloc (.cells #[.pointer (some ⟨A.d, 0, none⟩), .slice none 0 0, .slice none 0 0, .int .u64 now] 142)) = .ok (.agg #[.slice none 0 0, .slice none 0 0, .int .i64 0, .int .i64 0, .int .i64 0, .int .u64 0]) (w2.alloc (.cells #[.pointer (some ⟨A.d, 0, none⟩), .slice none 0 0, .slice none 0 0, .int .u64 now] 142)) := zeroCall _
    have D1 := (D0.fr0 ((Fr.refl [] _).alloc (.cells #[.slice a0 c.nargs c0, .slice am c.ms.length cm, .int .i64 c.st, .int .i64 c.step, .int .i64 c.cause, .int .u64 c.start] 134))).addBox (.inl rfl) (block_alloc_new (w2.alloc (.cells #[.pointer (some ⟨A.d, 0, none⟩), .slice none 0 0, .slice none 0 0, .int .u64 now] 142)) (.cells #[.slice a0 c.nargs c0, .slice am c.ms.length cm, .int .i64 c.st, .int .i64 c.step, .int .i64 c.cause, .int .u64 c.start] 134))
    rw [World.size_alloc] at D1
    have HD1 := Lib.hid D1
    have hd21 := D0.dc.d21
    have hd20 := D1.dc.d20
    clear D0 D1 h2 hr2 hin hc HRM
    by_cases h2s : c.st = 2
    case neg =>
      have hb2 : (c.st != 2) = true := by simpa using h2s
      have hb3 : (c.st == 2) = false := by simpa using h2s
      go_wp2_with fail
      generalize hw4 : ((w2.alloc (.cells #[.pointer (some ⟨A.d, 0, none⟩), .slice none 0 0, .slice none 0 0, .int .u64 now] 142)).alloc (.cells #[.slice a0 c.nargs c0, .slice am c.ms.length cm, .int .i64 c.st, .int .i64 c.step, .int .i64 c.cause, .int .u64 c.start] 134)) = w4 at *
      clear hw4 hlk hz2 hd21
      obtain ⟨y0, y1, y2, y3, y4, y5⟩ := six (HD1.out.box _ (List.mem_cons_self ..)).2
      have HE := Lib.hid (DepM.answer_not (now := now) (ok := ok) (vals := vals) HIN.out (by rw [HCC.out]; exact h2s))
      have k0 := HD1.out.dc.x0
      have HKP := Lib.hid (fun (w' : World) (F : Fr [] w4 w') => keep_spec (HD1.out.fr0 F) HVC.out (by have := HC.out.1; omega))
      have q4 := (HD1.out.fr0 (Fr.refl [] w4).drew).dc.x0
      clear h2s
      have q6 := six ((HD1.out.fr0 (Fr.refl [] w4).drew).box _ (List.mem_cons_self ..)).2
      go_region_held3 (fun w' => w'.cell? ⟨w2.heap.size, 0, none⟩ = some (.pointer (some ⟨A.d, 0, none⟩)) ∧ w'.cell? ⟨w2.heap.size + 1, 0, none⟩ = some (.slice a0 c.nargs c0) ∧ w'.cell? ⟨w2.heap.size + 1, 1, none⟩ = some (.slice am c.ms.length cm) ∧ w'.cell? ⟨w2.heap.size + 1, 2, none⟩ = some (.int .i64 c.st) ∧ w'.cell? ⟨w2.heap.size + 1, 3, none⟩ = some (.int .i64 c.step) ∧ w'.cell? ⟨w2.heap.size + 1, 4, none⟩ = some (.int .i64 c.cause) ∧ w'.cell? ⟨w2.heap.size + 1, 5, none⟩ = some (.int .u64 c.start))
        (first | exact ⟨q4, q6⟩ | exact ⟨D5.dc.x0, six (D5.box _ (List.mem_cons_self ..)).2⟩)
        (first | (go_at_call 58; refine (HKP.out _ (by with_reducible repeat (first | exact Fr.refl _ _ | apply Fr.drew))).mono ?_; rintro e w5 ⟨rfl, va5, vo5, D5⟩))
      have HD9 := Lib.hid D5
      obtain ⟨ao3, cap3, e3⟩ := ownsFormD D5.acts
      obtain ⟨ao4, cap4, e4⟩ := ownsFormD D5.outs
      obtain ⟨k0', k1', k2', -, -, -⟩ := D5.cells
      have hb := (D5.box _ (List.mem_cons_of_mem _ (List.mem_cons_self ..))).2
      have r0 : w5.cell? ⟨w.heap.size, 0, none⟩ = some (.slice none 0 0) := (cell_of_block hb 0).trans rfl
      have r1 : w5.cell? ⟨w.heap.size, 1, none⟩ = some (.slice none 0 0) := (cell_of_block hb 1).trans rfl
      have g0 := free_of_block hb 0
      have g1 := free_of_block hb 1
      clear D5 hb
      subst e3 e4
      generalize hn3 : List.length _ = n3 at k1'
      generalize hn4 : List.length _ = n4 at k2'
      go_wp2_with fail
      refine bodyPost_ret (v := .tuple #[.agg #[.slice ao3 n3 cap3, .slice ao4 n4 cap4], .int .i64 0]) (by simp [results, Tryz.results20, go_sem, r0, r1]) rfl ?_
      subst hn3 hn4
      rw [HE.out, HCC.out]
      exact PubR.finish k2.out HD9.out (List.mem_cons_of_mem _ (List.mem_cons_self ..)) (Nat.le_refl _) rfl _ _
    case pos =>
      have hb2 : (c.st != 2) = false := by rw [h2s]; rfl
      have hb3 : (c.st == 2) = true := by rw [h2s]; rfl
      have HST := Lib.hid (stop_spec HD1.out (by simp) id)
      have H2S := Lib.hid h2s
      clear h2s
      go_wp2_with fail
      generalize hw4 : ((w2.alloc (.cells #[.pointer (some ⟨A.d, 0, none⟩), .slice none 0 0, .slice none 0 0, .int .u64 now] 142)).alloc (.cells #[.slice a0 c.nargs c0, .slice am c.ms.length cm, .int .i64 c.st, .int .i64 c.step, .int .i64 c.cause, .int .u64 c.start] 134)) = w4 at *
      clear hw4 hlk hz2 hd21
      refine HST.out.mono ?_
      rintro e w5 ⟨rfl, va5, vo5, D5⟩
      have HD5 := Lib.hid D5
      clear D5 HST HD1 hd20
      obtain ⟨y0, y1, y2, y3, y4, y5⟩ := six (HD5.out.box _ (List.mem_cons_self ..)).2
      by_cases hgood : ok = true ∧ vals.length = c.nargs
      case neg =>
        have HE := Lib.hid (DepM.answer_no (now := now) HIN.out (by rw [HCC.out]; exact H2S.out) (by rw [HCC.out]; exact hgood))
        have HCO := Lib.hid (count_spec HD5.out hnow hwl id 1 (by decide))
        have hcond : ok = false ∨ (ok = true ∧ (((vals.length : Int) != (c.nargs : Int)) = true)) := by
          cases ok with
          | false => exact .inl rfl
          | true =>
            have hne : vals.length ≠ c.nargs := fun e => hgood ⟨rfl, e⟩
            have hne2 : ¬ ((vals.length : Int) = (c.nargs : Int)) := fun e => hne (Int.ofNat.inj e)
            exact .inr ⟨rfl, by simp only [bne_iff_ne, ne_eq]; exact hne2⟩
        clear hgood
        rcases hcond with rfl | ⟨rfl, hcl⟩
        all_goals (
          go_wp2_with fail
          refine HCO.out.mono ?_
          rintro e w6 ⟨rfl, va6, vo6, D6⟩
          have HFA := Lib.hid (fall_spec D6 hnow (by simp) (by simp) HVC.out HC.out.1 HC.out.2.1 HC.out.2.2 1)
          clear y0 y1 y2 y3 y4 y5 HCO
          obtain ⟨y0, y1, y2, y3, y4, y5⟩ := six (D6.box _ (List.mem_cons_self ..)).2
          clear D6
          go_wp2_with fail
          refine HFA.out.mono ?_
          rintro e w7 ⟨rfl, va7, vo7, D7⟩
          have HD9 := Lib.hid D7
          obtain ⟨ao3, cap3, e3⟩ := ownsFormD D7.acts
          obtain ⟨ao4, cap4, e4⟩ := ownsFormD D7.outs
          obtain ⟨k0', k1', k2', -, -, -⟩ := D7.cells
          have hb := (D7.box _ (List.mem_cons_of_mem _ (List.mem_cons_self ..))).2
          have r0 : w7.cell? ⟨w.heap.size, 0, none⟩ = some (.slice none 0 0) := (cell_of_block hb 0).trans rfl
          have r1 : w7.cell? ⟨w.heap.size, 1, none⟩ = some (.slice none 0 0) := (cell_of_block hb 1).trans rfl
          have g0 := free_of_block hb 0
          have g1 := free_of_block hb 1
          clear D7 hb
          subst e3 e4
          generalize hn3 : List.length _ = n3 at k1'
          generalize hn4 : List.length _ = n4 at k2'
          go_wp2_with fail
          refine bodyPost_ret (v := .tuple #[.agg #[.slice ao3 n3 cap3, .slice ao4 n4 cap4], .int .i64 0]) (by simp [results, Tryz.results20, go_sem, r0, r1]) rfl ?_
          subst hn3 hn4
          rw [HE.out, HCC.out]
          exact PubR.finish k2.out HD9.out (List.mem_cons_of_mem _ (List.mem_cons_self ..)) (Nat.le_refl _) rfl _ _)
      case pos =>
        have HE := Lib.hid (DepM.answer_yes (now := now) HIN.out (by rw [HCC.out]; exact H2S.out) (by rw [HCC.out]; exact hgood))
        obtain ⟨rfl, hvn⟩ := hgood
        have hcl : ((vals.length : Int) != (c.nargs : Int)) = false := by rw [hvn]; simp
        have HVN := Lib.hid hvn
        have HCO := Lib.hid (count_spec HD5.out hnow hwl id 0 (by decide))
        have HSUB := Lib.hid (fun w' => satsub_spec w' now c.start hnow)
        have HV2 := Lib.hid (HVV.out.frW k2.out HVA.out)
        clear hvn
        go_wp2_with fail
        refine HCO.out.mono ?_
        rintro e w6 ⟨rfl, va6, vo6, D6⟩
        have HD6 := Lib.hid D6
        clear y0 y1 y2 y3 y4 y5 HCO HD5
        obtain ⟨y0, y1, y2, y3, y4, y5⟩ := six (D6.box _ (List.mem_cons_self ..)).2
        have hd20 := D6.dc.d20
        have HHA := Lib.hid (fun (w' : World) (F : Fr [] w6 w') => hisAdd_spec (D6.fr0 F).dep.took now hnow (now - c.start) (by omega) (by show (DepM.count _ _ _ _).took.L.length < _; rw [DepM.count_took]; exact htl))
        clear D6
        go_wp2_with fail
        go_region_held3 (fun w' => w'.cell? ⟨A.d, 20, none⟩ = some (.pointer (some ⟨A.hi, 0, none⟩)) ∧ w'.cell? ⟨w2.heap.size + 1, 5, none⟩ = some (.int .u64 c.start))
          (first | exact ⟨hd20, y5⟩ | exact ⟨D7.dc.d20, (six (D7.box _ (List.mem_cons_self ..)).2).2.2.2.2.2⟩)
          (first
            | (go_at_call 63; refine (HSUB.out _).mono ?_; rintro e w8 ⟨rfl, h8⟩; subst h8)
            | (go_at_call 62; refine (HHA.out _ (by with_reducible repeat (first | exact Fr.refl _ _ | apply Fr.drew))).mono ?_; rintro e w7 ⟨rfl, B7, F7⟩; have D7 := (HD6.out.fr0 (by with_reducible repeat (first | exact Fr.refl _ _ | apply Fr.drew))).setTook F7 B7))
        have HEN := Lib.hid (dend_spec D7 (by simp) HVC.out HC.out.1 HV2.out HVA.out 1 (.inl rfl))
        clear y0 y1 y2 y3 y4 y5 HHA HSUB HD6 hd20
        obtain ⟨y0, y1, y2, y3, y4, y5⟩ := six (D7.box _ (List.mem_cons_self ..)).2
        clear D7 B7 F7
        go_wp2_with fail
        refine HEN.out.mono ?_
        rintro e w8 ⟨rfl, va8, vo8, D8⟩
        have HD9 := Lib.hid D8
        obtain ⟨ao3, cap3, e3⟩ := ownsFormD D8.acts
        obtain ⟨ao4, cap4, e4⟩ := ownsFormD D8.outs
        obtain ⟨k0', k1', k2', -, -, -⟩ := D8.cells
        have hb := (D8.box _ (List.mem_cons_of_mem _ (List.mem_cons_self ..))).2
        have r0 : w8.cell? ⟨w.heap.size, 0, none⟩ = some (.slice none 0 0) := (cell_of_block hb 0).trans rfl
        have r1 : w8.cell? ⟨w.heap.size, 1, none⟩ = some (.slice none 0 0) := (cell_of_block hb 1).trans rfl
        have g0 := free_of_block hb 0
        have g1 := free_of_block hb 1
        clear D8 hb
        subst e3 e4
        generalize hn3 : List.length _ = n3 at k1'
        generalize hn4 : List.length _ = n4 at k2'
        go_wp2_with fail
        refine bodyPost_ret (v := .tuple #[.agg #[.slice ao3 n3 cap3, .slice ao4 n4 cap4], .int .i64 0]) (by simp [results, Tryz.results20, go_sem, r0, r1]) rfl ?_
        subst hn3 hn4
        rw [HE.out, HCC.out]
        exact PubR.finish k2.out HD9.out (List.mem_cons_of_mem _ (List.mem_cons_self ..)) (Nat.le_refl _) rfl _ _
end Go.Proofs.YtcnkhjgpjchkeaaGreat

namespace Go.Proofs.YtcnkhjgpjchkeaaGreat
open Go.RowKit

/-- Without a permit. -/
def DepM.freed (M : DepM) (id step : Int) : DepM := { M with falls := M.falls.filter fun x => decide (x ≠ (id, step)) }
def DepM.fallback (M : DepM) (now : Nat) (id step : Int) (ok : Bool) (vals : List Int) : DS × Int :=
  if (id, step) ∈ M.falls then
    (if (M.call id).st = 3 ∧ (M.call id).step = step then
      (if ok = true ∧ vals.length = (M.call id).nargs then (⟨(M.freed id step).keep (M.call id).fin, [⟨false, id, 0⟩], (M.call id).fin.outs 3 vals now⟩, 0)
      else ((⟨M.freed id step, [⟨false, id, 0⟩], []⟩ : DS).fall now (M.call id) (M.call id).cause, 0))
    else (⟨(M.freed id step).keep (M.call id), [], []⟩, 0))
  else (⟨M, [], []⟩, 3)
section
variable {M : DepM} {now : Nat} {id step : Int} {ok : Bool} {vals : List Int}
theorem DepM.fallback_none (h : (id, step) ∉ M.falls) : M.fallback now id step ok vals = (⟨M, [], []⟩, 3) := if_neg h
theorem DepM.fallback_not (h : (id, step) ∈ M.falls) (h2 : ¬ ((M.call id).st = 3 ∧ (M.call id).step = step)) : M.fallback now id step ok vals = (⟨(M.freed id step).keep (M.call id), [], []⟩, 0) := by
  unfold DepM.fallback; rw [if_pos h, if_neg h2]
theorem DepM.fallback_no (h : (id, step) ∈ M.falls) (h2 : (M.call id).st = 3 ∧ (M.call id).step = step) (h3 : ¬ (ok = true ∧ vals.length = (M.call id).nargs)) : M.fallback now id step ok vals = ((⟨M.freed id step, [⟨false, id, 0⟩], []⟩ : DS).fall now (M.call id) (M.call id).cause, 0) := by
  unfold DepM.fallback; rw [if_pos h, if_pos h2, if_neg h3]
theorem DepM.fallback_yes (h : (id, step) ∈ M.falls) (h2 : (M.call id).st = 3 ∧ (M.call id).step = step) (h3 : ok = true ∧ vals.length = (M.call id).nargs) : M.fallback now id step ok vals = (⟨(M.freed id step).keep (M.call id).fin, [⟨false, id, 0⟩], (M.call id).fin.outs 3 vals now⟩, 0) := by
  unfold DepM.fallback; rw [if_pos h, if_pos h2, if_pos h3]
end
set_option maxHeartbeats 4000000 in
set_option maxRecDepth 20000 in
theorem fallbackD_no {w : World} {A : DepA} {M : DepM} (h : IsDep w A M) (now : Nat) (id step : Int) (ok : Bool) {vv : Value} (hin : (id, step) ∉ M.falls) :
    Calls Tryz.prog 40 #[.pointer (some ⟨A.d, 0, none⟩), .int .u64 now, .int .i64 id, .int .i64 step, .bool ok, vv] w (PubR w A ⟨M, [], []⟩ 3) := by
  have h1 := h.fr0 ((Fr.refl [] w).alloc (.cells #[.slice none 0 0, .slice none 0 0] 57))
  have HFREE := Lib.hid (h1.falls.free_no id step hin)
  have H1 := Lib.hid h1
  have HR := block_alloc_new w (.cells #[.slice none 0 0, .slice none 0 0] 57)
  have HF := Lib.hid ((Fr.refl A.list w).alloc (.cells #[.slice none 0 0, .slice none 0 0] 57))
  have kd := h1.cells.2.2.1
  have hz : (zeroValue 57).run Tryz.prog w = .ok (.agg #[.slice none 0 0, .slice none 0 0]) w := by kernel_rfl
  clear h h1 hin
  go_enter Tryz.func40, Tryz.ntmps40
  go_wp2_with fail
  refine HFREE.out.mono ?_
  rintro e w2 ⟨rfl, F2⟩
  have h2 := H1.out.fr0 F2
  have hr2 := F2.keep HR (by simp)
  have hEND := Lib.hid (PubR.empty h2 (HF.out.trans (F2.mono (S' := A.list) (by simp))) hr2 (Nat.le_refl _) 3)
  have r0 : w2.cell? ⟨w.heap.size, 0, none⟩ = some (.slice none 0 0) := (cell_of_block hr2 0).trans rfl
  have r1 : w2.cell? ⟨w.heap.size, 1, none⟩ = some (.slice none 0 0) := (cell_of_block hr2 1).trans rfl
  have g0 := free_of_block hr2 0
  have g1 := free_of_block hr2 1
  clear h2 hr2 F2 HF HR H1 HFREE kd hz
  go_wp2_with fail
  refine bodyPost_ret (v := .tuple #[.agg #[.slice none 0 0, .slice none 0 0], .int .i64 3]) (by simp [results, Tryz.results40, go_sem, r0, r1]) rfl ?_
  exact hEND.out
set_option maxHeartbeats 8000000 in
set_option maxRecDepth 20000 in
theorem fallbackD_spec {w : World} {A : DepA} {M : DepM} (h : IsDep w A M) (now : Nat) (hnow : now < 18446744073709551616) (hok : M.ok) (id step : Int) (ok : Bool)
    {vv : Value} {vals : List Int} (hvv : RdInts w vv vals) (hva : vals = [] ∨ ∀ g, vv.ownBlock = some g → g ∉ A.list) (_hvl : vals.length ≤ 1000000000) :
    Calls Tryz.prog 40 #[.pointer (some ⟨A.d, 0, none⟩), .int .u64 now, .int .i64 id, .int .i64 step, .bool ok, vv] w (PubR w A (M.fallback now id step ok vals).1 (M.fallback now id step ok vals).2) := by
  by_cases hin : (id, step) ∈ M.falls
  case neg => rw [DepM.fallback_none hin]; exact fallbackD_no h now id step ok hin
  obtain ⟨av, cv, rfl, hvc⟩ : ∃ av cv, vv = .slice av vals.length cv ∧ RdInts w (.slice av vals.length cv) vals := by
    obtain ⟨av, cv, rfl, q⟩ := hvv
    exact ⟨av, cv, rfl, av, cv, rfl, q⟩
  have h1 := h.fr0 ((Fr.refl [] w).alloc (.cells #[.slice none 0 0, .slice none 0 0] 57))
  have HFREE := Lib.hid (h1.falls.free_yes id step hin)
  have H1 := Lib.hid h1
  have HR := block_alloc_new w (.cells #[.slice none 0 0, .slice none 0 0] 57)
  have HF := Lib.hid ((Fr.refl A.list w).alloc (.cells #[.slice none 0 0, .slice none 0 0] 57))
  have kd := h1.cells.2.2.1
  have HOK := Lib.hid hok
  have hne : w.heap.size ∉ [A.fm] := by
    intro hs; simp at hs
    have := h.falls.2.1.lt
    omega
  have hz : (zeroValue 57).run Tryz.prog w = .ok (.agg #[.slice none 0 0, .slice none 0 0]) w := by kernel_rfl
  have HVV := Lib.hid hvc
  have HVA := Lib.hid hva
  have HIN := Lib.hid hin
  clear h h1 hok hvv hvc hva hin
  go_enter Tryz.func40, Tryz.ntmps40
  go_wp2_with fail
  refine HFREE.out.mono ?_
  rintro e w2 ⟨rfl, B2, F2⟩
  have h2 : IsDep w2 A (M.freed id step) := H1.out.setFalls F2 B2
  have hr2 := F2.keep HR hne
  have k2 := Lib.hid (HF.out.trans (F2.mono (S' := A.list) (by intro x hx; left; simp at hx; subst hx; simp [DepA.list])))
  clear B2 F2 HFREE H1 HR hne kd HF hz
  have D0 := DeedV.start h2 (Fr.refl [] w2) (hb := [(w.heap.size, #[.slice none 0 0, .slice none 0 0], 57)]) (by intro p hp; simp at hp; subst hp; exact ⟨.inr (.inr (.inr rfl)), hr2⟩) now
  obtain ⟨vc, hvc, hlk⟩ := D0.lookup id false
  simp only [Bool.false_eq_true, if_false] at hlk
  change CallV w2 vc (M.call id) at hvc
  have HC := Lib.hid (HOK.out.call id)
  generalize hc : M.call id = c at *
  have HCC := Lib.hid hc
  have HVC := Lib.hid hvc
  obtain ⟨va1, vm1, rfl, ⟨a0, c0, rfl⟩, ⟨am, cm, rfl, -, -⟩⟩ := hvc
  have hz2 : (zeroValue 134).run Tryz.prog (w2.alloc (.cells #[.pointer (some ⟨A.d, 0, none⟩), .slice none 0 0, .slice none 0 0, .int .u64 now] 142)) = .ok (.agg #[.slice none 0 0, .slice none 0 0, .int .i64 0, .int .i64 0, .int .i64 0, .int .u64 0]) (w2.alloc (.cells #[.pointer (some ⟨A.d, 0, none⟩), .slice none 0 0, .slice none 0 0, .int .u64 now] 142)) := zeroCall _
  have D1 := (D0.fr0 ((Fr.refl [] _).alloc (.cells #[.slice a0 c.nargs c0, .slice am c.ms.length cm, .int .i64 c.st, .int .i64 c.step, .int .i64 c.cause, .int .u64 c.start] 134))).addBox (.inl rfl) (block_alloc_new (w2.alloc (.cells #[.pointer (some ⟨A.d, 0, none⟩), .slice none 0 0, .slice none 0 0, .int .u64 now] 142)) (.cells #[.slice a0 c.nargs c0, .slice am c.ms.length cm, .int .i64 c.st, .int .i64 c.step, .int .i64 c.cause, .int .u64 c.start] 134))
  rw [World.size_alloc] at D1
  have HD1 := Lib.hid D1
  have hd21 := D0.dc.d21
  clear D0 D1 h2 hr2 hc
  by_cases h2s : c.st = 3 ∧ c.step = step
  case neg =>
    have hcond : (c.st == 3) = false ∧ (c.st != 3) = true ∨ ((c.st == 3) = true ∧ (c.st != 3) = false) ∧ ((c.step == step) = false ∧ (c.step != step) = true) := by
      by_cases e1 : c.st = 3
      · have e2 : c.step ≠ step := fun e => h2s ⟨e1, e⟩
        exact .inr ⟨⟨by simpa using e1, by simpa using e1⟩, by simpa using e2, by simpa using e2⟩
      · exact .inl ⟨by simpa using e1, by simpa using e1⟩
    have HE := Lib.hid (DepM.fallback_not (now := now) (ok := ok) (vals := vals) HIN.out (by rw [HCC.out]; exact h2s))
    clear h2s
    rcases hcond with ⟨hb2, hb3⟩ | ⟨⟨hb2, hb3⟩, hb4, hb5⟩
    all_goals (
      go_wp2_with fail
      generalize hw4 : ((w2.alloc (.cells #[.pointer (some ⟨A.d, 0, none⟩), .slice none 0 0, .slice none 0 0, .int .u64 now] 142)).alloc (.cells #[.slice a0 c.nargs c0, .slice am c.ms.length cm, .int .i64 c.st, .int .i64 c.step, .int .i64 c.cause, .int .u64 c.start] 134)) = w4 at *
      clear hw4 hlk hz2 hd21
      obtain ⟨y0, y1, y2, y3, y4, y5⟩ := six (HD1.out.box _ (List.mem_cons_self ..)).2
      have k0 := HD1.out.dc.x0
      have HKP := Lib.hid (fun (w' : World) (F : Fr [] w4 w') => keep_spec (HD1.out.fr0 F) HVC.out (by have := HC.out.1; omega))
      have q4 := (HD1.out.fr0 (Fr.refl [] w4).drew).dc.x0
      have q6 := six ((HD1.out.fr0 (Fr.refl [] w4).drew).box _ (List.mem_cons_self ..)).2
      go_region_held3 (fun w' => w'.cell? ⟨w2.heap.size, 0, none⟩ = some (.pointer (some ⟨A.d, 0, none⟩)) ∧ w'.cell? ⟨w2.heap.size + 1, 0, none⟩ = some (.slice a0 c.nargs c0) ∧ w'.cell? ⟨w2.heap.size + 1, 1, none⟩ = some (.slice am c.ms.length cm) ∧ w'.cell? ⟨w2.heap.size + 1, 2, none⟩ = some (.int .i64 c.st) ∧ w'.cell? ⟨w2.heap.size + 1, 3, none⟩ = some (.int .i64 c.step) ∧ w'.cell? ⟨w2.heap.size + 1, 4, none⟩ = some (.int .i64 c.cause) ∧ w'.cell? ⟨w2.heap.size + 1, 5, none⟩ = some (.int .u64 c.start))
        (first | exact ⟨q4, q6⟩ | exact ⟨D5.dc.x0, six (D5.box _ (List.mem_cons_self ..)).2⟩)
        (first | (go_at_call 58; refine (HKP.out _ (by with_reducible repeat (first | exact Fr.refl _ _ | apply Fr.drew))).mono ?_; rintro e w5 ⟨rfl, va5, vo5, D5⟩))
      have HD9 := Lib.hid D5
      obtain ⟨ao3, cap3, e3⟩ := ownsFormD D5.acts
      obtain ⟨ao4, cap4, e4⟩ := ownsFormD D5.outs
      obtain ⟨k0', k1', k2', -, -, -⟩ := D5.cells
      have hb := (D5.box _ (List.mem_cons_of_mem _ (List.mem_cons_self ..))).2
      have r0 : w5.cell? ⟨w.heap.size, 0, none⟩ = some (.slice none 0 0) := (cell_of_block hb 0).trans rfl
      have r1 : w5.cell? ⟨w.heap.size, 1, none⟩ = some (.slice none 0 0) := (cell_of_block hb 1).trans rfl
      have g0 := free_of_block hb 0
      have g1 := free_of_block hb 1
      clear D5 hb
      subst e3 e4
      generalize hn3 : List.length _ = n3 at k1'
      generalize hn4 : List.length _ = n4 at k2'
      go_wp2_with fail
      refine bodyPost_ret (v := .tuple #[.agg #[.slice ao3 n3 cap3, .slice ao4 n4 cap4], .int .i64 0]) (by simp [results, Tryz.results40, go_sem, r0, r1]) rfl ?_
      subst hn3 hn4
      rw [HE.out, HCC.out]
      exact PubR.finish k2.out HD9.out (List.mem_cons_of_mem _ (List.mem_cons_self ..)) (Nat.le_refl _) rfl _ _)
  case pos =>
    have hb2 : (c.st == 3) = true := by simpa using h2s.1
    have hb3 : (c.st != 3) = false := by simpa using h2s.1
    have hb4 : (c.step == step) = true := by simpa using h2s.2
    have hb5 : (c.step != step) = false := by simpa using h2s.2
    have HST := Lib.hid (stop_spec HD1.out (by simp) id)
    have H2S := Lib.hid h2s
    clear h2s
    go_wp2_with fail
    generalize hw4 : ((w2.alloc (.cells #[.pointer (some ⟨A.d, 0, none⟩), .slice none 0 0, .slice none 0 0, .int .u64 now] 142)).alloc (.cells #[.slice a0 c.nargs c0, .slice am c.ms.length cm, .int .i64 c.st, .int .i64 c.step, .int .i64 c.cause, .int .u64 c.start] 134)) = w4 at *
    clear hw4 hlk hz2 hd21
    refine HST.out.mono ?_
    rintro e w5 ⟨rfl, va5, vo5, D5⟩
    have HD5 := Lib.hid D5
    clear D5 HST HD1
    obtain ⟨y0, y1, y2, y3, y4, y5⟩ := six (HD5.out.box _ (List.mem_cons_self ..)).2
    by_cases hgood : ok = true ∧ vals.length = c.nargs
    case neg =>
      have HE := Lib.hid (DepM.fallback_no (now := now) HIN.out (by rw [HCC.out]; exact H2S.out) (by rw [HCC.out]; exact hgood))
      have HFA := Lib.hid (fall_spec HD5.out hnow (by simp) (by simp) HVC.out HC.out.1 HC.out.2.1 HC.out.2.2 c.cause)
      have hcond : ok = false ∨ (ok = true ∧ (((vals.length : Int) == (c.nargs : Int)) = false)) := by
        cases ok with
        | false => exact .inl rfl
        | true =>
          have hne : vals.length ≠ c.nargs := fun e => hgood ⟨rfl, e⟩
          have hne2 : ¬ ((vals.length : Int) = (c.nargs : Int)) := fun e => hne (Int.ofNat.inj e)
          exact .inr ⟨rfl, by simp only [beq_eq_false_iff_ne, ne_eq]; exact hne2⟩
      clear hgood
      rcases hcond with rfl | ⟨rfl, hcl⟩
      all_goals (
        go_wp2_with fail
        refine HFA.out.mono ?_
        rintro e w7 ⟨rfl, va7, vo7, D7⟩
        clear y0 y1 y2 y3 y4 y5 HFA
        have HD9 := Lib.hid D7
        obtain ⟨ao3, cap3, e3⟩ := ownsFormD D7.acts
        obtain ⟨ao4, cap4, e4⟩ := ownsFormD D7.outs
        obtain ⟨k0', k1', k2', -, -, -⟩ := D7.cells
        have hb := (D7.box _ (List.mem_cons_of_mem _ (List.mem_cons_self ..))).2
        have r0 : w7.cell? ⟨w.heap.size, 0, none⟩ = some (.slice none 0 0) := (cell_of_block hb 0).trans rfl
        have r1 : w7.cell? ⟨w.heap.size, 1, none⟩ = some (.slice none 0 0) := (cell_of_block hb 1).trans rfl
        have g0 := free_of_block hb 0
        have g1 := free_of_block hb 1
        clear D7 hb
        subst e3 e4
        generalize hn3 : List.length _ = n3 at k1'
        generalize hn4 : List.length _ = n4 at k2'
        go_wp2_with fail
        refine bodyPost_ret (v := .tuple #[.agg #[.slice ao3 n3 cap3, .slice ao4 n4 cap4], .int .i64 0]) (by simp [results, Tryz.results40, go_sem, r0, r1]) rfl ?_
        subst hn3 hn4
        rw [HE.out, HCC.out]
        exact PubR.finish k2.out HD9.out (List.mem_cons_of_mem _ (List.mem_cons_self ..)) (Nat.le_refl _) rfl _ _)
    case pos =>
      have HE := Lib.hid (DepM.fallback_yes (now := now) HIN.out (by rw [HCC.out]; exact H2S.out) (by rw [HCC.out]; exact hgood))
      obtain ⟨rfl, hvn⟩ := hgood
      have hcl : ((vals.length : Int) == (c.nargs : Int)) = true := by rw [hvn]; simp
      have HV2 := Lib.hid (HVV.out.frW k2.out HVA.out)
      have HEN := Lib.hid (dend_spec HD5.out (by simp) HVC.out HC.out.1 HV2.out HVA.out 3 (.inr rfl))
      clear hvn
      go_wp2_with fail
      refine HEN.out.mono ?_
      rintro e w8 ⟨rfl, va8, vo8, D8⟩
      clear y0 y1 y2 y3 y4 y5 HEN
      have HD9 := Lib.hid D8
      obtain ⟨ao3, cap3, e3⟩ := ownsFormD D8.acts
      obtain ⟨ao4, cap4, e4⟩ := ownsFormD D8.outs
      obtain ⟨k0', k1', k2', -, -, -⟩ := D8.cells
      have hb := (D8.box _ (List.mem_cons_of_mem _ (List.mem_cons_self ..))).2
      have r0 : w8.cell? ⟨w.heap.size, 0, none⟩ = some (.slice none 0 0) := (cell_of_block hb 0).trans rfl
      have r1 : w8.cell? ⟨w.heap.size, 1, none⟩ = some (.slice none 0 0) := (cell_of_block hb 1).trans rfl
      have g0 := free_of_block hb 0
      have g1 := free_of_block hb 1
      clear D8 hb
      subst e3 e4
      generalize hn3 : List.length _ = n3 at k1'
      generalize hn4 : List.length _ = n4 at k2'
      go_wp2_with fail
      refine bodyPost_ret (v := .tuple #[.agg #[.slice ao3 n3 cap3, .slice ao4 n4 cap4], .int .i64 0]) (by simp [results, Tryz.results40, go_sem, r0, r1]) rfl ?_
      subst hn3 hn4
      rw [HE.out, HCC.out]
      exact PubR.finish k2.out HD9.out (List.mem_cons_of_mem _ (List.mem_cons_self ..)) (Nat.le_refl _) rfl _ _
end Go.Proofs.YtcnkhjgpjchkeaaGreat

namespace Go.Proofs.YtcnkhjgpjchkeaaGreat
open Go.RowKit

def DepM.late (M : DepM) (now : Nat) (id : Int) : DS :=
  if M.knows id = false ∨ (M.call id).st = 4 then ⟨M, [], []⟩
  else if (M.call id).st = 1 then (⟨({ M with wait := rem id M.wait } : DepM).count now id 2, [], []⟩ : DS).fall now (M.call id) 2
  else if (M.call id).st = 2 then (⟨M.count now id 2, [], []⟩ : DS).fall now (M.call id) 2
  else (⟨M, [], []⟩ : DS).fall now (M.call id) 2
section
variable {M : DepM} {now : Nat} {id : Int}
theorem DepM.late_none (h : M.knows id = false) : M.late now id = ⟨M, [], []⟩ := if_pos (.inl h)
theorem DepM.late_over (h : (M.call id).st = 4) : M.late now id = ⟨M, [], []⟩ := if_pos (.inr h)
theorem DepM.late_waits (h : M.knows id = true) (h2 : (M.call id).st = 1) : M.late now id = (⟨({ M with wait := rem id M.wait } : DepM).count now id 2, [], []⟩ : DS).fall now (M.call id) 2 := by
  unfold DepM.late; rw [if_neg (by rw [h, h2]; simp), if_pos h2]
theorem DepM.late_runs (h : M.knows id = true) (h2 : (M.call id).st = 2) : M.late now id = (⟨M.count now id 2, [], []⟩ : DS).fall now (M.call id) 2 := by
  unfold DepM.late; rw [if_neg (by rw [h, h2]; simp), if_neg (by rw [h2]; decide), if_pos h2]
theorem DepM.late_falls (h : M.knows id = true) (h1 : (M.call id).st ≠ 1) (h2 : (M.call id).st ≠ 2) (h4 : (M.call id).st ≠ 4) : M.late now id = (⟨M, [], []⟩ : DS).fall now (M.call id) 2 := by
  unfold DepM.late; rw [if_neg (by rw [h]; simp [h4]), if_neg h1, if_neg h2]
end
/-- The function tells a result. -/
def LateR (w : World) (A : DepA) (σ : DS) (e : Ending) (w' : World) : Prop :=
  ∃ va vo, e = .returned (.agg #[va, vo]) ∧ IsDep w' A σ.M ∧ Fr A.list w w' ∧ w'.ownsRow w.heap.size 95 3 va σ.ac.length (σ.ac.flatMap ActM.cells) ∧ w'.ownsRow w.heap.size 87 5 vo σ.ou.length (σ.ou.flatMap Ou.cells)
theorem LateR.finish {bs : Bx} {w w' : World} {x y : Nat} {A : DepA} {now : Nat} {σ : DS} {va vo : Value} (D : DeedV bs w w' x A now σ va vo) {cs : Array Value} (hy : (y, cs, 57) ∈ bs) (hyw : w.heap.size ≤ y) {e : Ending} (he : e = .returned (.agg #[va, vo])) (u0 u1 : Value) :
    LateR w A σ e ((w'.setCell ⟨y, 0, none⟩ u0).setCell ⟨y, 1, none⟩ u1) := by
  obtain ⟨va', vo', h0, h1, h2, h3, h4⟩ := PubR.finish (Fr.refl _ _) D hy hyw (err := 0) rfl u0 u1
  simp only [Ending.returned.injEq, Value.tuple.injEq] at h0
  have e0 := congrArg (fun a : Array Value => a[0]?) h0
  simp at e0
  obtain ⟨rfl, rfl⟩ := e0
  exact ⟨va, vo, he, h1, h2, h3, h4⟩
theorem late_nilD (w : World) (now : Nat) (id : Int) : Calls Tryz.prog 28 #[.pointer none, .int .u64 now, .int .i64 id] w fun e w' => e = .returned (.agg #[.slice none 0 0, .slice none 0 0]) ∧ Fr [] w w' := by
  have HK := Lib.hid (fun w' => knows_nil w' id)
  go_enter Tryz.func28, Tryz.ntmps28
  go_wp2_with fail
  refine (HK.out _).mono ?_
  rintro e w2 ⟨rfl, rfl⟩
  go_wp2_with fail
  refine bodyPost_ret (v := .agg #[.slice none 0 0, .slice none 0 0]) (by simp [results, Tryz.results28, go_sem]) rfl ?_
  exact ⟨rfl, by repeat (first | exact Fr.refl _ _ | apply Fr.alloc | (refine Fr.setCell ?_ (.inr (by simp)) _))⟩
set_option maxHeartbeats 8000000 in
set_option maxRecDepth 20000 in
theorem lateD_spec {w : World} {A : DepA} {M : DepM} (h : IsDep w A M) (now : Nat) (hnow : now < 18446744073709551616) (hwl : M.win.L.length < 1000000000000000) (hok : M.ok) (id : Int) :
    Calls Tryz.prog 28 #[.pointer (some ⟨A.d, 0, none⟩), .int .u64 now, .int .i64 id] w (LateR w A (M.late now id)) := by
  have HR := block_alloc_new w (.cells #[.slice none 0 0, .slice none 0 0] 57)
  have D0 := DeedV.start h ((Fr.refl [] w).alloc (.cells #[.slice none 0 0, .slice none 0 0] 57)) (hb := [(w.heap.size, #[.slice none 0 0, .slice none 0 0], 57)]) (by intro p hp; simp at hp; subst hp; exact ⟨.inr (.inr (.inr rfl)), HR⟩) now
  rw [World.size_alloc] at D0
  have HD0 := Lib.hid D0
  have HOK := Lib.hid hok
  have HK := Lib.hid (knows_spec (M := M) D0.dep id)
  have hz : (zeroValue 57).run Tryz.prog w = .ok (.agg #[.slice none 0 0, .slice none 0 0]) w := by kernel_rfl
  clear h hok HR D0
  go_enter Tryz.func28, Tryz.ntmps28
  go_wp2_with fail
  refine HK.out.mono ?_
  rintro e w3 ⟨rfl, F3⟩
  have D3 := HD0.out.fr0 F3
  have HD3 := Lib.hid D3
  change DeedV _ _ _ _ _ _ ⟨M, [], []⟩ _ _ at D3
  clear F3 HD0 HK hz
  cases hk : M.knows id with
  | false =>
    have HE := Lib.hid (DepM.late_none (now := now) hk)
    have q1 := D3.cells.2.1
    have q2 := D3.cells.2.2.1
    have qb := (D3.box _ (List.mem_cons_self ..)).2
    have t0 := (cell_of_block qb 0).trans rfl
    have t1 := (cell_of_block qb 1).trans rfl
    have u0 := free_of_block qb 0
    have u1 := free_of_block qb 1
    clear D3 qb hk
    go_wp2_with fail
    refine bodyPost_ret (v := .agg #[.slice none 0 0, .slice none 0 0]) (by simp [results, Tryz.results28, go_sem, t0, t1]) rfl ?_
    rw [HE.out]
    exact LateR.finish HD3.out (List.mem_cons_self ..) (Nat.le_refl _) rfl _ _
  | true =>
    obtain ⟨vc, hvc, hlk⟩ := D3.lookup id false
    simp only [Bool.false_eq_true, if_false] at hlk
    change CallV w vc (M.call id) at hvc
    have HC := Lib.hid (HOK.out.call id)
    have HKN := Lib.hid hk
    generalize hc : M.call id = c at *
    have HCC := Lib.hid hc
    have HVC := Lib.hid hvc
    obtain ⟨va1, vm1, rfl, ⟨a0, c0, rfl⟩, ⟨am, cm, rfl, -, -⟩⟩ := hvc
    have hz2 : (zeroValue 134).run Tryz.prog w3 = .ok (.agg #[.slice none 0 0, .slice none 0 0, .int .i64 0, .int .i64 0, .int .i64 0, .int .u64 0]) w3 := zeroCall _
    have HD1 := Lib.hid ((D3.fr0 ((Fr.refl [] _).alloc (.cells #[.slice a0 c.nargs c0, .slice am c.ms.length cm, .int .i64 c.st, .int .i64 c.step, .int .i64 c.cause, .int .u64 c.start] 134))).addBox (.inl rfl) (block_alloc_new w3 (.cells #[.slice a0 c.nargs c0, .slice am c.ms.length cm, .int .i64 c.st, .int .i64 c.step, .int .i64 c.cause, .int .u64 c.start] 134)))
    have hd21 := D3.dc.d21
    clear D3 HD3 hc hk
    have hst : c.st = 4 ∨ c.st = 1 ∨ c.st = 2 ∨ (c.st ≠ 4 ∧ c.st ≠ 1 ∧ c.st ≠ 2) := by omega
    rcases hst with h4 | h4 | h4 | ⟨h4, h41, h42⟩
    · have hb4 : (c.st == 4) = true := by rw [h4]; rfl
      have HE := Lib.hid (DepM.late_over (M := M) (now := now) (id := id) (by rw [HCC.out]; exact h4))
      clear h4
      have D4 := HD1.out
      have q1 := D4.cells.2.1
      have q2 := D4.cells.2.2.1
      have qb := (D4.box _ (List.mem_cons_of_mem _ (List.mem_cons_self ..))).2
      have t0 := (cell_of_block qb 0).trans rfl
      have t1 := (cell_of_block qb 1).trans rfl
      have u0 := free_of_block qb 0
      have u1 := free_of_block qb 1
      clear D4 qb
      go_wp2_with fail
      refine bodyPost_ret (v := .agg #[.slice none 0 0, .slice none 0 0]) (by simp [results, Tryz.results28, go_sem, t0, t1]) rfl ?_
      rw [HE.out]
      exact LateR.finish HD1.out (List.mem_cons_of_mem _ (List.mem_cons_self ..)) (Nat.le_refl _) rfl _ _
    · have hb4 : (c.st == 4) = false := by rw [h4]; rfl
      have hb1 : (c.st == 1) = true := by rw [h4]; rfl
      have HE := Lib.hid (DepM.late_waits (now := now) HKN.out (by rw [HCC.out]; exact h4))
      have HDR := Lib.hid (HD1.out.dep.bulk.drop id)
      have kd1 := HD1.out.dc.d1
      clear h4
      go_wp2_with fail
      generalize hw4 : (w3.alloc (.cells #[.slice a0 c.nargs c0, .slice am c.ms.length cm, .int .i64 c.st, .int .i64 c.step, .int .i64 c.cause, .int .u64 c.start] 134)) = w4 at *
      clear hw4 hlk hz2 hd21
      refine HDR.out.mono ?_
      rintro e w5 ⟨rfl, B5, F5⟩
      have D5 := HD1.out.setBulk F5 B5
      have HCO := Lib.hid (count_spec D5 hnow hwl id 2 (by decide))
      clear B5 F5 D5 HDR kd1 HD1
      go_wp2_with fail
      refine HCO.out.mono ?_
      rintro e w6 ⟨rfl, va6, vo6, D6⟩
      have HFA := Lib.hid (fall_spec D6 hnow (by simp) (by simp) HVC.out HC.out.1 HC.out.2.1 HC.out.2.2 2)
      obtain ⟨y0, y1, y2, y3, y4, y5⟩ := six (D6.box _ (List.mem_cons_self ..)).2
      clear D6 HCO
      go_wp2_with fail
      clear y0 y1 y2 y3 y4 y5
      refine HFA.out.mono ?_
      rintro e w7 ⟨rfl, va7, vo7, D7⟩
      clear HFA
      have HD9 := Lib.hid D7
      obtain ⟨ao3, cap3, e3⟩ := ownsFormD D7.acts
      obtain ⟨ao4, cap4, e4⟩ := ownsFormD D7.outs
      obtain ⟨k0', k1', k2', -, -, -⟩ := D7.cells
      have hb := (D7.box _ (List.mem_cons_of_mem _ (List.mem_cons_self ..))).2
      have r0 : w7.cell? ⟨w.heap.size, 0, none⟩ = some (.slice none 0 0) := (cell_of_block hb 0).trans rfl
      have r1 : w7.cell? ⟨w.heap.size, 1, none⟩ = some (.slice none 0 0) := (cell_of_block hb 1).trans rfl
      have g0 := free_of_block hb 0
      have g1 := free_of_block hb 1
      clear D7 hb
      subst e3 e4
      generalize hn3 : List.length _ = n3 at k1'
      generalize hn4 : List.length _ = n4 at k2'
      go_wp2_with fail
      refine bodyPost_ret (v := .agg #[.slice ao3 n3 cap3, .slice ao4 n4 cap4]) (by simp [results, Tryz.results28, go_sem, r0, r1]) rfl ?_
      subst hn3 hn4
      rw [HE.out, HCC.out]
      exact LateR.finish HD9.out (List.mem_cons_of_mem _ (List.mem_cons_self ..)) (Nat.le_refl _) rfl _ _
    · have hb4 : (c.st == 4) = false := by rw [h4]; rfl
      have hb1 : (c.st == 1) = false := by rw [h4]; rfl
      have hb2 : (c.st == 2) = true := by rw [h4]; rfl
      have HE := Lib.hid (DepM.late_runs (now := now) HKN.out (by rw [HCC.out]; exact h4))
      have HCO := Lib.hid (count_spec HD1.out hnow hwl id 2 (by decide))
      clear h4 HD1
      go_wp2_with fail
      generalize hw4 : (w3.alloc (.cells #[.slice a0 c.nargs c0, .slice am c.ms.length cm, .int .i64 c.st, .int .i64 c.step, .int .i64 c.cause, .int .u64 c.start] 134)) = w4 at *
      clear hw4 hlk hz2 hd21
      refine HCO.out.mono ?_
      rintro e w6 ⟨rfl, va6, vo6, D6⟩
      have HFA := Lib.hid (fall_spec D6 hnow (by simp) (by simp) HVC.out HC.out.1 HC.out.2.1 HC.out.2.2 2)
      obtain ⟨y0, y1, y2, y3, y4, y5⟩ := six (D6.box _ (List.mem_cons_self ..)).2
      clear D6 HCO
      go_wp2_with fail
      clear y0 y1 y2 y3 y4 y5
      refine HFA.out.mono ?_
      rintro e w7 ⟨rfl, va7, vo7, D7⟩
      clear HFA
      have HD9 := Lib.hid D7
      obtain ⟨ao3, cap3, e3⟩ := ownsFormD D7.acts
      obtain ⟨ao4, cap4, e4⟩ := ownsFormD D7.outs
      obtain ⟨k0', k1', k2', -, -, -⟩ := D7.cells
      have hb := (D7.box _ (List.mem_cons_of_mem _ (List.mem_cons_self ..))).2
      have r0 : w7.cell? ⟨w.heap.size, 0, none⟩ = some (.slice none 0 0) := (cell_of_block hb 0).trans rfl
      have r1 : w7.cell? ⟨w.heap.size, 1, none⟩ = some (.slice none 0 0) := (cell_of_block hb 1).trans rfl
      have g0 := free_of_block hb 0
      have g1 := free_of_block hb 1
      clear D7 hb
      subst e3 e4
      generalize hn3 : List.length _ = n3 at k1'
      generalize hn4 : List.length _ = n4 at k2'
      go_wp2_with fail
      refine bodyPost_ret (v := .agg #[.slice ao3 n3 cap3, .slice ao4 n4 cap4]) (by simp [results, Tryz.results28, go_sem, r0, r1]) rfl ?_
      subst hn3 hn4
      rw [HE.out, HCC.out]
      exact LateR.finish HD9.out (List.mem_cons_of_mem _ (List.mem_cons_self ..)) (Nat.le_refl _) rfl _ _
    · have hb4 : (c.st == 4) = false := by simpa using h4
      have hb1 : (c.st == 1) = false := by simpa using h41
      have hb2 : (c.st == 2) = false := by simpa using h42
      have HE := Lib.hid (DepM.late_falls (now := now) HKN.out (by rw [HCC.out]; exact h41) (by rw [HCC.out]; exact h42) (by rw [HCC.out]; exact h4))
      have HFA := Lib.hid (fall_spec HD1.out hnow (by simp) (by simp) HVC.out HC.out.1 HC.out.2.1 HC.out.2.2 2)
      clear h4 h41 h42 HD1
      go_wp2_with fail
      generalize hw4 : (w3.alloc (.cells #[.slice a0 c.nargs c0, .slice am c.ms.length cm, .int .i64 c.st, .int .i64 c.step, .int .i64 c.cause, .int .u64 c.start] 134)) = w4 at *
      clear hw4 hlk hz2 hd21
      refine HFA.out.mono ?_
      rintro e w7 ⟨rfl, va7, vo7, D7⟩
      clear HFA
      have HD9 := Lib.hid D7
      obtain ⟨ao3, cap3, e3⟩ := ownsFormD D7.acts
      obtain ⟨ao4, cap4, e4⟩ := ownsFormD D7.outs
      obtain ⟨k0', k1', k2', -, -, -⟩ := D7.cells
      have hb := (D7.box _ (List.mem_cons_of_mem _ (List.mem_cons_self ..))).2
      have r0 : w7.cell? ⟨w.heap.size, 0, none⟩ = some (.slice none 0 0) := (cell_of_block hb 0).trans rfl
      have r1 : w7.cell? ⟨w.heap.size, 1, none⟩ = some (.slice none 0 0) := (cell_of_block hb 1).trans rfl
      have g0 := free_of_block hb 0
      have g1 := free_of_block hb 1
      clear D7 hb
      subst e3 e4
      generalize hn3 : List.length _ = n3 at k1'
      generalize hn4 : List.length _ = n4 at k2'
      go_wp2_with fail
      refine bodyPost_ret (v := .agg #[.slice ao3 n3 cap3, .slice ao4 n4 cap4]) (by simp [results, Tryz.results28, go_sem, r0, r1]) rfl ?_
      subst hn3 hn4
      rw [HE.out, HCC.out]
      exact LateR.finish HD9.out (List.mem_cons_of_mem _ (List.mem_cons_self ..)) (Nat.le_refl _) rfl _ _
end Go.Proofs.YtcnkhjgpjchkeaaGreat
