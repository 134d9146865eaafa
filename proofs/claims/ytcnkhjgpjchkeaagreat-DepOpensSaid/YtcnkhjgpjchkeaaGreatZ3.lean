/-
  Words, and contracts of functions of the program and of the document, for this seat's claims: each is a lemma on the way; conditions stand in each lemma.
-/
import Derived.Test.YtcnkhjgpjchkeaaGreatZ2
import Derived.Deep.RegionHeld3
import Derived.ChangeKeysEq
import Derived.Laws.CopyRow
import Derived.Laws.Rows
import Derived.Laws.Tables
namespace Go.Proofs.YtcnkhjgpjchkeaaGreat
open Go.RowKit

/-- A configuration: its numbers, in the order of the fields. -/
structure CF where
  (mode pool queue sem fb ch t ft vo pe sl bu wi wd ba fo : Int)
/-- .. as a value. -/
abbrev CF.val (c : CF) : Value := .agg #[.int .i64 c.mode, .int .i64 c.pool, .int .i64 c.queue, .int .i64 c.sem, .int .i64 c.fb, .int .i64 c.ch, .int .u64 c.t, .int .u64 c.ft, .int .i64 c.vo, .int .i64 c.pe, .int .u64 c.sl, .int .i64 c.bu, .int .u64 c.wi, .int .u64 c.wd, .int .i64 c.ba, .int .i64 c.fo]
/-- How many may run, and wait. -/
def CF.most (c : CF) : Int := if c.mode = 2 then c.sem else c.pool
def CF.que (c : CF) : Int := if c.mode = 2 then 0 else c.queue
def CF.ok (c : CF) : Bool := decide (1 ≤ c.mode ∧ c.mode ≤ 2 ∧ 0 ≤ c.most ∧ c.most ≤ 8 ∧ 0 ≤ c.que ∧ c.que ≤ 8)
/-- What New tells. -/
def RefNew (c : CF) (w : World) (e : Ending) (w' : World) : Prop :=
  e = .returned (.tuple #[.agg #[.int .i64 c.most, .int .i64 c.que, .slice none 0 0, .slice none 0 0], .bool c.ok]) ∧ Fr [] w w'

theorem RefNew.mk {c : CF} {w w' : World} {m q : Int} {b : Bool} (hm : c.most = m) (hq : c.que = q) (hb : c.ok = b) (hF : Fr [] w w') :
    RefNew c w (.returned (.tuple #[.agg #[.int .i64 m, .int .i64 q, .slice none 0 0, .slice none 0 0], .bool b])) w' := by
  subst hm; subst hq; subst hb
  exact ⟨rfl, hF⟩

set_option maxHeartbeats 2000000 in
theorem ref10_new (c : CF) (w : World) : Calls Tryz.prog 35 #[c.val] w (RefNew c w) := by
  obtain ⟨mode, pool, queue, sem, fb, ch, t, ft, vo, pe, sl, bu, wi, wd, ba, fo⟩ := c
  simp only [CF.val]
  by_cases hm : mode = 2
  · subst hm
    go_enter Tryz.func35, Tryz.ntmps35
    go_wp2
    · refine bodyPost_ret (v := .tuple #[.agg #[.int .i64 sem, .int .i64 0, .slice none 0 0, .slice none 0 0], .bool true]) (by simp [results, Tryz.results35, go_sem]) rfl (RefNew.mk rfl rfl (by simp [CF.ok, CF.most, CF.que]; omega) ?_)
      exact (((Fr.refl _ _).alloc _).alloc _).alloc _
    all_goals refine bodyPost_ret (v := .tuple #[.agg #[.int .i64 sem, .int .i64 0, .slice none 0 0, .slice none 0 0], .bool false]) (by simp [results, Tryz.results35, go_sem]) rfl (RefNew.mk rfl rfl (by simp [CF.ok, CF.most, CF.que]; omega) ?_)
    all_goals exact (((Fr.refl _ _).alloc _).alloc _).alloc _
  · have h1 : (mode == 2) = false := by simpa using hm
    go_enter Tryz.func35, Tryz.ntmps35
    go_wp2
    · exact bodyPost_ret (v := .tuple #[.agg #[.int .i64 pool, .int .i64 queue, .slice none 0 0, .slice none 0 0], .bool (decide (queue ≤ 8))]) (by simp [results, Tryz.results35, go_sem]) rfl (RefNew.mk (by simp [CF.most, hm]) (by simp [CF.que, hm]) (by simp only [CF.ok, CF.most, CF.que, hm, if_false]; exact decide_eq_decide.2 ⟨fun h => h.2.2.2.2.2, fun h => ⟨by omega, by omega, by omega, by omega, by omega, h⟩⟩) ((((Fr.refl _ _).alloc _).alloc _).alloc _))
    all_goals exact bodyPost_ret (v := .tuple #[.agg #[.int .i64 pool, .int .i64 queue, .slice none 0 0, .slice none 0 0], .bool false]) (by simp [results, Tryz.results35, go_sem]) rfl (RefNew.mk (by simp [CF.most, hm]) (by simp [CF.que, hm]) (by simp [CF.ok, CF.most, CF.que, hm]; omega) ((((Fr.refl _ _).alloc _).alloc _).alloc _))

/-- V is the document's bulk: hs run, m at most, ws wait, q at most; its lists lie in no block below base. -/
def RB (w : World) (base : Nat) (V : Value) (hs ws : List Int) (m q : Nat) : Prop :=
  ∃ vr vw, V = .agg #[.int .i64 m, .int .i64 q, vr, vw] ∧ Lst w base vr hs ∧ Lst w base vw ws
theorem RB.fr {w w' : World} {base : Nat} {V : Value} {hs ws : List Int} {m q : Nat} (h : RB w base V hs ws m q) {S : List Nat} (k : Fr S w w') (hS : ∀ x ∈ S, x < base) : RB w' base V hs ws m q := by
  obtain ⟨vr, vw, h1, h2, h3⟩ := h
  exact ⟨vr, vw, h1, h2.fr k hS, h3.fr k hS⟩

end Go.Proofs.YtcnkhjgpjchkeaaGreat

namespace Go.Proofs.YtcnkhjgpjchkeaaGreat
open Go.RowKit

/-- Counts of the five kinds. -/
structure Cn where
  (a b c d e : Nat)
deriving DecidableEq
def Cn.vals (s : Cn) : Array Value := #[.int .u64 s.a, .int .u64 s.b, .int .u64 s.c, .int .u64 s.d, .int .u64 s.e]
def Cn.ok (s : Cn) : Prop := s.a < 18446744073709551616 ∧ s.b < 18446744073709551616 ∧ s.c < 18446744073709551616 ∧ s.d < 18446744073709551616 ∧ s.e < 18446744073709551616
def Cn.errs (s : Cn) : Nat := ssum [s.b, s.c, s.d]
def Cn.vol (s : Cn) : Nat := sadd s.a s.errs
def Cn.opens (s : Cn) (volume percent : Int) : Bool := decide (max volume 1 ≤ (s.vol : Int)) && watl s.errs s.vol percent

theorem errs_spec (w : World) (s : Cn) :
    Calls Tryz.prog 154 #[.agg s.vals] w fun e w' => e = .returned (.int .u64 ((s.errs : Nat) : Int)) ∧ Fr [] w w' := by
  have HF := Lib.hid (((Fr.refl [] w).alloc (.cells s.vals 67)).alloc (.cells #[.int .u64 s.b, .int .u64 s.c, .int .u64 s.d] 22))
  have HB := block_alloc_new (w.alloc (.cells s.vals 67)) (.cells #[.int .u64 s.b, .int .u64 s.c, .int .u64 s.d] 22)
  rw [World.size_alloc] at HB
  have HN : Nats ((w.alloc (.cells s.vals 67)).alloc (.cells #[.int .u64 s.b, .int .u64 s.c, .int .u64 s.d] 22)) (.slice (some ⟨w.heap.size + 1, 0, none⟩) 3 3) [s.b, s.c, s.d] := by
    refine ⟨_, _, rfl, fun i hi => ⟨_, _, rfl, ?_⟩⟩
    rw [cell_of_block HB]
    match i, hi with
    | 0, _ => rfl
    | 1, _ => rfl
    | 2, _ => rfl
  have HS := Lib.hid (satsum_spec HN (by simp))
  clear HN HB
  unfold Cn.vals at *
  unfold Cn.errs
  generalize ssum [s.b, s.c, s.d] = r at *
  go_enter Tryz.func154, Tryz.ntmps154
  go_wp2_with fail
  refine HS.out.mono ?_
  rintro e w1 ⟨rfl, rfl⟩
  go_wp2_with fail
  go_ret
  exact ⟨rfl, HF.out⟩
theorem vol_spec (w : World) (s : Cn) (hs : s.ok) :
    Calls Tryz.prog 153 #[.agg s.vals] w fun e w' => e = .returned (.int .u64 ((s.vol : Nat) : Int)) ∧ Fr [] w w' := by
  have HF := Lib.hid ((Fr.refl [] w).alloc (.cells s.vals 67))
  have HB := Lib.hid (block_alloc_new w (.cells s.vals 67))
  have HE := Lib.hid (fun w' => errs_spec w' s)
  have HA := Lib.hid (fun w' => satadd_spec w' s.a s.errs hs.1)
  unfold Cn.vol
  generalize sadd s.a s.errs = r at *
  generalize s.errs = q at *
  unfold Cn.vals at *
  clear hs
  obtain ⟨w2, hw2⟩ : ∃ w2, w2 = w.alloc (.cells #[.int .u64 s.a, .int .u64 s.b, .int .u64 s.c, .int .u64 s.d, .int .u64 s.e] 67) := ⟨_, rfl⟩
  rw [← hw2] at HF HB
  have HW := Lib.hid hw2
  clear hw2
  have KS : Hid (∀ w' : World, Fr [] w2 w' → w'.heap[w.heap.size]? = some (.cells #[.int .u64 s.a, .int .u64 s.b, .int .u64 s.c, .int .u64 s.d, .int .u64 s.e] 67)) := Lib.hid (fun w' F => F.keep HB.out (by simp))
  have hc1 : ∀ (w' : World) (i : Nat), w'.heap[w.heap.size]? = some (.cells #[.int .u64 s.a, .int .u64 s.b, .int .u64 s.c, .int .u64 s.d, .int .u64 s.e] 67) → w'.cell? ⟨w.heap.size, i, none⟩ = #[.int .u64 s.a, .int .u64 s.b, .int .u64 s.c, .int .u64 s.d, .int .u64 s.e][i]? := fun w' i h => cell_of_block h i
  go_enter Tryz.func153, Tryz.ntmps153
  go_wp2_with fail
  rw [← HW.out]
  have FX := Fr.refl [] w2
  go_region_held3 (fun w' => w'.heap[w.heap.size]? = some (.cells #[.int .u64 s.a, .int .u64 s.b, .int .u64 s.c, .int .u64 s.d, .int .u64 s.e] 67))
    (with_reducible exact KS.out _ (by with_reducible repeat (first | exact FX | exact Fr.refl _ _ | apply Fr.drew | apply Fr.drewN | apply Fr.alloc)))
    (first
      | (go_at_call 154; refine (HE.out _).mono ?_; rintro e wA ⟨rfl, F⟩; have FX : Fr [] w2 wA := Fr.trans (by with_reducible repeat (first | exact FX | exact Fr.refl _ _ | apply Fr.drew | apply Fr.drewN | apply Fr.alloc)) F; clear F)
      | (go_at_call 109; refine (HA.out _).mono ?_; rintro e wA ⟨rfl, rfl⟩; have FX : Fr [] w2 wA := (by with_reducible repeat (first | exact FX | exact Fr.refl _ _ | apply Fr.drew | apply Fr.drewN | apply Fr.alloc))))
  all_goals (
    clear KS hc1 HE HA
    go_wp2_with fail
    go_ret
    exact ⟨rfl, HF.out.trans (by with_reducible repeat (first | exact FX | exact Fr.refl _ _ | apply Fr.drew | apply Fr.drewN | apply Fr.alloc))⟩)

theorem cells_u64D : (Tryz.prog).cellsOf 22 = 1 := by kernel_rfl
theorem Tryz.info_u64D : (Tryz.prog.info? 22).map (fun i => (i.zero, i.size, i.bytes)) = some (some (.int .u64 0), 1, 8) := by kernel_rfl
theorem eq_arr5 (d : Nat) (x0 x1 x2 x3 x4 y0 y1 y2 y3 y4 : Int) (w : World) :
    (Op.equalIn (d + 1 + 1) 67 (.agg #[.int .u64 x0, .int .u64 x1, .int .u64 x2, .int .u64 x3, .int .u64 x4]) (.agg #[.int .u64 y0, .int .u64 y1, .int .u64 y2, .int .u64 y3, .int .u64 y4])).run Tryz.prog w = .ok (x0 == y0 && (x1 == y1 && (x2 == y2 && (x3 == y3 && x4 == y4)))) w := by
  obtain ⟨i1, hj, hy0, hy1, hy2⟩ := info_partsD Tryz.info_u64D
  rw [run_equalIn_array w (d + 1) _ _ Tryz.underlying67 hj]
  rw [cells_u64D]
  simp [Op.eqItems, List.range, List.range.loop, go_sem]
  by_cases h0 : x0 = y0 <;> by_cases h1 : x1 = y1 <;> by_cases h2 : x2 = y2 <;> by_cases h3 : x3 = y3 <;> by_cases h4 : x4 = y4 <;> simp [h0, h1, h2, h3, h4]
theorem eq_arr5D (x0 x1 x2 x3 x4 y0 y1 y2 y3 y4 : Int) (w : World) : (Op.equalIn 10000 67 (.agg #[.int .u64 x0, .int .u64 x1, .int .u64 x2, .int .u64 x3, .int .u64 x4]) (.agg #[.int .u64 y0, .int .u64 y1, .int .u64 y2, .int .u64 y3, .int .u64 y4])).run Tryz.prog w = .ok (x0 == y0 && (x1 == y1 && (x2 == y2 && (x3 == y3 && x4 == y4)))) w := eq_arr5 9998 x0 x1 x2 x3 x4 y0 y1 y2 y3 y4 w
theorem Cn.zero_opens (v p : Int) : (Cn.mk 0 0 0 0 0).opens v p = false := by
  have : (Cn.mk 0 0 0 0 0).vol = 0 := by decide
  unfold Cn.opens
  rw [this]
  simp
  omega
set_option maxHeartbeats 4000000 in
set_option maxRecDepth 20000 in
theorem opens_spec (w : World) (s : Cn) (hs : s.ok) (k : CF) (hv1 : 1 ≤ k.vo) (hv : k.vo ≤ 9223372036854775807) (hp : k.pe ≤ 9223372036854775807) :
    Calls Tryz.prog 117 #[.agg s.vals, k.val] w fun e w' => e = .returned (.bool (s.opens k.vo k.pe)) ∧ Fr [] w w' := by
  have HF := Lib.hid (((Fr.refl [] w).alloc (.cells #[.int .u64 s.a, .int .u64 s.b, .int .u64 s.c, .int .u64 s.d, .int .u64 s.e] 67)).alloc (.cells #[.int .i64 k.mode, .int .i64 k.pool, .int .i64 k.queue, .int .i64 k.sem, .int .i64 k.fb, .int .i64 k.ch, .int .u64 k.t, .int .u64 k.ft, .int .i64 k.vo, .int .i64 k.pe, .int .u64 k.sl, .int .i64 k.bu, .int .u64 k.wi, .int .u64 k.wd, .int .i64 k.ba, .int .i64 k.fo] 24))
  have HB1 := Lib.hid (block_alloc (block_alloc_new w (.cells #[.int .u64 s.a, .int .u64 s.b, .int .u64 s.c, .int .u64 s.d, .int .u64 s.e] 67)) (.cells #[.int .i64 k.mode, .int .i64 k.pool, .int .i64 k.queue, .int .i64 k.sem, .int .i64 k.fb, .int .i64 k.ch, .int .u64 k.t, .int .u64 k.ft, .int .i64 k.vo, .int .i64 k.pe, .int .u64 k.sl, .int .i64 k.bu, .int .u64 k.wi, .int .u64 k.wd, .int .i64 k.ba, .int .i64 k.fo] 24))
  have HB2 := block_alloc_new (w.alloc (.cells #[.int .u64 s.a, .int .u64 s.b, .int .u64 s.c, .int .u64 s.d, .int .u64 s.e] 67)) (.cells #[.int .i64 k.mode, .int .i64 k.pool, .int .i64 k.queue, .int .i64 k.sem, .int .i64 k.fb, .int .i64 k.ch, .int .u64 k.t, .int .u64 k.ft, .int .i64 k.vo, .int .i64 k.pe, .int .u64 k.sl, .int .i64 k.bu, .int .u64 k.wi, .int .u64 k.wd, .int .i64 k.ba, .int .i64 k.fo] 24)
  rw [World.size_alloc] at HB2
  have HB2 := Lib.hid HB2
  have HE := Lib.hid (fun w' => errs_spec w' s)
  have HV := Lib.hid (fun w' => vol_spec w' s hs)
  have HA := Lib.hid (fun w' => atleast_spec w' s.errs s.vol k.pe (ssum_lt _) (sadd_lt _ _) hp)
  obtain ⟨mx, hmx⟩ : ∃ x : Nat, k.vo = (x : Int) := ⟨k.vo.toNat, by omega⟩
  have hm1 : max k.vo 1 = (mx : Int) := by omega
  have HO : Hid (s.opens k.vo k.pe = (decide (mx ≤ s.vol) && watl s.errs s.vol k.pe)) := Lib.hid (by unfold Cn.opens; rw [hm1]; congr 2; exact propext Int.ofNat_le)
  have hw := eq_arr5D s.a s.b s.c s.d s.e 0 0 0 0 0
  have hcv : IntKind.u64.wrap (mx : Int) = (mx : Int) := by rw [IntKind.wrap_u64]; omega
  have hm2 : (if (mx : Int) < 1 then (1 : Int) else (mx : Int)) = (mx : Int) := if_neg (by omega)
  by_cases hz : s = ⟨0, 0, 0, 0, 0⟩
  · subst hz
    have HZ := Lib.hid (Cn.zero_opens k.vo k.pe)
    have hw2 := eq_arr5D 0 0 0 0 0 0 0 0 0 0
    simp at hw2
    unfold Cn.vals
    clear hw hmx hm1
    go_enter Tryz.func117, Tryz.ntmps117
    go_wp2_with fail
    go_ret
    exact ⟨ret_boolS HZ.out.symm, ((Fr.refl _ _).alloc _).alloc _⟩
  · have hb : ((s.a : Int) == 0 && ((s.b : Int) == 0 && ((s.c : Int) == 0 && ((s.d : Int) == 0 && (s.e : Int) == 0)))) = false := by
      rw [Bool.eq_false_iff]
      intro h
      simp only [Bool.and_eq_true, beq_iff_eq] at h
      apply hz
      obtain ⟨a, b, c, d, e⟩ := s
      simp only at h
      obtain ⟨h0, h1, h2, h3, h4⟩ := h
      congr 1 <;> omega
    rw [hb] at hw
    clear hb hz
    generalize s.opens k.vo k.pe = r at *
    generalize s.errs = q at *
    generalize s.vol = v at *
    obtain ⟨w2, hw2⟩ : ∃ w2, w2 = (w.alloc (.cells #[.int .u64 s.a, .int .u64 s.b, .int .u64 s.c, .int .u64 s.d, .int .u64 s.e] 67)).alloc (.cells #[.int .i64 k.mode, .int .i64 k.pool, .int .i64 k.queue, .int .i64 k.sem, .int .i64 k.fb, .int .i64 k.ch, .int .u64 k.t, .int .u64 k.ft, .int .i64 k.vo, .int .i64 k.pe, .int .u64 k.sl, .int .i64 k.bu, .int .u64 k.wi, .int .u64 k.wd, .int .i64 k.ba, .int .i64 k.fo] 24) := ⟨_, rfl⟩
    rw [← hw2] at HF HB1 HB2
    have HW := Lib.hid hw2
    clear hw2 hs hv hp hm1 hv1
    obtain ⟨k1, k2, k3, k4, k5, k6, k7, k8, kvo, kpe, k11, k12, k13, k14, k15, k16⟩ := k
    simp only at hmx
    subst hmx
    simp only at *
    unfold Cn.vals at *
    go_enter Tryz.func117, Tryz.ntmps117
    go_wp2_with fail
    rw [← HW.out]
    refine (HV.out _).mono ?_
    rintro e w3 ⟨rfl, F⟩
    have HF3 := Lib.hid (HF.out.trans F)
    have HC1 := Lib.hid (F.keep HB1.out (by simp))
    have HC2 := Lib.hid (F.keep HB2.out (by simp))
    have KS : Hid (∀ w' : World, Fr [] w3 w' → w'.heap[w.heap.size]? = some (.cells #[.int .u64 s.a, .int .u64 s.b, .int .u64 s.c, .int .u64 s.d, .int .u64 s.e] 67) ∧ w'.heap[w.heap.size + 1]? = some (.cells #[.int .i64 k1, .int .i64 k2, .int .i64 k3, .int .i64 k4, .int .i64 k5, .int .i64 k6, .int .u64 k7, .int .u64 k8, .int .i64 (mx : Int), .int .i64 kpe, .int .u64 k11, .int .i64 k12, .int .u64 k13, .int .u64 k14, .int .i64 k15, .int .i64 k16] 24)) := Lib.hid (fun w' F => ⟨F.keep HC1.out (by simp), F.keep HC2.out (by simp)⟩)
    have hc1 : ∀ (w' : World) (i : Nat), w'.heap[w.heap.size]? = some (.cells #[.int .u64 s.a, .int .u64 s.b, .int .u64 s.c, .int .u64 s.d, .int .u64 s.e] 67) → w'.cell? ⟨w.heap.size, i, none⟩ = #[.int .u64 s.a, .int .u64 s.b, .int .u64 s.c, .int .u64 s.d, .int .u64 s.e][i]? := fun w' i h => cell_of_block h i
    have hc2 : ∀ (w' : World) (i : Nat), w'.heap[w.heap.size + 1]? = some (.cells #[.int .i64 k1, .int .i64 k2, .int .i64 k3, .int .i64 k4, .int .i64 k5, .int .i64 k6, .int .u64 k7, .int .u64 k8, .int .i64 (mx : Int), .int .i64 kpe, .int .u64 k11, .int .i64 k12, .int .u64 k13, .int .u64 k14, .int .i64 k15, .int .i64 k16] 24) → w'.cell? ⟨w.heap.size + 1, i, none⟩ = #[.int .i64 k1, .int .i64 k2, .int .i64 k3, .int .i64 k4, .int .i64 k5, .int .i64 k6, .int .u64 k7, .int .u64 k8, .int .i64 (mx : Int), .int .i64 kpe, .int .u64 k11, .int .i64 k12, .int .u64 k13, .int .u64 k14, .int .i64 k15, .int .i64 k16][i]? := fun w' i h => cell_of_block h i
    clear F HC1 HC2 HB1 HB2 HV
    by_cases hge : mx ≤ v
    · have hd : decide (mx ≤ v) = true := decide_eq_true hge
      have hd2 : decide ((mx : Int) ≤ (v : Int)) = true := decide_eq_true (by omega)
      have HO2 : Hid (r = watl q v kpe) := Lib.hid (by rw [HO.out, hd, Bool.true_and])
      clear hge
      go_wp2_with fail
      have FX := Fr.refl [] w3
      go_region_held3 (fun w' => w'.heap[w.heap.size]? = some (.cells #[.int .u64 s.a, .int .u64 s.b, .int .u64 s.c, .int .u64 s.d, .int .u64 s.e] 67) ∧ w'.heap[w.heap.size + 1]? = some (.cells #[.int .i64 k1, .int .i64 k2, .int .i64 k3, .int .i64 k4, .int .i64 k5, .int .i64 k6, .int .u64 k7, .int .u64 k8, .int .i64 (mx : Int), .int .i64 kpe, .int .u64 k11, .int .i64 k12, .int .u64 k13, .int .u64 k14, .int .i64 k15, .int .i64 k16] 24))
        (with_reducible exact KS.out _ (by with_reducible repeat (first | exact FX | exact Fr.refl _ _ | apply Fr.drew | apply Fr.drewN | apply Fr.alloc)))
        (first
          | (go_at_call 154; refine (HE.out _).mono ?_; rintro e wA ⟨rfl, F⟩; have FX : Fr [] w3 wA := Fr.trans (by with_reducible repeat (first | exact FX | exact Fr.refl _ _ | apply Fr.drew | apply Fr.drewN | apply Fr.alloc)) F; clear F)
          | (go_at_call 112; refine (HA.out _).mono ?_; rintro e wA ⟨rfl, rfl⟩; have FX : Fr [] w3 wA := (by with_reducible repeat (first | exact FX | exact Fr.refl _ _ | apply Fr.drew | apply Fr.drewN | apply Fr.alloc))))
      all_goals (
        clear KS hc1 hc2 HE HA
        go_wp2_with fail
        go_ret
        exact ⟨ret_boolS HO2.out.symm, HF3.out.trans (by with_reducible repeat (first | exact FX | exact Fr.refl _ _ | apply Fr.drew | apply Fr.drewN | apply Fr.alloc))⟩)
    · have hd : decide (mx ≤ v) = false := decide_eq_false hge
      have hd2 : decide ((mx : Int) ≤ (v : Int)) = false := decide_eq_false (by omega)
      have HO2 : Hid (r = false) := Lib.hid (by rw [HO.out, hd, Bool.false_and])
      have c8 : w3.cell? ⟨w.heap.size + 1, 8, none⟩ = some (.int .i64 (mx : Int)) := by rw [cell_of_block (KS.out _ (Fr.refl _ _)).2]; rfl
      clear hge KS hc1 hc2 HE HA
      go_wp2_with fail
      go_quiet (fail)
      go_wp2_with fail
      go_ret
      exact ⟨ret_boolS HO2.out.symm, HF3.out.drewN _⟩
end Go.Proofs.YtcnkhjgpjchkeaaGreat

namespace Go.Proofs.YtcnkhjgpjchkeaaGreat
open Go.RowKit

/-- A block of n cells that reads as f tells. -/
def FCells (w : World) (b : Nat) (E : TypeId) (n : Nat) (f : Nat → Value) : Prop :=
  ∃ cs, w.heap[b]? = some (.cells cs E (0, 0)) ∧ cs.size = n ∧ ∀ i, i < n → cs[i]? = some (f i)
theorem FCells.cell {w : World} {b : Nat} {E : TypeId} {n : Nat} {f : Nat → Value} (h : FCells w b E n f) {i : Nat} (hi : i < n) : w.cell? ⟨b, i, none⟩ = some (f i) := by
  obtain ⟨cs, h1, h2, h3⟩ := h
  rw [cell_of_block h1]; exact h3 i hi
theorem FCells.cellv {w : World} {b : Nat} {E : TypeId} {n : Nat} {f : Nat → Value} (h : FCells w b E n f) {i : Nat} (hi : i < n) {v : Value} (hv : f i = v) : w.cell? ⟨b, i, none⟩ = some v := hv ▸ h.cell hi
theorem FCells.free {w : World} {b : Nat} {E : TypeId} {n : Nat} {f : Nat → Value} (h : FCells w b E n f) (i : Nat) : w.frozen? ⟨b, i, none⟩ = false := by
  obtain ⟨cs, h1, _⟩ := h
  exact free_of_block h1 i
theorem FCells.lt {w : World} {b : Nat} {E : TypeId} {n : Nat} {f : Nat → Value} (h : FCells w b E n f) : b < w.heap.size := by
  obtain ⟨cs, h1, _⟩ := h
  exact lt_of_block h1
theorem FCells.fr {w w' : World} {b : Nat} {E : TypeId} {n : Nat} {f : Nat → Value} (h : FCells w b E n f) {S : List Nat} (k : Fr S w w') (hb : b ∉ S) : FCells w' b E n f := by
  obtain ⟨cs, h1, h2, h3⟩ := h
  exact ⟨cs, k.keep h1 hb, h2, h3⟩
theorem FCells.congr {w : World} {b : Nat} {E : TypeId} {n : Nat} {f g : Nat → Value} (h : FCells w b E n f) (k : ∀ i, i < n → f i = g i) : FCells w b E n g := by
  obtain ⟨cs, h1, h2, h3⟩ := h
  exact ⟨cs, h1, h2, fun i hi => by rw [h3 i hi, k i hi]⟩
theorem FCells.set {w : World} {b : Nat} {E : TypeId} {n : Nat} {f : Nat → Value} (h : FCells w b E n f) (i : Nat) (v : Value) : FCells (w.setCell ⟨b, i, none⟩ v) b E n (fun j => if j = i then v else f j) := by
  obtain ⟨cs, h1, h2, h3⟩ := h
  refine ⟨_, block_setCell h1 i v, by simp [h2], fun j hj => ?_⟩
  rw [Array.getElem?_setIfInBounds]
  by_cases e : i = j
  · subst e
    rw [if_pos rfl, if_pos (by omega)]
    simp
  · rw [if_neg e]
    show cs[j]? = some (if j = i then v else f j)
    rw [if_neg (fun k : j = i => e (Eq.symm k))]
    exact h3 j hj
theorem FCells.drew {w : World} {b : Nat} {E : TypeId} {n : Nat} {f : Nat → Value} (h : FCells w b E n f) : FCells w.drew b E n f := h
theorem FCells.drewN {w : World} {b : Nat} {E : TypeId} {n : Nat} {f : Nat → Value} (h : FCells w b E n f) (q : Nat) : FCells (w.drewN q) b E n f := h
theorem FCells.other {w : World} {b : Nat} {E : TypeId} {n : Nat} {f : Nat → Value} (h : FCells w b E n f) {p : Addr} (hp : p.block ≠ b) (v : Value) : FCells (w.setCell p v) b E n f := by
  obtain ⟨cs, h1, h2, h3⟩ := h
  exact ⟨cs, block_setCell_other h1 hp v, h2, h3⟩

theorem FCells.six {X : World} {b : Nat} {E : TypeId} {n : Nat} {f g : Nat → Value} (h : FCells X b E n f) (o : Nat) (v0 v1 v2 v3 v4 v5 : Value)
    (hg : ∀ j, j < n → (if j = o + 5 then v5 else if j = o + 4 then v4 else if j = o + 3 then v3 else if j = o + 2 then v2 else if j = o + 1 then v1 else if j = o then v0 else f j) = g j) :
    FCells ((((((X.setCell ⟨b, o, none⟩ v0).setCell ⟨b, o + 1, none⟩ v1).setCell ⟨b, o + 2, none⟩ v2).setCell ⟨b, o + 3, none⟩ v3).setCell ⟨b, o + 4, none⟩ v4).setCell ⟨b, o + 5, none⟩ v5) b E n g := by
  have h1 := h.set o v0
  have h2 := h1.set (o + 1) v1
  have h3 := h2.set (o + 2) v2
  have h4 := h3.set (o + 3) v3
  have h5 := h4.set (o + 4) v4
  have h6 := h5.set (o + 5) v5
  exact h6.congr hg
theorem Fr.six {S : List Nat} {a X : World} {b : Nat} (h : Fr S a X) (hb : b ∈ S) (o : Nat) (v0 v1 v2 v3 v4 v5 : Value) : Fr S a ((((((X.setCell ⟨b, o, none⟩ v0).setCell ⟨b, o + 1, none⟩ v1).setCell ⟨b, o + 2, none⟩ v2).setCell ⟨b, o + 3, none⟩ v3).setCell ⟨b, o + 4, none⟩ v4).setCell ⟨b, o + 5, none⟩ v5) :=
  (((((h.setCell (p := ⟨b, o, none⟩) (.inl hb) v0).setCell (p := ⟨b, o + 1, none⟩) (.inl hb) v1).setCell (p := ⟨b, o + 2, none⟩) (.inl hb) v2).setCell (p := ⟨b, o + 3, none⟩) (.inl hb) v3).setCell (p := ⟨b, o + 4, none⟩) (.inl hb) v4).setCell (p := ⟨b, o + 5, none⟩) (.inl hb) v5
/-- The cells of a window: eight slots of a time and K counts; buckets, width, time. -/
def winF (K : Nat) (s : WinM) (a : Nat → Nat) (j : Nat) : Value :=
  if j < 8 * (K + 1) then
    (if j % (K + 1) = 0 then .int .u64 ((a (j / (K + 1)) : Nat) : Int) else .int .u64 ((slotc s.L s.n (a (j / (K + 1))) (j / (K + 1)) (j % (K + 1) - 1) : Nat) : Int))
  else if j = 8 * (K + 1) then .int .u64 ((s.n : Nat) : Int) else if j = 8 * (K + 1) + 1 then .int .u64 ((s.width : Nat) : Int) else .int .u64 ((s.now : Nat) : Int)
def IsWin (w : World) (b : Nat) (s : WinM) : Prop := ∃ a, WinOk 5 s a ∧ FCells w b 179 51 (winF 5 s a)
theorem IsWin.fr {w w' : World} {b : Nat} {s : WinM} (h : IsWin w b s) {S : List Nat} (k : Fr S w w') (hb : b ∉ S) : IsWin w' b s := by
  obtain ⟨a, h1, h2⟩ := h
  exact ⟨a, h1, h2.fr k hb⟩

theorem winF_at (s : WinM) (a : Nat → Nat) (i : Nat) (hi : i < 8) : winF 5 s a (i * 6) = .int .u64 ((a i : Nat) : Int) := by
  unfold winF
  rw [if_pos (by omega), if_pos (by omega), show i * 6 / (5 + 1) = i by omega]
theorem winF_cnt (s : WinM) (a : Nat → Nat) (i k : Nat) (hi : i < 8) (hk : k < 5) : winF 5 s a (i * 6 + 1 + k) = .int .u64 ((slotc s.L s.n (a i) i k : Nat) : Int) := by
  unfold winF
  rw [if_pos (by omega), if_neg (by omega), show (i * 6 + 1 + k) / (5 + 1) = i by omega, show (i * 6 + 1 + k) % (5 + 1) - 1 = k by omega]
theorem winF_same {s : WinM} {a a' : Nat → Nat} (now j : Nat) (hj : j < 48) (h : a' (j / 6) = a (j / 6)) : winF 5 (s.to now) a' j = winF 5 s a j := by
  unfold winF
  have hj' : j < 8 * (5 + 1) := by omega
  simp only [hj', if_true]
  rw [show j / (5 + 1) = j / 6 from rfl, h]; rfl
/-- The row of a new bucket is laid. -/
theorem winF_move {s : WinM} {a : Nat → Nat} (h : WinOk 5 s a) (now r : Nat) (hr : r = (s.to now).bkt % s.n) (hne : a r ≠ (s.to now).bkt) (j : Nat) (hj : j < 51) :
    (if j = r * 6 + 5 then Value.int .u64 0 else if j = r * 6 + 4 then .int .u64 0 else if j = r * 6 + 3 then .int .u64 0 else if j = r * 6 + 2 then .int .u64 0 else if j = r * 6 + 1 then .int .u64 0 else if j = r * 6 then .int .u64 (((s.to now).bkt : Nat) : Int) else if j = 50 then .int .u64 (((s.to now).now : Nat) : Int) else winF 5 s a j) = winF 5 (s.to now) ((s.to now).slots a) j := by
  have hr8 : r < 8 := by rw [hr]; exact Nat.lt_of_lt_of_le (Nat.mod_lt _ h.n1) h.n8
  have hself : (s.to now).slots a r = (s.to now).bkt := by rw [hr]; exact slots_self (s.to now) a
  have hz : ∀ k, k < 5 → winF 5 (s.to now) ((s.to now).slots a) (r * 6 + 1 + k) = .int .u64 0 := by
    intro k hk
    rw [winF_cnt _ _ _ _ hr8 hk]
    have := slotc_move h now r k
    rw [if_pos ⟨hr, hne⟩] at this
    show Value.int .u64 ((slotc s.L s.n ((s.to now).slots a r) r k : Nat) : Int) = _
    rw [this]; rfl
  by_cases e5 : j = r * 6 + 5
  · rw [if_pos e5, e5]; exact (hz 4 (by omega)).symm
  rw [if_neg e5]
  by_cases e4 : j = r * 6 + 4
  · rw [if_pos e4, e4]; exact (hz 3 (by omega)).symm
  rw [if_neg e4]
  by_cases e3 : j = r * 6 + 3
  · rw [if_pos e3, e3]; exact (hz 2 (by omega)).symm
  rw [if_neg e3]
  by_cases e2 : j = r * 6 + 2
  · rw [if_pos e2, e2]; exact (hz 1 (by omega)).symm
  rw [if_neg e2]
  by_cases e1 : j = r * 6 + 1
  · rw [if_pos e1, e1]; exact (hz 0 (by omega)).symm
  rw [if_neg e1]
  by_cases e0 : j = r * 6
  · rw [if_pos e0, e0, winF_at _ _ _ hr8, hself]
  rw [if_neg e0]
  by_cases hlt : j < 48
  · rw [if_neg (by omega)]
    refine (winF_same _ _ hlt ?_).symm
    unfold WinM.slots
    rw [if_neg]
    show ¬ j / 6 = (s.to now).bkt % s.n
    rw [← hr]; omega
  · have : j = 48 ∨ j = 49 ∨ j = 50 := by omega
    rcases this with rfl | rfl | rfl <;> rfl
theorem winF_stay {s : WinM} {a : Nat → Nat} (now r : Nat) (hr : r = (s.to now).bkt % s.n) (heq : a r = (s.to now).bkt) (j : Nat) (hj : j < 51) :
    (if j = 50 then .int .u64 (((s.to now).now : Nat) : Int) else winF 5 s a j) = winF 5 (s.to now) ((s.to now).slots a) j := by
  have hs : (s.to now).slots a = a := by
    funext i
    unfold WinM.slots
    split
    · rename_i e; rw [show i = r from e.trans hr.symm]; exact heq.symm
    · rfl
  rw [hs]
  by_cases hlt : j < 48
  · rw [if_neg (by omega)]
    exact (winF_same _ _ hlt rfl).symm
  · have : j = 48 ∨ j = 49 ∨ j = 50 := by omega
    rcases this with rfl | rfl | rfl <;> rfl

set_option maxHeartbeats 1000000 in
theorem winAt_spec {w : World} {b : Nat} {s : WinM} {a : Nat → Nat} (hok : WinOk 5 s a) (h : FCells w b 179 51 (winF 5 s a)) (now : Nat) (hnow : now < 18446744073709551616) :
    Calls Tryz.prog 108 #[.pointer (some ⟨b, 0, none⟩), .int .u64 now] w fun e w' => e = .returned (.pointer (some ⟨b, (s.to now).bkt % s.n * 6, none⟩)) ∧ FCells w' b 179 51 (winF 5 (s.to now) ((s.to now).slots a)) ∧ Fr [b] w w' := by
  obtain ⟨N, hN⟩ : ∃ x, x = (s.to now).now := ⟨_, rfl⟩
  obtain ⟨bk, hbk⟩ : ∃ x, x = (s.to now).bkt := ⟨_, rfl⟩
  obtain ⟨r, hr⟩ : ∃ x, x = (s.to now).bkt % s.n := ⟨_, rfl⟩
  have c48 := h.cellv (i := 48) (by omega) (show winF 5 s a 48 = .int .u64 (s.n : Int) from rfl)
  have c49 := h.cellv (i := 49) (by omega) (show winF 5 s a 49 = .int .u64 (s.width : Int) from rfl)
  have c50 := h.cellv (i := 50) (by omega) (show winF 5 s a 50 = .int .u64 (s.now : Int) from rfl)
  have f50 := h.free 50
  have H1 := h.set 50 (.int .u64 (N : Int))
  have g49 := H1.cellv (i := 49) (by omega) (show (if 49 = 50 then Value.int .u64 (N : Int) else winF 5 s a 49) = .int .u64 (s.width : Int) from rfl)
  have g50 := H1.cellv (i := 50) (by omega) (show (if 50 = 50 then Value.int .u64 (N : Int) else winF 5 s a 50) = .int .u64 (N : Int) from rfl)
  have hd : (N : Int) / (s.width : Int) = (bk : Int) := by rw [hbk, hN]; rfl
  have hm : (bk : Int) % (s.n : Int) = (r : Int) := by rw [hr, hbk]; rfl
  have g48 := H1.cellv (i := 48) (by omega) (show (if 48 = 50 then Value.int .u64 (N : Int) else winF 5 s a 48) = .int .u64 (s.n : Int) from rfl)
  have hwd := hok.wd
  have hn1 := hok.n1
  have hbl : bk < 18446744073709551616 := by
    rw [hbk]
    have h1 : (s.to now).bkt ≤ (s.to now).now := Nat.div_le_self _ _
    have h2 : (s.to now).now = max s.now now := rfl
    have := hok.now
    omega
  have hwb : IntKind.u64.wrap (bk : Int) = (bk : Int) := by rw [IntKind.wrap_u64]; omega
  have hr8 : r < 8 := by rw [hr]; exact Nat.lt_of_lt_of_le (Nat.mod_lt _ hok.n1) hok.n8
  have hwr : IntKind.u64.wrap (r : Int) = (r : Int) := by rw [IntKind.wrap_u64]; omega
  have HOK := Lib.hid hok
  have HH1 := Lib.hid H1
  have HNN := Lib.hid hN
  have HBK := Lib.hid hbk
  have HR := Lib.hid hr
  have HF1 := Lib.hid (Fr.set0 w b 50 (.int .u64 (N : Int)))
  have HAT := Lib.hid (H1.cellv (i := r * 6) (by omega) (show (if r * 6 = 50 then Value.int .u64 (N : Int) else winF 5 s a (r * 6)) = .int .u64 ((a r : Nat) : Int) by rw [if_neg (by omega)]; exact winF_at s a r hr8))
  rw [← hr]
  obtain ⟨ar, har⟩ : ∃ x, x = a r := ⟨_, rfl⟩
  rw [← har] at HAT
  have HAR := Lib.hid har
  clear har
  have main : ∀ (hsp : (s.now < now ∧ N = now) ∨ (¬ s.now < now ∧ N = s.now)), Calls Tryz.prog 108 #[.pointer (some ⟨b, 0, none⟩), .int .u64 now] w fun e w' => e = .returned (.pointer (some ⟨b, r * 6, none⟩)) ∧ FCells w' b 179 51 (winF 5 (s.to now) ((s.to now).slots a)) ∧ Fr [b] w w' := by
    intro hsp
    clear hN hbk hr h H1 hok
    by_cases heq : ar = bk
    · have HST := fun j (hj : j < 51) => winF_stay now r HR.out (HAR.out.symm.trans (heq.trans HBK.out)) j hj
      simp only [← HNN.out] at HST
      have HST := Lib.hid HST
      subst heq
      rcases hsp with ⟨h1, e⟩ | ⟨h1, e⟩
      all_goals (
        rw [e] at g50 hd HAT HH1 HF1
        simp only [e] at HST
        clear e
        go_enter Tryz.func108, Tryz.ntmps108
        go_wp2_with fail
        go_quiet (fail)
        go_wp2_with fail
        go_quiet (fail)
        have hat := HAT.out
        go_wp2_with fail
        go_ret
        exact ⟨rfl, (FCells.congr HH1.out HST.out).drewN _, HF1.out.drewN _⟩)
    · have HST := fun j (hj : j < 51) => winF_move HOK.out now r HR.out (fun k => heq (HAR.out.trans (k.trans HBK.out.symm))) j hj
      simp only [← HNN.out, ← HBK.out] at HST
      have HST := Lib.hid HST
      have hne : ((ar : Int) == (bk : Int)) = false := by simp; omega
      clear heq
      rcases hsp with ⟨h1, e⟩ | ⟨h1, e⟩
      all_goals (
        rw [e] at g50 hd HAT HH1 HF1
        simp only [e] at HST
        clear e
        have z0 := HH1.out.free (r * 6)
        have z1 := HH1.out.free (r * 6 + 1)
        have z2 := HH1.out.free (r * 6 + 2)
        have z3 := HH1.out.free (r * 6 + 3)
        have z4 := HH1.out.free (r * 6 + 4)
        have z5 := HH1.out.free (r * 6 + 5)
        have y1 := HH1.out.cell (i := r * 6 + 1) (by omega)
        have y2 := HH1.out.cell (i := r * 6 + 2) (by omega)
        have y3 := HH1.out.cell (i := r * 6 + 3) (by omega)
        have y4 := HH1.out.cell (i := r * 6 + 4) (by omega)
        have y5 := HH1.out.cell (i := r * 6 + 5) (by omega)
        go_enter Tryz.func108, Tryz.ntmps108
        go_wp2_with fail
        go_quiet (fail)
        go_wp2_with fail
        go_quiet (fail)
        have hat := HAT.out
        go_wp2_with fail
        go_ret
        refine ⟨rfl, ?_, ?_⟩
        · exact FCells.six (HH1.out.drewN _) (r * 6) _ _ _ _ _ _ HST.out
        · exact Fr.six (HF1.out.drewN _) (by simp) (r * 6) _ _ _ _ _ _)
  refine main ?_
  by_cases hlt : s.now < now
  · exact .inl ⟨hlt, by rw [hN]; show max s.now now = now; omega⟩
  · exact .inr ⟨hlt, by rw [hN]; show max s.now now = s.now; omega⟩
end Go.Proofs.YtcnkhjgpjchkeaaGreat

namespace Go.Proofs.YtcnkhjgpjchkeaaGreat
open Go.RowKit

theorem sadd_one {a : Nat} (h : a < 18446744073709551615) : sadd a 1 = a + 1 := by unfold sadd; omega
theorem Fr.setRow {S : List Nat} {a w : World} (h : Fr S a w) {b : Nat} (hb : b ∈ S ∨ a.heap.size ≤ b) (c : Array Value) : Fr S a (w.setRow b c) :=
  ⟨h.os, h.tape, h.output, by have := h.size; simp only [World.setRow, Array.size_modify]; omega, fun k hk hn => by
    have hne : b ≠ k := fun e => by subst e; rcases hb with h1 | h1; exact hn h1; omega
    show (w.heap.modify b _)[k]? = _
    rw [Array.getElem?_modify, if_neg hne]
    exact h.block k hk hn⟩
/-- A run of cells is stored. -/
theorem FCells.run_store {P : Program} {w : World} {b : Nat} {E : TypeId} {n : Nat} {f : Nat → Value} (h : FCells w b E n f) (o : Nat) (vs : List Value) (hl : o + vs.length ≤ n) (h1 : ∀ v ∈ vs, v.oneCell' = true) :
    ∃ w', (storeCells ⟨b, o, none⟩ vs 0).run P w = .ok () w' ∧ FCells w' b E n (fun j => if o ≤ j ∧ j < o + vs.length then vs.getD (j - o) undef else f j) ∧ Fr [b] w w' := by
  obtain ⟨cs, k1, k2, k3⟩ := h
  refine ⟨_, run_storeCells_at P b o E vs 0 cs w k1 (by omega) h1, ⟨_, setRow_heap w b cs _ E _ k1, ?_, ?_⟩, (Fr.refl _ _).setRow (.inl (by simp)) _⟩
  · simp only [List.size_toArray, List.length_append, List.length_take, List.length_drop, Array.length_toList]; omega
  · intro i hi
    have hc := k3 i hi
    simp only [Nat.add_zero, List.getElem?_toArray]
    show _ = some (if o ≤ i ∧ i < o + vs.length then vs.getD (i - o) undef else f i)
    have hlt : (List.take o cs.toList).length = o := by simp; omega
    by_cases h2 : i < o
    · rw [if_neg (by omega), List.append_assoc, List.getElem?_append_left (by omega), List.getElem?_take, if_pos h2]
      simpa using hc
    · by_cases h3 : i < o + vs.length
      · rw [if_pos ⟨by omega, h3⟩, List.append_assoc, List.getElem?_append_right (by omega), hlt, List.getElem?_append_left (by omega)]
        rw [List.getD, List.getElem?_eq_getElem (by omega)]; rfl
      · rw [if_neg (by omega), List.getElem?_append_right (by simp; omega)]
        rw [List.length_append, hlt, List.getElem?_drop]
        rw [show o + vs.length + (i - (o + vs.length)) = i by omega]
        simpa using hc
theorem winF_add {s : WinM} {a : Nat → Nat} (r k : Nat) (hr : r = s.bkt % s.n) (hr8 : r < 8) (hk : k < 5) (hat : a r = s.bkt) (j : Nat) (hj : j < 51) :
    (if j = r * 6 + 1 + k then Value.int .u64 (((slotc s.L s.n (a r) r k + 1 : Nat) : Int)) else winF 5 s a j) = winF 5 { s with L := s.L ++ [(s.bkt, k)] } a j := by
  by_cases e : j = r * 6 + 1 + k
  · rw [if_pos e, e, winF_cnt _ _ _ _ hr8 hk]
    show _ = Value.int .u64 ((slotc (s.L ++ [(s.bkt, k)]) s.n (a r) r k : Nat) : Int)
    rw [slotc_snoc, if_pos ⟨hat.symm, hr.symm, rfl⟩]
  · rw [if_neg e]
    by_cases hlt : j < 48
    · unfold winF
      have hj' : j < 8 * (5 + 1) := by omega
      simp only [hj', if_true]
      by_cases h0 : j % (5 + 1) = 0
      · rw [if_pos h0, if_pos h0]
      · rw [if_neg h0, if_neg h0, slotc_snoc, if_neg]
        · rfl
        · rintro ⟨_, h2, h3⟩
          simp only at h2 h3
          rw [← hr] at h2
          omega
    · have : j = 48 ∨ j = 49 ∨ j = 50 := by omega
      rcases this with rfl | rfl | rfl <;> rfl
set_option maxHeartbeats 1000000 in
theorem winAdd_spec {w : World} {b : Nat} {s : WinM} (h : IsWin w b s) (now : Nat) (hnow : now < 18446744073709551616) (k : Nat) (hk : k < 5) (hl : s.L.length < 1000000000000000) :
    Calls Tryz.prog 116 #[.pointer (some ⟨b, 0, none⟩), .int .u64 now, .int .i64 k, .int .u64 1] w fun e w' => e = .returned (.bool true) ∧ IsWin w' b (s.add now k) ∧ Fr [b] w w' := by
  obtain ⟨a, hok, hc⟩ := h
  have HA := Lib.hid (winAt_spec hok hc now hnow)
  have hok2 := hok.move now hnow
  have hself := slots_self (s.to now) a
  have hn1 := hok.n1
  have hn8 := hok.n8
  have hS : s.add now k = { s.to now with L := (s.to now).L ++ [((s.to now).bkt, k)] } := rfl
  have hlt : (s.to now).L.length < 1000000000000000 := hl
  have hsn : (s.to now).n = s.n := rfl
  rw [hS]
  clear hS hl hc hok
  generalize (s.to now).slots a = a' at *
  rw [← hsn] at HA hn1 hn8
  generalize s.to now = s' at *
  clear hsn
  obtain ⟨r, hr⟩ : ∃ x, x = s'.bkt % s'.n := ⟨_, rfl⟩
  have hr8 : r < 8 := by rw [hr]; exact Nat.lt_of_lt_of_le (Nat.mod_lt _ hn1) hn8
  rw [← hr] at HA hself
  have HS := Lib.hid (show IsWin (w) b { s' with L := s'.L ++ [(s'.bkt, k)] } → True from fun _ => trivial)
  clear HS
  have HOK := Lib.hid (hok2.added (by rw [← hr]; exact hself) k hk hlt)
  have HST := Lib.hid (fun j hj => winF_add r k hr hr8 hk hself j hj)
  have hsl := slotc_le s'.L s'.n (a' r) r k
  have HCN := Lib.hid (winF_cnt s' a' r k hr8 hk)
  obtain ⟨c, hc⟩ : ∃ c, c = slotc s'.L s'.n (a' r) r k := ⟨_, rfl⟩
  rw [← hc] at HCN HST hsl
  have hcb : c < 18446744073709551615 := Nat.lt_of_lt_of_le (Nat.lt_of_le_of_lt hsl hlt) (by decide)
  have HADD := Lib.hid (fun w' => satadd_spec w' c 1 (Nat.lt_succ_of_lt hcb))
  have hc1 := sadd_one hcb
  rw [hc1] at HADD
  clear hcb hc1 hc hsl hself hok2 hlt hr hn1 hn8
  go_enter Tryz.func116, Tryz.ntmps116
  go_wp2_with fail
  refine HA.out.mono ?_
  rintro e w1 ⟨rfl, HC, F⟩
  have HC1 := Lib.hid HC
  have HF1 := Lib.hid F
  have c1 := HC.cellv (i := r * 6 + 1 + k) (by omega) HCN.out
  have f1 := HC.free (r * 6 + 1 + k)
  have HC2 := Lib.hid ((HC.set (r * 6 + 1 + k) (.int .u64 (((c + 1 : Nat) : Int)))).congr HST.out)
  have HF2 := Lib.hid (F.trans (Fr.set0 w1 b (r * 6 + 1 + k) (.int .u64 (((c + 1 : Nat) : Int)))))
  clear F HC HA HST
  go_wp2_with fail
  go_region_with ((go_at_call 109; refine (HADD.out _).mono ?_; rintro e w8 ⟨rfl, h8⟩; subst h8))
  all_goals (
    go_wp2_with fail
    go_ret
    exact ⟨rfl, ⟨a', HOK.out, HC2.out.drewN _⟩, HF2.out.drewN _⟩)

theorem winF_zero (s : WinM) (j : Nat) (hj : j < 48) : winF 5 s.reset (fun _ => 0) j = .int .u64 0 := by
  unfold winF
  rw [if_pos (by omega)]
  split
  · rfl
  · rfl
theorem win_clear {w : World} {b : Nat} {s : WinM} {a : Nat → Nat} (h : FCells w b 179 51 (winF 5 s a)) :
    ∃ w', (Builtin.clear_ #[232] 0 #[.slice (some ⟨b, 0, none⟩) 8 8]).run Tryz.prog w = .ok (.tuple #[]) w' ∧ FCells w' b 179 51 (winF 5 s.reset (fun _ => 0)) ∧ Fr [b] w w' := by
  obtain ⟨w', h1, h2, h3⟩ := h.run_store (P := Tryz.prog) 0 (List.replicate 48 (.int .u64 0)) (by simp) (by intro v hv; rw [(List.mem_replicate.1 hv).2]; rfl)
  refine ⟨w', ?_, h2.congr ?_, h3⟩
  · have e : (Builtin.zeroCells #[Value.int .u64 0, .int .u64 0, .int .u64 0, .int .u64 0, .int .u64 0, .int .u64 0] 8).toList = List.replicate 48 (.int .u64 0) := by kernel_rfl
    have h1' := h1
    rw [← e] at h1'
    simp [Builtin.clear_, run_underlying Tryz.underlying232, go_sem, Value.cells, h1']
  · intro j hj
    by_cases hlt : j < 48
    · rw [if_pos (by simp; omega), winF_zero s j hlt]
      rw [List.getD, List.getElem?_replicate, if_pos (by omega)]; rfl
    · rw [if_neg (by simp; omega)]
      have : j = 48 ∨ j = 49 ∨ j = 50 := by omega
      rcases this with rfl | rfl | rfl <;> rfl
set_option maxHeartbeats 1000000 in
set_option maxRecDepth 20000 in
theorem winReset_spec {w : World} {b : Nat} {s : WinM} (h : IsWin w b s) :
    Calls Tryz.prog 120 #[.pointer (some ⟨b, 0, none⟩)] w fun e w' => e = .returned (.tuple #[]) ∧ IsWin w' b s.reset ∧ Fr [b] w w' := by
  obtain ⟨a, hok, hc⟩ := h
  obtain ⟨w', hclr, HC, HF⟩ := win_clear hc
  have HC' := Lib.hid HC
  have HF' := Lib.hid HF
  have HOK := Lib.hid hok.resetOk
  clear HC HF hc hok
  go_enter Tryz.func120, Tryz.ntmps120
  go_wp2_with fail
  go_end0
  exact ⟨rfl, ⟨_, HOK.out, HC'.out⟩, HF'.out⟩

/-- A window that has just been made. -/
def WinM.new (n width : Nat) : WinM := ⟨n, width, 0, []⟩
theorem winOk_new {K n width : Nat} (h1 : 1 ≤ n) (h8 : n ≤ 8) (hw : 1 ≤ width) (hw2 : width ≤ 1099511627776) : WinOk K (WinM.new n width) (fun _ => 0) :=
  ⟨h1, h8, hw, Nat.lt_of_le_of_lt hw2 (by decide), (show 0 < 18446744073709551616 by decide), by simp [WinM.new], fun _ _ => Nat.zero_le _, fun _ _ => .inr rfl, fun e he => by simp [WinM.new] at he, fun e he => by simp [WinM.new] at he⟩
set_option maxHeartbeats 1000000 in
set_option maxRecDepth 20000 in
theorem winNew_spec (w : World) (n width : Nat) (h1 : 1 ≤ n) (h8 : n ≤ 8) (hw : 1 ≤ width) (hw2 : width ≤ 1099511627776) :
    Calls Tryz.prog 33 #[.int .i64 n, .int .u64 width] w fun e w' => e = .returned (.pointer (some ⟨w.heap.size, 0, none⟩)) ∧ IsWin w' w.heap.size (WinM.new n width) ∧ Fr [] w w' := by
  go_enter Tryz.func33, Tryz.ntmps33
  go_wp2_with fail
  go_ret
  refine ⟨rfl, ⟨_, winOk_new h1 h8 hw hw2, _, block_alloc_new _ _, rfl, fun j hj => ?_⟩, (Fr.refl _ _).alloc _⟩
  show ((List.replicate 48 (Value.int .u64 0) ++ [Value.int .u64 n, Value.int .u64 width, Value.int .u64 0]).toArray)[j]? = _
  rw [List.getElem?_toArray]
  by_cases hlt : j < 48
  · rw [List.getElem?_append_left (by rw [List.length_replicate]; exact hlt), List.getElem?_replicate, if_pos hlt]
    exact congrArg some (winF_zero (WinM.new n width) j hlt).symm
  · have : j = 48 ∨ j = 49 ∨ j = 50 := by omega
    rcases this with rfl | rfl | rfl <;> rfl
end Go.Proofs.YtcnkhjgpjchkeaaGreat

namespace Go.Proofs.YtcnkhjgpjchkeaaGreat
open Go.RowKit

/-- What the first slots come to. -/
def partc (s : WinM) (a : Nat → Nat) (i k : Nat) : Nat := sumTo (fun i => if s.bkt - a i < s.n then slotc s.L s.n (a i) i k else 0) i
theorem partc_le {K : Nat} {s : WinM} {a : Nat → Nat} (h : WinOk K s a) {i : Nat} (hi : i ≤ s.n) (k : Nat) : partc s a i k ≤ 1000000000000000 := by
  have h1 := sumTo_mono (fun i => if s.bkt - a i < s.n then slotc s.L s.n (a i) i k else 0) hi
  rw [h.sum k] at h1
  exact Nat.le_trans h1 (Nat.le_trans (cnt_len s k) h.len)
theorem partc_all {K : Nat} {s : WinM} {a : Nat → Nat} (h : WinOk K s a) (k : Nat) : partc s a s.n k = s.cnt k := h.sum k
theorem partc_yes {s : WinM} {a : Nat → Nat} {i : Nat} (h : s.bkt - a i < s.n) (k : Nat) : partc s a (i + 1) k = partc s a i k + slotc s.L s.n (a i) i k := by
  show sumTo _ i + (if s.bkt - a i < s.n then slotc s.L s.n (a i) i k else 0) = _
  rw [if_pos h]; rfl
theorem partc_no {s : WinM} {a : Nat → Nat} {i : Nat} (h : ¬ s.bkt - a i < s.n) (k : Nat) : partc s a (i + 1) k = partc s a i k := by
  show sumTo _ i + (if s.bkt - a i < s.n then slotc s.L s.n (a i) i k else 0) = _
  rw [if_neg h]; rfl
theorem sadd_small {a b : Nat} (ha : a ≤ 1000000000000000) (hb : b ≤ 1000000000000000) : sadd a b = a + b := by
  unfold sadd
  exact Nat.min_eq_left (Nat.le_trans (Nat.add_le_add ha hb) (by decide))
/-- The counts that are told. -/
def WinM.cn (s : WinM) : Cn := ⟨s.cnt 0, s.cnt 1, s.cnt 2, s.cnt 3, s.cnt 4⟩
theorem FCells.agg5 {w : World} {b : Nat} {E : TypeId} {f : Nat → Value} (h : FCells w b E 5 f) : w.heap[b]? = some (.cells #[f 0, f 1, f 2, f 3, f 4] E (0, 0)) := by
  obtain ⟨cs, h1, h2, h3⟩ := h
  rw [h1]
  congr 2
  apply Array.ext (by simp [h2])
  intro i hi1 hi2
  have := h3 i (by omega)
  rw [Array.getElem?_eq_getElem hi1] at this
  have hi : i < 5 := by omega
  match i, hi with
  | 0, _ => simpa using this
  | 1, _ => simpa using this
  | 2, _ => simpa using this
  | 3, _ => simpa using this
  | 4, _ => simpa using this
theorem fiveD {w : World} {b : Nat} {E : TypeId} {fr : Nat × Nat} {v0 v1 v2 v3 v4 : Value} (h : w.heap[b]? = some (.cells #[v0, v1, v2, v3, v4] E fr)) :
    w.cell? ⟨b, 0, none⟩ = some v0 ∧ w.cell? ⟨b, 1, none⟩ = some v1 ∧ w.cell? ⟨b, 2, none⟩ = some v2 ∧ w.cell? ⟨b, 3, none⟩ = some v3 ∧ w.cell? ⟨b, 4, none⟩ = some v4 :=
  ⟨by rw [cell_of_block h]; rfl, by rw [cell_of_block h]; rfl, by rw [cell_of_block h]; rfl, by rw [cell_of_block h]; rfl, by rw [cell_of_block h]; rfl⟩
theorem free5D {w : World} {b : Nat} {c : Array Value} {E : TypeId} (h : w.heap[b]? = some (.cells c E (0, 0))) :
    w.frozen? ⟨b, 0, none⟩ = false ∧ w.frozen? ⟨b, 1, none⟩ = false ∧ w.frozen? ⟨b, 2, none⟩ = false ∧ w.frozen? ⟨b, 3, none⟩ = false ∧ w.frozen? ⟨b, 4, none⟩ = false :=
  ⟨free_of_block h 0, free_of_block h 1, free_of_block h 2, free_of_block h 3, free_of_block h 4⟩
theorem FCells.lay5 {X : World} {b : Nat} {E : TypeId} {f : Nat → Value} (h : FCells X b E 5 f) (v0 v1 v2 v3 v4 : Value) : (((((X.setCell ⟨b, 0, none⟩ v0).setCell ⟨b, 1, none⟩ v1).setCell ⟨b, 2, none⟩ v2).setCell ⟨b, 3, none⟩ v3).setCell ⟨b, 4, none⟩ v4).heap[b]? = some (.cells #[v0, v1, v2, v3, v4] E (0, 0)) := by
  have h1 := block_setCell (block_setCell (block_setCell (block_setCell (block_setCell h.agg5 0 v0) 1 v1) 2 v2) 3 v3) 4 v4
  exact h1
theorem FCells.lay5o {X : World} {b b' : Nat} {E : TypeId} {n : Nat} {f : Nat → Value} (h : FCells X b' E n f) (hne : b ≠ b') (v0 v1 v2 v3 v4 : Value) : FCells (((((X.setCell ⟨b, 0, none⟩ v0).setCell ⟨b, 1, none⟩ v1).setCell ⟨b, 2, none⟩ v2).setCell ⟨b, 3, none⟩ v3).setCell ⟨b, 4, none⟩ v4) b' E n f :=
  ((((h.other (p := ⟨b, 0, none⟩) hne v0).other (p := ⟨b, 1, none⟩) hne v1).other (p := ⟨b, 2, none⟩) hne v2).other (p := ⟨b, 3, none⟩) hne v3).other (p := ⟨b, 4, none⟩) hne v4
theorem Fr.lay5 {S : List Nat} {a X : World} {b : Nat} (h : Fr S a X) (hb : a.heap.size ≤ b) (v0 v1 v2 v3 v4 : Value) : Fr S a (((((X.setCell ⟨b, 0, none⟩ v0).setCell ⟨b, 1, none⟩ v1).setCell ⟨b, 2, none⟩ v2).setCell ⟨b, 3, none⟩ v3).setCell ⟨b, 4, none⟩ v4) :=
  ((((h.setCell (p := ⟨b, 0, none⟩) (.inr hb) v0).setCell (p := ⟨b, 1, none⟩) (.inr hb) v1).setCell (p := ⟨b, 2, none⟩) (.inr hb) v2).setCell (p := ⟨b, 3, none⟩) (.inr hb) v3).setCell (p := ⟨b, 4, none⟩) (.inr hb) v4
theorem idx5 (x : Nat → Int) (k : Nat) (hk : k < 5) (wx : World) : (Instr.index 67 (.agg #[.int .u64 (x 0), .int .u64 (x 1), .int .u64 (x 2), .int .u64 (x 3), .int .u64 (x 4)]) (.int .i64 (k : Int))).run Tryz.prog wx = .ok (.int .u64 (x k)) wx := by
  rcases (show k = 0 ∨ k = 1 ∨ k = 2 ∨ k = 3 ∨ k = 4 by omega) with rfl | rfl | rfl | rfl | rfl
  all_goals (clear hk; kernel_rfl)
theorem cut8 (b n : Nat) (h1 : 1 ≤ n) (h8 : n ≤ 8) (wx : World) : (Instr.sliceAt 177 (.pointer (some ⟨b, 0, none⟩)) none (some (.int .u64 (n : Int))) none).run Tryz.prog wx = .ok (.slice (some ⟨b, 0, none⟩) n 8) wx := by
  rcases (show n = 1 ∨ n = 2 ∨ n = 3 ∨ n = 4 ∨ n = 5 ∨ n = 6 ∨ n = 7 ∨ n = 8 by omega) with rfl | rfl | rfl | rfl | rfl | rfl | rfl | rfl
  all_goals (clear h1 h8; kernel_rfl)
theorem FCells.new5 (w : World) (E : TypeId) (v : Value) : FCells (w.alloc (.cells #[v, v, v, v, v] E)) w.heap.size E 5 (fun _ => v) :=
  ⟨_, block_alloc_new _ _, rfl, fun i hi => by
    match i, hi with
    | 0, _ => rfl
    | 1, _ => rfl
    | 2, _ => rfl
    | 3, _ => rfl
    | 4, _ => rfl⟩

set_option maxHeartbeats 4000000 in
set_option maxRecDepth 20000 in
theorem winCounts_spec {w : World} {b : Nat} {s : WinM} (h : IsWin w b s) (now : Nat) (hnow : now < 18446744073709551616) :
    Calls Tryz.prog 55 #[.pointer (some ⟨b, 0, none⟩), .int .u64 now] w fun e w' => e = .returned (.agg (s.to now).cn.vals) ∧ IsWin w' b (s.to now) ∧ Fr [b] w w' := by
  obtain ⟨a, hok, hc⟩ := h
  have hb := hc.lt
  have hok2 := hok.move now hnow
  have F0 := ((Fr.refl [] w).alloc (.cells #[.int .u64 0, .int .u64 0, .int .u64 0, .int .u64 0, .int .u64 0] 67)).alloc (.cells #[.int .u64 0, .int .u64 0, .int .u64 0, .int .u64 0, .int .u64 0] 67)
  have HA := Lib.hid (winAt_spec hok (hc.fr F0 (by simp)) now hnow)
  have HR := Lib.hid ((FCells.new5 w 67 (.int .u64 0)).fr ((Fr.refl [] _).alloc (.cells #[.int .u64 0, .int .u64 0, .int .u64 0, .int .u64 0, .int .u64 0] 67)) (by simp))
  have hcn := FCells.new5 (w.alloc (.cells #[.int .u64 0, .int .u64 0, .int .u64 0, .int .u64 0, .int .u64 0] 67)) 67 (.int .u64 0)
  rw [World.size_alloc] at hcn
  have HCN := Lib.hid hcn
  have HF0 := Lib.hid F0
  have hself := slots_self (s.to now) a
  have hsn : (s.to now).n = s.n := rfl
  clear hcn F0 hc hok
  generalize (s.to now).slots a = a' at *
  rw [← hsn] at HA
  clear hsn
  generalize s.to now = s' at *
  have hn1 := hok2.n1
  have hn8 := hok2.n8
  obtain ⟨r, hr⟩ : ∃ x, x = s'.bkt % s'.n := ⟨_, rfl⟩
  have hr8 : r < 8 := by rw [hr]; exact Nat.lt_of_lt_of_le (Nat.mod_lt _ hn1) hn8
  rw [← hr] at HA hself
  obtain ⟨bk, hbk⟩ : ∃ x, x = s'.bkt := ⟨_, rfl⟩
  rw [← hbk] at hself
  have HOK := Lib.hid hok2
  have HSELF := Lib.hid hself
  have HBK := Lib.hid hbk
  clear hr hok2 hself hbk
  go_enter Tryz.func55, Tryz.ntmps55
  go_wp2_with fail
  refine HA.out.mono ?_
  rintro e w1 ⟨rfl, HC, F⟩
  have HF1 := Lib.hid ((HF0.out.mono (S' := [b]) (by simp)).trans F)
  have HC1 := Lib.hid HC
  have HR1 := Lib.hid (HR.out.fr F (by simp; omega))
  have HCN1 := Lib.hid (HCN.out.fr F (by simp; omega))
  have c1 := HC.cellv (i := r * 6) (by omega) ((winF_at s' a' r hr8).trans (by rw [HSELF.out]))
  have c48 := HC.cellv (i := 48) (by omega) (show winF 5 s' a' 48 = .int .u64 (s'.n : Int) from rfl)
  have hcut := cut8 b s'.n hn1 hn8
  clear F HC HA HR HCN HF0
  go_wp2_with fail
  go_quiet (fail)
  go_wp2_with fail
  clear c1 c48
  go_loopw [29] (fun x wr => ∃ i : Nat, i ≤ s'.n ∧ x = .int .i64 i ∧ Hid (FCells wr b 179 51 (winF 5 s' a')) ∧ Hid (FCells wr w.heap.size 67 5 (fun _ => .int .u64 0)) ∧ Hid (FCells wr (w.heap.size + 1) 67 5 (fun j => .int .u64 ((partc s' a' i j : Nat) : Int))) ∧ Hid (Fr [b] w wr)) (fun x _ => s'.n - (intOf x).toNat)
  case atStart => exact ⟨0, Nat.zero_le _, rfl, Lib.hid (HC1.out.drewN _), Lib.hid (HR1.out.drewN _), Lib.hid (HCN1.out.drewN _), Lib.hid (HF1.out.drewN _)⟩
  case round =>
    obtain ⟨i, hi, rfl, HC2, HR2, HCN2, HF2⟩ := hrel
    obtain ⟨wo, rfl⟩ : ∃ wo : World, wo = wr := ⟨_, rfl⟩
    clear HC1 HR1 HCN1 HF1
    by_cases hlt : i < s'.n
    · have hi8 : i < 8 := by omega
      obtain ⟨ai, hai⟩ : ∃ x, x = a' i := ⟨_, rfl⟩
      obtain ⟨g, hg⟩ : ∃ g : Nat → Nat, g = fun j => slotc s'.L s'.n (a' i) i j := ⟨_, rfl⟩
      have c0 := HC2.out.cellv (i := i * 6) (by omega) ((winF_at s' a' i hi8).trans (by rw [← hai]))
      have c1 := HC2.out.cellv (i := i * 6 + 1) (by omega) ((winF_cnt s' a' i 0 hi8 (by omega)).trans (show _ = Value.int .u64 ((g 0 : Nat) : Int) by rw [hg]))
      have c2 := HC2.out.cellv (i := i * 6 + 2) (by omega) ((winF_cnt s' a' i 1 hi8 (by omega)).trans (show _ = Value.int .u64 ((g 1 : Nat) : Int) by rw [hg]))
      have c3 := HC2.out.cellv (i := i * 6 + 3) (by omega) ((winF_cnt s' a' i 2 hi8 (by omega)).trans (show _ = Value.int .u64 ((g 2 : Nat) : Int) by rw [hg]))
      have c4 := HC2.out.cellv (i := i * 6 + 4) (by omega) ((winF_cnt s' a' i 3 hi8 (by omega)).trans (show _ = Value.int .u64 ((g 3 : Nat) : Int) by rw [hg]))
      have c5 := HC2.out.cellv (i := i * 6 + 5) (by omega) ((winF_cnt s' a' i 4 hi8 (by omega)).trans (show _ = Value.int .u64 ((g 4 : Nat) : Int) by rw [hg]))
      have FB := (Fr.refl [] wo).alloc (.cells #[.int .u64 (ai : Int), .int .u64 ((g 0 : Nat) : Int), .int .u64 ((g 1 : Nat) : Int), .int .u64 ((g 2 : Nat) : Int), .int .u64 ((g 3 : Nat) : Int), .int .u64 ((g 4 : Nat) : Int)] 176)
      have HF3 := Lib.hid (HF2.out.trans (FB.mono (S' := [b]) (by simp)))
      have HC3 := Lib.hid (HC2.out.fr FB (by simp))
      have HR3 := Lib.hid (HR2.out.fr FB (by simp))
      have HCN3 := Lib.hid (HCN2.out.fr FB (by simp))
      have k48 := HC3.out.cellv (i := 48) (by omega) (show winF 5 s' a' 48 = .int .u64 (s'.n : Int) from rfl)
      clear FB
      have hle : ai ≤ bk := by rw [hai, HBK.out]; exact HOK.out.at_le i hi8
      obtain ⟨d, hd⟩ : ∃ x, x = bk - ai := ⟨_, rfl⟩
      have hbl : bk < 18446744073709551616 := by rw [HBK.out]; exact Nat.lt_of_le_of_lt (Nat.div_le_self _ _) HOK.out.now
      have hwd : IntKind.u64.wrap ((bk : Int) - (ai : Int)) = (d : Int) := by rw [IntKind.wrap_u64]; omega
      have hde : d = s'.bkt - a' i := by rw [hd, hai, HBK.out]
      by_cases hdn : d < s'.n
      · have HY := Lib.hid (fun k => partc_yes (s := s') (a := a') (i := i) (by rw [← hde]; exact hdn) k)
        have HGL := Lib.hid (fun k => (by rw [hg]; exact Nat.le_trans (slotc_le _ _ _ _ _) HOK.out.len : g k ≤ 1000000000000000))
        have HPL := Lib.hid (fun k => partc_le HOK.out hi k)
        have HYG : Hid (∀ k, partc s' a' (i + 1) k = partc s' a' i k + g k) := Lib.hid (fun k => by rw [HY.out, hg])
        have hbd : decide ((s'.n : Int) ≤ (d : Int)) = false := decide_eq_false (by omega)
        have hge : ¬ s'.n ≤ d := by omega
        clear hd hde hle hbl hg HY hai
        go_wp2_with fail
        go_quiet (fail)
        go_wp2_with fail
        clear c0 c1 c2 c3 c4 c5 k48
        go_loopw [44] (fun x wr => ∃ k : Nat, k ≤ 5 ∧ x = .int .i64 k ∧ Hid (FCells wr b 179 51 (winF 5 s' a')) ∧ Hid (FCells wr w.heap.size 67 5 (fun _ => .int .u64 0)) ∧ Hid (FCells wr (w.heap.size + 1) 67 5 (fun j => .int .u64 (((if j < k then partc s' a' i j + g j else partc s' a' i j) : Nat) : Int))) ∧ Hid (Fr [b] w wr)) (fun x _ => 5 - (intOf x).toNat)
        case atStart => exact ⟨0, by omega, rfl, Lib.hid (HC3.out.drewN _), Lib.hid (HR3.out.drewN _), Lib.hid ((HCN3.out.congr (fun j _ => by rw [if_neg (by omega)])).drewN _), Lib.hid (HF3.out.drewN _)⟩
        case round =>
          obtain ⟨k, hk, rfl, HC4, HR4, HCN4, HF4⟩ := hrel
          clear HC3 HR3 HCN3 HF3
          by_cases hk5 : k < 5
          · have hix := idx5 (fun j => ((g j : Nat) : Int)) k hk5
            have x0 := HCN4.out.cellv (i := k) hk5 (show _ = Value.int .u64 ((partc s' a' i k : Nat) : Int) by rw [if_neg (by omega)])
            have f0 := HCN4.out.free k
            have hadd := sadd_small (HPL.out k) (HGL.out k)
            have HADD := Lib.hid (fun w' => satadd_spec w' (partc s' a' i k) (g k) (Nat.lt_of_le_of_lt (HPL.out k) (by decide)))
            rw [hadd] at HADD
            have HCN5 := Lib.hid ((HCN4.out.set k (.int .u64 (((partc s' a' i k + g k : Nat)) : Int))).congr (g := fun j => .int .u64 (((if j < k + 1 then partc s' a' i j + g j else partc s' a' i j) : Nat) : Int)) (fun j hj => by
              by_cases e : j = k
              · subst e; rw [if_pos rfl, if_pos (by omega)]
              · rw [if_neg e]
                by_cases e2 : j < k
                · rw [if_pos e2, if_pos (by omega)]
                · rw [if_neg e2, if_neg (by omega)]))
            have HC5 := Lib.hid (HC4.out.other (p := ⟨w.heap.size + 1, k, none⟩) (by simp; omega) (.int .u64 (((partc s' a' i k + g k : Nat)) : Int)))
            have HR5 := Lib.hid (HR4.out.other (p := ⟨w.heap.size + 1, k, none⟩) (by simp) (.int .u64 (((partc s' a' i k + g k : Nat)) : Int)))
            have HF5 := Lib.hid (HF4.out.setCell (p := ⟨w.heap.size + 1, k, none⟩) (.inr (by simp)) (.int .u64 (((partc s' a' i k + g k : Nat)) : Int)))
            clear hadd
            generalize partc s' a' i k + g k = y at *
            generalize partc s' a' i k = z at *
            go_wp2_with fail
            refine (HADD.out _).mono ?_
            rintro e w8 ⟨rfl, rfl⟩
            go_wp2_with fail
            go_roundw
            case rel => exact ⟨k + 1, by omega, by go_num, HC5, HR5, HCN5, HF5⟩
            case measure => simp [intOf]; omega
          · obtain rfl : k = 5 := by omega
            go_wp2_with fail
            go_roundw
            case rel => exact ⟨i + 1, by omega, by go_num, HC4, HR4, Lib.hid (HCN4.out.congr (fun j hj => by rw [if_pos hj, HYG.out])), HF4⟩
            case measure => simp [intOf]; omega
      · have HY := Lib.hid (fun k => partc_no (s := s') (a := a') (i := i) (by rw [← hde]; exact hdn) k)
        have hbd : decide ((s'.n : Int) ≤ (d : Int)) = true := decide_eq_true (by omega)
        have hge : s'.n ≤ d := by omega
        clear hd hde hle hbl hg hai hdn
        go_wp2_with fail
        go_quiet (fail)
        go_wp2_with fail
        go_roundw
        case rel => exact ⟨i + 1, by omega, by go_num, Lib.hid (HC3.out.drewN _), Lib.hid (HR3.out.drewN _), Lib.hid ((HCN3.out.congr (fun j _ => by rw [HY.out])).drewN _), Lib.hid (HF3.out.drewN _)⟩
        case measure => simp [intOf]; omega
    · obtain rfl : i = s'.n := by omega
      have hcc := HCN2.out.congr (g := fun j => .int .u64 ((s'.cnt j : Nat) : Int)) (fun j _ => by rw [partc_all HOK.out])
      have HB := Lib.hid hcc.agg5
      obtain ⟨x0, x1, x2, x3, x4⟩ := fiveD hcc.agg5
      obtain ⟨y0, y1, y2, y3, y4⟩ := fiveD HR2.out.agg5
      obtain ⟨f0, f1, f2, f3, f4⟩ := free5D HR2.out.agg5
      clear hcc
      go_wp2_with fail
      have HB9 := HR2.out.lay5 (.int .u64 ((s'.cnt 0 : Nat) : Int)) (.int .u64 ((s'.cnt 1 : Nat) : Int)) (.int .u64 ((s'.cnt 2 : Nat) : Int)) (.int .u64 ((s'.cnt 3 : Nat) : Int)) (.int .u64 ((s'.cnt 4 : Nat) : Int))
      have HC9 := HC2.out.lay5o (b := w.heap.size) (by omega) (.int .u64 ((s'.cnt 0 : Nat) : Int)) (.int .u64 ((s'.cnt 1 : Nat) : Int)) (.int .u64 ((s'.cnt 2 : Nat) : Int)) (.int .u64 ((s'.cnt 3 : Nat) : Int)) (.int .u64 ((s'.cnt 4 : Nat) : Int))
      have HF9 := HF2.out.lay5 (b := w.heap.size) (Nat.le_refl _) (.int .u64 ((s'.cnt 0 : Nat) : Int)) (.int .u64 ((s'.cnt 1 : Nat) : Int)) (.int .u64 ((s'.cnt 2 : Nat) : Int)) (.int .u64 ((s'.cnt 3 : Nat) : Int)) (.int .u64 ((s'.cnt 4 : Nat) : Int))
      clear x0 x1 x2 x3 x4 y0 y1 y2 y3 y4 f0 f1 f2 f3 f4
      revert HB9 HC9 HF9
      generalize (((((wo.setCell ⟨w.heap.size, 0, none⟩ (.int .u64 ((s'.cnt 0 : Nat) : Int))).setCell ⟨w.heap.size, 1, none⟩ (.int .u64 ((s'.cnt 1 : Nat) : Int))).setCell ⟨w.heap.size, 2, none⟩ (.int .u64 ((s'.cnt 2 : Nat) : Int))).setCell ⟨w.heap.size, 3, none⟩ (.int .u64 ((s'.cnt 3 : Nat) : Int))).setCell ⟨w.heap.size, 4, none⟩ (.int .u64 ((s'.cnt 4 : Nat) : Int))) = w9
      intro HB9 HC9 HF9
      obtain ⟨y0, y1, y2, y3, y4⟩ := fiveD HB9
      refine bodyPost_ret (v := .agg #[.int .u64 ((s'.cnt 0 : Nat) : Int), .int .u64 ((s'.cnt 1 : Nat) : Int), .int .u64 ((s'.cnt 2 : Nat) : Int), .int .u64 ((s'.cnt 3 : Nat) : Int), .int .u64 ((s'.cnt 4 : Nat) : Int)]) (by simp [results, Tryz.results55, go_sem, y0, y1, y2, y3, y4]) rfl ?_
      exact ⟨rfl, ⟨a', HOK.out, HC9⟩, HF9⟩
end Go.Proofs.YtcnkhjgpjchkeaaGreat

namespace Go.Proofs.YtcnkhjgpjchkeaaGreat
open Go.RowKit

theorem run_storeVar_seg {P : Program} {w : World} {b : Nat} {E : TypeId} {n : Nat} {f : Nat → Value} (h : FCells w b E n f) (t : TypeId) (off : Nat) (cs : Array Value) (hi : (P.info? t).map (·.size) = some cs.size)
    (hl : off + cs.size ≤ n) (h1 : ∀ v ∈ cs.toList, v.oneCell' = true) :
    ∃ w', (storeVar t ⟨b, off, none⟩ (.agg cs)).run P w = .ok () w' ∧ FCells w' b E n (fun j => if off ≤ j ∧ j < off + cs.size then cs.toList.getD (j - off) undef else f j) ∧ Fr [b] w w' := by
  obtain ⟨w', k1, k2, k3⟩ := h.run_store (P := P) off cs.toList (by simpa using hl) h1
  refine ⟨w', ?_, by simpa using k2, k3⟩
  cases hq : P.info? t with
  | none => simp [hq] at hi
  | some i =>
    have e : i.size = cs.size := by simpa [hq] using hi
    simp [storeVar, sizeOf, typeInfo, hq, e, Value.cells, go_sem, k1]
theorem wpList_store_seg {P : Program} {w : World} {ops : Array Oper} {rest : List Oper} {o : Oper} {a : Act} {Q : Exit → Act → World → Prop} (hg : o.guard = none)
    (t : TypeId) (p v : Operand) (hop : o.op = .store t p v) (b off : Nat) (hp : a.eval p = .pointer (some ⟨b, off, none⟩)) (cs : Array Value) (hv : a.eval v = .agg cs)
    {E : TypeId} {n : Nat} {f : Nat → Value} (h : FCells w b E n f) (hi : (P.info? t).map (·.size) = some cs.size) (hl : off + cs.size ≤ n) (h1 : ∀ v ∈ cs.toList, v.oneCell' = true)
    (hK : ∀ w', FCells w' b E n (fun j => if off ≤ j ∧ j < off + cs.size then cs.toList.getD (j - off) undef else f j) → Fr [b] w w' → wpList P ops Q rest (a.put o.dst undef) w') : wpList P ops Q (o :: rest) a w := by
  obtain ⟨w', k1, k2, k3⟩ := run_storeVar_seg (P := P) h t off cs hi hl h1
  refine wpList_plain hg fun K hK' => ?_
  unfold Oper.wp execOp
  simp only [hop, hp, hv, Instr.storeAt, Instr.sureAddr, Sem.run_bind, Sem.run_pure, Result.andThen_ok, k1]
  exact hK' _ _ (hK w' k2 k3)
theorem FCells.arr {w : World} {b : Nat} {E : TypeId} {n : Nat} {f : Nat → Value} (h : FCells w b E n f) : w.heap[b]? = some (.cells ((List.range n).map f).toArray E (0, 0)) := by
  obtain ⟨cs, h1, h2, h3⟩ := h
  rw [h1]
  congr 2
  apply Array.ext (by simp [h2])
  intro i hi1 hi2
  have := h3 i (by omega)
  rw [Array.getElem?_eq_getElem hi1] at this
  simpa using this
theorem FCells.of_arr {w : World} {b : Nat} {E : TypeId} {n : Nat} {f : Nat → Value} (h : w.heap[b]? = some (.cells ((List.range n).map f).toArray E (0, 0))) : FCells w b E n f :=
  ⟨_, h, by simp, fun i hi => by simp [hi]⟩
end Go.Proofs.YtcnkhjgpjchkeaaGreat

namespace Go.Proofs.YtcnkhjgpjchkeaaGreat
open Go.RowKit

/-- How many bits a number has. -/
def bitLen (x : Nat) : Nat := if h : x = 0 then 0 else bitLen (x / 2) + 1
termination_by x
decreasing_by omega
theorem bitLen_zero : bitLen 0 = 0 := by rw [bitLen]; rfl
theorem bitLen_pos {x : Nat} (h : x ≠ 0) : bitLen x = bitLen (x / 2) + 1 := by rw [bitLen, dif_neg h]
theorem bitLen_le : ∀ (n x : Nat), x < 2 ^ n → bitLen x ≤ n := by
  intro n
  induction n with
  | zero => intro x hx; obtain rfl : x = 0 := by simpa using hx
            rw [bitLen_zero]; exact Nat.le_refl _
  | succ n ih =>
    intro x hx
    by_cases h : x = 0
    · subst h; rw [bitLen_zero]; omega
    · rw [bitLen_pos h]
      have := ih (x / 2) (by rw [Nat.pow_succ] at hx; omega)
      omega
theorem bitLen_64 {x : Nat} (h : x < 18446744073709551616) : bitLen x ≤ 64 := bitLen_le 64 x h

set_option maxHeartbeats 1000000 in
theorem len_spec (w : World) (x : Nat) (hx : x < 18446744073709551616) :
    Calls Tryz.prog 158 #[.int .u64 x] w fun e w' => e = .returned (.int .i64 ((bitLen x : Nat) : Int)) ∧ w' = w := by
  have HL := Lib.hid (bitLen_64 hx)
  obtain ⟨B, hB⟩ : ∃ B, B = bitLen x := ⟨_, rfl⟩
  rw [← hB] at HL ⊢
  go_enter Tryz.func158, Tryz.ntmps158
  go_wp2_with fail
  go_loop [3, 0] (fun n y => ∃ (c z : Nat), n = .int .i64 (c : Int) ∧ y = .int .u64 (z : Int) ∧ Hid (c + bitLen z = B) ∧ z < 18446744073709551616) (fun _ y => (intOf y).toNat)
  case atStart => exact ⟨0, x, rfl, rfl, Lib.hid (by rw [hB]; omega), hx⟩
  case round =>
    obtain ⟨c, z, rfl, rfl, HZ, hz⟩ := hrel
    clear hB hx
    by_cases h0 : z = 0
    · subst h0
      have HZ2 : Hid (c = B) := Lib.hid (by have := HZ.out; rw [bitLen_zero] at this; omega)
      clear HZ
      go_wp2_with fail
      go_ret
      exact ⟨by rw [← HZ2.out]; rfl, rfl⟩
    · have hb : ((z : Int) == 0) = false := by simpa using h0
      have HZ2 : Hid (c + 1 + bitLen (z / 2) = B) := Lib.hid (by have := HZ.out; rw [bitLen_pos h0] at this; omega)
      have hc : c ≤ 64 := by have := HZ.out; have := HL.out; omega
      have hp : 1 ≤ z := by omega
      clear HZ h0
      go_wp2_with fail
      go_round
      case rel => exact ⟨c + 1, z / 2, by go_num, by go_num, HZ2, by omega⟩
      case measure => simp [intOf]; omega

theorem bin_spec (w : World) (x : Nat) (hx : x < 18446744073709551616) :
    Calls Tryz.prog 126 #[.int .u64 x] w fun e w' => e = .returned (.int .i64 ((bitLen x : Nat) : Int)) ∧ w' = w := by
  have HL := Lib.hid (len_spec w x hx)
  generalize bitLen x = B at *
  clear hx
  go_enter Tryz.func126, Tryz.ntmps126
  go_wp2_with fail
  refine HL.out.mono ?_
  rintro e w1 ⟨rfl, rfl⟩
  go_wp2_with fail
  go_ret
  exact ⟨rfl, rfl⟩

def IsHist (w : World) (b : Nat) (s : WinM) : Prop := ∃ a, WinOk 65 s a ∧ FCells w b 184 531 (winF 65 s a)
theorem IsHist.fr {w w' : World} {b : Nat} {s : WinM} (h : IsHist w b s) {S : List Nat} (k : Fr S w w') (hb : b ∉ S) : IsHist w' b s := by
  obtain ⟨a, h1, h2⟩ := h
  exact ⟨a, h1, h2.fr k hb⟩
theorem hisF_at (s : WinM) (a : Nat → Nat) (i : Nat) (hi : i < 8) : winF 65 s a (i * 66) = .int .u64 ((a i : Nat) : Int) := by
  unfold winF
  rw [if_pos (by omega), if_pos (by omega), show i * 66 / (65 + 1) = i by omega]
theorem hisF_cnt (s : WinM) (a : Nat → Nat) (i k : Nat) (hi : i < 8) (hk : k < 65) : winF 65 s a (i * 66 + 1 + k) = .int .u64 ((slotc s.L s.n (a i) i k : Nat) : Int) := by
  unfold winF
  rw [if_pos (by omega), if_neg (by omega), show (i * 66 + 1 + k) / (65 + 1) = i by omega, show (i * 66 + 1 + k) % (65 + 1) - 1 = k by omega]
theorem hisF_same {s : WinM} {a a' : Nat → Nat} (now j : Nat) (hj : j < 528) (h : a' (j / 66) = a (j / 66)) : winF 65 (s.to now) a' j = winF 65 s a j := by
  unfold winF
  have hj' : j < 8 * (65 + 1) := by omega
  simp only [hj', if_true]
  rw [show j / (65 + 1) = j / 66 from rfl, h]; rfl
theorem hisF_move {s : WinM} {a : Nat → Nat} (h : WinOk 65 s a) (now r : Nat) (hr : r = (s.to now).bkt % s.n) (hne : a r ≠ (s.to now).bkt) (j : Nat) (hj : j < 531) :
    (if r * 66 ≤ j ∧ j < r * 66 + 66 then (Value.int .u64 (((s.to now).bkt : Nat) : Int) :: List.replicate 65 (.int .u64 0)).getD (j - r * 66) undef else if j = 530 then .int .u64 (((s.to now).now : Nat) : Int) else winF 65 s a j) = winF 65 (s.to now) ((s.to now).slots a) j := by
  have hr8 : r < 8 := by rw [hr]; exact Nat.lt_of_lt_of_le (Nat.mod_lt _ h.n1) h.n8
  have hself : (s.to now).slots a r = (s.to now).bkt := by rw [hr]; exact slots_self (s.to now) a
  by_cases hin : r * 66 ≤ j ∧ j < r * 66 + 66
  · rw [if_pos hin]
    by_cases e0 : j = r * 66
    · rw [e0, hisF_at _ _ _ hr8, hself, Nat.sub_self]; rfl
    · obtain ⟨k, hk, rfl⟩ : ∃ k, k < 65 ∧ j = r * 66 + 1 + k := ⟨j - (r * 66 + 1), by omega, by omega⟩
      rw [hisF_cnt _ _ _ _ hr8 hk]
      have := slotc_move h now r k
      rw [if_pos ⟨hr, hne⟩] at this
      rw [show (s.to now).L = s.L from rfl, show (s.to now).n = s.n from rfl, this, show r * 66 + 1 + k - r * 66 = k + 1 by omega, List.getD_cons_succ, List.getD, List.getElem?_replicate, if_pos hk]; rfl
  · rw [if_neg hin]
    by_cases hlt : j < 528
    · rw [if_neg (by omega)]
      refine (hisF_same _ _ hlt ?_).symm
      unfold WinM.slots
      rw [if_neg]
      show ¬ j / 66 = (s.to now).bkt % s.n
      rw [← hr]; omega
    · have : j = 528 ∨ j = 529 ∨ j = 530 := by omega
      rcases this with rfl | rfl | rfl <;> rfl
theorem hisF_stay {s : WinM} {a : Nat → Nat} (now r : Nat) (hr : r = (s.to now).bkt % s.n) (heq : a r = (s.to now).bkt) (j : Nat) (hj : j < 531) :
    (if j = 530 then .int .u64 (((s.to now).now : Nat) : Int) else winF 65 s a j) = winF 65 (s.to now) ((s.to now).slots a) j := by
  have hs : (s.to now).slots a = a := by
    funext i
    unfold WinM.slots
    split
    · rename_i e; rw [show i = r from e.trans hr.symm]; exact heq.symm
    · rfl
  rw [hs]
  by_cases hlt : j < 528
  · rw [if_neg (by omega)]
    exact (hisF_same _ _ hlt rfl).symm
  · have : j = 528 ∨ j = 529 ∨ j = 530 := by omega
    rcases this with rfl | rfl | rfl <;> rfl

theorem one_zeros (x : Int) {n : Nat} : ∀ v ∈ ((Value.int .u64 x :: List.replicate n (.int .u64 0)).toArray).toList, v.oneCell' = true := by
  intro v hv
  rcases List.mem_cons.1 hv with rfl | hv
  · rfl
  · rw [(List.mem_replicate.1 hv).2]; rfl
set_option maxHeartbeats 2000000 in
set_option maxRecDepth 20000 in
theorem hisAt_spec {w : World} {b : Nat} {s : WinM} {a : Nat → Nat} (hok : WinOk 65 s a) (h : FCells w b 184 531 (winF 65 s a)) (now : Nat) (hnow : now < 18446744073709551616) :
    Calls Tryz.prog 125 #[.pointer (some ⟨b, 0, none⟩), .int .u64 now] w fun e w' => e = .returned (.pointer (some ⟨b, (s.to now).bkt % s.n * 66, none⟩)) ∧ FCells w' b 184 531 (winF 65 (s.to now) ((s.to now).slots a)) ∧ Fr [b] w w' := by
  obtain ⟨N, hN⟩ : ∃ x, x = (s.to now).now := ⟨_, rfl⟩
  obtain ⟨bk, hbk⟩ : ∃ x, x = (s.to now).bkt := ⟨_, rfl⟩
  obtain ⟨r, hr⟩ : ∃ x, x = (s.to now).bkt % s.n := ⟨_, rfl⟩
  have c48 := h.cellv (i := 528) (by omega) (show winF 65 s a 528 = .int .u64 (s.n : Int) from rfl)
  have c49 := h.cellv (i := 529) (by omega) (show winF 65 s a 529 = .int .u64 (s.width : Int) from rfl)
  have c50 := h.cellv (i := 530) (by omega) (show winF 65 s a 530 = .int .u64 (s.now : Int) from rfl)
  have f50 := h.free 530
  have H1 := h.set 530 (.int .u64 (N : Int))
  have g49 := H1.cellv (i := 529) (by omega) (show (if 529 = 530 then Value.int .u64 (N : Int) else winF 65 s a 529) = .int .u64 (s.width : Int) from rfl)
  have g50 := H1.cellv (i := 530) (by omega) (show (if 530 = 530 then Value.int .u64 (N : Int) else winF 65 s a 530) = .int .u64 (N : Int) from rfl)
  have hd : (N : Int) / (s.width : Int) = (bk : Int) := by rw [hbk, hN]; rfl
  have hm : (bk : Int) % (s.n : Int) = (r : Int) := by rw [hr, hbk]; rfl
  have g48 := H1.cellv (i := 528) (by omega) (show (if 528 = 530 then Value.int .u64 (N : Int) else winF 65 s a 528) = .int .u64 (s.n : Int) from rfl)
  have hwd := hok.wd
  have hn1 := hok.n1
  have hbl : bk < 18446744073709551616 := by
    rw [hbk]
    have h1 : (s.to now).bkt ≤ (s.to now).now := Nat.div_le_self _ _
    have h2 : (s.to now).now = max s.now now := rfl
    have := hok.now
    omega
  have hwb : IntKind.u64.wrap (bk : Int) = (bk : Int) := by rw [IntKind.wrap_u64]; omega
  have hr8 : r < 8 := by rw [hr]; exact Nat.lt_of_lt_of_le (Nat.mod_lt _ hok.n1) hok.n8
  have hwr : IntKind.u64.wrap (r : Int) = (r : Int) := by rw [IntKind.wrap_u64]; omega
  have HOK := Lib.hid hok
  have HH1 := Lib.hid H1
  have HNN := Lib.hid hN
  have HBK := Lib.hid hbk
  have HR := Lib.hid hr
  have HF1 := Lib.hid (Fr.set0 w b 530 (.int .u64 (N : Int)))
  have HAT := Lib.hid (H1.cellv (i := r * 66) (by omega) (show (if r * 66 = 530 then Value.int .u64 (N : Int) else winF 65 s a (r * 66)) = .int .u64 ((a r : Nat) : Int) by rw [if_neg (by omega)]; exact hisF_at s a r hr8))
  rw [← hr]
  obtain ⟨ar, har⟩ : ∃ x, x = a r := ⟨_, rfl⟩
  rw [← har] at HAT
  have HAR := Lib.hid har
  clear har
  have main : ∀ (hsp : (s.now < now ∧ N = now) ∨ (¬ s.now < now ∧ N = s.now)), Calls Tryz.prog 125 #[.pointer (some ⟨b, 0, none⟩), .int .u64 now] w fun e w' => e = .returned (.pointer (some ⟨b, r * 66, none⟩)) ∧ FCells w' b 184 531 (winF 65 (s.to now) ((s.to now).slots a)) ∧ Fr [b] w w' := by
    intro hsp
    clear hN hbk hr h H1 hok
    by_cases heq : ar = bk
    · have HST := fun j (hj : j < 531) => hisF_stay now r HR.out (HAR.out.symm.trans (heq.trans HBK.out)) j hj
      simp only [← HNN.out] at HST
      have HST := Lib.hid HST
      subst heq
      rcases hsp with ⟨h1, e⟩ | ⟨h1, e⟩
      all_goals (
        rw [e] at g50 hd HAT HH1 HF1
        simp only [e] at HST
        clear e
        go_enter Tryz.func125, Tryz.ntmps125
        go_wp2_with fail
        go_quiet (fail)
        go_wp2_with fail
        go_quiet (fail)
        have hat := HAT.out
        go_wp2_with fail
        go_ret
        exact ⟨rfl, (FCells.congr HH1.out HST.out).drewN _, HF1.out.drewN _⟩)
    · have HST := fun j (hj : j < 531) => hisF_move HOK.out now r HR.out (fun k => heq (HAR.out.trans (k.trans HBK.out.symm))) j hj
      simp only [← HNN.out, ← HBK.out] at HST
      have HST := Lib.hid HST
      have hne : ((ar : Int) == (bk : Int)) = false := by simp; omega
      clear heq
      rcases hsp with ⟨h1, e⟩ | ⟨h1, e⟩
      all_goals (
        rw [e] at g50 hd HAT HH1 HF1
        simp only [e] at HST
        clear e
        go_enter Tryz.func125, Tryz.ntmps125
        go_wp2_with fail
        go_quiet (fail)
        go_wp2_with fail
        go_quiet (fail)
        have hat := HAT.out
        go_wp2_with (refine wpList_store_seg rfl 181 (.tmp 44) (.tmp 43) rfl b (r * 66) rfl (.int .u64 (bk : Int) :: List.replicate 65 (.int .u64 0)).toArray rfl (HH1.out.drewN _) (by kernel_rfl) (by simp; omega) (one_zeros _) ?_; intro w9 hc9 hf9)
        go_ret
        exact ⟨rfl, hc9.congr HST.out, (HF1.out.drewN _).trans hf9⟩)
  refine main ?_
  by_cases hlt : s.now < now
  · exact .inl ⟨hlt, by rw [hN]; show max s.now now = now; omega⟩
  · exact .inr ⟨hlt, by rw [hN]; show max s.now now = s.now; omega⟩

theorem hisF_add {s : WinM} {a : Nat → Nat} (r k : Nat) (hr : r = s.bkt % s.n) (hr8 : r < 8) (hk : k < 65) (hat : a r = s.bkt) (j : Nat) (hj : j < 531) :
    (if j = r * 66 + 1 + k then Value.int .u64 (((slotc s.L s.n (a r) r k + 1 : Nat) : Int)) else winF 65 s a j) = winF 65 { s with L := s.L ++ [(s.bkt, k)] } a j := by
  by_cases e : j = r * 66 + 1 + k
  · rw [if_pos e, e, hisF_cnt _ _ _ _ hr8 hk]
    show _ = Value.int .u64 ((slotc (s.L ++ [(s.bkt, k)]) s.n (a r) r k : Nat) : Int)
    rw [slotc_snoc, if_pos ⟨hat.symm, hr.symm, rfl⟩]
  · rw [if_neg e]
    by_cases hlt : j < 528
    · unfold winF
      have hj' : j < 8 * (65 + 1) := by omega
      simp only [hj', if_true]
      by_cases h0 : j % (65 + 1) = 0
      · rw [if_pos h0, if_pos h0]
      · rw [if_neg h0, if_neg h0, slotc_snoc, if_neg]
        · rfl
        · rintro ⟨_, h2, h3⟩
          simp only at h2 h3
          rw [← hr] at h2
          omega
    · have : j = 528 ∨ j = 529 ∨ j = 530 := by omega
      rcases this with rfl | rfl | rfl <;> rfl
set_option maxHeartbeats 1000000 in
theorem hisAdd_spec {w : World} {b : Nat} {s : WinM} (h : IsHist w b s) (now : Nat) (hnow : now < 18446744073709551616) (took : Nat) (htook : took < 18446744073709551616) (hl : s.L.length < 1000000000000000) :
    Calls Tryz.prog 62 #[.pointer (some ⟨b, 0, none⟩), .int .u64 now, .int .u64 took] w fun e w' => e = .returned (.tuple #[]) ∧ IsHist w' b (s.add now (bitLen took)) ∧ Fr [b] w w' := by
  obtain ⟨a, hok, hc⟩ := h
  have HA := Lib.hid (hisAt_spec hok hc now hnow)
  have HBI := Lib.hid (fun w' => bin_spec w' took htook)
  have hk : bitLen took < 65 := Nat.lt_succ_of_le (bitLen_64 htook)
  generalize bitLen took = k at *
  have hok2 := hok.move now hnow
  have hself := slots_self (s.to now) a
  have hn1 := hok.n1
  have hn8 := hok.n8
  have hS : s.add now k = { s.to now with L := (s.to now).L ++ [((s.to now).bkt, k)] } := rfl
  have hlt : (s.to now).L.length < 1000000000000000 := hl
  have hsn : (s.to now).n = s.n := rfl
  rw [hS]
  clear hS hl hc hok htook
  generalize (s.to now).slots a = a' at *
  rw [← hsn] at HA hn1 hn8
  generalize s.to now = s' at *
  clear hsn
  obtain ⟨r, hr⟩ : ∃ x, x = s'.bkt % s'.n := ⟨_, rfl⟩
  have hr8 : r < 8 := by rw [hr]; exact Nat.lt_of_lt_of_le (Nat.mod_lt _ hn1) hn8
  rw [← hr] at HA hself
  have HOK := Lib.hid (hok2.added (by rw [← hr]; exact hself) k hk hlt)
  have HST := Lib.hid (fun j hj => hisF_add r k hr hr8 hk hself j hj)
  have hsl := slotc_le s'.L s'.n (a' r) r k
  have HCN := Lib.hid (hisF_cnt s' a' r k hr8 hk)
  obtain ⟨c, hc⟩ : ∃ c, c = slotc s'.L s'.n (a' r) r k := ⟨_, rfl⟩
  rw [← hc] at HCN HST hsl
  have hcb : c < 18446744073709551615 := Nat.lt_of_lt_of_le (Nat.lt_of_le_of_lt hsl hlt) (by decide)
  have HADD := Lib.hid (fun w' => satadd_spec w' c 1 (Nat.lt_succ_of_lt hcb))
  have hc1 := sadd_one hcb
  rw [hc1] at HADD
  clear hcb hc1 hc hsl hself hok2 hlt hr hn1 hn8
  go_enter Tryz.func62, Tryz.ntmps62
  go_wp2_with fail
  refine HA.out.mono ?_
  rintro e w1 ⟨rfl, HC, F⟩
  have HC1 := Lib.hid HC
  have HF1 := Lib.hid F
  have c1 := HC.cellv (i := r * 66 + 1 + k) (by omega) HCN.out
  have f1 := HC.free (r * 66 + 1 + k)
  have HC2 := Lib.hid ((HC.set (r * 66 + 1 + k) (.int .u64 (((c + 1 : Nat) : Int)))).congr HST.out)
  have HF2 := Lib.hid (F.trans (Fr.set0 w1 b (r * 66 + 1 + k) (.int .u64 (((c + 1 : Nat) : Int)))))
  clear F HC HA HST
  go_wp2_with fail
  refine (HBI.out _).mono ?_
  rintro e w2 ⟨rfl, rfl⟩
  go_wp2_with fail
  go_region_with ((go_at_call 109; refine (HADD.out _).mono ?_; rintro e w8 ⟨rfl, h8⟩; subst h8))
  all_goals (
    go_wp2_with fail
    go_end0
    exact ⟨rfl, ⟨a', HOK.out, HC2.out.drewN _⟩, HF2.out.drewN _⟩)
theorem hisF_zero (s : WinM) (j : Nat) (hj : j < 528) : winF 65 s.reset (fun _ => 0) j = .int .u64 0 := by
  unfold winF
  rw [if_pos (by omega)]
  split
  · rfl
  · rfl
set_option maxHeartbeats 2000000 in
set_option maxRecDepth 100000 in
theorem hisNew_spec (w : World) (n width : Nat) (h1 : 1 ≤ n) (h8 : n ≤ 8) (hw : 1 ≤ width) (hw2 : width ≤ 1099511627776) :
    Calls Tryz.prog 34 #[.int .i64 n, .int .u64 width] w fun e w' => e = .returned (.pointer (some ⟨w.heap.size, 0, none⟩)) ∧ IsHist w' w.heap.size (WinM.new n width) ∧ Fr [] w w' := by
  go_enter Tryz.func34, Tryz.ntmps34
  go_wp2_with fail
  go_ret
  refine ⟨rfl, ⟨_, winOk_new h1 h8 hw hw2, _, block_alloc_new _ _, rfl, fun j hj => ?_⟩, (Fr.refl _ _).alloc _⟩
  show ((List.replicate 528 (Value.int .u64 0) ++ [Value.int .u64 n, Value.int .u64 width, Value.int .u64 0]).toArray)[j]? = _
  rw [List.getElem?_toArray]
  by_cases hlt : j < 528
  · rw [List.getElem?_append_left (by rw [List.length_replicate]; exact hlt), List.getElem?_replicate, if_pos hlt]
    exact congrArg some (hisF_zero (WinM.new n width) j hlt).symm
  · have : j = 528 ∨ j = 529 ∨ j = 530 := by omega
    rcases this with rfl | rfl | rfl <;> rfl
end Go.Proofs.YtcnkhjgpjchkeaaGreat

namespace Go.Proofs.YtcnkhjgpjchkeaaGreat
open Go.RowKit

theorem cut8h (b n : Nat) (h1 : 1 ≤ n) (h8 : n ≤ 8) (wx : World) : (Instr.sliceAt 182 (.pointer (some ⟨b, 0, none⟩)) none (some (.int .u64 (n : Int))) none).run Tryz.prog wx = .ok (.slice (some ⟨b, 0, none⟩) n 8) wx := by
  rcases (show n = 1 ∨ n = 2 ∨ n = 3 ∨ n = 4 ∨ n = 5 ∨ n = 6 ∨ n = 7 ∨ n = 8 by omega) with rfl | rfl | rfl | rfl | rfl | rfl | rfl | rfl
  all_goals (clear h1 h8; kernel_rfl)
theorem FCells.new65 (w : World) : FCells (w.alloc (.cells #[.int .u64 0, .int .u64 0, .int .u64 0, .int .u64 0, .int .u64 0, .int .u64 0, .int .u64 0, .int .u64 0, .int .u64 0, .int .u64 0, .int .u64 0, .int .u64 0, .int .u64 0, .int .u64 0, .int .u64 0, .int .u64 0, .int .u64 0, .int .u64 0, .int .u64 0, .int .u64 0, .int .u64 0, .int .u64 0, .int .u64 0, .int .u64 0, .int .u64 0, .int .u64 0, .int .u64 0, .int .u64 0, .int .u64 0, .int .u64 0, .int .u64 0, .int .u64 0, .int .u64 0, .int .u64 0, .int .u64 0, .int .u64 0, .int .u64 0, .int .u64 0, .int .u64 0, .int .u64 0, .int .u64 0, .int .u64 0, .int .u64 0, .int .u64 0, .int .u64 0, .int .u64 0, .int .u64 0, .int .u64 0, .int .u64 0, .int .u64 0, .int .u64 0, .int .u64 0, .int .u64 0, .int .u64 0, .int .u64 0, .int .u64 0, .int .u64 0, .int .u64 0, .int .u64 0, .int .u64 0, .int .u64 0, .int .u64 0, .int .u64 0, .int .u64 0, .int .u64 0] 126)) w.heap.size 126 65 (fun _ => .int .u64 0) := by
  refine ⟨_, block_alloc_new _ _, rfl, fun i hi => ?_⟩
  show ((List.replicate 65 (Value.int .u64 0)).toArray)[i]? = _
  rw [List.getElem?_toArray, List.getElem?_replicate, if_pos hi]
/-- The bins that are told. -/
def WinM.bins (s : WinM) : Array Value := ((List.range 65).map fun k => Value.int .u64 ((s.cnt k : Nat) : Int)).toArray
theorem bins_size (s : WinM) : s.bins.size = 65 := by simp [WinM.bins]
theorem bins_one (s : WinM) : ∀ v ∈ s.bins.toList, v.oneCell' = true := by
  intro v hv
  simp only [WinM.bins, List.mem_map] at hv
  obtain ⟨k, _, rfl⟩ := hv
  rfl

set_option maxHeartbeats 4000000 in
set_option maxRecDepth 20000 in
theorem hisAll_spec {w : World} {b : Nat} {s : WinM} (h : IsHist w b s) (now : Nat) (hnow : now < 18446744073709551616) :
    Calls Tryz.prog 110 #[.pointer (some ⟨b, 0, none⟩), .int .u64 now] w fun e w' => e = .returned (.agg (s.to now).bins) ∧ IsHist w' b (s.to now) ∧ Fr [b] w w' := by
  obtain ⟨a, hok, hc⟩ := h
  have hb := hc.lt
  have hok2 := hok.move now hnow
  have F0 := ((Fr.refl [] w).alloc (.cells #[.int .u64 0, .int .u64 0, .int .u64 0, .int .u64 0, .int .u64 0, .int .u64 0, .int .u64 0, .int .u64 0, .int .u64 0, .int .u64 0, .int .u64 0, .int .u64 0, .int .u64 0, .int .u64 0, .int .u64 0, .int .u64 0, .int .u64 0, .int .u64 0, .int .u64 0, .int .u64 0, .int .u64 0, .int .u64 0, .int .u64 0, .int .u64 0, .int .u64 0, .int .u64 0, .int .u64 0, .int .u64 0, .int .u64 0, .int .u64 0, .int .u64 0, .int .u64 0, .int .u64 0, .int .u64 0, .int .u64 0, .int .u64 0, .int .u64 0, .int .u64 0, .int .u64 0, .int .u64 0, .int .u64 0, .int .u64 0, .int .u64 0, .int .u64 0, .int .u64 0, .int .u64 0, .int .u64 0, .int .u64 0, .int .u64 0, .int .u64 0, .int .u64 0, .int .u64 0, .int .u64 0, .int .u64 0, .int .u64 0, .int .u64 0, .int .u64 0, .int .u64 0, .int .u64 0, .int .u64 0, .int .u64 0, .int .u64 0, .int .u64 0, .int .u64 0, .int .u64 0] 126)).alloc (.cells #[.int .u64 0, .int .u64 0, .int .u64 0, .int .u64 0, .int .u64 0, .int .u64 0, .int .u64 0, .int .u64 0, .int .u64 0, .int .u64 0, .int .u64 0, .int .u64 0, .int .u64 0, .int .u64 0, .int .u64 0, .int .u64 0, .int .u64 0, .int .u64 0, .int .u64 0, .int .u64 0, .int .u64 0, .int .u64 0, .int .u64 0, .int .u64 0, .int .u64 0, .int .u64 0, .int .u64 0, .int .u64 0, .int .u64 0, .int .u64 0, .int .u64 0, .int .u64 0, .int .u64 0, .int .u64 0, .int .u64 0, .int .u64 0, .int .u64 0, .int .u64 0, .int .u64 0, .int .u64 0, .int .u64 0, .int .u64 0, .int .u64 0, .int .u64 0, .int .u64 0, .int .u64 0, .int .u64 0, .int .u64 0, .int .u64 0, .int .u64 0, .int .u64 0, .int .u64 0, .int .u64 0, .int .u64 0, .int .u64 0, .int .u64 0, .int .u64 0, .int .u64 0, .int .u64 0, .int .u64 0, .int .u64 0, .int .u64 0, .int .u64 0, .int .u64 0, .int .u64 0] 126)
  have HA := Lib.hid (hisAt_spec hok (hc.fr F0 (by simp)) now hnow)
  have HR := Lib.hid ((FCells.new65 w).fr ((Fr.refl [] _).alloc (.cells #[.int .u64 0, .int .u64 0, .int .u64 0, .int .u64 0, .int .u64 0, .int .u64 0, .int .u64 0, .int .u64 0, .int .u64 0, .int .u64 0, .int .u64 0, .int .u64 0, .int .u64 0, .int .u64 0, .int .u64 0, .int .u64 0, .int .u64 0, .int .u64 0, .int .u64 0, .int .u64 0, .int .u64 0, .int .u64 0, .int .u64 0, .int .u64 0, .int .u64 0, .int .u64 0, .int .u64 0, .int .u64 0, .int .u64 0, .int .u64 0, .int .u64 0, .int .u64 0, .int .u64 0, .int .u64 0, .int .u64 0, .int .u64 0, .int .u64 0, .int .u64 0, .int .u64 0, .int .u64 0, .int .u64 0, .int .u64 0, .int .u64 0, .int .u64 0, .int .u64 0, .int .u64 0, .int .u64 0, .int .u64 0, .int .u64 0, .int .u64 0, .int .u64 0, .int .u64 0, .int .u64 0, .int .u64 0, .int .u64 0, .int .u64 0, .int .u64 0, .int .u64 0, .int .u64 0, .int .u64 0, .int .u64 0, .int .u64 0, .int .u64 0, .int .u64 0, .int .u64 0] 126)) (by simp))
  have hcn := FCells.new65 (w.alloc (.cells #[.int .u64 0, .int .u64 0, .int .u64 0, .int .u64 0, .int .u64 0, .int .u64 0, .int .u64 0, .int .u64 0, .int .u64 0, .int .u64 0, .int .u64 0, .int .u64 0, .int .u64 0, .int .u64 0, .int .u64 0, .int .u64 0, .int .u64 0, .int .u64 0, .int .u64 0, .int .u64 0, .int .u64 0, .int .u64 0, .int .u64 0, .int .u64 0, .int .u64 0, .int .u64 0, .int .u64 0, .int .u64 0, .int .u64 0, .int .u64 0, .int .u64 0, .int .u64 0, .int .u64 0, .int .u64 0, .int .u64 0, .int .u64 0, .int .u64 0, .int .u64 0, .int .u64 0, .int .u64 0, .int .u64 0, .int .u64 0, .int .u64 0, .int .u64 0, .int .u64 0, .int .u64 0, .int .u64 0, .int .u64 0, .int .u64 0, .int .u64 0, .int .u64 0, .int .u64 0, .int .u64 0, .int .u64 0, .int .u64 0, .int .u64 0, .int .u64 0, .int .u64 0, .int .u64 0, .int .u64 0, .int .u64 0, .int .u64 0, .int .u64 0, .int .u64 0, .int .u64 0] 126))
  rw [World.size_alloc] at hcn
  have HCN := Lib.hid hcn
  have HF0 := Lib.hid F0
  have hself := slots_self (s.to now) a
  have hsn : (s.to now).n = s.n := rfl
  clear hcn F0 hc hok
  generalize (s.to now).slots a = a' at *
  rw [← hsn] at HA
  clear hsn
  generalize s.to now = s' at *
  have hn1 := hok2.n1
  have hn8 := hok2.n8
  obtain ⟨r, hr⟩ : ∃ x, x = s'.bkt % s'.n := ⟨_, rfl⟩
  have hr8 : r < 8 := by rw [hr]; exact Nat.lt_of_lt_of_le (Nat.mod_lt _ hn1) hn8
  rw [← hr] at HA hself
  obtain ⟨bk, hbk⟩ : ∃ x, x = s'.bkt := ⟨_, rfl⟩
  rw [← hbk] at hself
  have HOK := Lib.hid hok2
  have HSELF := Lib.hid hself
  have HBK := Lib.hid hbk
  clear hr hok2 hself hbk
  go_enter Tryz.func110, Tryz.ntmps110
  go_wp2_with fail
  refine HA.out.mono ?_
  rintro e w1 ⟨rfl, HC, F⟩
  have HF1 := Lib.hid ((HF0.out.mono (S' := [b]) (by simp)).trans F)
  have HC1 := Lib.hid HC
  have HR1 := Lib.hid (HR.out.fr F (by simp; omega))
  have HCN1 := Lib.hid (HCN.out.fr F (by simp; omega))
  have c1 := HC.cellv (i := r * 66) (by omega) ((hisF_at s' a' r hr8).trans (by rw [HSELF.out]))
  have c48 := HC.cellv (i := 528) (by omega) (show winF 65 s' a' 528 = .int .u64 (s'.n : Int) from rfl)
  have hcut := cut8h b s'.n hn1 hn8
  clear F HC HA HR HCN HF0
  go_wp2_with fail
  go_quiet (fail)
  go_wp2_with fail
  clear c1 c48
  go_loopw [28] (fun x wr => ∃ i : Nat, i ≤ s'.n ∧ x = .int .i64 i ∧ Hid (FCells wr b 184 531 (winF 65 s' a')) ∧ Hid (FCells wr w.heap.size 126 65 (fun _ => .int .u64 0)) ∧ Hid (FCells wr (w.heap.size + 1) 126 65 (fun j => .int .u64 ((partc s' a' i j : Nat) : Int))) ∧ Hid (Fr [b] w wr)) (fun x _ => s'.n - (intOf x).toNat)
  case atStart => exact ⟨0, Nat.zero_le _, rfl, Lib.hid (HC1.out.drewN _), Lib.hid (HR1.out.drewN _), Lib.hid (HCN1.out.drewN _), Lib.hid (HF1.out.drewN _)⟩
  case round =>
    obtain ⟨i, hi, rfl, HC2, HR2, HCN2, HF2⟩ := hrel
    obtain ⟨wo, rfl⟩ : ∃ wo : World, wo = wr := ⟨_, rfl⟩
    clear HC1 HR1 HCN1 HF1
    by_cases hlt : i < s'.n
    · have hi8 : i < 8 := by omega
      obtain ⟨ai, hai⟩ : ∃ x, x = a' i := ⟨_, rfl⟩
      obtain ⟨g, hg⟩ : ∃ g : Nat → Nat, g = fun j => slotc s'.L s'.n (a' i) i j := ⟨_, rfl⟩
      have c0 := HC2.out.cellv (i := i * 66) (by omega) ((hisF_at s' a' i hi8).trans (by rw [← hai]))
      have k48 := HC2.out.cellv (i := 528) (by omega) (show winF 65 s' a' 528 = .int .u64 (s'.n : Int) from rfl)
      have HG := Lib.hid (fun k (hk : k < 65) => (hisF_cnt s' a' i k hi8 hk).trans (show _ = Value.int .u64 ((g k : Nat) : Int) by rw [hg]))
      have hle : ai ≤ bk := by rw [hai, HBK.out]; exact HOK.out.at_le i hi8
      obtain ⟨d, hd⟩ : ∃ x, x = bk - ai := ⟨_, rfl⟩
      have hbl : bk < 18446744073709551616 := by rw [HBK.out]; exact Nat.lt_of_le_of_lt (Nat.div_le_self _ _) HOK.out.now
      have hwd : IntKind.u64.wrap ((bk : Int) - (ai : Int)) = (d : Int) := by rw [IntKind.wrap_u64]; omega
      have hde : d = s'.bkt - a' i := by rw [hd, hai, HBK.out]
      by_cases hdn : d < s'.n
      · have HY := Lib.hid (fun k => partc_yes (s := s') (a := a') (i := i) (by rw [← hde]; exact hdn) k)
        have HGL := Lib.hid (fun k => (by rw [hg]; exact Nat.le_trans (slotc_le _ _ _ _ _) HOK.out.len : g k ≤ 1000000000000000))
        have HPL := Lib.hid (fun k => partc_le HOK.out hi k)
        have HYG : Hid (∀ k, partc s' a' (i + 1) k = partc s' a' i k + g k) := Lib.hid (fun k => by rw [HY.out, hg])
        have hbd : decide ((s'.n : Int) ≤ (d : Int)) = false := decide_eq_false (by omega)
        have hge : ¬ s'.n ≤ d := by omega
        clear hd hde hle hbl hg HY hai
        go_wp2_with fail
        go_quiet (fail)
        go_wp2_with fail
        clear c0 k48
        go_loopw [47] (fun x wr => ∃ k : Nat, k ≤ 65 ∧ x = .int .i64 k ∧ Hid (FCells wr b 184 531 (winF 65 s' a')) ∧ Hid (FCells wr w.heap.size 126 65 (fun _ => .int .u64 0)) ∧ Hid (FCells wr (w.heap.size + 1) 126 65 (fun j => .int .u64 (((if j < k then partc s' a' i j + g j else partc s' a' i j) : Nat) : Int))) ∧ Hid (Fr [b] w wr)) (fun x _ => 65 - (intOf x).toNat)
        case atStart => exact ⟨0, by omega, rfl, Lib.hid (HC2.out.drewN _), Lib.hid (HR2.out.drewN _), Lib.hid ((HCN2.out.congr (fun j _ => by rw [if_neg (by omega)])).drewN _), Lib.hid (HF2.out.drewN _)⟩
        case round =>
          obtain ⟨k, hk, rfl, HC4, HR4, HCN4, HF4⟩ := hrel
          clear HC2 HR2 HCN2 HF2
          by_cases hk5 : k < 65
          · have x0 := HCN4.out.cellv (i := k) hk5 (show _ = Value.int .u64 ((partc s' a' i k : Nat) : Int) by rw [if_neg (by omega)])
            have x1 := HC4.out.cellv (i := i * 66 + 1 + k) (by omega) (HG.out k hk5)
            have f0 := HCN4.out.free k
            have hadd := sadd_small (HPL.out k) (HGL.out k)
            have HADD := Lib.hid (fun w' => satadd_spec w' (partc s' a' i k) (g k) (Nat.lt_of_le_of_lt (HPL.out k) (by decide)))
            rw [hadd] at HADD
            have HCN5 := Lib.hid ((HCN4.out.set k (.int .u64 (((partc s' a' i k + g k : Nat)) : Int))).congr (g := fun j => .int .u64 (((if j < k + 1 then partc s' a' i j + g j else partc s' a' i j) : Nat) : Int)) (fun j hj => by
              by_cases e : j = k
              · subst e; rw [if_pos rfl, if_pos (by omega)]
              · rw [if_neg e]
                by_cases e2 : j < k
                · rw [if_pos e2, if_pos (by omega)]
                · rw [if_neg e2, if_neg (by omega)]))
            have HC5 := Lib.hid (HC4.out.other (p := ⟨w.heap.size + 1, k, none⟩) (by simp; omega) (.int .u64 (((partc s' a' i k + g k : Nat)) : Int)))
            have HR5 := Lib.hid (HR4.out.other (p := ⟨w.heap.size + 1, k, none⟩) (by simp) (.int .u64 (((partc s' a' i k + g k : Nat)) : Int)))
            have HF5 := Lib.hid (HF4.out.setCell (p := ⟨w.heap.size + 1, k, none⟩) (.inr (by simp)) (.int .u64 (((partc s' a' i k + g k : Nat)) : Int)))
            clear hadd
            generalize partc s' a' i k + g k = y at *
            generalize partc s' a' i k = z at *
            generalize g k = gk at *
            go_wp2_with fail
            go_region_with ((go_at_call 109; refine (HADD.out _).mono ?_; rintro e w8 ⟨rfl, h8⟩; subst h8))
            all_goals (
              go_wp2_with fail
              go_roundw
              case rel => exact ⟨k + 1, by omega, by go_num, Lib.hid (HC5.out.drewN _), Lib.hid (HR5.out.drewN _), Lib.hid (HCN5.out.drewN _), Lib.hid (HF5.out.drewN _)⟩
              case measure => simp [intOf]; omega)
          · obtain rfl : k = 65 := by omega
            go_wp2_with fail
            go_roundw
            case rel => exact ⟨i + 1, by omega, by go_num, HC4, HR4, Lib.hid (HCN4.out.congr (fun j hj => by rw [if_pos hj, HYG.out])), HF4⟩
            case measure => simp [intOf]; omega
      · have HY := Lib.hid (fun k => partc_no (s := s') (a := a') (i := i) (by rw [← hde]; exact hdn) k)
        have hbd : decide ((s'.n : Int) ≤ (d : Int)) = true := decide_eq_true (by omega)
        have hge : s'.n ≤ d := by omega
        clear hd hde hle hbl hg hai hdn
        go_wp2_with fail
        go_quiet (fail)
        go_wp2_with fail
        go_roundw
        case rel => exact ⟨i + 1, by omega, by go_num, Lib.hid (HC2.out.drewN _), Lib.hid (HR2.out.drewN _), Lib.hid ((HCN2.out.congr (fun j _ => by rw [HY.out])).drewN _), Lib.hid (HF2.out.drewN _)⟩
        case measure => simp [intOf]; omega
    · obtain rfl : i = s'.n := by omega
      have hcc := HCN2.out.congr (g := fun j => .int .u64 ((s'.cnt j : Nat) : Int)) (fun j _ => by rw [partc_all HOK.out])
      have HB := Lib.hid hcc.arr
      clear hcc
      go_wp2_with (first
        | (refine wpList_load_row rfl 126 (.tmp 5) rfl (w.heap.size + 1) rfl 126 s'.bins (0, 0) _ HB.out Tryz.underlying126 rfl (by rw [bins_size]; kernel_rfl) ?_)
        | (refine wpList_store_seg rfl 126 (.tmp 4) (.tmp 64) rfl w.heap.size 0 rfl s'.bins rfl HR2.out (by rw [bins_size]; kernel_rfl) (by rw [bins_size]; decide) (bins_one s') ?_; intro w9 hc9 hf9))
      have hb9 := (hc9.congr (g := fun j => .int .u64 ((s'.cnt j : Nat) : Int)) (fun j hj => by
        rw [if_pos ⟨Nat.zero_le _, by rw [bins_size]; omega⟩]; simp [WinM.bins, List.getD, hj])).arr
      have hF9 : Fr [b] w w9 := HF2.out.trans' hf9 (fun x hx => by simp at hx; omega)
      have HC9 := HC2.out.fr hf9 (by simp; omega)
      refine bodyPost_ret (v := .agg s'.bins) (results_cell_row (p := 4) rfl _ w9 w.heap.size _ _ (0, 0) _ rfl hb9 Tryz.underlying126 rfl (by kernel_rfl)) rfl ?_
      exact ⟨rfl, ⟨a', HOK.out, HC9⟩, hF9⟩
end Go.Proofs.YtcnkhjgpjchkeaaGreat
