/-
  TimersPlays, TimersStops, TimersParts.
-/
import Derived.Test.YtibnhfnidgfenaaLaw18c
namespace Go.Proofs.Ytibnhfnidgfenaa
open Go.RowKit

theorem insO_filter {x : On} {p : On → Bool} (hp : p x = false) : ∀ l : List On, (insO x l).filter p = l.filter p
  | [] => by unfold insO; rw [List.filter_cons_of_neg (by simp [hp])]
  | y :: l => by
    unfold insO
    split
    · rw [List.filter_cons_of_neg (by simp [hp])]
    · rw [List.filter_cons, List.filter_cons, insO_filter hp l]
theorem insO_mem {x y : On} : ∀ {l : List On}, y ∈ insO x l ↔ y = x ∨ y ∈ l
  | [] => by simp [insO]
  | z :: l => by
    unfold insO
    split
    · simp
    · have ih := insO_mem (x := x) (y := y) (l := l)
      simp only [List.mem_cons, ih]
      constructor
      · rintro (h | h | h)
        · exact .inr (.inl h)
        · exact .inl h
        · exact .inr (.inr h)
      · rintro (h | h | h)
        · exact .inr (.inl h)
        · exact .inl h
        · exact .inr (.inr h)
theorem onOf_insO {x : On} {l : List On} : (onOf (insO x l) x.key).isSome = true := by
  unfold onOf
  rw [List.find?_isSome]
  exact ⟨x, insO_mem.2 (.inl rfl), by simp⟩
theorem Cs.set_stop (s : Cs) (k : Int × Int) (D : Nat) : (s.set k D).stop k = s.stop k := by
  unfold Cs.set Cs.stop lessO
  simp only
  rw [insO_filter (by simp [On.key]), List.filter_filter]
  simp
theorem Cs.stop_stop (s : Cs) (k : Int × Int) : (s.stop k).stop k = s.stop k := by
  unfold Cs.stop lessO
  simp only
  rw [List.filter_filter]
  simp
theorem less_key {k : Int × Int} {l : List On} : ∀ e ∈ lessO k l, e.key ≠ k := fun e he => by
  have := (List.mem_filter.1 he).2
  simpa using this

set_option maxHeartbeats 4000000 in
set_option maxRecDepth 20000 in
theorem timersStops_spec {w : World} {dv : Value} {ds : List De} (hd : De4s w dv ds) (k1 k2 : Int) :
    Calls Try.prog 13 #[dv, .agg #[.int .i64 k1, .int .i64 k2]] w fun e w' => e = .returned (.bool true) ∧ Fr [] w w' := by
  have HD := Lib.hid hd
  obtain ⟨ao, cap, rfl, hlen, -⟩ := hd
  have HK := Lib.hid (block_alloc_new w (tbox k1 k2))
  have HF0 := Lib.hid ((Fr.refl [] w).alloc (tbox k1 k2))
  go_enter Try.func13, Try.ntmps13
  go_wp2_with fail
  refine (awake18 _).mono ?_
  rintro r w1 ⟨rfl, F⟩
  have HK := Lib.hid (F.keep HK.out (by simp))
  have HF := Lib.hid (HF0.out.trans F)
  clear F
  go_wp2_with fail
  refine (ran18_spec (HD.out.fr HF.out)).mono ?_
  rintro r w2 ⟨c, rfl, h2⟩
  generalize clkTo ds (min ds.length 100) = s0 at *
  have H2 := Lib.hid (h2.base (K := [(w.heap.size, tbox k1 k2)]) HF.out (by simpa using HK.out))
  have hl0 := Lib.hid h2.ok.len
  clear h2
  obtain ⟨a0, a1⟩ := two_cells' (H2.out.read (p := w.heap.size) (o := tbox k1 k2) (by simp))
  go_wp2_with fail
  refine (H2.out.call (fun fp h => h.set (by omega) k1 k2 1099511627776 (by omega))).mono ?_
  rintro r w3 ⟨rfl, h3⟩
  have H3 := Lib.hid h3
  clear h3 a0 a1
  go_wp2_with fail
  refine (H3.out.ask (fun fp h => h.lenOf)).mono ?_
  rintro r w4 ⟨rfl, hw⟩
  subst hw
  have HS := Lib.hid (H3.out.call (fun fp h => h.stop (by omega) k1 k2))
  rw [show onOf (s0.set (k1, k2) 1099511627776).l (k1, k2) = onOf (insO ⟨k1, k2, max 1099511627776 s0.now⟩ (lessO (k1, k2) s0.l)) (On.key ⟨k1, k2, max 1099511627776 s0.now⟩) from rfl, onOf_insO, Cs.set_stop] at HS
  have hn : (0 : Int) < ((s0.set (k1, k2) 1099511627776).l.length : Int) := by
    simp only [Cs.set]
    rw [insO_len]
    omega
  generalize (s0.set (k1, k2) 1099511627776).l.length = nn at *
  have hn2 : decide (0 < nn) = true := decide_eq_true (by omega)
  obtain ⟨a0, a1⟩ := two_cells' (H3.out.read (p := w.heap.size) (o := tbox k1 k2) (by simp))
  go_wp2_with fail
  refine HS.out.mono ?_
  rintro r w5 ⟨rfl, h5⟩
  have H5 := Lib.hid h5
  have HT := Lib.hid (h5.call (fun fp h => h.stop (by omega) k1 k2))
  rw [show onOf (s0.stop (k1, k2)).l (k1, k2) = none from onOf_less _, Cs.stop_stop] at HT
  simp only [Option.isSome_none] at HT
  obtain ⟨a0, a1⟩ := two_cells' (H5.out.read (p := w.heap.size) (o := tbox k1 k2) (by simp))
  clear h5 HS H3 H2
  go_wp2_with fail
  refine HT.out.mono ?_
  rintro r w6 ⟨rfl, h6⟩
  have H6 := Lib.hid h6
  clear h6 HT H5 a0 a1
  go_wp2_with fail
  refine (H6.out.call (fun fp h => h.go 18446744073709551615)).mono ?_
  rintro r w7 ⟨rfl, h7⟩
  have hk7 : Hid (∀ e ∈ ((s0.stop (k1, k2)).go 18446744073709551615).l, e.key ≠ (k1, k2)) := Lib.hid less_key
  have hg7 : Hid (((s0.stop (k1, k2)).go 18446744073709551615).goal = 18446744073709551615) := Lib.hid (by unfold Cs.go sadd; simp only; omega)
  have H7 := Lib.hid h7
  have hl7 : ((s0.stop (k1, k2)).go 18446744073709551615).l.length ≤ 100 := by
    exact Nat.le_trans less_len hl0.out
  generalize (s0.stop (k1, k2)).go 18446744073709551615 = s7 at *
  clear h7 H6 hl0
  go_wp2_with fail
  go_loopw [10] (fun vi wr => ∃ (i : Nat) (s : Cs), vi = .int .i64 i ∧ s.l.length + i ≤ 100 ∧ Hid (s.goal = 18446744073709551615) ∧ Hid (∀ e ∈ s.l, e.key ≠ (k1, k2)) ∧ Hid (C1 w wr c s 101 [(w.heap.size, tbox k1 k2)])) (fun vi _ => 101 - (intOf vi).toNat)
  case atStart => exact ⟨0, s7, by go_num, by omega, hg7, hk7, H7⟩
  case round =>
    clear H7 hk7 hg7
    obtain ⟨i, s, rfl, hi, hg, hk, H⟩ := hrel
    have hi101 : i < 101 := by omega
    have hok := Lib.hid H.out.ok
    have HN := Lib.hid (H.out.call (fun fp h => h.next (by omega)))
    cases hc : s.comes with
    | none =>
      have hl : s.l = [] := by
        cases hl : s.l with
        | nil => rfl
        | cons x t =>
          have h1 := Cs.comes_none hok.out hc x (by rw [hl]; simp)
          have h2 := hok.out.due x (by rw [hl]; simp)
          have := hg.out
          omega
      have HNe := Lib.hid (hok.out.next_none hc)
      rw [hc, HNe.out, hl] at HN
      simp only [keyV, Option.map_none, Option.getD_none, Option.isSome_none] at HN
      clear hc hl
      go_wp2_with fail
      refine HN.out.mono ?_
      rintro r w8 ⟨rfl, h8⟩
      have H8 := Lib.hid (h8.fr0 ((Fr.refl [] w8).alloc (tbox 0 0)))
      have HL := Lib.hid (H8.out.ask (fun fp h => h.lenOf))
      clear h8 HN
      go_wp2_with fail
      refine HL.out.mono ?_
      rintro r w9 ⟨rfl, hw⟩
      subst hw
      go_wp2_with fail
      go_ret
      exact ⟨by first | rfl | simp, H8.out.frame⟩
    | some e =>
      obtain ⟨q1, q2, q3, q4⟩ := hok.out.next_some hc
      rw [hc, q1] at HN
      simp only [keyV, Option.map_some, Option.getD_some, Option.isSome_some] at HN
      have hi' : s.l.tail.length + (i + 1) ≤ 100 := by omega
      have hne : e.key ≠ (k1, k2) := hk.out e (by rw [(Cs.comes_some hc).1]; simp)
      have hk' : Hid (∀ e ∈ s.l.tail, e.key ≠ (k1, k2)) := Lib.hid (fun x hx => hk.out x (by rw [(Cs.comes_some hc).1]; simp [hx]))
      generalize s.l.tail = tl at *
      clear hc q1 q4
      go_wp2_with fail
      refine HN.out.mono ?_
      rintro r w8 ⟨rfl, h8⟩
      have h9 := h8.box (tbox e.kind e.id)
      have H8 := Lib.hid (h8.fr0 ((Fr.refl [] w8).alloc (tbox e.kind e.id)))
      obtain ⟨b0, b1⟩ := two_cells' (h9.read (p := w.heap.size) (o := tbox k1 k2) (by simp))
      simp only [tbox] at b0 b1
      clear h8 HN h9
      obtain ⟨ek, ei, ed⟩ := e
      simp only [On.key, ne_eq, Prod.mk.injEq, not_and] at hne
      simp only at b0 b1 H8 ⊢
      by_cases he1 : ek = k1
      · subst he1
        have e2 : (ei == k2) = false := by simpa using hne rfl
        clear hne
        go_wp2_with fail
        go_roundw
        case rel => exact ⟨i + 1, ⟨ed, tl, s.goal⟩, by go_num, hi', hg, hk', H8⟩
        case measure => simp [intOf]; omega
      · have e1 : (ek == k1) = false := by simpa using he1
        clear hne
        go_wp2_with fail
        go_roundw
        case rel => exact ⟨i + 1, ⟨ed, tl, s.goal⟩, by go_num, hi', hg, hk', H8⟩
        case measure => simp [intOf]; omega
end Go.Proofs.Ytibnhfnidgfenaa
