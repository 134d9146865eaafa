/-
  TimersAnew, as a contract of its function.
-/
import Derived.Test.YtibnhfnidgfenaaLaw18d
namespace Go.Proofs.Ytibnhfnidgfenaa
open Go.RowKit

theorem Cs.set_set (s : Cs) (k : Int × Int) (a b : Nat) : (s.set k a).set k b = s.set k b := by
  unfold Cs.set
  simp only
  rw [show lessO (k.1, k.2) = lessO k from rfl]
  congr 1
  congr 1
  unfold lessO
  rw [insO_filter (by simp [On.key]), List.filter_filter]
  simp
/-- The timer k is there, and due at D, or it came once, at D. -/
def Once (k1 k2 : Int) (D : Nat) (l : List On) (m a : Nat) : Prop := (m = 0 ∧ onOf l (k1, k2) = some ⟨k1, k2, D⟩) ∨ (m = 1 ∧ a = D ∧ ∀ e ∈ l, e.key ≠ (k1, k2))
theorem Once.none {k1 k2 : Int} {D : Nat} {l : List On} {m a : Nat} (h : Once k1 k2 D l m a) (hn : ∀ e ∈ l, D < e.due) : m = 1 ∧ a = D := by
  rcases h with ⟨_, h⟩ | ⟨h1, h2, _⟩
  · have := hn _ (List.mem_of_find?_eq_some h)
    simp at this
  · exact ⟨h1, h2⟩
theorem Once.some_yes {k1 k2 : Int} {D : Nat} {e : On} {t : List On} {m a : Nat} (h : Once k1 k2 D (e :: t) m a) (hk : ((e :: t).map On.key).Nodup) (he : e.key = (k1, k2)) : m = 0 ∧ e.due = D ∧ Once k1 k2 D t 1 e.due := by
  rcases h with ⟨h0, h⟩ | ⟨h1, h2, h3⟩
  · unfold onOf at h
    rw [List.find?_cons_of_pos (by simpa using he)] at h
    simp only [Option.some.injEq] at h
    refine ⟨h0, by rw [h], .inr ⟨rfl, by rw [h], fun x hx hkx => ?_⟩⟩
    rw [List.map_cons, List.nodup_cons] at hk
    exact hk.1 (by rw [he, ← hkx]; exact List.mem_map_of_mem hx)
  · exact absurd he (h3 e (by simp))
theorem Once.some_no {k1 k2 : Int} {D : Nat} {e : On} {t : List On} {m a : Nat} (h : Once k1 k2 D (e :: t) m a) (he : e.key ≠ (k1, k2)) : Once k1 k2 D t m a := by
  rcases h with ⟨h0, h⟩ | ⟨h1, h2, h3⟩
  · unfold onOf at h
    rw [List.find?_cons_of_neg (by simpa using he)] at h
    exact .inl ⟨h0, h⟩
  · exact .inr ⟨h1, h2, fun x hx => h3 x (by simp [hx])⟩
theorem onOf_insO_less {k1 k2 : Int} {D : Nat} : ∀ {l : List On}, (∀ e ∈ l, e.key ≠ (k1, k2)) → onOf (insO ⟨k1, k2, D⟩ l) (k1, k2) = some ⟨k1, k2, D⟩
  | [], _ => by simp [insO, onOf, On.key]
  | y :: l, h => by
    unfold insO
    split
    · unfold onOf
      rw [List.find?_cons_of_pos (by simp [On.key])]
    · have ih := onOf_insO_less (D := D) (fun e he => h e (by simp [he]) : ∀ e ∈ l, e.key ≠ (k1, k2))
      unfold onOf at ih ⊢
      rw [List.find?_cons_of_neg (by simpa using h y (by simp))]
      exact ih
theorem anew_bounds {g t0 t1 : Nat} (hg : ¬ 9223372036854775808 < g) (h0 : t0 < 65536) (h1 : t1 < 65536) : g + t0 < 18446744073709551616 ∧ g + t1 < 18446744073709551616 ∧ g ≤ g + t1 ∧ g + t1 ≤ sadd g 1048576 := by
  unfold sadd
  omega
abbrev ubox (a b : Nat) : Obj := .cells #[.int .u16 a, .int .u16 b] 71
set_option maxHeartbeats 8000000 in
set_option maxRecDepth 20000 in
theorem timersAnew_spec {w : World} {dv : Value} {ds : List De} (hd : De4s w dv ds) (k1 k2 : Int) (t0 t1 : Nat) (h0 : t0 < 65536) (h1 : t1 < 65536) :
    Calls Try.prog 11 #[dv, .agg #[.int .i64 k1, .int .i64 k2], .agg #[.int .u16 t0, .int .u16 t1]] w fun e w' => e = .returned (.bool true) ∧ Fr [] w w' := by
  have HD := Lib.hid hd
  obtain ⟨ao, cap, rfl, hlen, -⟩ := hd
  have HK := Lib.hid (((Fr.refl [] _).alloc (ubox t0 t1)).keep (block_alloc_new w (tbox k1 k2)) (by simp))
  have HU := Lib.hid (block_alloc_new (w.alloc (tbox k1 k2)) (ubox t0 t1))
  rw [show (w.alloc (tbox k1 k2)).heap.size = w.heap.size + 1 by simp] at HU
  have HF0 := Lib.hid (((Fr.refl [] w).alloc (tbox k1 k2)).alloc (ubox t0 t1))
  have hc0 : IntKind.u64.wrap (t0 : Int) = (t0 : Int) := by rw [IntKind.wrap_u64]; omega
  have hc1 : IntKind.u64.wrap (t1 : Int) = (t1 : Int) := by rw [IntKind.wrap_u64]; omega
  go_enter Try.func11, Try.ntmps11
  go_wp2_with fail
  refine (awake18 _).mono ?_
  rintro r w1 ⟨rfl, F⟩
  have HK := Lib.hid (F.keep HK.out (by simp))
  have HU := Lib.hid (F.keep HU.out (by simp))
  have HF := Lib.hid (HF0.out.trans F)
  clear F
  go_wp2_with fail
  refine (ran18_spec (HD.out.fr HF.out)).mono ?_
  rintro r w2 ⟨c, rfl, h2⟩
  generalize clkTo ds (min ds.length 100) = s0 at *
  have H2 := Lib.hid (h2.base (K := [(w.heap.size, tbox k1 k2), (w.heap.size + 1, ubox t0 t1)]) HF.out (by
    intro k hk
    simp only [List.mem_cons, List.not_mem_nil, or_false] at hk
    rcases hk with rfl | rfl
    · exact HK.out
    · exact HU.out))
  have hl0 := h2.ok.len
  clear h2
  go_wp2_with fail
  go_loopw [9] (fun vi wr => ∃ (i : Nat) (s : Cs), vi = .int .i64 i ∧ s.l.length + i ≤ 100 ∧ Hid (C1 w wr c s 100 [(w.heap.size, tbox k1 k2), (w.heap.size + 1, ubox t0 t1)])) (fun vi _ => 101 - (intOf vi).toNat)
  case atStart => exact ⟨0, s0, by go_num, by omega, H2⟩
  case round =>
    clear H2
    obtain ⟨i, s, rfl, hi, H⟩ := hrel
    have hi101 : i < 101 := by omega
    have hok := Lib.hid H.out.ok
    have HN := Lib.hid (H.out.call (fun fp h => h.next (by omega)))
    cases hc : s.comes with
    | some e =>
      obtain ⟨q1, q2, q3, q4⟩ := hok.out.next_some hc
      rw [hc, q1] at HN
      simp only [keyV, Option.map_some, Option.getD_some, Option.isSome_some] at HN
      have hi' : s.l.tail.length + (i + 1) ≤ 100 := by omega
      generalize s.l.tail = tl at *
      clear hc q1 q4
      go_wp2_with fail
      refine HN.out.mono ?_
      rintro r w8 ⟨rfl, h8⟩
      have H8 := Lib.hid (h8.fr0 ((Fr.refl [] w8).alloc (tbox e.kind e.id)))
      clear h8 HN
      go_wp2_with fail
      go_roundw
      case rel => exact ⟨i + 1, ⟨e.due, tl, s.goal⟩, by go_num, hi', H8⟩
      case measure => simp [intOf]; omega
    | none =>
      rw [hc, hok.out.next_none hc] at HN
      simp only [keyV, Option.map_none, Option.getD_none, Option.isSome_none] at HN
      have hgl := hok.out.lt
      have hll : s.l.length ≤ 100 := by omega
      obtain ⟨g, hg⟩ : ∃ g, g = s.goal := ⟨_, rfl⟩
      rw [← hg] at hgl HN
      generalize s.l = l0 at *
      clear hc hg hok
      go_wp2_with fail
      refine HN.out.mono ?_
      rintro r w8 ⟨rfl, h8⟩
      have H8 := Lib.hid (h8.fr0 ((Fr.refl [] w8).alloc (tbox 0 0)))
      clear h8 HN H
      go_wp2_with fail
      refine (H8.out.ask (fun fp h => h.nowOf)).mono ?_
      rintro r w9 ⟨rfl, hw⟩
      subst hw
      by_cases hbig : 9223372036854775808 < g
      · have hb : decide (9223372036854775808 < g) = true := decide_eq_true hbig
        go_wp2_with fail
        go_ret
        exact ⟨by first | rfl | simp, H8.out.frame⟩
      · have hb : decide ((9223372036854775808 : Int) < (g : Int)) = false := decide_eq_false (by omega)
        have hs0 : IntKind.u64.wrap ((g : Int) + (t0 : Int)) = ((g + t0 : Nat) : Int) := by rw [IntKind.wrap_u64]; omega
        have hs1 : IntKind.u64.wrap ((g : Int) + (t1 : Int)) = ((g + t1 : Nat) : Int) := by rw [IntKind.wrap_u64]; omega
        have H0 := Lib.hid (anew_bounds hbig h0 h1)
        obtain ⟨D0, hD0⟩ : ∃ D, D = g + t0 := ⟨_, rfl⟩
        obtain ⟨D1, hD1⟩ : ∃ D, D = g + t1 := ⟨_, rfl⟩
        rw [← hD0] at hs0 H0
        rw [← hD1] at hs1 H0
        have HU8 := Lib.hid (H8.out.read (p := w.heap.size + 1) (o := ubox t0 t1) (by simp))
        obtain ⟨u0, u1⟩ := two_cells' HU8.out
        obtain ⟨b0, b1⟩ := two_cells' (H8.out.read (p := w.heap.size) (o := tbox k1 k2) (by simp))
        simp only [tbox] at b0 b1
        clear hbig hD0 hD1
        go_wp2_with fail
        refine (H8.out.call (fun fp h => h.set (by omega) k1 k2 D0 H0.out.1)).mono ?_
        rintro r w10 ⟨rfl, h10⟩
        have H10 := Lib.hid h10
        obtain ⟨u0, u1⟩ := two_cells' (H10.out.read (p := w.heap.size + 1) (o := ubox t0 t1) (by simp))
        obtain ⟨b0, b1⟩ := two_cells' (H10.out.read (p := w.heap.size) (o := tbox k1 k2) (by simp))
        clear h10
        go_wp2_with fail
        refine (H10.out.call (fun fp h => h.set (by omega) k1 k2 D1 H0.out.2.1)).mono ?_
        rintro r w11 ⟨rfl, h11⟩
        rw [Cs.set_set] at h11
        have H11 := Lib.hid h11
        clear h11 H10 u0 u1 b0 b1
        go_wp2_with fail
        refine (H11.out.call (fun fp h => h.go 1048576)).mono ?_
        rintro r w12 ⟨rfl, h12⟩
        have H12 := Lib.hid h12
        obtain ⟨s4, hs4⟩ : ∃ s4, s4 = (Cs.set ⟨g, l0, g⟩ (k1, k2) D1).go 1048576 := ⟨_, rfl⟩
        rw [← hs4] at H12
        have HO := Lib.hid (show Once k1 k2 D1 s4.l 0 0 from .inl ⟨rfl, by
          rw [hs4]
          simp only [Cs.go, Cs.set]
          rw [show max D1 g = D1 by have := H0.out; omega]
          exact onOf_insO_less less_key⟩)
        have HG4 := Lib.hid (show D1 ≤ s4.goal from by rw [hs4]; exact H0.out.2.2.2)
        have hl4 : s4.l.length ≤ 101 := by
          rw [hs4]
          simp only [Cs.go, Cs.set]
          rw [insO_len]
          have := less_len (l := l0) (k := (k1, k2))
          omega
        clear h12 H11 H8 hs4 HU8
        go_wp2_with fail
        go_loopw [13, 14, 15] (fun vm va vi wr => ∃ (i m a : Nat) (s : Cs), vi = .int .i64 i ∧ vm = .int .i64 m ∧ va = .int .u64 a ∧ s.l.length + i ≤ 101 ∧ Hid (Once k1 k2 D1 s.l m a) ∧ Hid (D1 ≤ s.goal) ∧ Hid (C1 w wr c s 102 [(w.heap.size, tbox k1 k2), (w.heap.size + 1, ubox t0 t1)])) (fun _ _ vi _ => 101 - (intOf vi).toNat)
        case atStart => exact ⟨0, 0, 0, s4, by go_num, by go_num, by go_num, by omega, HO, HG4, H12⟩
        case round =>
          clear H12 HO HG4 hl4
          obtain ⟨i, m, a, s, rfl, rfl, rfl, hi, HO, HG4, H⟩ := hrel
          by_cases hlt : i < 101
          · have hok := Lib.hid H.out.ok
            have HN := Lib.hid (H.out.call (fun fp h => h.next (by omega)))
            cases hc : s.comes with
            | none =>
              obtain ⟨rfl, rfl⟩ := HO.out.none (fun e he => by have := Cs.comes_none hok.out hc e he; have := HG4.out; omega)
              rw [hc, hok.out.next_none hc] at HN
              simp only [keyV, Option.map_none, Option.getD_none, Option.isSome_none] at HN
              clear hc hok HO
              generalize s.goal = G at *
              generalize s.l = ll at *
              go_wp2_with fail
              refine HN.out.mono ?_
              rintro r w13 ⟨rfl, h13⟩
              have H13 := Lib.hid (h13.fr0 ((Fr.refl [] w13).alloc (tbox 0 0)))
              obtain ⟨u0, u1⟩ := two_cells' (H13.out.read (p := w.heap.size + 1) (o := ubox t0 t1) (by simp))
              simp only [tbox] at u0 u1
              clear h13 HN H
              go_wp2_with fail
              go_ret
              exact ⟨by first | rfl | simp, H13.out.frame⟩
            | some e =>
              obtain ⟨q1, q2, q3, q4⟩ := hok.out.next_some hc
              rw [hc, q1] at HN
              simp only [keyV, Option.map_some, Option.getD_some, Option.isSome_some] at HN
              have hi' : s.l.tail.length + (i + 1) ≤ 101 := by omega
              have hkn := Lib.hid hok.out.keys
              rw [(Cs.comes_some hc).1] at HO hkn
              generalize s.l.tail = tl at *
              clear hc q1 q4 hok
              by_cases hke : e.key = (k1, k2)
              · obtain ⟨rfl, hd1, hO2⟩ := HO.out.some_yes hkn.out hke
                have HO2 := Lib.hid hO2
                obtain ⟨ek, ei, ed⟩ := e
                simp only [On.key, Prod.mk.injEq] at hke
                obtain ⟨rfl, rfl⟩ := hke
                simp only at HN HO2
                clear hd1 hO2 HO hkn
                go_wp2_with fail
                refine HN.out.mono ?_
                rintro r w13 ⟨rfl, h13⟩
                have H13 := Lib.hid (h13.fr0 ((Fr.refl [] w13).alloc (tbox ek ei)))
                obtain ⟨b0, b1⟩ := two_cells' (H13.out.read (p := w.heap.size) (o := tbox ek ei) (by simp))
                simp only [tbox] at b0 b1
                have HNo := Lib.hid (H13.out.ask (fun fp h => h.nowOf))
                clear h13 HN H
                go_wp2_with fail
                refine HNo.out.mono ?_
                rintro r wz ⟨rfl, hwz⟩
                subst hwz
                go_wp2_with fail
                go_roundw
                case rel => exact ⟨i + 1, 1, ed, ⟨ed, tl, s.goal⟩, by go_num, by go_num, rfl, hi', HO2, HG4, H13⟩
                case measure => simp [intOf]; omega
              · have HO2 := Lib.hid (HO.out.some_no hke)
                obtain ⟨ek, ei, ed⟩ := e
                simp only [On.key, Prod.mk.injEq, not_and] at hke
                simp only at HN
                clear HO hkn
                by_cases he1 : ek = k1
                · subst he1
                  have e2 : (ei == k2) = false := by simpa using hke rfl
                  clear hke
                  go_wp2_with fail
                  refine HN.out.mono ?_
                  rintro r w13 ⟨rfl, h13⟩
                  have H13 := Lib.hid (h13.fr0 ((Fr.refl [] w13).alloc (tbox ek ei)))
                  obtain ⟨b0, b1⟩ := two_cells' (H13.out.read (p := w.heap.size) (o := tbox ek k2) (by simp))
                  simp only [tbox] at b0 b1
                  clear h13 HN H
                  go_wp2_with fail
                  go_roundw
                  case rel => exact ⟨i + 1, m, a, ⟨ed, tl, s.goal⟩, by go_num, rfl, rfl, hi', HO2, HG4, H13⟩
                  case measure => simp [intOf]; omega
                · have e1 : (ek == k1) = false := by simpa using he1
                  clear hke
                  go_wp2_with fail
                  refine HN.out.mono ?_
                  rintro r w13 ⟨rfl, h13⟩
                  have H13 := Lib.hid (h13.fr0 ((Fr.refl [] w13).alloc (tbox ek ei)))
                  obtain ⟨b0, b1⟩ := two_cells' (H13.out.read (p := w.heap.size) (o := tbox k1 k2) (by simp))
                  simp only [tbox] at b0 b1
                  clear h13 HN H
                  go_wp2_with fail
                  go_roundw
                  case rel => exact ⟨i + 1, m, a, ⟨ed, tl, s.goal⟩, by go_num, rfl, rfl, hi', HO2, HG4, H13⟩
                  case measure => simp [intOf]; omega
          · have hnil : s.l = [] := List.eq_nil_of_length_eq_zero (by omega)
            obtain ⟨rfl, rfl⟩ := HO.out.none (fun e he => by rw [hnil] at he; cases he)
            obtain ⟨u0, u1⟩ := two_cells' (H.out.read (p := w.heap.size + 1) (o := ubox t0 t1) (by simp))
            clear hnil HO
            go_wp2_with fail
            go_ret
            exact ⟨by first | rfl | simp, H.out.frame⟩
end Go.Proofs.Ytibnhfnidgfenaa
