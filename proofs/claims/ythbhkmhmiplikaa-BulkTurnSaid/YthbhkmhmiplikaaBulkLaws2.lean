/-
  BulkRefuses, as a contract of its function.
-/
import Derived.Test.YthbhkmhmiplikaaBulkLaws1
namespace Go.Proofs.Ythbhkmhmiplikaa
open Go.RowKit

/-- Who was never named doesn't run, nor wait. -/
theorem admit_sub (m q : Nat) (hs ws : List Int) (x y : Int) (h : y ∈ (admitM m q hs ws x).1 ∨ y ∈ (admitM m q hs ws x).2.1) : y ∈ hs ∨ y ∈ ws ∨ y = x := by
  unfold Proofs.Ythbhkmhmiplikaa.admitM at h
  split at h
  · exact h.imp id .inl
  · split at h
    · simp at h; rcases h with (h | h) | h <;> simp [h]
    · split at h
      · simp at h; rcases h with h | h | h <;> simp [h]
      · split at h
        · next hc =>
          cases ws with
          | nil => exact absurd rfl hc.2
          | cons z ws => simp [el] at h; rcases h with (h | h) | h | h <;> simp [h]
        · exact h.imp id .inl
theorem rem_sub' {x y : Int} {l : List Int} (h : y ∈ rem x l) : y ∈ l := (rem_sub x l).subset h
theorem deedB_sub (m q : Nat) (P : List Int × List Int) (k x y : Int) (h : y ∈ (deedB m q P k x).1 ∨ y ∈ (deedB m q P k x).2) : y ∈ P.1 ∨ y ∈ P.2 ∨ y = x := by
  obtain ⟨hs, ws⟩ := P
  unfold deedB at h
  split at h
  · exact admit_sub m q hs ws x y h
  · split at h
    · split at h
      · next hc =>
        cases ws with
        | nil => exact absurd rfl hc.2
        | cons z ws => simp [el] at h; rcases h with (h | h) | h <;> simp [h]
      · rcases h with h | h <;> simp at h <;> simp [h]
    · split at h
      · rcases h with h | h
        · exact .inl h
        · exact .inr (.inl (rem_sub' h))
      · rcases h with h | h
        · exact .inl (rem_sub' h)
        · exact .inr (.inl h)
theorem afterB_named (m q : Nat) (ds : List (Int × Int)) (y : Int) (hn : ∀ j, j < ds.length → (ds.getD j (0, 0)).2 ≠ y) : ∀ i, i ≤ ds.length → y ∉ (afterB m q (ds.take i)).1 ∧ y ∉ (afterB m q (ds.take i)).2 := by
  intro i
  induction i with
  | zero => intro _; simp [afterB]
  | succ i ih =>
    intro hi
    have h1 := ih (by omega)
    rw [afterB_snoc m q ds i (by omega)]
    have h2 := fun h => deedB_sub m q (afterB m q (ds.take i)) (ds.getD i (0, 0)).1 (ds.getD i (0, 0)).2 y h
    have h3 := hn i (by omega)
    constructor <;> intro h
    · rcases h2 (.inl h) with h | h | h
      · exact h1.1 h
      · exact h1.2 h
      · exact h3 h.symm
    · rcases h2 (.inr h) with h | h | h
      · exact h1.1 h
      · exact h1.2 h
      · exact h3 h.symm
theorem afterB_named' (m q : Nat) (ds : List (Int × Int)) (y : Int) (hn : ∀ j, j < ds.length → (ds.getD j (0, 0)).2 ≠ y) : y ∉ (afterB m q (ds.take 100)).1 ∧ y ∉ (afterB m q (ds.take 100)).2 := by
  by_cases h : 100 ≤ ds.length
  · exact afterB_named m q ds y hn 100 h
  · have := afterB_named m q ds y hn ds.length (Nat.le_refl _)
    rw [List.take_of_length_le (by omega)] at this ⊢
    exact this


theorem refuse_full {m q : Nat} {hs ws : List Int} {x : Int} (hh : x ∉ hs) (hw : x ∉ ws) (hm : hs.length = m) (hq : ws.length = q) : admitM m q hs ws x = (hs, ws, 3, []) := by
  unfold Proofs.Ythbhkmhmiplikaa.admitM
  rw [if_neg (by simp [hh, hw]), if_neg (by omega), if_neg (by omega), if_neg (by omega)]
theorem refuse_run {m q : Nat} {hs ws : List Int} {x : Int} (hh : x ∉ hs) (hm : hs.length < m) (hw : ws = []) : admitM m q hs ws x = (hs ++ [x], ws, 1, []) := by
  subst hw
  unfold Proofs.Ythbhkmhmiplikaa.admitM
  rw [if_neg (by simp [hh]), if_pos ⟨hm, rfl⟩]
/-- Not full, and somebody waits, or all run: it waits. -/
theorem refuse_wait {m q : Nat} {hs ws : List Int} {x : Int} (hh : x ∉ hs) (hw : x ∉ ws) (hn : ¬ (hs.length = m ∧ ws.length = q)) (hno : ¬ (hs.length < m ∧ ws = [])) (hl : hs.length ≤ m ∧ ws.length ≤ q) :
    (admitM m q hs ws x).2.2.1 = 2 ∧ x ∉ (admitM m q hs ws x).1 ∧ x ∈ (admitM m q hs ws x).2.1 ∧ (admitM m q hs ws x).1.length + (admitM m q hs ws x).2.1.length = hs.length + ws.length + 1 := by
  unfold Proofs.Ythbhkmhmiplikaa.admitM
  rw [if_neg (by simp [hh, hw]), if_neg hno]
  by_cases h : ws.length < q
  · rw [if_pos h]
    simp [hh]; omega
  · rw [if_neg h]
    have hwn : ws ≠ [] ∨ hs.length = m := by
      by_cases h1 : ws = []
      · right
        by_cases h2 : hs.length < m
        · exact absurd ⟨h2, h1⟩ hno
        · omega
      · exact .inl h1
    rcases hwn with h1 | h1
    · rw [if_pos ⟨by omega, h1⟩]
      cases ws with
      | nil => exact absurd rfl h1
      | cons z ws =>
        simp only [List.mem_cons, not_or] at hw
        simp [el, hh, hw]; omega
    · exact absurd ⟨h1, by omega⟩ hn
/-- Again: it is there. -/
theorem admit_again {m q : Nat} {hs ws : List Int} {x : Int} (h : x ∈ hs ∨ x ∈ ws) : admitM m q hs ws x = (hs, ws, 3, []) := by
  unfold Proofs.Ythbhkmhmiplikaa.admitM
  rw [if_pos h]

/-- The configuration's numbers, as the laws sum them up. -/
def ConfSum (c : CF) (m q : Nat) : Prop := c.pool + c.sem = m ∧ c.queue = q
theorem confOf_all (pool : Bool) (n0 n1 : Nat) : ∃ m q : Nat, m ≤ 8 ∧ q ≤ 8 ∧ (confOf pool n0 n1).most = m ∧ (confOf pool n0 n1).que = q ∧ ((confOf pool n0 n1).mode = 1 ∨ (confOf pool n0 n1).mode = 2) ∧ ConfSum (confOf pool n0 n1) m q := by
  cases pool
  · obtain ⟨h1, h2, h3⟩ := confOf_sem n0 n1
    exact ⟨_, _, by omega, by omega, h1, h2, .inr h3, by simp [ConfSum, confOf]⟩
  · obtain ⟨h1, h2, h3⟩ := confOf_pool n0 n1
    exact ⟨_, _, by omega, by omega, h1, h2, .inl h3, by simp [ConfSum, confOf]⟩

set_option maxHeartbeats 8000000 in
theorem bulkRefuses_spec {w : World} {v : Value} {ds : List (Int × Int)} (hd : Deeds w v ds) (pool : Bool) (n0 n1 : Nat) (h0 : n0 < 256) (h1 : n1 < 256) :
    Calls Try.prog 11 #[.agg #[.int .u8 n0, .int .u8 n1], .bool pool, v] w fun e w' => e = .returned (.bool true) ∧ Fr [] w w' := by
  obtain ⟨m, q, hm8, hq8, k1, k2, k3, k4⟩ := confOf_all pool n0 n1
  have HC := Lib.hid (fun w => conf_spec pool n0 n1 (by omega) (by omega) w)
  have HN := Lib.hid (fun (w1 : World) (F : Fr [] w w1) => ran10 (hd.fr F) (confOf pool n0 n1) m q k1 k2 k3 ⟨hm8, hq8⟩)
  have HNM := Lib.hid (afterB_named' m q ds 1099511627776)
  generalize confOf pool (n0 : Int) (n1 : Int) = cf at *
  generalize afterB m q (ds.take 100) = P at *
  obtain ⟨hs, ws⟩ := P
  obtain ⟨mode, cpool, queue, sem, fb, ch, t, ft, vo, pe, sl, bu, wi, wd, ba, fo⟩ := cf
  obtain ⟨k5, k6⟩ := k4
  simp only at k5 k6
  subst k6
  clear k1 k2 k3
  obtain ⟨av, cv, rfl, hd2, hd3⟩ := hd
  have HD := Lib.hid hd3
  clear hd3
  simp only [CF.val] at *
  go_enter Try.func11, Try.ntmps11
  go_wp2_with fail
  refine (awake10 _).mono ?_
  rintro e w1 ⟨rfl, F⟩
  have c0 := (F.cell (p := ⟨w.heap.size, 0, none⟩) (by simp) (by simp)).trans (World.cell?_alloc_new _ _ _ 0)
  have c1 := (F.cell (p := ⟨w.heap.size, 1, none⟩) (by simp) (by simp)).trans (World.cell?_alloc_new _ _ _ 1)
  have HF := Lib.hid (((Fr.refl [] w).alloc _).trans F)
  clear F
  go_wp2_with fail
  refine (HC.out _).mono ?_
  rintro e w2 ⟨rfl, F⟩
  have HF := Lib.hid (HF.out.trans F)
  clear F c0 c1
  go_wp2_with fail
  have HF' := Lib.hid (HF.out.alloc (.cells #[.int .i64 mode, .int .i64 cpool, .int .i64 q, .int .i64 sem, .int .i64 fb, .int .i64 ch, .int .u64 t, .int .u64 ft, .int .i64 vo, .int .i64 pe, .int .u64 sl, .int .i64 bu, .int .u64 wi, .int .u64 wd, .int .i64 ba, .int .i64 fo] 44))
  refine (HN.out _ HF'.out).mono ?_
  rintro e w3 ⟨b, s, r, g, rfl, B, hr, hg, hr2, hg2, F⟩
  have KB := F.keep (block_alloc_new _ _) (by simp)
  have hbox : w2.heap.size < w3.heap.size := lt_of_block KB
  obtain ⟨c0, c1, c2, c3, -⟩ := sixteen KB
  have hrg := Lib.hid (show w.heap.size ≤ r ∧ w.heap.size ≤ g from ⟨Nat.le_trans HF'.out.size hr, Nat.le_trans HF'.out.size hg⟩)
  have hne : w2.heap.size < r ∧ w2.heap.size < g := by simp at hr hg; omega
  have HF := Lib.hid (HF'.out.trans F)
  have HB := Lib.hid B
  have HND := Lib.hid B.nodup
  have KB := Lib.hid KB
  clear B F hr hg HF' HC HN
  simp only at HB HND HNM
  have hl := HB.out.lens
  generalize Value.agg #[.int .i64 mode, .int .i64 cpool, .int .i64 q, .int .i64 sem, .int .i64 fb, .int .i64 ch, .int .u64 t, .int .u64 ft, .int .i64 vo, .int .i64 pe, .int .u64 sl, .int .i64 bu, .int .u64 wi, .int .u64 wd, .int .i64 ba, .int .i64 fo] = cv16
  go_wp2_with fail
  go_loopw [11] (fun v wr => ∃ i : Nat, i ≤ ds.length ∧ v = .int .i64 i ∧ wr = w3 ∧ Hid (∀ j, j < i → (ds.getD j (0, 0)).2 ≠ 1099511627776)) (fun v _ => ds.length - (intOf v).toNat)
  case atStart => exact ⟨0, Nat.zero_le _, rfl, rfl, Lib.hid (fun j hj => by omega)⟩
  case round =>
    obtain ⟨i, hi, rfl, rfl, HI⟩ := hrel
    by_cases hlt : i < ds.length
    · obtain ⟨b1, o1, rfl, hc1, hc2⟩ := HD.out i hlt
      have hc2' := (HF.out.cell (p := ⟨b1, o1 + i * 2 + 1, none⟩) (World.block_lt_of_cell? _ _ hc2) (by simp)).trans hc2
      clear hc1 hc2
      have HX := Lib.hid (fun (h : (ds.getD i (0, 0)).2 ≠ 1099511627776) => (fun j (hj : j < i + 1) => if e : j = i then e ▸ h else HI.out j (by omega) : ∀ j, j < i + 1 → (ds.getD j (0, 0)).2 ≠ 1099511627776))
      generalize (ds.getD i (0, 0)).2 = x at *
      by_cases hx : x = 1099511627776
      · subst hx
        go_wp2_with fail
        go_ret
        exact ⟨by first | rfl | trivial, HF.out⟩
      · have hx' : (x == 1099511627776) = false := by simpa using hx
        have HX := Lib.hid (HX.out hx)
        clear hx
        go_wp2_with fail
        go_roundw
        case rel => exact ⟨i + 1, by omega, by go_num, by trivial, HX⟩
        case measure => simp [intOf]; omega
    · obtain rfl : i = ds.length := by omega
      have hnm := Lib.hid (HNM.out HI.out)
      clear HI HNM hlt
      go_wp2_with fail
      refine (HB.out.busy).mono ?_
      rintro e w5 ⟨rfl, hw5⟩
      subst hw5
      go_wp2_with fail
      refine (HB.out.waiting).mono ?_
      rintro e w6 ⟨v6, rfl, V, F⟩
      obtain ⟨c0', c1', c2', c3', -⟩ := sixteen (F.keep KB.out (by simp))
      have HF := Lib.hid (HF.out.trans F)
      have HB := Lib.hid (HB.out.fr0 F)
      have HV := Lib.hid V
      obtain ⟨a6, c6, rfl, _⟩ := V.1
      clear V F c0 c1 c2 c3 KB
      have hcase : (hs.length = m ∧ ws.length = q) ∨ (¬ (hs.length = m ∧ ws.length = q) ∧ hs.length < m ∧ ws = []) ∨ (¬ (hs.length = m ∧ ws.length = q) ∧ ¬ (hs.length < m ∧ ws = [])) := by
        by_cases h1 : hs.length = m ∧ ws.length = q
        · exact .inl h1
        · by_cases h2 : hs.length < m ∧ ws = []
          · exact .inr (.inl ⟨h1, h2⟩)
          · exact .inr (.inr ⟨h1, h2⟩)
      rcases hcase with ⟨hm, hq⟩ | ⟨-, hm, hw⟩ | ⟨hnf, hno⟩
      · have e1 : ((hs.length : Int) == (m : Int)) = true := by simp [hm]
        have e2 : ((ws.length : Int) == (q : Int)) = true := by simp [hq]
        have HA := Lib.hid (HB.out.admitM 1099511627776)
        rw [refuse_full hnm.out.1 hnm.out.2 hm hq] at HA
        have HA2 := Lib.hid (refuse_full (m := m) (q := q) hnm.out.1 hnm.out.2 hm hq)
        clear hm hq
        go_wp2_with fail
        refine (HA.out).mono ?_
        rintro e w7 ⟨v7, rfl, V7, B, F⟩
        have HF := Lib.hid (HF.out.ownB F hrg.out)
        have HV := Lib.hid (HV.out.fr F (by simp; omega))
        have HB := Lib.hid B
        obtain ⟨a7, c7, rfl, _⟩ := V7.1
        clear V7 B F
        go_wp2_with fail
        refine (HB.out.admitM 1099511627776).mono ?_
        rw [HA2.out]
        rintro e w8 ⟨v8, rfl, V8, B, F⟩
        have HF := Lib.hid (HF.out.ownB F hrg.out)
        have HV := Lib.hid (HV.out.fr F (by simp; omega))
        have HB := Lib.hid B
        obtain ⟨a8, c8, rfl, _⟩ := V8.1
        clear V8 B F
        simp only [List.length_nil]
        go_wp2_with fail
        refine (HB.out.busy).mono ?_
        rintro e w9 ⟨rfl, hw9⟩
        subst hw9
        go_wp2_with fail
        refine (HB.out.waiting).mono ?_
        rintro e w10 ⟨v10, rfl, V, F⟩
        have HF := Lib.hid (HF.out.trans F)
        have HV := Lib.hid (HV.out.fr F (by simp))
        have HV10 := Lib.hid V
        clear V F
        go_wp2_with fail
        refine (same_spec HV10.out.1 HV.out.1 (by omega)).mono ?_
        rintro e w11 ⟨rfl, q11, rfl⟩
        rw [show same ws ws = true by simp [same]]
        go_wp2_with fail
        go_ret
        exact ⟨rfl, HF.out.drewN q11⟩
      · have e1 : ((hs.length : Int) == (m : Int)) = false := by simp; omega
        have HA := Lib.hid (HB.out.admitM 1099511627776)
        rw [refuse_run hnm.out.1 hm hw] at HA
        have HA2 := Lib.hid (admit_again (m := m) (q := q) (hs := hs ++ [1099511627776]) (ws := ws) (x := 1099511627776) (.inl (by simp)))
        have HIN := Lib.hid (show decide ((1099511627776 : Int) ∈ hs ++ [1099511627776]) = true by simp)
        have hlen : ((hs ++ [(1099511627776 : Int)]).length : Int) = hs.length + 1 := by simp
        have HLN := Lib.hid hlen
        subst hw
        clear hm hlen
        simp only [List.length_nil] at *
        go_wp2_with fail
        refine (HA.out).mono ?_
        rintro e w7 ⟨v7, rfl, V7, B, F⟩
        have HF := Lib.hid (HF.out.ownB F hrg.out)
        have HB := Lib.hid B
        obtain ⟨a7, c7, rfl, _⟩ := V7.1
        clear V7 B F
        go_wp2_with fail
        refine (HB.out.admitM 1099511627776).mono ?_
        rw [HA2.out]
        rintro e w8 ⟨v8, rfl, V8, B, F⟩
        have HF := Lib.hid (HF.out.ownB F hrg.out)
        have HB := Lib.hid B
        obtain ⟨a8, c8, rfl, _⟩ := V8.1
        clear V8 B F
        simp only [List.length_nil]
        go_wp2_with fail
        refine (HB.out.runs 1099511627776).mono ?_
        rintro e w9 ⟨rfl, F⟩
        rw [HIN.out]
        have HF := Lib.hid (HF.out.trans F)
        have HB := Lib.hid (HB.out.fr0 F)
        clear F
        go_wp2_with fail
        refine (HB.out.busy).mono ?_
        rintro e w10 ⟨rfl, hw10⟩
        subst hw10
        rw [HLN.out]
        go_wp2_with fail
        refine (HB.out.waiting).mono ?_
        rintro e w11 ⟨v11, rfl, V, F⟩
        have HF := Lib.hid (HF.out.trans F)
        obtain ⟨a11, c11, rfl, _⟩ := V.1
        clear V F
        simp only [List.length_nil]
        go_wp2_with fail
        go_ret
        exact ⟨rfl, HF.out⟩
      · have HA := Lib.hid (HB.out.admitM 1099511627776)
        obtain ⟨j1, j2, j3, j4⟩ := refuse_wait hnm.out.1 hnm.out.2 hnf hno ⟨hl.1, hl.2.1⟩
        have HE : ((hs.length : Int) == (m : Int)) = false ∨ (((hs.length : Int) == (m : Int)) = true ∧ ((ws.length : Int) == (q : Int)) = false) := by
          by_cases h1 : hs.length = m
          · exact .inr ⟨by simp [h1], by have : ws.length ≠ q := fun h => hnf ⟨h1, h⟩
                                         simp; omega⟩
          · exact .inl (by simp; omega)
        generalize admitM m q hs ws 1099511627776 = RR at *
        obtain ⟨hs2, ws2, code, l2⟩ := RR
        simp only at j1 j2 j3 j4 HA
        subst j1
        have HA2 := Lib.hid (admit_again (m := m) (q := q) (hs := hs2) (ws := ws2) (x := 1099511627776) (.inr j3))
        have HIN := Lib.hid (show decide ((1099511627776 : Int) ∈ ws2) = true by simp [j3])
        have HLN := Lib.hid (show (hs2.length : Int) + ws2.length = hs.length + ws.length + 1 by omega)
        clear j2 j3 j4 hnf hno
        have key : Hid (IsBulk w6 b s r g hs ws m q) := HB
        rcases HE with e1 | ⟨e1, e2⟩
        all_goals
          go_wp2_with fail
          refine (HA.out).mono ?_
          rintro e w7 ⟨v7, rfl, V7, B, F⟩
          have HF := Lib.hid (HF.out.ownB F hrg.out)
          have HB := Lib.hid B
          have hl2 := B.lens
          obtain ⟨a7, c7, rfl, _⟩ := V7.1
          clear V7 B F
          go_wp2_with fail
          refine (HB.out.admitM 1099511627776).mono ?_
          rw [HA2.out]
          rintro e w8 ⟨v8, rfl, V8, B, F⟩
          have HF := Lib.hid (HF.out.ownB F hrg.out)
          have HB := Lib.hid B
          obtain ⟨a8, c8, rfl, _⟩ := V8.1
          clear V8 B F
          simp only [List.length_nil]
          go_wp2_with fail
          refine (HB.out.waiting).mono ?_
          rintro e w9 ⟨v9, rfl, V, F⟩
          have HF := Lib.hid (HF.out.trans F)
          have HB := Lib.hid (HB.out.fr0 F)
          have HV9 := Lib.hid V
          clear V F
          go_wp2_with fail
          refine (has_spec HV9.out.1 (by omega) 1099511627776).mono ?_
          rintro e w10 ⟨rfl, hw10⟩
          subst hw10
          rw [HIN.out]
          go_wp2_with fail
          refine (HB.out.busy).mono ?_
          rintro e w11 ⟨rfl, hw11⟩
          subst hw11
          go_wp2_with fail
          refine (HB.out.waiting).mono ?_
          rintro e w12 ⟨v12, rfl, V, F⟩
          have HF := Lib.hid (HF.out.trans F)
          obtain ⟨a12, c12, rfl, _⟩ := V.1
          clear V F
          have hln := HLN.out
          go_wp2_with fail
          go_ret
          exact ⟨rfl, HF.out⟩
end Go.Proofs.Ythbhkmhmiplikaa
