/-
  The functions of porpoiseref04: what each tells of lists of numbers.
-/
import Derived.Test.YthbhkmhmiplikaaInts
namespace Go.Proofs.Ythbhkmhmiplikaa
open Go.RowKit

/-- The cell of a number of a slice. -/
theorem RdInts.form {w : World} {v : Value} {xs : List Int} (h : RdInts w v xs) : ∃ ao cap, v = .slice ao xs.length cap ∧ xs.length ≤ cap ∧ (ao = none → cap = 0) ∧
    ∀ j, j < xs.length → ∃ b o, ao = some ⟨b, o, none⟩ ∧ w.cell? ⟨b, o + j, none⟩ = some (.int .i64 (el xs j)) := h

theorem RdInts.src {w : World} {v : Value} {xs : List Int} (h : RdInts w v xs) : Src w 1 v xs.length (xs.map (Value.int .i64)) := by
  obtain ⟨ao, cap, rfl, h2, h3, h4⟩ := h
  refine ⟨ao, cap, rfl, by simp, h2, (fun e => by have := h3 e; omega), (fun u hu => ?_), (fun j u hj => ?_)⟩
  · simp only [List.mem_map] at hu; obtain ⟨_, _, rfl⟩ := hu; rfl
  · have hlt : j < xs.length := by have := (List.getElem?_eq_some_iff.1 hj).1; simpa using this
    obtain ⟨b, o, hb, hc⟩ := h4 j hlt
    refine ⟨b, o, hb, ?_⟩
    rw [hc, ← hj]; simp [el, hlt]

theorem RdInts.drewN {w : World} {v : Value} {xs : List Int} (h : RdInts w v xs) (q : Nat) : RdInts (w.drewN q) v xs := h

/-- Same: are two lists the same? -/
def same (xs ys : List Int) : Bool := decide (xs = ys)

theorem el_ext {xs ys : List Int} (h : xs.length = ys.length) (k : ∀ j, j < xs.length → el xs j = el ys j) : xs = ys := by
  apply List.ext_getElem h
  intro i h1 h2
  have := k i h1
  simpa [el, List.getD, h1, h2] using this

set_option maxHeartbeats 1000000 in
theorem same_spec {w : World} {a b : Value} {xs ys : List Int} (ha : RdInts w a xs) (hb : RdInts w b ys) (hx : xs.length ≤ 1000000) :
    Calls Try.prog 18 #[a, b] w fun e w' => e = .returned (.bool (same xs ys)) ∧ ∃ q, w' = w.drewN q := by
  obtain ⟨ao, ca, rfl, ha2, ha3, ha4⟩ := ha
  obtain ⟨bo, cb, rfl, hb2, hb3, hb4⟩ := hb
  by_cases hl : xs.length = ys.length
  · have hl1 : ((xs.length : Int) != (ys.length : Int)) = false := by simp; omega
    have HL := Lib.hid hl
    have HA := Lib.hid ha4
    have HB := Lib.hid hb4
    clear hl ha3 hb3 ha4 hb4
    go_enter Try.func18, Try.ntmps18
    go_wp2
    go_loopw [5] (fun v wr => ∃ i : Nat, i ≤ xs.length ∧ v = .int .i64 i ∧ Hid (∀ j, j < i → el xs j = el ys j) ∧ ∃ q, wr = w.drewN q) (fun v _ => xs.length - (intOf v).toNat)
    case atStart => exact ⟨0, Nat.zero_le _, rfl, Lib.hid (fun j hj => by omega), 0, rfl⟩
    case round =>
      obtain ⟨i, hi, rfl, HE, q, rfl⟩ := hrel
      by_cases hlt : i < xs.length
      · obtain ⟨b1, o1, rfl, hc1⟩ := HA.out i hlt
        obtain ⟨b2, o2, rfl, hc2⟩ := HB.out i (by have := HL.out; omega)
        have hlt2 : (i : Int) < (ys.length : Int) := by have := HL.out; omega
        by_cases he : el xs i = el ys i
        · have hne : (el xs i != el ys i) = false := by simpa using he
          have HH := Lib.hid he
          clear he
          go_wp2_with fail
          go_quiet (fail)
          go_wp2
          go_roundw
          case rel => exact ⟨i + 1, by omega, by go_num, Lib.hid (fun j hj => by by_cases hji : j = i; (subst hji; exact HH.out); exact HE.out j (by omega)), _, rfl⟩
          case measure => simp [intOf]; omega
        · have hne : (el xs i != el ys i) = true := by simpa using he
          go_wp2_with fail
          go_quiet (fail)
          go_wp2
          go_ret
          exact ⟨ret_bool (by unfold same; exact (decide_eq_false (fun e => he (by rw [e]))).symm), _, by rw [World.drewN_drewN]⟩
      · go_wp2
        go_ret
        exact ⟨ret_bool (by unfold same; exact (decide_eq_true (el_ext HL.out (fun j hj => HE.out j (by omega)))).symm), _, rfl⟩
  · have hl1 : ((xs.length : Int) != (ys.length : Int)) = true := by simp; omega
    have HL := Lib.hid hl
    clear hl ha3 hb3 ha4 hb4
    go_enter Try.func18, Try.ntmps18
    go_wp2
    go_ret
    exact ⟨ret_bool (by unfold same; exact (decide_eq_false (fun e => HL.out (by rw [e]))).symm), 0, rfl⟩

set_option maxHeartbeats 1000000 in
theorem has_spec {w : World} {a : Value} {xs : List Int} (ha : RdInts w a xs) (hx : xs.length ≤ 1000000) (x : Int) :
    Calls Try.prog 24 #[a, .int .i64 x] w fun e w' => e = .returned (.bool (decide (x ∈ xs))) ∧ w' = w := by
  obtain ⟨ao, ca, rfl, ha2, ha3, ha4⟩ := ha
  have HA := Lib.hid ha4
  clear ha3 ha4
  go_enter Try.func24, Try.ntmps24
  go_wp2
  go_loop [5] (fun v => ∃ i : Nat, i ≤ xs.length ∧ v = .int .i64 i ∧ Hid (∀ j, j < i → el xs j ≠ x)) (fun v => xs.length - (intOf v).toNat)
  case atStart => exact ⟨0, Nat.zero_le _, rfl, Lib.hid (fun j hj => by omega)⟩
  case round =>
    obtain ⟨i, hi, rfl, HE⟩ := hrel
    by_cases hlt : i < xs.length
    · obtain ⟨b1, o1, rfl, hc1⟩ := HA.out i hlt
      by_cases he : el xs i = x
      · have hne : (el xs i == x) = true := by simpa using he
        have HH := Lib.hid he
        clear he
        go_wp2
        go_ret
        exact ⟨ret_bool (by have e := HH.out; simp [← e, el, hlt, List.getD]), rfl⟩
      · have hne : (el xs i == x) = false := by simpa using he
        go_wp2
        go_round
        case rel => exact ⟨i + 1, by omega, by go_num, Lib.hid (fun j hj => by by_cases hji : j = i; (subst hji; exact he); exact HE.out j (by omega))⟩
        case measure => simp [intOf]; omega
    · go_wp2
      go_ret
      exact ⟨ret_bool (decide_eq_false (rem_none x xs (fun j hj => HE.out j (by omega))).1).symm, rfl⟩

theorem Lst.of_owns' {w : World} {base n : Nat} {v : Value} {xs : List Int} {cs : List Value} (h : w.ownsRow base 3 1 v n cs) (hn : n = xs.length) (hc : cs = xs.map (Value.int .i64)) : Lst w base v xs := by
  subst hn; subst hc; exact Lst.of_owns h

set_option maxHeartbeats 1000000 in
/-- Push. -/
theorem refpush_spec {w : World} {base : Nat} {a : Value} {xs : List Int} (ha : Lst w base a xs) (hb : base ≤ w.heap.size) (hx : xs.length ≤ 1000000) (m : Nat) (x : Int) :
    Calls Try.prog 41 #[a, .int .i64 m, .int .i64 x] w fun e w' => ∃ v, e = .returned (.tuple #[v, .bool (decide (xs.length < m))]) ∧ Lst w' base v (if xs.length < m then xs ++ [x] else xs) ∧ Fr [] w w' := by
  have HS := Lib.hid ha.1.src
  have HA := Lib.hid ha
  obtain ⟨ao, cap, rfl, _, _, _⟩ := ha.1
  obtain ⟨i0, hi, hz0, hz1, hz2⟩ := info_parts Try.info_int
  clear ha
  by_cases hm : xs.length < m
  · rw [decide_eq_true hm, if_pos hm]
    go_enter Try.func41, Try.ntmps41
    go_wp2_with (first
      | (at_builtin; refine wpList_app rfl (.tmp 14) (.tmp 15) 26 rfl w.heap.size 3 i0 (.int .i64 0) 1 8 Try.underlying26 hi hz0 hz1 hz2 rfl (by decide) _ 0 [] rfl (owns_empty w w.heap.size 3 1 (Nat.le_refl _)) _ xs.length _ rfl (HS.out.alloc _) (by unfold maxLen; omega) (by omega) (by simp) ?_; intro v1 w1 hown1 hg1; have F1 := Lib.hid (Fr.of_grown (S := []) ((Fr.refl [] w).alloc (.cells #[] 3)) hg1 (fun k hk => Or.inr ((owns_empty w w.heap.size 3 1 (Nat.le_refl _)).lt k hk).1)); have O1 := Lib.hid hown1; clear hown1 hg1; have hs1 := F1.out.size)
      | (at_builtin; refine wpList_app rfl (.tmp 17) (.tmp 19) 26 rfl w.heap.size 3 i0 (.int .i64 0) 1 8 Try.underlying26 hi hz0 hz1 hz2 rfl (by decide) _ _ _ rfl (O1.out.alloc _) _ 1 _ rfl (Src.one _ _ _ rfl) (by unfold maxLen; omega) (by omega) (by simp; omega) ?_; intro v2 w2 hown2 hg2; have F2 := Lib.hid (Fr.of_grown (S := []) (F1.out.alloc (.cells #[.int .i64 x] 3)) hg2 (fun k hk => Or.inr (O1.out.lt k hk).1)); have O2 := Lib.hid hown2; clear hown2 hg2))
    go_ret2
    exact ⟨_, rfl, (Lst.of_owns' O2.out (by simp) (by simp)).mono hb, F2.out⟩
  · rw [decide_eq_false hm, if_neg hm]
    go_enter Try.func41, Try.ntmps41
    go_wp2
    go_ret2
    exact ⟨_, rfl, HA.out, Fr.refl _ _⟩

theorem refpop_none {w : World} {base : Nat} {a : Value} (ha : Lst w base a []) :
    Calls Try.prog 42 #[a] w fun e w' => e = .returned (.tuple #[a, .int .i64 0, .bool false]) ∧ w' = w := by
  obtain ⟨ao, cap, rfl, _, _, _⟩ := ha.1
  clear ha
  simp only [List.length_nil]
  go_enter Try.func42, Try.ntmps42
  go_wp2
  go_ret3
  exact ⟨rfl, rfl⟩

theorem Lst.slice1 {w : World} {base n cap : Nat} {ad : Addr} {x : Int} {xs : List Int} (ha : Lst w base (.slice (some ad) n cap) (x :: xs)) :
    n = xs.length + 1 ∧ n ≤ cap ∧ ad.spot = none ∧ w.cell? ad = some (.int .i64 x) ∧ Src w 1 (.slice (some (if cap = 1 then ad else ad.add 1)) (n - 1) (cap - 1)) xs.length (xs.map (Value.int .i64)) := by
  obtain ⟨ao, cap', e, h2, h3, h4⟩ := ha.1
  simp only [Value.slice.injEq] at e
  obtain ⟨rfl, rfl, rfl⟩ := e
  obtain ⟨b, o, hb, hc⟩ := h4 0 (by simp)
  simp only [Option.some.injEq] at hb
  subst hb
  refine ⟨by simp, h2, rfl, by simpa [el] using hc, _, _, rfl, by simp, ?_, fun e => by simp at e, fun u hu => ?_, fun j u hj => ?_⟩
  · simp at h2 ⊢; omega
  · simp only [List.mem_map] at hu; obtain ⟨_, _, rfl⟩ := hu; rfl
  · have hlt : j < xs.length := by have := (List.getElem?_eq_some_iff.1 hj).1; simpa using this
    obtain ⟨b', o', hb', hc'⟩ := h4 (j + 1) (by simpa using hlt)
    simp only [Option.some.injEq, Addr.mk.injEq, and_true] at hb'
    obtain ⟨rfl, rfl⟩ := hb'
    simp only [List.length_cons] at h2
    rw [if_neg (by omega)]
    refine ⟨b, o + 1, by rw [Addr.add_lit], ?_⟩
    rw [Nat.add_assoc, Nat.add_comm 1 j, hc', ← hj]
    simp [el, hlt]

set_option maxHeartbeats 1000000 in
theorem refpop_some {w : World} {base : Nat} {a : Value} {x : Int} {xs : List Int} (ha : Lst w base a (x :: xs)) (hb : base ≤ w.heap.size) (hx : xs.length ≤ 1000000) :
    Calls Try.prog 42 #[a] w fun e w' => ∃ v, e = .returned (.tuple #[v, .int .i64 x, .bool true]) ∧ Lst w' base v xs ∧ Fr [] w w' := by
  obtain ⟨i0, hi, hz0, hz1, hz2⟩ := info_parts Try.info_int
  obtain ⟨ao, cap, rfl, _, _, h4⟩ := ha.1
  obtain ⟨b, o, rfl, _⟩ := h4 0 (by simp)
  obtain ⟨_, k2, _, k4, k5⟩ := ha.slice1
  have h1 : (1 : Int) ≤ (xs.length : Int) + 1 := by omega
  have h0 : (0 : Int) < (xs.length : Int) + 1 := by omega
  simp only [List.length_cons] at k2
  simp only [List.length_cons]
  have hbw : b < w.heap.size := World.block_lt_of_cell? _ _ k4
  have k4a : (w.alloc (.cells #[] 3)).cell? ⟨b, o, none⟩ = some (.int .i64 x) := by rw [World.cell?_alloc_lt _ _ _ hbw]; exact k4
  clear h4 ha
  by_cases hc1 : cap = 1
  · subst hc1
    obtain rfl : xs = [] := List.eq_nil_of_length_eq_zero (by omega)
    simp only [List.length_nil] at *
    have K5 := Lib.hid k5
    clear k5
    go_enter Try.func42, Try.ntmps42
    go_wp2
    go_region_law (refine step_app rfl (.tmp 9) (.tmp 11) 26 rfl w.heap.size 3 i0 (.int .i64 0) 1 8 Try.underlying26 hi hz0 hz1 hz2 rfl (by decide) _ 0 [] rfl (World.ownsRow.drew (owns_empty w w.heap.size 3 1 (Nat.le_refl _))) _ 0 _ rfl (K5.out.alloc _).drew (by unfold maxLen; omega) (by omega) (by simp) ?_; intro v1 w1 hown1 hg1; have F1 := Lib.hid (Fr.of_grown (S := []) ((Fr.refl [] w).alloc (.cells #[] 3)).drew hg1 (fun k hk => Or.inr ((owns_empty w w.heap.size 3 1 (Nat.le_refl _)).lt k hk).1)); have O1 := Lib.hid hown1; clear hown1 hg1; have k4' := (F1.out.cell (p := ⟨b, o, none⟩) hbw (by simp)).trans k4)
    all_goals go_wp2
    all_goals go_ret3
    all_goals exact ⟨_, rfl, (Lst.of_owns' O1.out (by simp) (by simp)).mono hb, by first | exact F1.out | exact F1.out.drew⟩
  · rw [if_neg hc1] at k5
    have K5 := Lib.hid k5
    clear k5
    go_enter Try.func42, Try.ntmps42
    go_wp2
    go_region_law (refine step_app rfl (.tmp 9) (.tmp 11) 26 rfl w.heap.size 3 i0 (.int .i64 0) 1 8 Try.underlying26 hi hz0 hz1 hz2 rfl (by decide) _ 0 [] rfl (World.ownsRow.drew (owns_empty w w.heap.size 3 1 (Nat.le_refl _))) _ xs.length _ rfl (K5.out.alloc _).drew (by unfold maxLen; omega) (by omega) (by simp) ?_; intro v1 w1 hown1 hg1; have F1 := Lib.hid (Fr.of_grown (S := []) ((Fr.refl [] w).alloc (.cells #[] 3)).drew hg1 (fun k hk => Or.inr ((owns_empty w w.heap.size 3 1 (Nat.le_refl _)).lt k hk).1)); have O1 := Lib.hid hown1; clear hown1 hg1; have k4' := (F1.out.cell (p := ⟨b, o, none⟩) hbw (by simp)).trans k4)
    all_goals go_wp2
    all_goals go_ret3
    all_goals exact ⟨_, rfl, (Lst.of_owns' O1.out (by simp) (by simp)).mono hb, by first | exact F1.out | exact F1.out.drew⟩

theorem rem_of_not {x : Int} : ∀ {ys : List Int}, x ∉ ys → rem x ys = ys
  | [], _ => rfl
  | y :: ys, h => by
    simp only [List.mem_cons, not_or] at h
    rw [rem, if_neg (fun e => h.1 e.symm), rem_of_not h.2]
theorem rem_snoc_in {x y : Int} : ∀ {ys : List Int}, x ∈ ys → rem x (ys ++ [y]) = rem x ys ++ [y]
  | [], h => by simp at h
  | z :: ys, h => by
    by_cases hz : z = x
    · simp [rem, hz]
    · have : x ∈ ys := by
        rcases List.mem_cons.1 h with h | h
        · exact absurd h.symm hz
        · exact h
      simp [rem, hz, rem_snoc_in this]
theorem rem_snoc_hit {x : Int} {ys : List Int} (h : x ∉ ys) : rem x (ys ++ [x]) = ys := by
  induction ys with
  | nil => simp [rem]
  | cons z ys ih =>
    simp only [List.mem_cons, not_or] at h
    have hz : z ≠ x := fun e => h.1 e.symm
    simp [rem, hz, ih h.2]
theorem rem_snoc_miss {x y : Int} {ys : List Int} (h : x ∉ ys) (hy : y ≠ x) : rem x (ys ++ [y]) = ys ++ [y] :=
  rem_of_not (by simp [h]; exact fun e => hy e.symm)
theorem rem_len (x : Int) : ∀ ys : List Int, (rem x ys).length ≤ ys.length
  | [] => Nat.le_refl _
  | y :: ys => by by_cases h : y = x <;> simp [rem, h]; exact rem_len x ys

theorem take_succ_el (xs : List Int) (k : Nat) (hk : k < xs.length) : xs.take (k + 1) = xs.take k ++ [el xs k] := (take_snoc_el xs k hk).symm

set_option maxHeartbeats 2000000 in
theorem refremove_rd {w : World} {a : Value} {xs : List Int} (ha : RdInts w a xs) (hx : xs.length ≤ 1000000) (x : Int) :
    Calls Try.prog 40 #[a, .int .i64 x] w fun e w' => ∃ v, e = .returned (.tuple #[v, .bool (decide (x ∈ xs))]) ∧ Lst w' w.heap.size v (rem x xs) ∧ Fr [] w w' := by
  obtain ⟨i0, hi, hz0, hz1, hz2⟩ := info_parts Try.info_int
  obtain ⟨ao, cap, rfl, _, _, h4⟩ := ha
  have HA := Lib.hid h4
  clear h4
  go_enter Try.func40, Try.ntmps40
  go_wp2
  go_loopw [6, 7, 8] (fun s d v wr => ∃ i : Nat, i ≤ xs.length ∧ v = .int .i64 i ∧ ∃ d' : Bool, d = .bool d' ∧ Hid (d' = decide (x ∈ xs.take i)) ∧ Hid (wr.ownsRow w.heap.size 3 1 s (rem x (xs.take i)).length ((rem x (xs.take i)).map (Value.int .i64))) ∧ Hid (Fr [] w wr)) (fun _ _ v _ => xs.length - (intOf v).toNat)
  case atStart => exact ⟨0, Nat.zero_le _, rfl, false, rfl, Lib.hid (by simp), Lib.hid (by simpa [rem] using World.ownsRow_nil _ _ _ _), Lib.hid (Fr.refl _ _)⟩
  case round =>
    obtain ⟨i, hi', rfl, d', rfl, HD, HO, HF⟩ := hrel
    by_cases hlt : i < xs.length
    · obtain ⟨b1, o1, rfl, hc0⟩ := HA.out i hlt
      have hc1 := (HF.out.cell (p := ⟨b1, o1 + i, none⟩) (World.block_lt_of_cell? _ _ hc0) (by simp)).trans hc0
      have hsz := HF.out.size
      have hrl := rem_len x (xs.take i)
      have hrl2 : (xs.take i).length ≤ i := List.length_take_le _ _
      clear hc0
      by_cases hd : d' = true
      · subst hd
        have hin : x ∈ xs.take i := by have := HD.out; simpa using this.symm
        have HE := Lib.hid (rem_snoc_in (y := el xs i) hin)
        have HI := Lib.hid hin
        clear hin
        generalize hR : rem x (xs.take i) = R at *
        have HR := Lib.hid hR
        clear hR
        go_wp2_with (first
          | (at_builtin; refine wpList_app rfl (.tmp 25) (.tmp 30) 26 rfl w.heap.size 3 i0 (.int .i64 0) 1 8 Try.underlying26 hi hz0 hz1 hz2 rfl (by decide) _ _ _ rfl (HO.out.alloc _) _ 1 _ rfl (Src.one _ _ _ rfl) (by unfold maxLen; omega) (by omega) (by simp; omega) ?_; intro v2 w2 hown2 hg2; have F2 := Lib.hid (Fr.of_grown (S := []) (HF.out.alloc (.cells #[.int .i64 (el xs i)] 3)) hg2 (fun k hk => Or.inr (HO.out.lt k hk).1)); have O2 := Lib.hid hown2; clear hown2 hg2))
        go_roundw
        case rel => exact ⟨i + 1, by omega, by go_num, true, rfl, Lib.hid (by rw [take_succ_el xs i hlt]; simp [HI.out]), Lib.hid (by rw [take_succ_el xs i hlt, HE.out]; simpa using O2.out), F2⟩
        case measure => simp [intOf]; omega
      · have hd2 : d' = false := by simpa using hd
        subst hd2
        have hin : x ∉ xs.take i := by have := HD.out; simpa using this.symm
        by_cases he : el xs i = x
        · have hne : (el xs i == x) = true := by simpa using he
          have HE := Lib.hid (rem_snoc_hit hin)
          have HI := Lib.hid hin
          have HX := Lib.hid he
          clear hin he hd
          generalize hR : rem x (xs.take i) = R at *
          have HR := Lib.hid hR
          clear hR
          go_wp2
          go_roundw
          case rel => exact ⟨i + 1, by omega, by go_num, true, rfl, Lib.hid (by rw [take_succ_el xs i hlt, HX.out]; simp), Lib.hid (by rw [take_succ_el xs i hlt, HX.out, HE.out, ← rem_of_not HI.out, HR.out]; exact HO.out), HF⟩
          case measure => simp [intOf]; omega
        · have hne : (el xs i == x) = false := by simpa using he
          have HE := Lib.hid (rem_snoc_miss hin he)
          have HI := Lib.hid hin
          have HX := Lib.hid he
          clear hin he hd
          generalize hR : rem x (xs.take i) = R at *
          have HR := Lib.hid hR
          clear hR
          go_wp2_with (first
            | (at_builtin; refine wpList_app rfl (.tmp 25) (.tmp 30) 26 rfl w.heap.size 3 i0 (.int .i64 0) 1 8 Try.underlying26 hi hz0 hz1 hz2 rfl (by decide) _ _ _ rfl (HO.out.alloc _) _ 1 _ rfl (Src.one _ _ _ rfl) (by unfold maxLen; omega) (by omega) (by simp; omega) ?_; intro v2 w2 hown2 hg2; have F2 := Lib.hid (Fr.of_grown (S := []) (HF.out.alloc (.cells #[.int .i64 (el xs i)] 3)) hg2 (fun k hk => Or.inr (HO.out.lt k hk).1)); have O2 := Lib.hid hown2; clear hown2 hg2))
          go_roundw
          case rel => exact ⟨i + 1, by omega, by go_num, false, rfl, Lib.hid (by rw [take_succ_el xs i hlt]; simp [HI.out]; exact fun e => HX.out e.symm), Lib.hid (by rw [take_succ_el xs i hlt, HE.out, ← rem_of_not HI.out, HR.out]; simpa using O2.out), F2⟩
          case measure => simp [intOf]; omega
    · go_wp2
      go_ret2
      have : i = xs.length := by omega
      subst this
      rw [List.take_length] at HO HD
      exact ⟨_, by rw [HD.out]; rfl, Lst.of_owns HO.out, HF.out⟩
theorem refremove_spec {w : World} {base : Nat} {a : Value} {xs : List Int} (ha : Lst w base a xs) (hb : base ≤ w.heap.size) (hx : xs.length ≤ 1000000) (x : Int) :
    Calls Try.prog 40 #[a, .int .i64 x] w fun e w' => ∃ v, e = .returned (.tuple #[v, .bool (decide (x ∈ xs))]) ∧ Lst w' base v (rem x xs) ∧ Fr [] w w' :=
  (refremove_rd ha.1 hx x).mono fun _ _ ⟨v, h1, h2, h3⟩ => ⟨v, h1, h2.mono hb, h3⟩
end Go.Proofs.Ythbhkmhmiplikaa
