/-
  The clock of package timers: New, Now, Goal, Len, Go.
-/
import Derived.Test.YtibnhfnidgfenaaWLaw8
import Derived.Test.YtibnhfnidgfenaaSat
namespace Go.Proofs.Ytibnhfnidgfenaa
open Go.RowKit

variable {w : World} {c : Nat} {fp : List Nat} {now seq : Nat} {L : List Ent} {goal : Nat}

/-- Block c is a clock. -/
def IsClock (w : World) (c : Nat) (fp : List Nat) (now seq : Nat) (L : List Ent) (goal : Nat) : Prop :=
  ∃ b fw, w.heap[c]? = some (.cells #[.pointer (some ⟨b, 0, none⟩), .int .u64 goal] 96 (0, 0)) ∧ IsWheel w b fw now seq L ∧ c ∉ fw ∧ (∀ x ∈ fw, x ∈ fp) ∧ c ∈ fp ∧ (∀ x ∈ fp, x < w.heap.size) ∧ goal < 18446744073709551616
theorem IsClock.fr (h : IsClock w c fp now seq L goal) {w' : World} {S : List Nat} (k : Fr S w w') (hS : ∀ x ∈ S, x ∉ fp) : IsClock w' c fp now seq L goal := by
  obtain ⟨b, fw, h1, h2, h3, h4, h5, h6, h7⟩ := h
  exact ⟨b, fw, k.keep h1 (fun hm => hS c hm h5), h2.fr k (fun x hx hm => hS x hx (h4 x hm)), h3, h4, h5, fun x hx => Nat.lt_of_lt_of_le (h6 x hx) k.size, h7⟩
theorem IsClock.fr0 (h : IsClock w c fp now seq L goal) {w' : World} (k : Fr [] w w') : IsClock w' c fp now seq L goal := h.fr k (by simp)
theorem IsClock.lt (h : IsClock w c fp now seq L goal) : ∀ x ∈ fp, x < w.heap.size := by
  obtain ⟨b, fw, h1, h2, h3, h4, h5, h6, h7⟩ := h
  exact h6
theorem IsClock.few (h : IsClock w c fp now seq L goal) : L.length ≤ seq ∧ (L.map Ent.key).Nodup ∧ now < 18446744073709551616 ∧ (∀ e ∈ L, now ≤ e.due ∧ e.due < 18446744073709551616) ∧ goal < 18446744073709551616 := by
  obtain ⟨b, fw, h1, h2, h3, h4, h5, h6, h7⟩ := h
  obtain ⟨k1, k2, k3, k4⟩ := h2.few
  exact ⟨k1, k2, k3, k4, h7⟩
/-- What becomes of a clock. -/
def ClockTo (w : World) (c : Nat) (fp : List Nat) (now seq : Nat) (L : List Ent) (goal : Nat) (w' : World) : Prop :=
  ∃ fp', IsClock w' c fp' now seq L goal ∧ Sub fp' fp w ∧ Fr fp w w'
theorem clock_turn {b : Nat} {fw fw' : List Nat} {w' : World} {now' seq' : Nat} {L' : List Ent} (h1 : w.heap[c]? = some (.cells #[.pointer (some ⟨b, 0, none⟩), .int .u64 goal] 96 (0, 0))) (h3 : c ∉ fw) (h4 : ∀ x ∈ fw, x ∈ fp) (h5 : c ∈ fp) (h7 : goal < 18446744073709551616)
    (k : IsWheel w' b fw' now' seq' L') (U : Sub fw' fw w) (F : Fr fw w w') : ClockTo w c fp now' seq' L' goal w' := by
  have hc := lt_of_block h1
  refine ⟨c :: fw', ⟨b, fw', F.keep h1 h3, k, fun hm => ?_, fun x hx => List.mem_cons_of_mem _ hx, List.mem_cons_self .., fun x hx => ?_, h7⟩, fun x hx => ?_, F.mono (fun x hx => .inl (h4 x hx))⟩
  · rcases U c hm with h | h
    · exact h3 h
    · omega
  · rcases List.mem_cons.1 hx with rfl | hx
    · exact Nat.lt_of_lt_of_le hc F.size
    · exact k.lt x hx
  · rcases List.mem_cons.1 hx with rfl | hx
    · exact .inl h5
    · exact (U x hx).imp (h4 x) id
theorem ClockTo.trans {w1 w2 : World} {fp' : List Nat} {now' seq' : Nat} {L' : List Ent} {goal' : Nat} (U : Sub fp' fp w) (F : Fr fp w w1) (k : ClockTo w1 c fp' now' seq' L' goal' w2) : ClockTo w c fp now' seq' L' goal' w2 := by
  obtain ⟨f2, k1, k2, k3⟩ := k
  exact ⟨f2, k1, U.trans k2 F.size, F.sub k3 U⟩
theorem ClockTo.fr0 {w1 w2 : World} {now' seq' : Nat} {L' : List Ent} {goal' : Nat} (k : ClockTo w c fp now' seq' L' goal' w1) (F : Fr [] w1 w2) : ClockTo w c fp now' seq' L' goal' w2 := by
  obtain ⟨f2, k1, k2, k3⟩ := k
  exact ⟨f2, k1.fr0 F, k2, k3.trans (F.mono (by simp))⟩
theorem ClockTo.from0 {w0 : World} {now' seq' : Nat} {L' : List Ent} {goal' : Nat} {w' : World} (F : Fr [] w0 w) (k : ClockTo w c fp now' seq' L' goal' w') : ClockTo w0 c fp now' seq' L' goal' w' := by
  obtain ⟨f2, k1, k2, k3⟩ := k
  exact ⟨f2, k1, k2.down F.size, (F.mono (by simp)).trans k3⟩

set_option maxHeartbeats 1000000 in
theorem clock_new (w : World) : Calls Try.prog 30 #[] w fun r w' => ∃ c fp, r = .returned (.pointer (some ⟨c, 0, none⟩)) ∧ IsClock w' c fp 0 0 [] 0 ∧ (∀ x ∈ fp, w.heap.size ≤ x) ∧ Fr [] w w' := by
  go_enter Try.func30, Try.ntmps30
  go_wp2_with fail
  refine (wheel_new w 0 (by omega)).mono ?_
  rintro r w1 ⟨b, fw, rfl, hW, hge, F⟩
  have HW := Lib.hid hW
  have HG := Lib.hid hge
  have HF := Lib.hid F
  clear hW hge F
  go_wp2_with fail
  go_ret
  have F2 := (Fr.refl [] w1).alloc (.cells #[.pointer (some ⟨b, 0, none⟩), .int .u64 0] 96)
  refine ⟨_, w1.heap.size :: fw, rfl, ⟨b, fw, block_alloc_new _ _, HW.out.fr0 F2, fun h => by have := HW.out.lt _ h; omega, fun x hx => List.mem_cons_of_mem _ hx, List.mem_cons_self .., fun x hx => ?_, by omega⟩, fun x hx => ?_, HF.out.trans F2⟩
  · rcases List.mem_cons.1 hx with rfl | hx
    · simp
    · have := HW.out.lt x hx; simp; omega
  · rcases List.mem_cons.1 hx with rfl | hx
    · exact HF.out.size
    · exact HG.out x hx

theorem tnow_nil (w : World) : Calls Try.prog 32 #[.pointer none] w fun e w' => e = .returned (.int .u64 0) ∧ w' = w := by
  go_enter Try.func32, Try.ntmps32
  go_wp2_with fail
  go_ret
  exact ⟨rfl, rfl⟩
theorem tgoal_nil (w : World) : Calls Try.prog 33 #[.pointer none] w fun e w' => e = .returned (.int .u64 0) ∧ w' = w := by
  go_enter Try.func33, Try.ntmps33
  go_wp2_with fail
  go_ret
  exact ⟨rfl, rfl⟩
theorem tlen_nil (w : World) : Calls Try.prog 34 #[.pointer none] w fun e w' => e = .returned (.int .i64 0) ∧ w' = w := by
  go_enter Try.func34, Try.ntmps34
  go_wp2_with fail
  go_ret
  exact ⟨rfl, rfl⟩
theorem tset_nil (w : World) (k1 k2 : Int) (due : Nat) : Calls Try.prog 38 #[.pointer none, .agg #[.int .i64 k1, .int .i64 k2], .int .u64 due] w fun e w' => e = .returned (.tuple #[]) ∧ Fr [] w w' := by
  go_enter Try.func38, Try.ntmps38
  go_wp2_with fail
  go_end0
  exact ⟨rfl, (Fr.refl _ _).alloc _⟩
theorem tgo_nil (w : World) (n : Nat) : Calls Try.prog 36 #[.pointer none, .int .u64 n] w fun e w' => e = .returned (.tuple #[]) ∧ w' = w := by
  go_enter Try.func36, Try.ntmps36
  go_wp2_with fail
  go_end0
  exact ⟨rfl, rfl⟩
theorem tstop_nil (w : World) (k1 k2 : Int) : Calls Try.prog 40 #[.pointer none, .agg #[.int .i64 k1, .int .i64 k2]] w fun e w' => e = .returned (.bool false) ∧ Fr [] w w' := by
  go_enter Try.func40, Try.ntmps40
  go_wp2_with fail
  go_quiet (fail)
  go_wp2_with fail
  go_ret
  exact ⟨rfl, ((Fr.refl _ _).alloc _).drewN _⟩
theorem tnext_nil (w : World) : Calls Try.prog 37 #[.pointer none] w fun e w' => e = .returned (.tuple #[.agg #[.int .i64 0, .int .i64 0], .bool false]) ∧ Fr [] w w' := by
  go_enter Try.func37, Try.ntmps37
  go_wp2_with fail
  exact bodyPost_ret (v := .tuple #[.agg #[.int .i64 0, .int .i64 0], .bool false]) (by simp [results, Try.results37, go_sem]) rfl ⟨rfl, by repeat (first | exact Fr.refl _ _ | apply Fr.alloc)⟩

theorem IsClock.nowOf (h : IsClock w c fp now seq L goal) : Calls Try.prog 32 #[.pointer (some ⟨c, 0, none⟩)] w fun e w' => e = .returned (.int .u64 now) ∧ w' = w := by
  obtain ⟨b, fw, h1, h2, -⟩ := h
  obtain ⟨c0, c1⟩ := two_cells' h1
  have HN := Lib.hid h2.nowOf
  clear h1 h2
  go_enter Try.func32, Try.ntmps32
  go_wp2_with fail
  refine HN.out.mono ?_
  rintro r w1 ⟨rfl, rfl⟩
  go_wp2_with fail
  go_ret
  exact ⟨rfl, rfl⟩
theorem IsClock.lenOf (h : IsClock w c fp now seq L goal) : Calls Try.prog 34 #[.pointer (some ⟨c, 0, none⟩)] w fun e w' => e = .returned (.int .i64 L.length) ∧ w' = w := by
  obtain ⟨b, fw, h1, h2, -⟩ := h
  obtain ⟨c0, c1⟩ := two_cells' h1
  have HN := Lib.hid h2.lenOf
  clear h1 h2
  go_enter Try.func34, Try.ntmps34
  go_wp2_with fail
  refine HN.out.mono ?_
  rintro r w1 ⟨rfl, rfl⟩
  go_wp2_with fail
  go_ret
  exact ⟨rfl, rfl⟩
theorem IsClock.goalOf (h : IsClock w c fp now seq L goal) : Calls Try.prog 33 #[.pointer (some ⟨c, 0, none⟩)] w fun e w' => e = .returned (.int .u64 goal) ∧ w' = w := by
  obtain ⟨b, fw, h1, h2, -⟩ := h
  obtain ⟨c0, c1⟩ := two_cells' h1
  clear h1 h2
  go_enter Try.func33, Try.ntmps33
  go_wp2_with fail
  go_ret
  exact ⟨rfl, rfl⟩
set_option maxHeartbeats 1000000 in
theorem IsClock.go (h : IsClock w c fp now seq L goal) (n : Nat) : Calls Try.prog 36 #[.pointer (some ⟨c, 0, none⟩), .int .u64 n] w fun e w' => e = .returned (.tuple #[]) ∧ ClockTo w c fp now seq L (sadd goal n) w' := by
  obtain ⟨b, fw, h1, h2, h3, h4, h5, h6, h7⟩ := h
  obtain ⟨c0, c1⟩ := two_cells' h1
  have hfz := free_of_block h1
  have HA := Lib.hid (fun w => satadd_spec w goal n h7)
  have HK := Lib.hid (And.intro h1 (And.intro h2 (And.intro h3 (And.intro h4 (And.intro h5 h6)))))
  clear h1 h2 h3 h4 h5 h6 h7
  go_enter Try.func36, Try.ntmps36
  go_wp2_with fail
  refine (HA.out _).mono ?_
  rintro r w1 ⟨rfl, hw1⟩
  subst hw1
  have hs := sadd_lt goal n
  go_wp2_with fail
  go_end0
  obtain ⟨h1, h2, h3, h4, h5, h6⟩ := HK.out
  have F1 : Fr [c] w1 (w1.setCell ⟨c, 1, none⟩ (.int .u64 (sadd goal n : Nat))) := (Fr.refl _ _).setCell (.inl (by simp)) _
  refine ⟨rfl, fp, ⟨b, fw, ?_, h2.fr F1 (fun x hx => by simp at hx; subst hx; exact h3), h3, h4, h5, fun x hx => Nat.lt_of_lt_of_le (h6 x hx) F1.size, hs⟩, Sub.refl _ _, F1.mono (fun x hx => .inl (by simp at hx; subst hx; exact h5))⟩
  rw [block_setCell h1 1 _]
  rfl
/-! Set, Stop, Next. -/
theorem insE_key_ne {k : Int × Int} (L : List Ent) : entOf (withoutE k L) k = none := by
  unfold entOf withoutE
  rw [List.find?_filter, List.find?_eq_none]
  intro x _
  simp
theorem withoutE_none {k : Int × Int} {L : List Ent} (h : entOf L k = none) : withoutE k L = L := by
  unfold withoutE
  rw [List.filter_eq_self]
  unfold entOf at h
  rw [List.find?_eq_none] at h
  intro x hx
  simpa using h x hx
theorem IsWheel.cancelAny {b : Nat} {fw : List Nat} (h : IsWheel w b fw now seq L) (hs : seq ≤ 50000) (k1 k2 : Int) :
    Calls Try.prog 20 #[.pointer (some ⟨b, 0, none⟩), .agg #[.int .i64 k1, .int .i64 k2]] w fun r w' => r = .returned (.bool (entOf L (k1, k2)).isSome) ∧ IsWheel w' b fw now seq (withoutE (k1, k2) L) ∧ Fr fw w w' := by
  cases he : entOf L (k1, k2) with
  | none =>
    refine (h.cancel_no he).mono ?_
    rintro r w' ⟨rfl, F⟩
    exact ⟨rfl, by rw [withoutE_none he]; exact h.fr0 F, F.mono (by simp)⟩
  | some e =>
    refine (h.cancel_yes he hs).mono ?_
    rintro r w' ⟨rfl, h1, F, -⟩
    exact ⟨rfl, h1, F⟩
set_option maxHeartbeats 2000000 in
theorem IsClock.set (h : IsClock w c fp now seq L goal) (hs : seq < 50000) (k1 k2 : Int) (due : Nat) (hd : due < 18446744073709551616) :
    Calls Try.prog 38 #[.pointer (some ⟨c, 0, none⟩), .agg #[.int .i64 k1, .int .i64 k2], .int .u64 due] w fun r w' => r = .returned (.tuple #[]) ∧ ∃ e : Ent, e.key = (k1, k2) ∧ e.due = max due now ∧ ClockTo w c fp now (seq + 1) (insE e (withoutE (k1, k2) L)) goal w' := by
  obtain ⟨b, fw, h1, h2, h3, h4, h5, h6, h7⟩ := h
  have F0 : Fr [] w (w.alloc (.cells #[.int .i64 k1, .int .i64 k2] 31)) := (Fr.refl _ _).alloc _
  have HT := Lib.hid (block_alloc_new w (.cells #[.int .i64 k1, .int .i64 k2] 31))
  have HB := Lib.hid (F0.keep h1 (by simp))
  have HCa := Lib.hid (fun (wx : World) (F : Fr [] w wx) => (h2.fr0 F).cancelAny (by omega) k1 k2)
  have HF0 := Lib.hid F0
  have hT : w.heap.size ∉ fw := fun hm => by have := h2.lt _ hm; omega
  have HEnd := Lib.hid (fun (w2 : World) (fw' : List Nat) (L' : List Ent) (k : IsWheel w2 b fw' now (seq + 1) L') (U : Sub fw' fw w) (F : Fr fw w w2) => clock_turn h1 h3 h4 h5 h7 k U F)
  obtain ⟨c0, c1⟩ := two_cells' HB.out
  clear F0 h1 h2 h4 h5 h6 h7
  go_enter Try.func38, Try.ntmps38
  go_wp2_with fail
  go_region_with ((go_at_call 20; refine (HCa.out _ HF0.out.drew).mono ?_; rintro r w1 ⟨rfl, k1', F⟩; have HP := Lib.hid (fun (wx : World) (F : Fr [] w1 wx) => (k1'.fr0 F).put_new (k1 := k1) (k2 := k2) (insE_key_ne L) hd hs); have HF1 := Lib.hid ((HF0.out.drew.mono (S' := fw) (by simp)).trans F); have HBT := Lib.hid (And.intro (F.keep (w := (w.alloc (.cells #[.int .i64 k1, .int .i64 k2] 31)).drew) HB.out h3) (F.keep (w := (w.alloc (.cells #[.int .i64 k1, .int .i64 k2] 31)).drew) HT.out hT)); clear k1' F))
  all_goals (
    obtain ⟨c0, c1⟩ := two_cells' HBT.out.1
    obtain ⟨t0, t1⟩ := two_cells' HBT.out.2
    go_wp2_with fail
    go_region_with ((go_at_call 18; refine (HP.out _ (Fr.refl _ _).drew).mono ?_; rintro r w2 ⟨rfl, e, fw', q1, q2, q3, q4, q5, q6⟩; have HR := Lib.hid (HEnd.out w2 fw' _ q4 (q5.down HF1.out.size) (HF1.out.trans (((Fr.refl [] w1).drew.mono (by simp)).trans q6))); clear q3 q4 q5 q6))
    all_goals (
      go_wp2_with fail
      go_end0
      exact ⟨rfl, e, q1, q2, HR.out⟩))
set_option maxHeartbeats 2000000 in
theorem IsClock.stop (h : IsClock w c fp now seq L goal) (hs : seq ≤ 50000) (k1 k2 : Int) :
    Calls Try.prog 40 #[.pointer (some ⟨c, 0, none⟩), .agg #[.int .i64 k1, .int .i64 k2]] w fun r w' => r = .returned (.bool (entOf L (k1, k2)).isSome) ∧ ClockTo w c fp now seq (withoutE (k1, k2) L) goal w' := by
  obtain ⟨b, fw, h1, h2, h3, h4, h5, h6, h7⟩ := h
  have F0 : Fr [] w (w.alloc (.cells #[.int .i64 k1, .int .i64 k2] 31)) := (Fr.refl _ _).alloc _
  have HT := Lib.hid (block_alloc_new w (.cells #[.int .i64 k1, .int .i64 k2] 31))
  have HCa := Lib.hid (fun (wx : World) (F : Fr [] w wx) => (h2.fr0 F).cancelAny hs k1 k2)
  have HF0 := Lib.hid F0
  have HEnd := Lib.hid (fun (w2 : World) (L' : List Ent) (k : IsWheel w2 b fw now seq L') (F : Fr fw w w2) => clock_turn h1 h3 h4 h5 h7 k (Sub.refl _ _) F)
  obtain ⟨c0, c1⟩ := two_cells' (F0.keep h1 (by simp))
  clear F0 h1 h2 h3 h4 h5 h6 h7
  generalize (entOf L (k1, k2)).isSome = I at *
  go_enter Try.func40, Try.ntmps40
  go_wp2_with fail
  go_region_with ((go_at_call 20; refine (HCa.out _ HF0.out.drew).mono ?_; rintro r w1 ⟨rfl, k1', F⟩; have HR := Lib.hid (HEnd.out w1 _ k1' ((HF0.out.drew.mono (S' := fw) (by simp)).trans F)); clear k1' F))
  all_goals (
    go_wp2_with fail
    go_ret
    exact ⟨rfl, HR.out⟩)
set_option maxHeartbeats 2000000 in
theorem IsClock.next_no (h : IsClock w c fp now seq L goal) (hs : seq ≤ 50000) (hno : ∀ e ∈ L, goal < e.due) :
    Calls Try.prog 37 #[.pointer (some ⟨c, 0, none⟩)] w fun r w' => r = .returned (.tuple #[.agg #[.int .i64 0, .int .i64 0], .bool false]) ∧ ClockTo w c fp (max now goal) seq L goal w' := by
  obtain ⟨b, fw, h1, h2, h3, h4, h5, h6, h7⟩ := h
  have F0 : Fr [] w (w.alloc (.cells #[.int .i64 0, .int .i64 0] 31)) := (Fr.refl _ _).alloc _
  have HT := Lib.hid (block_alloc_new w (.cells #[.int .i64 0, .int .i64 0] 31))
  have HS := Lib.hid (fun (wx : World) (F : Fr [] w wx) => (h2.fr0 F).step_no hs h7 hno)
  have HF0 := Lib.hid F0
  have hT : w.heap.size ∉ fw := fun hm => by have := h2.lt _ hm; omega
  have HEnd := Lib.hid (fun (w2 : World) (fw' : List Nat) (now' : Nat) (L' : List Ent) (k : IsWheel w2 b fw' now' seq L') (U : Sub fw' fw w) (F : Fr fw w w2) => clock_turn h1 h3 h4 h5 h7 k U F)
  obtain ⟨c0, c1⟩ := two_cells' (F0.keep h1 (by simp))
  clear F0 h1 h2 h3 h4 h5 h6 h7 hno
  generalize max now goal = N at *
  go_enter Try.func37, Try.ntmps37
  go_wp2_with fail
  go_region_with ((go_at_call 21; refine (HS.out _ HF0.out.drew).mono ?_; rintro r w1 ⟨rfl, fw', q1, q2, q3⟩; have HW := Lib.hid (And.intro q1 (And.intro (q2.down HF0.out.size) ((HF0.out.drew.mono (S' := fw) (by simp)).trans q3))); have HT1 := q3.keep (w := (w.alloc (.cells #[.int .i64 0, .int .i64 0] 31)).drew) HT.out hT; have hT2 : w.heap.size ∉ fw' := (fun hm => by rcases q2 _ hm with h | h; exact hT h; simp at h; omega); obtain ⟨t0, t1⟩ := two_cells' HT1; have hfz := free_of_block HT1; clear q1 q2 q3))
  all_goals (
    go_wp2_with fail
    have FZ : Fr [w.heap.size] w1 ((w1.setCell ⟨w.heap.size, 0, none⟩ (.int .i64 0)).setCell ⟨w.heap.size, 1, none⟩ (.int .i64 0)) := Fr.setCell (Fr.setCell (Fr.refl _ _) (.inl (by simp)) _) (.inl (by simp)) _
    refine bodyPost_ret (v := .tuple #[.agg #[.int .i64 0, .int .i64 0], .bool false]) (by simp [results, Try.results37, go_sem, t0, t1]) rfl ⟨rfl, HEnd.out _ fw' _ _ (HW.out.1.fr FZ (fun x hx => by simp at hx; subst hx; exact hT2)) HW.out.2.1 (HW.out.2.2.trans' FZ (fun x hx => .inr (by simp at hx; omega)))⟩)
set_option maxHeartbeats 2000000 in
theorem IsClock.next_yes {e : Ent} {t : List Ent} (h : IsClock w c fp now seq (e :: t) goal) (hs : seq ≤ 50000) (hyes : e.due ≤ goal) :
    Calls Try.prog 37 #[.pointer (some ⟨c, 0, none⟩)] w fun r w' => r = .returned (.tuple #[.agg #[.int .i64 e.kind, .int .i64 e.id], .bool true]) ∧ ClockTo w c fp e.due seq t goal w' := by
  obtain ⟨b, fw, h1, h2, h3, h4, h5, h6, h7⟩ := h
  have F0 : Fr [] w (w.alloc (.cells #[.int .i64 0, .int .i64 0] 31)) := (Fr.refl _ _).alloc _
  have HT := Lib.hid (block_alloc_new w (.cells #[.int .i64 0, .int .i64 0] 31))
  have HS := Lib.hid (fun (wx : World) (F : Fr [] w wx) => (h2.fr0 F).step_yes hs hyes)
  have HF0 := Lib.hid F0
  have hT : w.heap.size ∉ fw := fun hm => by have := h2.lt _ hm; omega
  have HEnd := Lib.hid (fun (w2 : World) (fw' : List Nat) (now' : Nat) (L' : List Ent) (k : IsWheel w2 b fw' now' seq L') (U : Sub fw' fw w) (F : Fr fw w w2) => clock_turn h1 h3 h4 h5 h7 k U F)
  obtain ⟨c0, c1⟩ := two_cells' (F0.keep h1 (by simp))
  clear F0 h1 h2 h3 h4 h5 h6 h7 hyes
  go_enter Try.func37, Try.ntmps37
  go_wp2_with fail
  go_region_with ((go_at_call 21; refine (HS.out _ HF0.out.drew).mono ?_; rintro r w1 ⟨rfl, fw', q1, q2, q3⟩; have HW := Lib.hid (And.intro q1 (And.intro (q2.down HF0.out.size) ((HF0.out.drew.mono (S' := fw) (by simp)).trans q3))); have HT1 := q3.keep (w := (w.alloc (.cells #[.int .i64 0, .int .i64 0] 31)).drew) HT.out hT; have hT2 : w.heap.size ∉ fw' := (fun hm => by rcases q2 _ hm with h | h; exact hT h; simp at h; omega); obtain ⟨t0, t1⟩ := two_cells' HT1; have hfz := free_of_block HT1; clear q1 q2 q3))
  all_goals (
    go_wp2_with fail
    have FZ : Fr [w.heap.size] w1 ((w1.setCell ⟨w.heap.size, 0, none⟩ (.int .i64 e.kind)).setCell ⟨w.heap.size, 1, none⟩ (.int .i64 e.id)) := Fr.setCell (Fr.setCell (Fr.refl _ _) (.inl (by simp)) _) (.inl (by simp)) _
    refine bodyPost_ret (v := .tuple #[.agg #[.int .i64 e.kind, .int .i64 e.id], .bool true]) (by simp [results, Try.results37, go_sem, t0, t1]) rfl ⟨rfl, HEnd.out _ fw' _ _ (HW.out.1.fr FZ (fun x hx => by simp at hx; subst hx; exact hT2)) HW.out.2.1 (HW.out.2.2.trans' FZ (fun x hx => .inr (by simp at hx; omega)))⟩)
end Go.Proofs.Ytibnhfnidgfenaa
