/-
  Cancel.
-/
import Derived.Test.YtibnhfnidgfenaaWheel16
namespace Go.Proofs.Ytibnhfnidgfenaa
open Go.RowKit

variable {w : World} {b : Nat} {fp : List Nat} {now seq : Nat} {L : List Ent}

theorem cancel_nil (w : World) (k1 k2 : Int) : Calls Try.prog 20 #[.pointer none, .agg #[.int .i64 k1, .int .i64 k2]] w fun e w' => e = .returned (.bool false) ∧ Fr [] w w' := by
  go_enter Try.func20, Try.ntmps20
  go_wp2_with fail
  go_quiet (fail)
  go_wp2_with fail
  go_ret
  exact ⟨rfl, ((Fr.refl _ _).alloc _).drewN _⟩

set_option maxHeartbeats 2000000 in
theorem IsWheel.cancel_no (h : IsWheel w b fp now seq L) {k1 k2 : Int} (hin : entOf L (k1, k2) = none) :
    Calls Try.prog 20 #[.pointer (some ⟨b, 0, none⟩), .agg #[.int .i64 k1, .int .i64 k2]] w fun e w' => e = .returned (.bool false) ∧ Fr [] w w' := by
  obtain ⟨m1, m2, la, f, h⟩ := h
  have F : Fr [] w (w.alloc (.cells #[.int .i64 k1, .int .i64 k2] 31)) := (Fr.refl _ _).alloc _
  have h0 := h.core.fr0 F
  have c2 := h0.c2
  have q0 : (w.alloc (.cells #[.int .i64 k1, .int .i64 k2] 31)).cell? ⟨w.heap.size, 0, none⟩ = some (.int .i64 k1) := by simp
  have q1 : (w.alloc (.cells #[.int .i64 k1, .int .i64 k2] 31)).cell? ⟨w.heap.size, 1, none⟩ = some (.int .i64 k2) := by simp
  have hl : ∀ q, (Instr.lookup 78 (.map (some m1)) (.agg #[.int .i64 k1, .int .i64 k2]) false).run Try.prog ((w.alloc (.cells #[.int .i64 k1, .int .i64 k2] 31)).drewN q) = .ok (.pointer none) ((w.alloc (.cells #[.int .i64 k1, .int .i64 k2] 31)).drewN q) := fun q => by
    rw [h.lookT (F.drewN q) k1 k2, hin]
    rfl
  have HF := Lib.hid F
  clear h h0 F hin
  go_enter Try.func20, Try.ntmps20
  go_wp2_with fail
  go_quiet (fail)
  go_wp2_with fail
  go_ret
  exact ⟨rfl, HF.out.drewN _⟩

theorem withoutE_len {L : List Ent} (hk : (L.map Ent.key).Nodup) {e : Ent} (he : e ∈ L) : (withoutE e.key L).length + 1 = L.length := by
  induction L with
  | nil => cases he
  | cons x L ih =>
    rw [List.map_cons, List.nodup_cons] at hk
    unfold withoutE at ih ⊢
    by_cases hx : x.key = e.key
    · rw [List.filter_cons_of_neg (by simp [hx]), List.filter_eq_self.2, List.length_cons]
      intro y hy
      refine decide_eq_true (fun h => hk.1 ?_)
      rw [hx, ← h]
      exact List.mem_map_of_mem hy
    · have he' : e ∈ L := by
        rcases List.mem_cons.1 he with h | h
        · exact absurd (by rw [h]) hx
        · exact h
      rw [List.filter_cons_of_pos (by simp [hx]), List.length_cons, List.length_cons, ih hk.2 he']
theorem put_len {α : Type} [DecidableEq α] {l : List (α × Value)} (hn : (l.map (·.1)).Nodup) {a : α} {v : Value} (h : look l a = some v) : (del l a).length + 1 = l.length := by
  induction l with
  | nil => simp [look] at h
  | cons p l ih =>
    rw [List.map_cons, List.nodup_cons] at hn
    unfold look at h
    rw [List.find?_cons] at h
    unfold del at ih ⊢
    by_cases hp : p.1 = a
    · rw [List.filter_cons_of_neg (by simp [hp]), List.filter_eq_self.2, List.length_cons]
      intro y hy
      refine decide_eq_true (fun h2 => hn.1 ?_)
      rw [hp, ← h2]
      exact List.mem_map_of_mem hy
    · simp only [hp, decide_false] at h
      rw [List.filter_cons_of_pos (by simp [hp]), List.length_cons, List.length_cons, ih hn.2 h]

/-- What Cancel leaves. -/
def CancelTo (w : World) (b : Nat) (fp : List Nat) (now seq : Nat) (L : List Ent) (k : Int × Int) (w' : World) : Prop := IsWheel w' b fp now seq (withoutE k L) ∧ Fr fp w w' ∧ ∀ x ∈ L, w'.heap[x.blk]? = some x.obj

set_option maxHeartbeats 4000000 in
set_option maxRecDepth 20000 in
theorem IsWheel.cancel_yes (h : IsWheel w b fp now seq L) {k1 k2 : Int} {e : Ent} (hin : entOf L (k1, k2) = some e) (hsq : seq ≤ 50000) :
    Calls Try.prog 20 #[.pointer (some ⟨b, 0, none⟩), .agg #[.int .i64 k1, .int .i64 k2]] w fun r w' => r = .returned (.bool true) ∧ CancelTo w b fp now seq L (k1, k2) w' := by
  obtain ⟨m1, m2, la, f, h⟩ := h
  have F : Fr [] w (w.alloc (.cells #[.int .i64 k1, .int .i64 k2] 31)) := (Fr.refl _ _).alloc _
  have h0 := h.core.fr0 F
  have c2 := h0.c2
  have q0 : (w.alloc (.cells #[.int .i64 k1, .int .i64 k2] 31)).cell? ⟨w.heap.size, 0, none⟩ = some (.int .i64 k1) := by simp
  have q1 : (w.alloc (.cells #[.int .i64 k1, .int .i64 k2] 31)).cell? ⟨w.heap.size, 1, none⟩ = some (.int .i64 k2) := by simp
  have hl : ∀ q, (Instr.lookup 78 (.map (some m1)) (.agg #[.int .i64 k1, .int .i64 k2]) false).run Try.prog ((w.alloc (.cells #[.int .i64 k1, .int .i64 k2] 31)).drewN q) = .ok (.pointer (some ⟨e.blk, 0, none⟩)) ((w.alloc (.cells #[.int .i64 k1, .int .i64 k2] 31)).drewN q) := fun q => by
    rw [h.lookT (F.drewN q) k1 k2, hin]
    rfl
  obtain ⟨hem, hek⟩ := entOf_mem hin
  have hdl := (h.due e hem).2
  have hst : Stands f L (fun e => spotI now e.due) := h.at_
  have hbn : (L.map (·.blk)).Nodup := by
    have := h.core.dist
    unfold ownW at this
    exact (List.nodup_cons.1 (List.nodup_cons.1 (List.nodup_cons.1 this).2).2).2
  have HLift := Lib.hid (fun (wx : World) (Fx : Fr [] w wx) => (h.core.fr0 Fx).lift hem (by
    rw [(hst (spotI now e.due)).mem_iff]
    exact List.mem_map_of_mem (List.mem_filter.2 ⟨hem, by simp⟩)) (fun x hx => by
    rw [(hst (spotI now e.due)).mem_iff] at hx
    obtain ⟨y, hy, rfl⟩ := List.mem_map.1 hx
    exact List.mem_map_of_mem (List.mem_filter.1 hy).1) h.nowlt hdl (by have := Stands.len hst (spotI now e.due); have := h.few; omega))
  have HF := Lib.hid F
  have H := Lib.hid h
  have HIN := Lib.hid hin
  have HB := Lib.hid hbn
  have HM := Lib.hid hem
  have HK := Lib.hid hek
  have hwlt := h.core.lt
  clear h h0 F hin hst hbn hem hek hdl
  go_enter Try.func20, Try.ntmps20
  go_wp2_with fail
  go_quiet (fail)
  go_wp2_with fail
  obtain ⟨w2, hw2⟩ : ∃ w2, w2 = (w.alloc (.cells #[.int .i64 k1, .int .i64 k2] 31)).drewN nq := ⟨_, rfl⟩
  have F2 : Fr [] w w2 := by rw [hw2]; exact HF.out.drewN nq
  have hl2 : (Instr.lookup 78 (.map (some m1)) (.agg #[.int .i64 k1, .int .i64 k2]) false).run Try.prog w2.drew = .ok (.pointer (some ⟨e.blk, 0, none⟩)) w2.drew := by
    rw [hw2]; exact hl (nq + 1)
  have q0' : w2.cell? ⟨w.heap.size, 0, none⟩ = some (.int .i64 k1) := by rw [hw2]; exact q0
  have q1' : w2.cell? ⟨w.heap.size, 1, none⟩ = some (.int .i64 k2) := by rw [hw2]; exact q1
  have c2' : w2.cell? ⟨b, 2, none⟩ = some (.map (some m1)) := by rw [hw2]; exact c2
  rw [← hw2]
  clear hw2 q0 q1 c2 hl
  have hwn : w.heap.size ∉ fp := fun h => by have := hwlt _ h; omega
  have HF2 := Lib.hid F2
  have KS := Lib.hid (fun (w' : World) (F : Fr fp w2 w') (hc : w'.cell? ⟨b, 2, none⟩ = some (.map (some m1))) => (⟨F.on q0' hwn, F.on q1' hwn, hc⟩ : w'.cell? ⟨w.heap.size, 0, none⟩ = some (.int .i64 k1) ∧ w'.cell? ⟨w.heap.size, 1, none⟩ = some (.int .i64 k2) ∧ w'.cell? ⟨b, 2, none⟩ = some (.map (some m1))))
  go_region_held3 (fun w' => w'.cell? ⟨w.heap.size, 0, none⟩ = some (.int .i64 k1) ∧ w'.cell? ⟨w.heap.size, 1, none⟩ = some (.int .i64 k2) ∧ w'.cell? ⟨b, 2, none⟩ = some (.map (some m1)))
    (first | exact KS.out _ FX5 C5.c2 | exact ⟨q0', q1', c2'⟩)
    (first | (go_at_call 42; refine (HLift.out _ (HF2.out.drew)).mono ?_; rintro r w5 ⟨rfl, C5, F5⟩; have FX5 : Fr fp w2 w5 := Fr.trans ((Fr.refl _ _).drew) F5))
  have q05 := FX5.on q0' hwn
  have q15 := FX5.on q1' hwn
  have c25 := C5.c2
  have hm1f : m1 ∈ fp := C5.foot m1 (by simp [ownW])
  have hbm1 : b ≠ m1 := by have := C5.dist; simp [ownW] at this; exact fun e => this.1.1 e
  have hw1 : w.heap.size ≠ m1 := fun h => hwn (h ▸ hm1f)
  obtain ⟨w6, hu, hM6, F56⟩ := del_run (K' := 31) (ty := 0) keyTimer Try.underlying78 (show MapKV enc2 w5.drew m1 la from C5.all.fr (S := []) ((Fr.refl _ _).drew) (by simp)) (k1, k2)
  simp only [enc2] at hu
  have F56' : Fr [m1] w5 w6 := Fr.trans ((Fr.refl _ _).drew) F56
  have HC6 := Lib.hid (C5.setAll hM6 F56')
  have HF6 := Lib.hid (show Fr fp w w6 from ((HF2.out.mono (by simp)).trans FX5).trans (F56'.mono (fun x hx => .inl (by simp at hx; subst hx; exact hm1f))))
  have KS2 := Lib.hid (fun (w' : World) (F : Fr [m1] w5 w') => (⟨F.on q05 (by simpa using hw1), F.on q15 (by simpa using hw1), F.on c25 (by simpa using hbm1)⟩ : w'.cell? ⟨w.heap.size, 0, none⟩ = some (.int .i64 k1) ∧ w'.cell? ⟨w.heap.size, 1, none⟩ = some (.int .i64 k2) ∧ w'.cell? ⟨b, 2, none⟩ = some (.map (some m1))))
  clear q0' q1' c2' hl2 q05 q15 c25 hM6 F56 FX5 C5 F5 F2
  go_wp2_with fail
  go_region_held3 (fun w' => w'.cell? ⟨w.heap.size, 0, none⟩ = some (.int .i64 k1) ∧ w'.cell? ⟨w.heap.size, 1, none⟩ = some (.int .i64 k2) ∧ w'.cell? ⟨b, 2, none⟩ = some (.map (some m1)))
    (first | exact KS2.out _ F56' | exact KS2.out _ ((Fr.refl _ _).drew)) (fail)
  all_goals (
    go_wp2_with fail
    go_ret
    have hI := H.out
    have hk : e.key = (k1, k2) := HK.out
    refine ⟨rfl, ⟨m1, m2, _, _, HC6.out.less List.filter_sublist, fun k => ?_, ?_, by rw [← hk]; exact Stands.cancel hI.at_ HM.out hI.keys HB.out, hI.nowlt, fun x hx => hI.due x (List.mem_filter.1 hx).1, hI.sorted.sublist List.filter_sublist, hI.keys.sublist (List.filter_sublist.map _), fun x hx => hI.seqs x (List.mem_filter.1 hx).1, ?_⟩, HF6.out, HC6.out.ents⟩
    · rw [look_del]
      unfold withoutE
      rw [List.find?_filter]
      by_cases hq : k = (k1, k2)
      · rw [if_pos hq, List.find?_eq_none.2]
        · rfl
        · intro x _
          simp only [decide_eq_true_eq, Bool.decide_and]
          subst hq
          simp
      · rw [if_neg hq, hI.all]
        congr 1
        congr 1
        funext x
        by_cases hx : x.key = k
        · simp [hx, hq]
        · simp [hx]
    · have h1 := put_len hI.core.all.1 (a := (k1, k2)) (v := ptr e.blk) (by rw [hI.all]; show (entOf L (k1, k2)).map _ = _; rw [HIN.out]; rfl)
      have h2 := withoutE_len hI.keys HM.out
      rw [hk] at h2
      have := hI.len
      omega
    · have := List.length_filter_le (fun x : Ent => decide (x.key ≠ (k1, k2))) L
      have := hI.few
      unfold withoutE
      omega)
end Go.Proofs.Ytibnhfnidgfenaa
