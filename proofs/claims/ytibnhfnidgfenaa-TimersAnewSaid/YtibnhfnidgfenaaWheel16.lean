/-
  Put.
-/
import Derived.Test.YtibnhfnidgfenaaWheel15
namespace Go.Proofs.Ytibnhfnidgfenaa
open Go.RowKit

variable {w : World} {b : Nat} {fp : List Nat} {now seq : Nat} {L : List Ent}

theorem put_nil (w : World) (k1 k2 : Int) (due : Nat) : Calls Try.prog 18 #[.pointer none, .agg #[.int .i64 k1, .int .i64 k2], .int .u64 due] w fun e w' => e = .returned (.int .i64 1) ∧ Fr [] w w' := by
  go_enter Try.func18, Try.ntmps18
  go_wp2_with fail
  go_ret
  exact ⟨rfl, (Fr.refl _ _).alloc _⟩

/-- The timers' map at a key. -/
theorem WInv.lookT {m1 m2 : Nat} {la : List ((Int × Int) × Value)} {f : Int × Int → List Nat} (h : WInv w b m1 m2 fp now seq L la f) {w' : World} (F : Fr [] w w') (k1 k2 : Int) :
    (Instr.lookup 78 (.map (some m1)) (.agg #[.int .i64 k1, .int .i64 k2]) false).run Try.prog w' = .ok (((entOf L (k1, k2)).map fun e => ptr e.blk).getD (.pointer none)) w' := by
  have := run_look keyTimer Try.underlying78 zeroEnt ((h.core.fr0 F).all) (k1, k2) false
  simp only [Bool.false_eq_true, if_false, enc2, h.all] at this
  exact this

set_option maxHeartbeats 2000000 in
theorem IsWheel.put_there (h : IsWheel w b fp now seq L) {k1 k2 : Int} (hin : entOf L (k1, k2) ≠ none) (due : Nat) :
    Calls Try.prog 18 #[.pointer (some ⟨b, 0, none⟩), .agg #[.int .i64 k1, .int .i64 k2], .int .u64 due] w fun e w' => e = .returned (.int .i64 4) ∧ Fr [] w w' := by
  obtain ⟨m1, m2, la, f, h⟩ := h
  obtain ⟨e0, he0⟩ := Option.ne_none_iff_exists'.1 hin
  have F : Fr [] w (w.alloc (.cells #[.int .i64 k1, .int .i64 k2] 31)) := (Fr.refl _ _).alloc _
  have h0 := h.core.fr0 F
  have c2 := h0.c2
  have q0 : (w.alloc (.cells #[.int .i64 k1, .int .i64 k2] 31)).cell? ⟨w.heap.size, 0, none⟩ = some (.int .i64 k1) := by simp
  have q1 : (w.alloc (.cells #[.int .i64 k1, .int .i64 k2] 31)).cell? ⟨w.heap.size, 1, none⟩ = some (.int .i64 k2) := by simp
  have hl : ∀ q, (Instr.lookup 78 (.map (some m1)) (.agg #[.int .i64 k1, .int .i64 k2]) false).run Try.prog ((w.alloc (.cells #[.int .i64 k1, .int .i64 k2] 31)).drewN q) = .ok (.pointer (some ⟨e0.blk, 0, none⟩)) ((w.alloc (.cells #[.int .i64 k1, .int .i64 k2] 31)).drewN q) := fun q => by
    rw [h.lookT (F.drewN q) k1 k2, he0]
    rfl
  have HF := Lib.hid F
  clear h h0 F hin he0
  go_enter Try.func18, Try.ntmps18
  go_wp2_with fail
  go_quiet (fail)
  go_wp2_with fail
  go_ret
  exact ⟨rfl, HF.out.drewN _⟩

/-- What Put leaves. -/
def PutTo (w : World) (b : Nat) (fp : List Nat) (now seq : Nat) (L : List Ent) (k1 k2 : Int) (due : Nat) (w' : World) : Prop :=
  ∃ (e : Ent) (fp' : List Nat), e.key = (k1, k2) ∧ e.due = max due now ∧ e.seq = seq + 1 ∧ IsWheel w' b fp' now (seq + 1) (insE e L) ∧ Sub fp' fp w ∧ Fr fp w w'

set_option maxHeartbeats 4000000 in
set_option maxRecDepth 20000 in
theorem IsWheel.put_new (h : IsWheel w b fp now seq L) {k1 k2 : Int} (hin : entOf L (k1, k2) = none) {due : Nat} (hd : due < 18446744073709551616) (hsq : seq < 50000) :
    Calls Try.prog 18 #[.pointer (some ⟨b, 0, none⟩), .agg #[.int .i64 k1, .int .i64 k2], .int .u64 due] w fun e w' => e = .returned (.int .i64 0) ∧ PutTo w b fp now seq L k1 k2 due w' := by
  obtain ⟨m1, m2, la, f, h⟩ := h
  have F : Fr [] w (w.alloc (.cells #[.int .i64 k1, .int .i64 k2] 31)) := (Fr.refl _ _).alloc _
  have h0 := h.core.fr0 F
  have c2 := h0.c2
  have c1 := h0.c1
  have hfz := free_of_block h0.blk
  have q0 : (w.alloc (.cells #[.int .i64 k1, .int .i64 k2] 31)).cell? ⟨w.heap.size, 0, none⟩ = some (.int .i64 k1) := by simp
  have q1 : (w.alloc (.cells #[.int .i64 k1, .int .i64 k2] 31)).cell? ⟨w.heap.size, 1, none⟩ = some (.int .i64 k2) := by simp
  have hl : ∀ q, (Instr.lookup 78 (.map (some m1)) (.agg #[.int .i64 k1, .int .i64 k2]) false).run Try.prog ((w.alloc (.cells #[.int .i64 k1, .int .i64 k2] 31)).drewN q) = .ok (.pointer none) ((w.alloc (.cells #[.int .i64 k1, .int .i64 k2] 31)).drewN q) := fun q => by
    rw [h.lookT (F.drewN q) k1 k2, hin]
    rfl
  have HF := Lib.hid F
  have H := Lib.hid h
  have HC0 := Lib.hid h0
  have hbw : b < w.heap.size := h.core.lt b (h.core.foot b (by simp [ownW]))
  have HIN := Lib.hid hin
  clear h h0 F hin
  go_enter Try.func18, Try.ntmps18
  go_wp2_with fail
  go_quiet (fail)
  go_wp2_with fail
  obtain ⟨w2, hw2⟩ : ∃ w2, w2 = ((w.alloc (.cells #[.int .i64 k1, .int .i64 k2] 31)).drewN nq).setCell ⟨b, 1, none⟩ (.int .i64 ((seq : Int) + 1)) := ⟨_, rfl⟩
  rw [← hw2]
  have C2 : Core w2 b m1 m2 fp now (seq + 1) L la f := by
    rw [hw2]
    exact (HC0.out.fr0 (Fr.of_drewN _ nq)).setSeq (seq + 1)
  have F2 : Fr [b] w w2 := by
    rw [hw2]
    exact ((HF.out.drewN nq).mono (by simp)).setCell (.inl (by simp)) _
  have q0' : w2.cell? ⟨w.heap.size, 0, none⟩ = some (.int .i64 k1) := by
    rw [hw2]
    exact (Fr.setCell (S := [b]) ((Fr.of_drewN _ nq)) (.inl (by simp)) _).on q0 (by simp; omega)
  have q1' : w2.cell? ⟨w.heap.size, 1, none⟩ = some (.int .i64 k2) := by
    rw [hw2]
    exact (Fr.setCell (S := [b]) ((Fr.of_drewN _ nq)) (.inl (by simp)) _).on q1 (by simp; omega)
  have x0 := C2.c0
  have x1 : w2.cell? ⟨b, 1, none⟩ = some (.int .i64 ((seq : Int) + 1)) := C2.c1
  have x2 := C2.c2
  have hs2 : w.heap.size < w2.heap.size := World.block_lt_of_cell? _ _ q0'
  clear hw2 q0 q1 c1 c2 hfz hl
  have HC2 := Lib.hid C2
  have HF2 := Lib.hid F2
  have hltf := C2.lt
  have KS := Lib.hid (fun (w' : World) (F : Fr [] w2 w') => (⟨F.on q0' (by simp), F.on q1' (by simp), F.on x0 (by simp), F.on x1 (by simp)⟩ : w'.cell? ⟨w.heap.size, 0, none⟩ = some (.int .i64 k1) ∧ w'.cell? ⟨w.heap.size, 1, none⟩ = some (.int .i64 k2) ∧ w'.cell? ⟨b, 0, none⟩ = some (.int .u64 now) ∧ w'.cell? ⟨b, 1, none⟩ = some (.int .i64 ((seq : Int) + 1))))
  clear C2 F2 x0 x1
  by_cases hmx : due < now
  · obtain ⟨e, he⟩ : ∃ e : Ent, e = ⟨k1, k2, now, seq + 1, w2.heap.size⟩ := ⟨_, rfl⟩
    have hek : e.key = (k1, k2) := by rw [he]; rfl
    have heb : e.blk = w2.heap.size := by rw [he]
    have hed : e.due = max due now := by rw [he]; simp only; omega
    have hes : e.seq = seq + 1 := by rw [he]
    have heo : e.obj = .cells #[.int .i64 k1, .int .i64 k2, .int .u64 (now : Nat), .int .i64 ((seq : Int) + 1)] 84 := by rw [he]; rfl
    obtain ⟨w3, hw3⟩ : ∃ w3, w3 = (w2.alloc (.cells #[.int .i64 k1, .int .i64 k2, .int .u64 (now : Nat), .int .i64 ((seq : Int) + 1)] 84)).drew := ⟨_, rfl⟩
    have C3 : Core w3 b m1 m2 (fp ++ [e.blk]) now (seq + 1) (e :: L) la f := by
      rw [hw3, ← heo]
      exact (HC2.out.add heb).fr0 ((Fr.refl [] _).drew)
    have F3 : Fr [b] w w3 := by
      rw [hw3]
      exact (HF2.out.alloc _).drew
    have F23 : Fr [] w2 w3 := by
      rw [hw3]
      exact ((Fr.refl _ _).alloc _).drew
    have q0 := F23.on q0' (by simp)
    have q1 := F23.on q1' (by simp)
    have x3 := C3.c2
    have hnk : look la (k1, k2) = none := by rw [H.out.all]; show (entOf L (k1, k2)).map _ = none; rw [HIN.out]; rfl
    obtain ⟨w4, hu, hM4, F34⟩ := put_run keyTimer Try.underlying78 (show MapKV enc2 w3.drew m1 la from C3.all.fr (S := []) ((Fr.refl _ _).drew) (by simp)) (k1, k2) (.pointer (some ⟨w2.heap.size, 0, none⟩))
    simp only [enc2] at hu
    have F34' : Fr [m1] w3 w4 := Fr.trans ((Fr.refl _ _).drew) F34
    have HC4 := Lib.hid (C3.setAll hM4 F34')
    have hm1f : m1 < w2.heap.size := hltf m1 (HC2.out.foot m1 (by simp [ownW]))
    have hm1b : m1 ∈ fp := HC2.out.foot m1 (by simp [ownW])
    have hbm1 : b ≠ m1 := by have := HC2.out.dist; simp [ownW] at this; exact fun e => this.1.1 e
    have hw1 : w.heap.size ≠ m1 := fun h => by have := H.out.core.lt m1 hm1b; omega
    have KS2 := Lib.hid (fun (w' : World) (F : Fr [m1] w3 w') => (⟨F.on q0 (by simpa using hw1), F.on q1 (by simpa using hw1), F.on x3 (by simpa using hbm1)⟩ : w'.cell? ⟨w.heap.size, 0, none⟩ = some (.int .i64 k1) ∧ w'.cell? ⟨w.heap.size, 1, none⟩ = some (.int .i64 k2) ∧ w'.cell? ⟨b, 2, none⟩ = some (.map (some m1))))
    have HF4 := Lib.hid (show Fr fp w w4 from (F3.mono (fun x hx => .inl (by simp at hx; subst hx; exact H.out.core.foot x (by simp [ownW])))).trans (F34'.mono (fun x hx => .inl (by simp at hx; subst hx; exact hm1b))))
    clear C3 F3 F23 q0 q1 x3 q0' q1' x2 hM4 F34
    go_region_held3 (fun w' => w'.cell? ⟨w.heap.size, 0, none⟩ = some (.int .i64 k1) ∧ w'.cell? ⟨w.heap.size, 1, none⟩ = some (.int .i64 k2) ∧ w'.cell? ⟨b, 0, none⟩ = some (.int .u64 now) ∧ w'.cell? ⟨b, 1, none⟩ = some (.int .i64 ((seq : Int) + 1)))
      (exact KS.out _ (by repeat (first | exact Fr.refl _ _ | apply Fr.drew | apply Fr.drewN | apply Fr.alloc))) (fail)
    go_wp2_with fail
    rw [← hw3]
    clear hw3 KS
    go_region_held3 (fun w' => w'.cell? ⟨w.heap.size, 0, none⟩ = some (.int .i64 k1) ∧ w'.cell? ⟨w.heap.size, 1, none⟩ = some (.int .i64 k2) ∧ w'.cell? ⟨b, 2, none⟩ = some (.map (some m1)))
      (first | exact KS2.out _ F34' | exact KS2.out _ ((Fr.refl _ _).drew)) (fail)
    have HLay := Lib.hid (HC4.out.lay (e := e) (by simp) H.out.nowlt (by rw [hed]; have := H.out.nowlt; omega) (by have := Stands.len H.out.at_ (spotI now e.due); have := H.out.few; omega))
    rw [heb] at HLay
    clear hu KS2
    go_wp2_with fail
    refine HLay.out.mono ?_
    rintro r w5 ⟨rfl, fp5, C5, U5, F5⟩
    have HFin : Hid (PutTo w b fp now seq L k1 k2 due w5) := Lib.hid (by
      have hI := H.out
      have hcore : Core w5 b m1 m2 fp5 now (seq + 1) (insE e L) (put la (k1, k2) (.pointer (some ⟨w2.heap.size, 0, none⟩))) (upd f (spotI now e.due) (f (spotI now e.due) ++ [e.blk])) := by
        have := C5.perm (insE_perm e L).symm
        rw [heb]
        exact this
      have hkn : ∀ x ∈ L, x.key ≠ (k1, k2) := fun x hx hk => by
        have := (find_key hI.keys (k1, k2) x).2 ⟨hx, hk⟩
        rw [HIN.out] at this
        cases this
      have hkeys : ((insE e L).map Ent.key).Nodup := (((insE_perm e L).map _).nodup_iff).2 (by
        rw [List.map_cons, List.nodup_cons, hek]
        exact ⟨fun h => by obtain ⟨x, hx, hxk⟩ := List.mem_map.1 h; exact hkn x hx hxk, hI.keys⟩)
      refine ⟨e, fp5, hek, hed, hes, ⟨m1, m2, _, _, hcore, fun k => ?_, ?_, Stands.perm (Stands.put hI.at_ e) (insE_perm e L).symm, hI.nowlt, fun x hx => ?_, insE_sorted hI.sorted (fun x hx => by have := hI.seqs x hx; omega), hkeys, fun x hx => ?_, ?_⟩, fun x hx => ?_, HF4.out.trans' F5 (fun x hx => ?_)⟩
      · rw [look_put]
        show _ = (entOf (insE e L) k).map _
        rw [entOf_perm hkeys (insE_perm e L), entOf_cons, hek]
        by_cases hk : k = (k1, k2)
        · rw [if_pos hk, if_pos hk]
          simp [ptr, heb]
        · rw [if_neg hk, if_neg hk]
          exact hI.all k
      · rw [(insE_perm e L).length_eq, List.length_cons, ← hI.len]
        have := look_none hnk
        unfold Proofs.Ytibnhfnidgfenaa.put
        rw [if_neg this]
        simp
      · rcases List.mem_cons.1 ((insE_perm e L).mem_iff.1 hx) with h1 | h1
        · subst h1
          rw [hed]
          have := hI.nowlt
          omega
        · exact hI.due x h1
      · rcases List.mem_cons.1 ((insE_perm e L).mem_iff.1 hx) with h1 | h1
        · subst h1; omega
        · have := hI.seqs x h1; omega
      · rw [(insE_perm e L).length_eq, List.length_cons]; have := hI.few; omega
      · rcases U5 x hx with h1 | h1
        · rcases List.mem_append.1 h1 with h2 | h2
          · exact .inl h2
          · simp at h2; exact .inr (by omega)
        · exact .inr (by have := HF4.out.size; omega)
      · rcases List.mem_append.1 hx with h2 | h2
        · exact .inl h2
        · simp at h2; exact .inr (by omega))
    clear C5 U5 F5
    go_wp2_with fail
    go_ret
    exact ⟨rfl, HFin.out⟩
  · obtain ⟨e, he⟩ : ∃ e : Ent, e = ⟨k1, k2, due, seq + 1, w2.heap.size⟩ := ⟨_, rfl⟩
    have hek : e.key = (k1, k2) := by rw [he]; rfl
    have heb : e.blk = w2.heap.size := by rw [he]
    have hed : e.due = max due now := by rw [he]; simp only; omega
    have hes : e.seq = seq + 1 := by rw [he]
    have heo : e.obj = .cells #[.int .i64 k1, .int .i64 k2, .int .u64 (due : Nat), .int .i64 ((seq : Int) + 1)] 84 := by rw [he]; rfl
    obtain ⟨w3, hw3⟩ : ∃ w3, w3 = (w2.alloc (.cells #[.int .i64 k1, .int .i64 k2, .int .u64 (due : Nat), .int .i64 ((seq : Int) + 1)] 84)).drew := ⟨_, rfl⟩
    have C3 : Core w3 b m1 m2 (fp ++ [e.blk]) now (seq + 1) (e :: L) la f := by
      rw [hw3, ← heo]
      exact (HC2.out.add heb).fr0 ((Fr.refl [] _).drew)
    have F3 : Fr [b] w w3 := by
      rw [hw3]
      exact (HF2.out.alloc _).drew
    have F23 : Fr [] w2 w3 := by
      rw [hw3]
      exact ((Fr.refl _ _).alloc _).drew
    have q0 := F23.on q0' (by simp)
    have q1 := F23.on q1' (by simp)
    have x3 := C3.c2
    have hnk : look la (k1, k2) = none := by rw [H.out.all]; show (entOf L (k1, k2)).map _ = none; rw [HIN.out]; rfl
    obtain ⟨w4, hu, hM4, F34⟩ := put_run keyTimer Try.underlying78 (show MapKV enc2 w3.drew m1 la from C3.all.fr (S := []) ((Fr.refl _ _).drew) (by simp)) (k1, k2) (.pointer (some ⟨w2.heap.size, 0, none⟩))
    simp only [enc2] at hu
    have F34' : Fr [m1] w3 w4 := Fr.trans ((Fr.refl _ _).drew) F34
    have HC4 := Lib.hid (C3.setAll hM4 F34')
    have hm1f : m1 < w2.heap.size := hltf m1 (HC2.out.foot m1 (by simp [ownW]))
    have hm1b : m1 ∈ fp := HC2.out.foot m1 (by simp [ownW])
    have hbm1 : b ≠ m1 := by have := HC2.out.dist; simp [ownW] at this; exact fun e => this.1.1 e
    have hw1 : w.heap.size ≠ m1 := fun h => by have := H.out.core.lt m1 hm1b; omega
    have KS2 := Lib.hid (fun (w' : World) (F : Fr [m1] w3 w') => (⟨F.on q0 (by simpa using hw1), F.on q1 (by simpa using hw1), F.on x3 (by simpa using hbm1)⟩ : w'.cell? ⟨w.heap.size, 0, none⟩ = some (.int .i64 k1) ∧ w'.cell? ⟨w.heap.size, 1, none⟩ = some (.int .i64 k2) ∧ w'.cell? ⟨b, 2, none⟩ = some (.map (some m1))))
    have HF4 := Lib.hid (show Fr fp w w4 from (F3.mono (fun x hx => .inl (by simp at hx; subst hx; exact H.out.core.foot x (by simp [ownW])))).trans (F34'.mono (fun x hx => .inl (by simp at hx; subst hx; exact hm1b))))
    clear C3 F3 F23 q0 q1 x3 q0' q1' x2 hM4 F34
    go_region_held3 (fun w' => w'.cell? ⟨w.heap.size, 0, none⟩ = some (.int .i64 k1) ∧ w'.cell? ⟨w.heap.size, 1, none⟩ = some (.int .i64 k2) ∧ w'.cell? ⟨b, 0, none⟩ = some (.int .u64 now) ∧ w'.cell? ⟨b, 1, none⟩ = some (.int .i64 ((seq : Int) + 1)))
      (exact KS.out _ (by repeat (first | exact Fr.refl _ _ | apply Fr.drew | apply Fr.drewN | apply Fr.alloc))) (fail)
    go_wp2_with fail
    rw [← hw3]
    clear hw3 KS
    go_region_held3 (fun w' => w'.cell? ⟨w.heap.size, 0, none⟩ = some (.int .i64 k1) ∧ w'.cell? ⟨w.heap.size, 1, none⟩ = some (.int .i64 k2) ∧ w'.cell? ⟨b, 2, none⟩ = some (.map (some m1)))
      (first | exact KS2.out _ F34' | exact KS2.out _ ((Fr.refl _ _).drew)) (fail)
    have HLay := Lib.hid (HC4.out.lay (e := e) (by simp) H.out.nowlt (by rw [hed]; have := H.out.nowlt; omega) (by have := Stands.len H.out.at_ (spotI now e.due); have := H.out.few; omega))
    rw [heb] at HLay
    clear hu KS2
    go_wp2_with fail
    refine HLay.out.mono ?_
    rintro r w5 ⟨rfl, fp5, C5, U5, F5⟩
    have HFin : Hid (PutTo w b fp now seq L k1 k2 due w5) := Lib.hid (by
      have hI := H.out
      have hcore : Core w5 b m1 m2 fp5 now (seq + 1) (insE e L) (put la (k1, k2) (.pointer (some ⟨w2.heap.size, 0, none⟩))) (upd f (spotI now e.due) (f (spotI now e.due) ++ [e.blk])) := by
        have := C5.perm (insE_perm e L).symm
        rw [heb]
        exact this
      have hkn : ∀ x ∈ L, x.key ≠ (k1, k2) := fun x hx hk => by
        have := (find_key hI.keys (k1, k2) x).2 ⟨hx, hk⟩
        rw [HIN.out] at this
        cases this
      have hkeys : ((insE e L).map Ent.key).Nodup := (((insE_perm e L).map _).nodup_iff).2 (by
        rw [List.map_cons, List.nodup_cons, hek]
        exact ⟨fun h => by obtain ⟨x, hx, hxk⟩ := List.mem_map.1 h; exact hkn x hx hxk, hI.keys⟩)
      refine ⟨e, fp5, hek, hed, hes, ⟨m1, m2, _, _, hcore, fun k => ?_, ?_, Stands.perm (Stands.put hI.at_ e) (insE_perm e L).symm, hI.nowlt, fun x hx => ?_, insE_sorted hI.sorted (fun x hx => by have := hI.seqs x hx; omega), hkeys, fun x hx => ?_, ?_⟩, fun x hx => ?_, HF4.out.trans' F5 (fun x hx => ?_)⟩
      · rw [look_put]
        show _ = (entOf (insE e L) k).map _
        rw [entOf_perm hkeys (insE_perm e L), entOf_cons, hek]
        by_cases hk : k = (k1, k2)
        · rw [if_pos hk, if_pos hk]
          simp [ptr, heb]
        · rw [if_neg hk, if_neg hk]
          exact hI.all k
      · rw [(insE_perm e L).length_eq, List.length_cons, ← hI.len]
        have := look_none hnk
        unfold Proofs.Ytibnhfnidgfenaa.put
        rw [if_neg this]
        simp
      · rcases List.mem_cons.1 ((insE_perm e L).mem_iff.1 hx) with h1 | h1
        · subst h1
          rw [hed]
          have := hI.nowlt
          omega
        · exact hI.due x h1
      · rcases List.mem_cons.1 ((insE_perm e L).mem_iff.1 hx) with h1 | h1
        · subst h1; omega
        · have := hI.seqs x h1; omega
      · rw [(insE_perm e L).length_eq, List.length_cons]; have := hI.few; omega
      · rcases U5 x hx with h1 | h1
        · rcases List.mem_append.1 h1 with h2 | h2
          · exact .inl h2
          · simp at h2; exact .inr (by omega)
        · exact .inr (by have := HF4.out.size; omega)
      · rcases List.mem_append.1 hx with h2 | h2
        · exact .inl h2
        · simp at h2; exact .inr (by omega))
    clear C5 U5 F5
    go_wp2_with fail
    go_ret
    exact ⟨rfl, HFin.out⟩
end Go.Proofs.Ytibnhfnidgfenaa
