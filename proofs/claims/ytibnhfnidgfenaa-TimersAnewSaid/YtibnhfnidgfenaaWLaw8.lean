/-
  A deed, of the wheel and of the document's: do of porpoiselaw03.
-/
import Derived.Test.YtibnhfnidgfenaaRef03b
import Derived.Test.YtibnhfnidgfenaaWLaw4
namespace Go.Proofs.Ytibnhfnidgfenaa
open Go.RowKit

def onE (e : Ent) : On := ⟨e.kind, e.id, e.due⟩
theorem onE_key (e : Ent) : (onE e).key = e.key := rfl
theorem insE_on (e : Ent) : ∀ l : List Ent, (insE e l).map onE = insO (onE e) (l.map onE)
  | [] => rfl
  | x :: l => by
    have ih := insE_on e l
    unfold insE
    simp only [List.map_cons, insO]
    by_cases h : e.due < x.due
    · rw [if_pos h, if_pos (show (onE e).due < (onE x).due from h)]; rfl
    · rw [if_neg h, if_neg (show ¬ (onE e).due < (onE x).due from h), List.map_cons, ih]
theorem onOf_map (L : List Ent) (k : Int × Int) : onOf (L.map onE) k = (entOf L k).map onE := by
  unfold onOf entOf
  rw [List.find?_map]
  rfl
theorem without_on (L : List Ent) (k : Int × Int) : (withoutE k L).map onE = (L.map onE).filter fun e => decide (e.key ≠ k) := by
  unfold withoutE
  rw [List.filter_map]
  rfl
/-- Who is alike but for one that is gone. -/
theorem filter_one {l l' : List On} {k : Int × Int} (hn : (l.map On.key).Nodup) (hl : l'.length < l.length) (hf : l'.filter (fun e => decide (e.key ≠ k)) = l.filter (fun e => decide (e.key ≠ k))) : l' = l.filter (fun e => decide (e.key ≠ k)) := by
  have h1 : ∀ l : List On, (l.map On.key).Nodup → l.length ≤ (l.filter (fun e => decide (e.key ≠ k))).length + 1 := by
    intro l
    induction l with
    | nil => simp
    | cons x t ih =>
      intro h
      rw [List.map_cons, List.nodup_cons] at h
      by_cases hx : x.key = k
      · rw [List.filter_cons_of_neg (by simp [hx])]
        have : t.filter (fun e => decide (e.key ≠ k)) = t := by
          rw [List.filter_eq_self]
          intro y hy
          refine decide_eq_true (fun e => h.1 ?_)
          rw [hx, ← e]
          exact List.mem_map_of_mem hy
        rw [this]; simp
      · rw [List.filter_cons_of_pos (by simp [hx])]
        have := ih h.2
        simp only [List.length_cons]; omega
  have h2 := h1 l hn
  rw [← hf] at h2 ⊢
  have h3 : (l'.filter (fun e => decide (e.key ≠ k))).length = l'.length := by
    have := List.length_filter_le (fun e : On => decide (e.key ≠ k)) l'
    omega
  exact (List.filter_eq_self.2 (List.length_filter_eq_length_iff.1 h3)).symm
theorem IsWheel.few {w : World} {b : Nat} {fp : List Nat} {now seq : Nat} {L : List Ent} (h : IsWheel w b fp now seq L) : L.length ≤ seq ∧ (L.map Ent.key).Nodup ∧ now < 18446744073709551616 ∧ ∀ e ∈ L, now ≤ e.due ∧ e.due < 18446744073709551616 := by
  obtain ⟨m1, m2, la, f, h⟩ := h
  exact ⟨h.few, h.keys, h.nowlt, h.due⟩
theorem Sub.own {fp' fp : List Nat} {w : World} (h : Sub fp' fp w) {v : Value} (h1 : ∀ g, v.ownBlock = some g → g ∉ fp ∧ g < w.heap.size) : ∀ g, v.ownBlock = some g → g ∉ fp' := fun g hg => h.out (h1 g hg).1 (h1 g hg).2

/-- A wheel, and what the document has of it. -/
def WR (w : World) (b : Nat) (fp : List Nat) (now seq : Nat) (L : List Ent) (v : Value) : Prop :=
  IsWheel w b fp now seq L ∧ Ons w v (L.map onE) ∧ ∀ g, v.ownBlock = some g → g ∉ fp ∧ g < w.heap.size
theorem WR.fr0 {w : World} {b : Nat} {fp : List Nat} {now seq : Nat} {L : List Ent} {v : Value} (h : WR w b fp now seq L v) {w' : World} (F : Fr [] w w') : WR w' b fp now seq L v :=
  ⟨h.1.fr0 F, h.2.1.fr F, fun g hg => ⟨(h.2.2 g hg).1, Nat.lt_of_lt_of_le (h.2.2 g hg).2 F.size⟩⟩
/-- Behind a turn of the wheel, and then one of the document's. -/
theorem WR.turn {w w1 w2 : World} {b : Nat} {fp fp' : List Nat} {now seq now' seq' : Nat} {L L' : List Ent} {v v' : Value} {l' : List On} (h : WR w b fp now seq L v) (h1 : IsWheel w1 b fp' now' seq' L') (U : Sub fp' fp w) (F : Fr fp w w1)
    (h2 : Ons w2 v' l') (hl : l' = L'.map onE) (ho : OwnOf w1 w2 v v') (F2 : Fr [] w1 w2) : WR w2 b fp' now' seq' L' v' := by
  subst hl
  refine ⟨h1.fr0 F2, h2, fun g hg => ?_⟩
  have hs := F.size
  have hs2 := F2.size
  rcases ho g hg with h3 | h3
  · have := h.2.2 g h3
    exact ⟨U.out this.1 this.2, by omega⟩
  · exact ⟨fun hm => by have := h1.lt g hm; omega, h3.2⟩

/-- What a deed brings. -/
def DeedTo (k : Int × Int) (kind : Int) (now now' : Nat) (L L' : List Ent) : Prop := now ≤ now' ∧ (kind = 3 → ∀ e, entOf L k = some e → entOf L' k = none → now' = e.due)
/-- What do tells. -/
def DoTo (w : World) (b : Nat) (fp : List Nat) (now seq : Nat) (L : List Ent) (v : Value) (k : Int × Int) (kind : Int) (e : Ending) (w' : World) : Prop :=
  ∃ (v' : Value) (now' seq' : Nat) (L' : List Ent) (fp' : List Nat), e = .returned (.tuple #[.agg #[.int .u64 now', v'], .bool true]) ∧ WR w' b fp' now' seq' L' v' ∧ seq' ≤ seq + 1 ∧ Sub fp' fp w ∧ Fr fp w w' ∧ OwnOf w w' v v' ∧ DeedTo k kind now now' L L'

theorem WR.fr {w : World} {b : Nat} {fp : List Nat} {now seq : Nat} {L : List Ent} {v : Value} (h : WR w b fp now seq L v) {w' : World} {S : List Nat} (F : Fr S w w') (h1 : ∀ x ∈ S, x ∉ fp ∧ v.ownBlock ≠ some x) : WR w' b fp now seq L v :=
  ⟨h.1.fr F (fun x hx => (h1 x hx).1), h.2.1.frB F (fun g hg hm => (h1 g hm).2 hg), fun g hg => ⟨(h.2.2 g hg).1, Nat.lt_of_lt_of_le (h.2.2 g hg).2 F.size⟩⟩
theorem Sub.down {fp' fp : List Nat} {w w0 : World} (h : Sub fp' fp w) (hw : w0.heap.size ≤ w.heap.size) : Sub fp' fp w0 := fun x hx => (h x hx).imp id (fun h => by omega)
theorem do_mk {w wa w5 w6 w6' w7 : World} {b : Nat} {fp fp' : List Nat} {now seq now' seq' : Nat} {L L' : List Ent} {v v' : Value} {l' : List On} {Z : Nat} (h : WR w b fp now seq L v) (Fa : Fr [] w wa) (h5 : IsWheel w5 b fp' now' seq' L') (U5 : Sub fp' fp wa) (F5 : Fr fp wa w5)
    (ho : Ons w6 v' l') (hl : l' = L'.map onE) (hw : OwnOf w5 w6 v v') (F6 : Fr [] w5 w6) (F6' : Fr [] w6 w6') (hz : w.heap.size ≤ Z ∧ Z < wa.heap.size) (FZ : Fr [Z] w6' w7) :
    WR w7 b fp' now' seq' L' v' ∧ Sub fp' fp w ∧ Fr fp w w7 ∧ OwnOf w w7 v v' := by
  have hlt := h.1.lt
  have s5 := F5.size
  refine ⟨(((h.fr0 Fa).turn h5 U5 F5 ho hl hw F6).fr0 F6').fr FZ (fun x hx => ?_), U5.down Fa.size, ?_, fun g hg => ?_⟩
  · simp only [List.mem_singleton] at hx
    subst hx
    refine ⟨fun hm => ?_, fun he => ?_⟩
    · rcases U5 x hm with h1 | h1
      · have := hlt x h1; omega
      · omega
    · rcases hw x he with h1 | h1
      · have := (h.2.2 x h1).2; omega
      · omega
  · have k1 : Fr fp w w5 := (Fa.mono (S' := fp) (by simp)).trans F5
    have k2 : Fr fp w5 w6' := (F6.trans F6').mono (by simp)
    exact (k1.trans k2).trans' FZ (fun x hx => .inr (by simp at hx; omega))
  · have s6 := F6'.size
    have s7 := FZ.size
    have sa := Fa.size
    exact (hw g hg).imp id (fun h => by omega)
theorem IsWheel.headOf {w : World} {b : Nat} {fp : List Nat} {now seq : Nat} {L : List Ent} (h : IsWheel w b fp now seq L) {TO : Nat} (hn : ¬ ∀ e ∈ L, TO < e.due) : ∃ e t, L = e :: t ∧ e.due ≤ TO := by
  obtain ⟨m1, m2, la, f, h⟩ := h
  have hs := h.sorted
  cases L with
  | nil => exact absurd (by simp) hn
  | cons e t =>
    refine ⟨e, t, rfl, ?_⟩
    rcases Nat.lt_or_ge TO e.due with h1 | h1
    · refine absurd (fun x hx => ?_) hn
      rcases List.mem_cons.1 hx with rfl | hx
      · exact h1
      · have := (List.pairwise_cons.1 hs).1 x hx
        unfold Ahead at this
        omega
    · exact h1
theorem entOf_gone {e e0 : Ent} {t : List Ent} {k : Int × Int} (h1 : entOf (e :: t) k = some e0) (h2 : entOf t k = none) : e0 = e := by
  rw [entOf_cons] at h1
  split at h1
  · simpa using h1.symm
  · rw [h2] at h1; cases h1
theorem dcells {w : World} {p : Nat} {x0 x1 x2 x3 : Value} {t : TypeId} {s : Nat × Nat} (h : w.heap[p]? = some (.cells #[x0, x1, x2, x3] t s)) :
    w.cell? ⟨p, 0, none⟩ = some x0 ∧ w.cell? ⟨p, 1, none⟩ = some x1 ∧ w.cell? ⟨p, 2, none⟩ = some x2 ∧ w.cell? ⟨p, 3, none⟩ = some x3 :=
  ⟨by rw [cell_of_block h]; rfl, by rw [cell_of_block h]; rfl, by rw [cell_of_block h]; rfl, by rw [cell_of_block h]; rfl⟩

set_option maxHeartbeats 4000000 in
set_option maxRecDepth 20000 in
theorem do03_spec {w : World} {b : Nat} {fp : List Nat} {now seq : Nat} {L : List Ent} {v : Value} (h : WR w b fp now seq L v) (hs : seq < 50000) (kind k1 k2 : Int) (T : Nat) (hT : T < 18446744073709551616) :
    Calls Try.prog 26 #[.pointer (some ⟨b, 0, none⟩), .agg #[.int .u64 now, v], .agg #[.int .i64 kind, .int .i64 k1, .int .i64 k2, .int .u64 T]] w (DoTo w b fp now seq L v (k1, k2) kind) := by
  have HN := Lib.hid (fun (w' : World) (F : Fr [] w w') => (h.1.fr0 F).nowOf)
  have hnow := h.1.few.2.2.1
  have hLn : (L.map onE).length ≤ 60000 := by rw [List.length_map]; have := h.1.few.1; omega
  have H := Lib.hid h
  have hown : ∀ g, v.ownBlock = some g → g ∉ fp := fun g hg => (h.2.2 g hg).1
  have hfpl := h.1.lt
  have hfp0 : w.heap.size ∉ fp := fun hm => by have := hfpl _ hm; omega
  have hfp1 : w.heap.size + 1 ∉ fp := fun hm => by have := hfpl _ hm; omega
  have hfp2 : w.heap.size + 2 ∉ fp := fun hm => by have := hfpl _ hm; omega
  obtain ⟨ao, cap, rfl, -⟩ := h.2.1
  have HLm := Lib.hid hLn
  rw [List.length_map] at *
  clear hLn
  have F1 : Fr [] (w.alloc (.cells #[.int .u64 now, .slice ao L.length cap] 44)) (((w.alloc (.cells #[.int .u64 now, .slice ao L.length cap] 44)).alloc (.cells #[.int .i64 kind, .int .i64 k1, .int .i64 k2, .int .u64 T] 48)).alloc (.cells #[.int .u64 0, .slice none 0 0] 44)) := (((Fr.refl _ _).alloc _).alloc _)
  have HA := Lib.hid (F1.keep (block_alloc_new w (.cells #[.int .u64 now, .slice ao L.length cap] 44)) (by simp))
  have HD := Lib.hid (((Fr.refl [] _).alloc (.cells #[.int .u64 0, .slice none 0 0] 44)).keep (block_alloc_new (w.alloc (.cells #[.int .u64 now, .slice ao L.length cap] 44)) (.cells #[.int .i64 kind, .int .i64 k1, .int .i64 k2, .int .u64 T] 48)) (by simp))
  have HZ := Lib.hid (block_alloc_new ((w.alloc (.cells #[.int .u64 now, .slice ao L.length cap] 44)).alloc (.cells #[.int .i64 kind, .int .i64 k1, .int .i64 k2, .int .u64 T] 48)) (.cells #[.int .u64 0, .slice none 0 0] 44))
  rw [show ((w.alloc (.cells #[.int .u64 now, .slice ao L.length cap] 44)).alloc (.cells #[.int .i64 kind, .int .i64 k1, .int .i64 k2, .int .u64 T] 48)).heap.size = w.heap.size + 2 by simp] at HZ
  rw [show (w.alloc (.cells #[.int .u64 now, .slice ao L.length cap] 44)).heap.size = w.heap.size + 1 by simp] at HD
  obtain ⟨w3, hw3⟩ : ∃ w3, w3 = (((w.alloc (.cells #[.int .u64 now, .slice ao L.length cap] 44)).alloc (.cells #[.int .i64 kind, .int .i64 k1, .int .i64 k2, .int .u64 T] 48)).alloc (.cells #[.int .u64 0, .slice none 0 0] 44)) := ⟨_, rfl⟩
  have HF3 : Hid (Fr [] w w3) := Lib.hid (by rw [hw3]; exact (((Fr.refl _ _).alloc _).alloc _).alloc _)
  rw [← hw3] at HA HD HZ
  have HW3 := Lib.hid hw3
  have HSP := Lib.hid hfpl
  clear F1 hw3 h hfpl
  obtain ⟨FA, hFA⟩ : ∃ x, x = (now + T) % 18446744073709551616 := ⟨_, rfl⟩
  have hfw : IntKind.u64.wrap ((now : Int) + (T : Int)) = (FA : Int) := by rw [IntKind.wrap_u64]; omega
  have hF64 : FA < 18446744073709551616 := by omega
  clear hFA
  go_enter Try.func26, Try.ntmps26
  go_wp2_with fail
  rw [← HW3.out]
  obtain ⟨y0, y1, y2, y3⟩ := dcells HD.out
  by_cases c4 : kind = 4
  · subst c4
    have HPn := Lib.hid (fun (w' : World) (F : Fr [] w w') (hin : entOf L (k1, k2) = none) => (H.out.1.fr0 F).put_new (k1 := k1) (k2 := k2) hin (due := T) hT hs)
    have HPt := Lib.hid (fun (w' : World) (F : Fr [] w w') (hin : entOf L (k1, k2) ≠ none) => (H.out.1.fr0 F).put_there (k1 := k1) (k2 := k2) hin T)
    go_wp2_with fail
    go_quiet ((go_at_call 22; exact Calls.quiet_of ((HN.out _ (HF3.out.drewN _)).mono (fun e w' h => ⟨h.1, 0, by rw [h.2]; rfl⟩))))
    have HE := Lib.hid (onOf_map L (k1, k2))
    cases hent : entOf L (k1, k2) with
    | none =>
      go_wp2_with fail
      refine (HPn.out _ (HF3.out.drewN _) hent).mono ?_
      rintro r w5 ⟨rfl, e, fp', hk, hdu, hsq, h5, U5, F5⟩
      have HB5 := Lib.hid (And.intro (F5.keep HA.out hfp0) (And.intro (F5.keep HD.out hfp1) (F5.keep HZ.out hfp2)))
      obtain ⟨x0, x1⟩ := two_cells' HB5.out.1
      obtain ⟨y0, y1, y2, y3⟩ := dcells HB5.out.2.1
      have HRf := Lib.hid (refput_spec (H.out.2.1.frB (((HF3.out.drewN _).mono (S' := fp) (by simp)).trans F5) hown) (by rw [List.length_map]; exact HLm.out) now k1 k2 T)
      have HU := Lib.hid (And.intro h5 (And.intro U5 F5))
      have HEn := Lib.hid (show onOf (L.map onE) (k1, k2) = none by rw [HE.out, hent]; rfl)
      have HKe := Lib.hid (show insO ⟨k1, k2, max T now⟩ (L.map onE) = (insE e L).map onE by
        simp only [Ent.key, Prod.mk.injEq] at hk
        rw [insE_on]; unfold onE; rw [hk.1, hk.2, hdu])
      clear h5 U5 F5 hk hdu hsq
      go_wp2_with fail
      refine HRf.out.mono ?_
      rintro r w6 ⟨v', l', r', rfl, ho, hw, F6, -, hl⟩
      obtain ⟨rfl, rfl⟩ := hl HEn.out
      obtain ⟨a6, c6, rfl, -⟩ := id ho
      obtain ⟨z0, z1⟩ := two_cells' (((Fr.refl [] _).alloc (.cells #[.int .u64 now, .slice a6 (insO ⟨k1, k2, max T now⟩ (L.map onE)).length c6] 44)).keep (F6.keep HB5.out.2.2 (by simp)) (by simp))
      have hfz := free_of_block (((Fr.refl [] _).alloc (.cells #[.int .u64 now, .slice a6 (insO ⟨k1, k2, max T now⟩ (L.map onE)).length c6] 44)).keep (F6.keep HB5.out.2.2 (by simp)) (by simp))
      have HF6 := Lib.hid F6
      clear F6 hl
      go_wp2_with fail
      have FZ : Fr [w.heap.size + 2] (w6.alloc (.cells #[.int .u64 now, .slice a6 (insO ⟨k1, k2, max T now⟩ (L.map onE)).length c6] 44)) (((w6.alloc (.cells #[.int .u64 now, .slice a6 (insO ⟨k1, k2, max T now⟩ (L.map onE)).length c6] 44)).setCell ⟨w.heap.size + 2, 0, none⟩ (.int .u64 now)).setCell ⟨w.heap.size + 2, 1, none⟩ (.slice a6 (insO ⟨k1, k2, max T now⟩ (L.map onE)).length c6)) := Fr.setCell (Fr.setCell (Fr.refl _ _) (.inl (by simp)) _) (.inl (by simp)) _
      have hM := do_mk H.out (HF3.out.drewN _) HU.out.1 HU.out.2.1 HU.out.2.2 ho HKe.out hw HF6.out ((Fr.refl _ _).alloc _) ⟨by omega, lt_of_block HZ.out⟩ FZ
      refine bodyPost_ret (v := .tuple #[.agg #[.int .u64 now, .slice a6 (insO ⟨k1, k2, max T now⟩ (L.map onE)).length c6], .bool true]) (by simp [results, Try.results26, go_sem, z0, z1]) rfl ⟨_, now, seq + 1, insE e L, fp', rfl, hM.1, Nat.le_refl _, hM.2.1, hM.2.2.1, hM.2.2.2, Nat.le_refl _, fun h3 => absurd h3 (by decide)⟩
    | some e =>
      go_wp2_with fail
      refine (HPt.out _ (HF3.out.drewN _) (by rw [hent]; simp)).mono ?_
      rintro r w5 ⟨rfl, F5⟩
      have HB5 := Lib.hid (And.intro (F5.keep HA.out (by simp)) (And.intro (F5.keep HD.out (by simp)) (F5.keep HZ.out (by simp))))
      obtain ⟨x0, x1⟩ := two_cells' HB5.out.1
      obtain ⟨y0, y1, y2, y3⟩ := dcells HB5.out.2.1
      have HRf := Lib.hid (refput_spec (H.out.2.1.fr ((HF3.out.drewN _).trans F5)) (by rw [List.length_map]; exact HLm.out) now k1 k2 T)
      have HU := Lib.hid (And.intro (H.out.1.fr0 ((HF3.out.drewN _).trans F5)) F5)
      have HEn := Lib.hid (show onOf (L.map onE) (k1, k2) = some (onE e) by rw [HE.out, hent]; rfl)
      clear F5
      go_wp2_with fail
      refine HRf.out.mono ?_
      rintro r w6 ⟨v', l', r', rfl, ho, hw, F6, hl, -⟩
      obtain ⟨rfl, rfl⟩ := hl _ HEn.out
      obtain ⟨a6, c6, rfl, -⟩ := id ho
      obtain ⟨z0, z1⟩ := two_cells' (((Fr.refl [] _).alloc (.cells #[.int .u64 now, .slice a6 (L.map onE).length c6] 44)).keep (F6.keep HB5.out.2.2 (by simp)) (by simp))
      have hfz := free_of_block (((Fr.refl [] _).alloc (.cells #[.int .u64 now, .slice a6 (L.map onE).length c6] 44)).keep (F6.keep HB5.out.2.2 (by simp)) (by simp))
      have HF6 := Lib.hid F6
      clear F6 hl
      rw [List.length_map] at z1 hfz z0
      rw [List.length_map]
      go_wp2_with fail
      have FZ : Fr [w.heap.size + 2] (w6.alloc (.cells #[.int .u64 now, .slice a6 L.length c6] 44)) (((w6.alloc (.cells #[.int .u64 now, .slice a6 L.length c6] 44)).setCell ⟨w.heap.size + 2, 0, none⟩ (.int .u64 now)).setCell ⟨w.heap.size + 2, 1, none⟩ (.slice a6 L.length c6)) := Fr.setCell (Fr.setCell (Fr.refl _ _) (.inl (by simp)) _) (.inl (by simp)) _
      rw [List.length_map] at ho hw
      have hM := do_mk H.out (HF3.out.drewN _) HU.out.1 (Sub.refl _ _) (HU.out.2.mono (by simp)) ho rfl hw HF6.out ((Fr.refl _ _).alloc _) ⟨by omega, lt_of_block HZ.out⟩ FZ
      refine bodyPost_ret (v := .tuple #[.agg #[.int .u64 now, .slice a6 L.length c6], .bool true]) (by simp [results, Try.results26, go_sem, z0, z1]) rfl ⟨_, now, seq, L, fp, rfl, hM.1, by omega, hM.2.1, hM.2.2.1, hM.2.2.2, Nat.le_refl _, fun h3 => absurd h3 (by decide)⟩
  by_cases c1 : kind = 1
  · subst c1
    by_cases hov : FA < T
    · have hov2 := hov
      have HPn := Lib.hid (fun (w' : World) (F : Fr [] w w') (hin : entOf L (k1, k2) = none) => (H.out.1.fr0 F).put_new (k1 := k1) (k2 := k2) hin (due := T) hT hs)
      have HPt := Lib.hid (fun (w' : World) (F : Fr [] w w') (hin : entOf L (k1, k2) ≠ none) => (H.out.1.fr0 F).put_there (k1 := k1) (k2 := k2) hin T)
      go_wp2_with fail
      go_quiet ((go_at_call 22; exact Calls.quiet_of ((HN.out _ (HF3.out.drewN _)).mono (fun e w' h => ⟨h.1, 0, by rw [h.2]; rfl⟩))))
      have HE := Lib.hid (onOf_map L (k1, k2))
      cases hent : entOf L (k1, k2) with
      | none =>
        go_wp2_with fail
        refine (HPn.out _ (HF3.out.drewN _) hent).mono ?_
        rintro r w5 ⟨rfl, e, fp', hk, hdu, hsq, h5, U5, F5⟩
        have HB5 := Lib.hid (And.intro (F5.keep HA.out hfp0) (And.intro (F5.keep HD.out hfp1) (F5.keep HZ.out hfp2)))
        obtain ⟨x0, x1⟩ := two_cells' HB5.out.1
        obtain ⟨y0, y1, y2, y3⟩ := dcells HB5.out.2.1
        have HRf := Lib.hid (refput_spec (H.out.2.1.frB (((HF3.out.drewN _).mono (S' := fp) (by simp)).trans F5) hown) (by rw [List.length_map]; exact HLm.out) now k1 k2 T)
        have HU := Lib.hid (And.intro h5 (And.intro U5 F5))
        have HEn := Lib.hid (show onOf (L.map onE) (k1, k2) = none by rw [HE.out, hent]; rfl)
        have HKe := Lib.hid (show insO ⟨k1, k2, max T now⟩ (L.map onE) = (insE e L).map onE by
          simp only [Ent.key, Prod.mk.injEq] at hk
          rw [insE_on]; unfold onE; rw [hk.1, hk.2, hdu])
        clear h5 U5 F5 hk hdu hsq
        go_wp2_with fail
        refine HRf.out.mono ?_
        rintro r w6 ⟨v', l', r', rfl, ho, hw, F6, -, hl⟩
        obtain ⟨rfl, rfl⟩ := hl HEn.out
        obtain ⟨a6, c6, rfl, -⟩ := id ho
        obtain ⟨z0, z1⟩ := two_cells' (((Fr.refl [] _).alloc (.cells #[.int .u64 now, .slice a6 (insO ⟨k1, k2, max T now⟩ (L.map onE)).length c6] 44)).keep (F6.keep HB5.out.2.2 (by simp)) (by simp))
        have hfz := free_of_block (((Fr.refl [] _).alloc (.cells #[.int .u64 now, .slice a6 (insO ⟨k1, k2, max T now⟩ (L.map onE)).length c6] 44)).keep (F6.keep HB5.out.2.2 (by simp)) (by simp))
        have HF6 := Lib.hid F6
        clear F6 hl
        go_wp2_with fail
        have FZ : Fr [w.heap.size + 2] (w6.alloc (.cells #[.int .u64 now, .slice a6 (insO ⟨k1, k2, max T now⟩ (L.map onE)).length c6] 44)) (((w6.alloc (.cells #[.int .u64 now, .slice a6 (insO ⟨k1, k2, max T now⟩ (L.map onE)).length c6] 44)).setCell ⟨w.heap.size + 2, 0, none⟩ (.int .u64 now)).setCell ⟨w.heap.size + 2, 1, none⟩ (.slice a6 (insO ⟨k1, k2, max T now⟩ (L.map onE)).length c6)) := Fr.setCell (Fr.setCell (Fr.refl _ _) (.inl (by simp)) _) (.inl (by simp)) _
        have hM := do_mk H.out (HF3.out.drewN _) HU.out.1 HU.out.2.1 HU.out.2.2 ho HKe.out hw HF6.out ((Fr.refl _ _).alloc _) ⟨by omega, lt_of_block HZ.out⟩ FZ
        refine bodyPost_ret (v := .tuple #[.agg #[.int .u64 now, .slice a6 (insO ⟨k1, k2, max T now⟩ (L.map onE)).length c6], .bool true]) (by simp [results, Try.results26, go_sem, z0, z1]) rfl ⟨_, now, seq + 1, insE e L, fp', rfl, hM.1, Nat.le_refl _, hM.2.1, hM.2.2.1, hM.2.2.2, Nat.le_refl _, fun h3 => absurd h3 (by decide)⟩
      | some e =>
        go_wp2_with fail
        refine (HPt.out _ (HF3.out.drewN _) (by rw [hent]; simp)).mono ?_
        rintro r w5 ⟨rfl, F5⟩
        have HB5 := Lib.hid (And.intro (F5.keep HA.out (by simp)) (And.intro (F5.keep HD.out (by simp)) (F5.keep HZ.out (by simp))))
        obtain ⟨x0, x1⟩ := two_cells' HB5.out.1
        obtain ⟨y0, y1, y2, y3⟩ := dcells HB5.out.2.1
        have HRf := Lib.hid (refput_spec (H.out.2.1.fr ((HF3.out.drewN _).trans F5)) (by rw [List.length_map]; exact HLm.out) now k1 k2 T)
        have HU := Lib.hid (And.intro (H.out.1.fr0 ((HF3.out.drewN _).trans F5)) F5)
        have HEn := Lib.hid (show onOf (L.map onE) (k1, k2) = some (onE e) by rw [HE.out, hent]; rfl)
        clear F5
        go_wp2_with fail
        refine HRf.out.mono ?_
        rintro r w6 ⟨v', l', r', rfl, ho, hw, F6, hl, -⟩
        obtain ⟨rfl, rfl⟩ := hl _ HEn.out
        obtain ⟨a6, c6, rfl, -⟩ := id ho
        obtain ⟨z0, z1⟩ := two_cells' (((Fr.refl [] _).alloc (.cells #[.int .u64 now, .slice a6 (L.map onE).length c6] 44)).keep (F6.keep HB5.out.2.2 (by simp)) (by simp))
        have hfz := free_of_block (((Fr.refl [] _).alloc (.cells #[.int .u64 now, .slice a6 (L.map onE).length c6] 44)).keep (F6.keep HB5.out.2.2 (by simp)) (by simp))
        have HF6 := Lib.hid F6
        clear F6 hl
        rw [List.length_map] at z1 hfz z0
        rw [List.length_map]
        go_wp2_with fail
        have FZ : Fr [w.heap.size + 2] (w6.alloc (.cells #[.int .u64 now, .slice a6 L.length c6] 44)) (((w6.alloc (.cells #[.int .u64 now, .slice a6 L.length c6] 44)).setCell ⟨w.heap.size + 2, 0, none⟩ (.int .u64 now)).setCell ⟨w.heap.size + 2, 1, none⟩ (.slice a6 L.length c6)) := Fr.setCell (Fr.setCell (Fr.refl _ _) (.inl (by simp)) _) (.inl (by simp)) _
        rw [List.length_map] at ho hw
        have hM := do_mk H.out (HF3.out.drewN _) HU.out.1 (Sub.refl _ _) (HU.out.2.mono (by simp)) ho rfl hw HF6.out ((Fr.refl _ _).alloc _) ⟨by omega, lt_of_block HZ.out⟩ FZ
        refine bodyPost_ret (v := .tuple #[.agg #[.int .u64 now, .slice a6 L.length c6], .bool true]) (by simp [results, Try.results26, go_sem, z0, z1]) rfl ⟨_, now, seq, L, fp, rfl, hM.1, by omega, hM.2.1, hM.2.2.1, hM.2.2.2, Nat.le_refl _, fun h3 => absurd h3 (by decide)⟩
    · have hov2 := hov
      have HPn := Lib.hid (fun (w' : World) (F : Fr [] w w') (hin : entOf L (k1, k2) = none) => (H.out.1.fr0 F).put_new (k1 := k1) (k2 := k2) hin (due := FA) hF64 hs)
      have HPt := Lib.hid (fun (w' : World) (F : Fr [] w w') (hin : entOf L (k1, k2) ≠ none) => (H.out.1.fr0 F).put_there (k1 := k1) (k2 := k2) hin FA)
      go_wp2_with fail
      go_quiet ((go_at_call 22; exact Calls.quiet_of ((HN.out _ (HF3.out.drewN _)).mono (fun e w' h => ⟨h.1, 0, by rw [h.2]; rfl⟩))))
      have HE := Lib.hid (onOf_map L (k1, k2))
      cases hent : entOf L (k1, k2) with
      | none =>
        go_wp2_with fail
        refine (HPn.out _ (HF3.out.drewN _) hent).mono ?_
        rintro r w5 ⟨rfl, e, fp', hk, hdu, hsq, h5, U5, F5⟩
        have HB5 := Lib.hid (And.intro (F5.keep HA.out hfp0) (And.intro (F5.keep HD.out hfp1) (F5.keep HZ.out hfp2)))
        obtain ⟨x0, x1⟩ := two_cells' HB5.out.1
        obtain ⟨y0, y1, y2, y3⟩ := dcells HB5.out.2.1
        have HRf := Lib.hid (refput_spec (H.out.2.1.frB (((HF3.out.drewN _).mono (S' := fp) (by simp)).trans F5) hown) (by rw [List.length_map]; exact HLm.out) now k1 k2 FA)
        have HU := Lib.hid (And.intro h5 (And.intro U5 F5))
        have HEn := Lib.hid (show onOf (L.map onE) (k1, k2) = none by rw [HE.out, hent]; rfl)
        have HKe := Lib.hid (show insO ⟨k1, k2, max FA now⟩ (L.map onE) = (insE e L).map onE by
          simp only [Ent.key, Prod.mk.injEq] at hk
          rw [insE_on]; unfold onE; rw [hk.1, hk.2, hdu])
        clear h5 U5 F5 hk hdu hsq
        go_wp2_with fail
        refine HRf.out.mono ?_
        rintro r w6 ⟨v', l', r', rfl, ho, hw, F6, -, hl⟩
        obtain ⟨rfl, rfl⟩ := hl HEn.out
        obtain ⟨a6, c6, rfl, -⟩ := id ho
        obtain ⟨z0, z1⟩ := two_cells' (((Fr.refl [] _).alloc (.cells #[.int .u64 now, .slice a6 (insO ⟨k1, k2, max FA now⟩ (L.map onE)).length c6] 44)).keep (F6.keep HB5.out.2.2 (by simp)) (by simp))
        have hfz := free_of_block (((Fr.refl [] _).alloc (.cells #[.int .u64 now, .slice a6 (insO ⟨k1, k2, max FA now⟩ (L.map onE)).length c6] 44)).keep (F6.keep HB5.out.2.2 (by simp)) (by simp))
        have HF6 := Lib.hid F6
        clear F6 hl
        go_wp2_with fail
        have FZ : Fr [w.heap.size + 2] (w6.alloc (.cells #[.int .u64 now, .slice a6 (insO ⟨k1, k2, max FA now⟩ (L.map onE)).length c6] 44)) (((w6.alloc (.cells #[.int .u64 now, .slice a6 (insO ⟨k1, k2, max FA now⟩ (L.map onE)).length c6] 44)).setCell ⟨w.heap.size + 2, 0, none⟩ (.int .u64 now)).setCell ⟨w.heap.size + 2, 1, none⟩ (.slice a6 (insO ⟨k1, k2, max FA now⟩ (L.map onE)).length c6)) := Fr.setCell (Fr.setCell (Fr.refl _ _) (.inl (by simp)) _) (.inl (by simp)) _
        have hM := do_mk H.out (HF3.out.drewN _) HU.out.1 HU.out.2.1 HU.out.2.2 ho HKe.out hw HF6.out ((Fr.refl _ _).alloc _) ⟨by omega, lt_of_block HZ.out⟩ FZ
        refine bodyPost_ret (v := .tuple #[.agg #[.int .u64 now, .slice a6 (insO ⟨k1, k2, max FA now⟩ (L.map onE)).length c6], .bool true]) (by simp [results, Try.results26, go_sem, z0, z1]) rfl ⟨_, now, seq + 1, insE e L, fp', rfl, hM.1, Nat.le_refl _, hM.2.1, hM.2.2.1, hM.2.2.2, Nat.le_refl _, fun h3 => absurd h3 (by decide)⟩
      | some e =>
        go_wp2_with fail
        refine (HPt.out _ (HF3.out.drewN _) (by rw [hent]; simp)).mono ?_
        rintro r w5 ⟨rfl, F5⟩
        have HB5 := Lib.hid (And.intro (F5.keep HA.out (by simp)) (And.intro (F5.keep HD.out (by simp)) (F5.keep HZ.out (by simp))))
        obtain ⟨x0, x1⟩ := two_cells' HB5.out.1
        obtain ⟨y0, y1, y2, y3⟩ := dcells HB5.out.2.1
        have HRf := Lib.hid (refput_spec (H.out.2.1.fr ((HF3.out.drewN _).trans F5)) (by rw [List.length_map]; exact HLm.out) now k1 k2 FA)
        have HU := Lib.hid (And.intro (H.out.1.fr0 ((HF3.out.drewN _).trans F5)) F5)
        have HEn := Lib.hid (show onOf (L.map onE) (k1, k2) = some (onE e) by rw [HE.out, hent]; rfl)
        clear F5
        go_wp2_with fail
        refine HRf.out.mono ?_
        rintro r w6 ⟨v', l', r', rfl, ho, hw, F6, hl, -⟩
        obtain ⟨rfl, rfl⟩ := hl _ HEn.out
        obtain ⟨a6, c6, rfl, -⟩ := id ho
        obtain ⟨z0, z1⟩ := two_cells' (((Fr.refl [] _).alloc (.cells #[.int .u64 now, .slice a6 (L.map onE).length c6] 44)).keep (F6.keep HB5.out.2.2 (by simp)) (by simp))
        have hfz := free_of_block (((Fr.refl [] _).alloc (.cells #[.int .u64 now, .slice a6 (L.map onE).length c6] 44)).keep (F6.keep HB5.out.2.2 (by simp)) (by simp))
        have HF6 := Lib.hid F6
        clear F6 hl
        rw [List.length_map] at z1 hfz z0
        rw [List.length_map]
        go_wp2_with fail
        have FZ : Fr [w.heap.size + 2] (w6.alloc (.cells #[.int .u64 now, .slice a6 L.length c6] 44)) (((w6.alloc (.cells #[.int .u64 now, .slice a6 L.length c6] 44)).setCell ⟨w.heap.size + 2, 0, none⟩ (.int .u64 now)).setCell ⟨w.heap.size + 2, 1, none⟩ (.slice a6 L.length c6)) := Fr.setCell (Fr.setCell (Fr.refl _ _) (.inl (by simp)) _) (.inl (by simp)) _
        rw [List.length_map] at ho hw
        have hM := do_mk H.out (HF3.out.drewN _) HU.out.1 (Sub.refl _ _) (HU.out.2.mono (by simp)) ho rfl hw HF6.out ((Fr.refl _ _).alloc _) ⟨by omega, lt_of_block HZ.out⟩ FZ
        refine bodyPost_ret (v := .tuple #[.agg #[.int .u64 now, .slice a6 L.length c6], .bool true]) (by simp [results, Try.results26, go_sem, z0, z1]) rfl ⟨_, now, seq, L, fp, rfl, hM.1, by omega, hM.2.1, hM.2.2.1, hM.2.2.2, Nat.le_refl _, fun h3 => absurd h3 (by decide)⟩
  by_cases c2 : kind = 2
  · subst c2
    have HCy := Lib.hid (fun (w' : World) (F : Fr [] w w') (e : Ent) (hin : entOf L (k1, k2) = some e) => (H.out.1.fr0 F).cancel_yes (k1 := k1) (k2 := k2) hin (by omega))
    have HCn := Lib.hid (fun (w' : World) (F : Fr [] w w') (hin : entOf L (k1, k2) = none) => (H.out.1.fr0 F).cancel_no (k1 := k1) (k2 := k2) hin)
    go_wp2_with fail
    go_quiet ((go_at_call 22; exact Calls.quiet_of ((HN.out _ (HF3.out.drewN _)).mono (fun e w' h => ⟨h.1, 0, by rw [h.2]; rfl⟩))))
    have HE := Lib.hid (onOf_map L (k1, k2))
    cases hent : entOf L (k1, k2) with
    | none =>
      go_wp2_with fail
      refine (HCn.out _ (HF3.out.drewN _) hent).mono ?_
      rintro r w5 ⟨rfl, F5⟩
      have HB5 := Lib.hid (And.intro (F5.keep HA.out (by simp)) (And.intro (F5.keep HD.out (by simp)) (F5.keep HZ.out (by simp))))
      obtain ⟨x0, x1⟩ := two_cells' HB5.out.1
      obtain ⟨y0, y1, y2, y3⟩ := dcells HB5.out.2.1
      have HRf := Lib.hid (refcancel_spec (H.out.2.1.fr ((HF3.out.drewN _).trans F5)) (by rw [List.length_map]; exact HLm.out) now k1 k2)
      have HU := Lib.hid (And.intro (H.out.1.fr0 ((HF3.out.drewN _).trans F5)) F5)
      have hEn : onOf (L.map onE) (k1, k2) = none := by rw [HE.out, hent]; rfl
      rw [hEn] at HRf
      simp only [Option.isSome_none] at HRf
      clear F5 hEn
      go_wp2_with fail
      refine HRf.out.mono ?_
      rintro r w6 ⟨v', l', rfl, ho, hw, F6, hl, -⟩
      obtain rfl := hl (by trivial)
      obtain ⟨a6, c6, rfl, -⟩ := id ho
      rw [List.length_map] at ho hw
      rw [List.length_map]
      obtain ⟨z0, z1⟩ := two_cells' (((Fr.refl [] _).alloc (.cells #[.int .u64 now, .slice a6 L.length c6] 44)).keep (F6.keep HB5.out.2.2 (by simp)) (by simp))
      have hfz := free_of_block (((Fr.refl [] _).alloc (.cells #[.int .u64 now, .slice a6 L.length c6] 44)).keep (F6.keep HB5.out.2.2 (by simp)) (by simp))
      have HF6 := Lib.hid F6
      clear F6 hl
      go_wp2_with fail
      have FZ : Fr [w.heap.size + 2] (w6.alloc (.cells #[.int .u64 now, .slice a6 L.length c6] 44)) (((w6.alloc (.cells #[.int .u64 now, .slice a6 L.length c6] 44)).setCell ⟨w.heap.size + 2, 0, none⟩ (.int .u64 now)).setCell ⟨w.heap.size + 2, 1, none⟩ (.slice a6 L.length c6)) := Fr.setCell (Fr.setCell (Fr.refl _ _) (.inl (by simp)) _) (.inl (by simp)) _
      have hM := do_mk H.out (HF3.out.drewN _) HU.out.1 (Sub.refl _ _) (HU.out.2.mono (by simp)) ho rfl hw HF6.out ((Fr.refl _ _).alloc _) ⟨by omega, lt_of_block HZ.out⟩ FZ
      refine bodyPost_ret (v := .tuple #[.agg #[.int .u64 now, .slice a6 L.length c6], .bool true]) (by simp [results, Try.results26, go_sem, z0, z1]) rfl ⟨_, now, seq, L, fp, rfl, hM.1, by omega, hM.2.1, hM.2.2.1, hM.2.2.2, Nat.le_refl _, fun h3 => absurd h3 (by decide)⟩
    | some e =>
      go_wp2_with fail
      refine (HCy.out _ (HF3.out.drewN _) e hent).mono ?_
      rintro r w5 ⟨rfl, h5, F5, -⟩
      have HB5 := Lib.hid (And.intro (F5.keep HA.out hfp0) (And.intro (F5.keep HD.out hfp1) (F5.keep HZ.out hfp2)))
      obtain ⟨x0, x1⟩ := two_cells' HB5.out.1
      obtain ⟨y0, y1, y2, y3⟩ := dcells HB5.out.2.1
      have HRf := Lib.hid (refcancel_spec (H.out.2.1.frB (((HF3.out.drewN _).mono (S' := fp) (by simp)).trans F5) hown) (by rw [List.length_map]; exact HLm.out) now k1 k2)
      have HU := Lib.hid (And.intro h5 F5)
      have hEn : onOf (L.map onE) (k1, k2) = some (onE e) := by rw [HE.out, hent]; rfl
      rw [hEn] at HRf
      simp only [Option.isSome_some] at HRf
      have HKn := Lib.hid (show ((L.map onE).map On.key).Nodup by rw [List.map_map]; exact H.out.1.few.2.1)
      clear h5 F5 hEn
      go_wp2_with fail
      refine HRf.out.mono ?_
      rintro r w6 ⟨v', l', rfl, ho, hw, F6, -, hl⟩
      have hl' : l' = (withoutE (k1, k2) L).map onE := by
        rw [without_on]
        exact filter_one HKn.out (hl _ rfl).1 (hl _ rfl).2
      obtain ⟨a6, c6, rfl, -⟩ := id ho
      obtain ⟨z0, z1⟩ := two_cells' (((Fr.refl [] _).alloc (.cells #[.int .u64 now, .slice a6 l'.length c6] 44)).keep (F6.keep HB5.out.2.2 (by simp)) (by simp))
      have hfz := free_of_block (((Fr.refl [] _).alloc (.cells #[.int .u64 now, .slice a6 l'.length c6] 44)).keep (F6.keep HB5.out.2.2 (by simp)) (by simp))
      have HF6 := Lib.hid F6
      have HL := Lib.hid hl'
      clear F6 hl hl'
      go_wp2_with fail
      have FZ : Fr [w.heap.size + 2] (w6.alloc (.cells #[.int .u64 now, .slice a6 l'.length c6] 44)) (((w6.alloc (.cells #[.int .u64 now, .slice a6 l'.length c6] 44)).setCell ⟨w.heap.size + 2, 0, none⟩ (.int .u64 now)).setCell ⟨w.heap.size + 2, 1, none⟩ (.slice a6 l'.length c6)) := Fr.setCell (Fr.setCell (Fr.refl _ _) (.inl (by simp)) _) (.inl (by simp)) _
      have hM := do_mk H.out (HF3.out.drewN _) HU.out.1 (Sub.refl _ _) HU.out.2 ho HL.out hw HF6.out ((Fr.refl _ _).alloc _) ⟨by omega, lt_of_block HZ.out⟩ FZ
      refine bodyPost_ret (v := .tuple #[.agg #[.int .u64 now, .slice a6 l'.length c6], .bool true]) (by simp [results, Try.results26, go_sem, z0, z1]) rfl ⟨_, now, seq, withoutE (k1, k2) L, fp, rfl, hM.1, by omega, hM.2.1, hM.2.2.1, hM.2.2.2, Nat.le_refl _, fun h3 => absurd h3 (by decide)⟩
  have hk1 : (kind == 1) = false := by simpa using c1
  have hk2 : (kind == 2) = false := by simpa using c2
  have hk4 : (kind == 4) = false := by simpa using c4
  by_cases hov : FA < T
  · go_wp2_with fail
    go_quiet ((go_at_call 22; exact Calls.quiet_of ((HN.out _ (HF3.out.drewN _)).mono (fun e w' h => ⟨h.1, 0, by rw [h.2]; rfl⟩))))
    go_wp2_with fail
    obtain ⟨TO, hTO, hTO2⟩ : ∃ TO : Nat, (18446744073709551615 : Int) = (TO : Int) ∧ TO < 18446744073709551616 := ⟨18446744073709551615, rfl, by omega⟩
    rw [hTO]
    clear hTO
    by_cases hno : ∀ e ∈ L, TO < e.due
    · have HRx := Lib.hid (fun (w' : World) (F : Fr fp w w') => refstep_no (H.out.2.1.frB F hown) now TO (fun e he => by
        obtain ⟨x, hx, rfl⟩ := List.mem_map.1 he
        exact hno x hx))
      refine ((H.out.1.fr0 (HF3.out.drewN _)).step_no (by omega) (to := TO) hTO2 hno).mono ?_
      rintro r w5 ⟨rfl, fp', h5, U5, F5⟩
      have hle : now ≤ max now TO := Nat.le_max_left _ _
      generalize max now TO = NW at *
      have FK := (Fr.refl [] w5).alloc (.cells #[.int .i64 0, .int .i64 0] 31)
      have HB5 := Lib.hid (And.intro (FK.keep (F5.keep HA.out hfp0) (by simp)) (And.intro (FK.keep (F5.keep HD.out hfp1) (by simp)) (FK.keep (F5.keep HZ.out hfp2) (by simp))))
      obtain ⟨x0, x1⟩ := two_cells' HB5.out.1
      obtain ⟨y0, y1, y2, y3⟩ := dcells HB5.out.2.1
      have HK5 := Lib.hid (block_alloc_new w5 (.cells #[.int .i64 0, .int .i64 0] 31))
      have HF5 := Lib.hid (((HF3.out.drewN _).mono (S' := fp) (by simp)).trans F5 |>.trans (FK.mono (by simp)))
      have HU := Lib.hid (And.intro h5 (And.intro U5 F5))
      have HRf := Lib.hid (HRx.out _ HF5.out)
      clear h5 U5 F5 FK HRx
      go_wp2_with fail
      refine HRf.out.mono ?_
      rintro r w6 ⟨rfl, F6⟩
      go_wp2_with fail
      have HHY := Lib.hid (H.out.2.1.frB HF5.out hown |>.fr F6)
      have FK6 := ((Fr.refl [] w5).alloc (.cells #[.int .i64 0, .int .i64 0] 31)).trans F6
      obtain ⟨w7, hw7⟩ : ∃ w7, w7 = (w6.alloc (.cells #[.int .u64 NW, .slice ao L.length cap] 44)).alloc (.cells #[.int .i64 0, .int .i64 0] 31) := ⟨_, rfl⟩
      have F7 : Fr [] w6 w7 := hw7 ▸ (((Fr.refl [] _).alloc _).alloc _)
      have HY7 : w7.heap[w6.heap.size]? = some (.cells #[.int .u64 NW, .slice ao L.length cap] 44) := hw7 ▸ (((Fr.refl [] _).alloc _).keep (block_alloc_new w6 _) (by simp))
      have HM7 : w7.heap[w6.heap.size + 1]? = some (.cells #[.int .i64 0, .int .i64 0] 31) := by
        have := block_alloc_new (w6.alloc (.cells #[.int .u64 NW, .slice ao L.length cap] 44)) (.cells #[.int .i64 0, .int .i64 0] 31)
        rw [← hw7] at this
        simpa using this
      obtain ⟨y0, y1⟩ := two_cells' HY7
      obtain ⟨m0, m1⟩ := two_cells' HM7
      obtain ⟨k0, k1⟩ := two_cells' (F7.keep (F6.keep HK5.out (by simp)) (by simp))
      have HZ7 := Lib.hid (F7.keep (F6.keep HB5.out.2.2 (by simp)) (by simp))
      have HFs := Lib.hid (And.intro FK6 F7)
      clear F6 F7 FK6 HY7 HM7
      rw [← hw7]
      clear hw7
      obtain ⟨z0, z1⟩ := two_cells' HZ7.out
      have hfz := free_of_block HZ7.out
      go_wp2_with fail
      go_region
      go_wp2_with fail
      have FZ : Fr [w.heap.size + 2] w7.drew ((w7.drew.setCell ⟨w.heap.size + 2, 0, none⟩ (.int .u64 NW)).setCell ⟨w.heap.size + 2, 1, none⟩ (.slice ao L.length cap)) := Fr.setCell (Fr.setCell (Fr.refl _ _) (.inl (by simp)) _) (.inl (by simp)) _
      have hM := do_mk H.out (HF3.out.drewN nq) HU.out.1 HU.out.2.1 HU.out.2.2 HHY.out rfl (fun g hg => .inl hg) HFs.out.1 HFs.out.2.drew ⟨by omega, lt_of_block HZ.out⟩ FZ
      refine bodyPost_ret (v := .tuple #[.agg #[.int .u64 NW, .slice ao L.length cap], .bool true]) (by simp [results, Try.results26, go_sem, z0, z1]) rfl ⟨_, NW, seq, L, fp', rfl, hM.1, by omega, hM.2.1, hM.2.2.1, hM.2.2.2, hle, fun _ e h1 h2 => by rw [h1] at h2; cases h2⟩
    · obtain ⟨e, t, rfl, hyes⟩ := H.out.1.headOf hno
      have hdue := H.out.1.few.2.2.2 e (by simp)
      have hlen : t.length ≤ 60000 := by have := HLm.out; simp at this; omega
      have HRx := Lib.hid (fun (w' : World) (F : Fr fp w w') => refstep_yes (e := onE e) (l := t.map onE) (H.out.2.1.frB F hown) (by rw [List.length_map]; exact hlen) now TO hyes)
      refine ((H.out.1.fr0 (HF3.out.drewN _)).step_yes (by omega) (to := TO) hyes).mono ?_
      rintro r w5 ⟨rfl, fp', h5, U5, F5⟩
      have FK := (Fr.refl [] w5).alloc (.cells #[.int .i64 e.kind, .int .i64 e.id] 31)
      have HB5 := Lib.hid (And.intro (FK.keep (F5.keep HA.out hfp0) (by simp)) (And.intro (FK.keep (F5.keep HD.out hfp1) (by simp)) (FK.keep (F5.keep HZ.out hfp2) (by simp))))
      obtain ⟨x0, x1⟩ := two_cells' HB5.out.1
      obtain ⟨y0, y1, y2, y3⟩ := dcells HB5.out.2.1
      have HK5 := Lib.hid (block_alloc_new w5 (.cells #[.int .i64 e.kind, .int .i64 e.id] 31))
      have HF5 := Lib.hid (((HF3.out.drewN _).mono (S' := fp) (by simp)).trans F5 |>.trans (FK.mono (by simp)))
      have HU := Lib.hid (And.intro h5 (And.intro U5 F5))
      have HRf := Lib.hid (HRx.out _ HF5.out)
      clear h5 U5 F5 FK HRx
      go_wp2_with fail
      refine HRf.out.mono ?_
      rintro r w6 ⟨v', rfl, ho, hw, F6⟩
      obtain ⟨a6, c6, rfl, -⟩ := id ho
      rw [List.length_map] at ho hw
      rw [List.length_map]
      go_wp2_with fail
      have HHY := Lib.hid (And.intro ho hw)
      have FK6 := ((Fr.refl [] w5).alloc (.cells #[.int .i64 e.kind, .int .i64 e.id] 31)).trans F6
      obtain ⟨w7, hw7⟩ : ∃ w7, w7 = (w6.alloc (.cells #[.int .u64 e.due, .slice a6 t.length c6] 44)).alloc (.cells #[.int .i64 e.kind, .int .i64 e.id] 31) := ⟨_, rfl⟩
      have F7 : Fr [] w6 w7 := hw7 ▸ (((Fr.refl [] _).alloc _).alloc _)
      have HY7 : w7.heap[w6.heap.size]? = some (.cells #[.int .u64 e.due, .slice a6 t.length c6] 44) := hw7 ▸ (((Fr.refl [] _).alloc _).keep (block_alloc_new w6 _) (by simp))
      have HM7 : w7.heap[w6.heap.size + 1]? = some (.cells #[.int .i64 e.kind, .int .i64 e.id] 31) := by
        have := block_alloc_new (w6.alloc (.cells #[.int .u64 e.due, .slice a6 t.length c6] 44)) (.cells #[.int .i64 e.kind, .int .i64 e.id] 31)
        rw [← hw7] at this
        simpa using this
      obtain ⟨y0, y1⟩ := two_cells' HY7
      obtain ⟨m0, m1⟩ := two_cells' HM7
      obtain ⟨k0, k1⟩ := two_cells' (F7.keep (F6.keep HK5.out (by simp)) (by simp))
      have HZ7 := Lib.hid (F7.keep (F6.keep HB5.out.2.2 (by simp)) (by simp))
      have HFs := Lib.hid (And.intro FK6 F7)
      clear F6 F7 FK6 HY7 HM7 ho hw
      simp only [onE]
      rw [← hw7]
      clear hw7
      obtain ⟨z0, z1⟩ := two_cells' HZ7.out
      have hfz := free_of_block HZ7.out
      go_wp2_with fail
      go_region
      go_wp2_with fail
      have FZ : Fr [w.heap.size + 2] w7.drew ((w7.drew.setCell ⟨w.heap.size + 2, 0, none⟩ (.int .u64 e.due)).setCell ⟨w.heap.size + 2, 1, none⟩ (.slice a6 t.length c6)) := Fr.setCell (Fr.setCell (Fr.refl _ _) (.inl (by simp)) _) (.inl (by simp)) _
      have hM := do_mk H.out (HF3.out.drewN nq) HU.out.1 HU.out.2.1 HU.out.2.2 HHY.out.1 rfl (fun g hg => (HHY.out.2 g hg).imp id (fun h => by have := HFs.out.1.size; simp at h; omega)) HFs.out.1 HFs.out.2.drew ⟨by omega, lt_of_block HZ.out⟩ FZ
      refine bodyPost_ret (v := .tuple #[.agg #[.int .u64 e.due, .slice a6 t.length c6], .bool true]) (by simp [results, Try.results26, go_sem, z0, z1]) rfl ⟨_, e.due, seq, t, fp', rfl, hM.1, by omega, hM.2.1, hM.2.2.1, hM.2.2.2, hdue.1, fun _ e0 h1 h2 => by rw [entOf_gone h1 h2]⟩
  · go_wp2_with fail
    go_quiet ((go_at_call 22; exact Calls.quiet_of ((HN.out _ (HF3.out.drewN _)).mono (fun e w' h => ⟨h.1, 0, by rw [h.2]; rfl⟩))))
    go_wp2_with fail
    have hTO2 := hF64
    clear hF64
    generalize FA = TO at *
    by_cases hno : ∀ e ∈ L, TO < e.due
    · have HRx := Lib.hid (fun (w' : World) (F : Fr fp w w') => refstep_no (H.out.2.1.frB F hown) now TO (fun e he => by
        obtain ⟨x, hx, rfl⟩ := List.mem_map.1 he
        exact hno x hx))
      refine ((H.out.1.fr0 (HF3.out.drewN _)).step_no (by omega) (to := TO) hTO2 hno).mono ?_
      rintro r w5 ⟨rfl, fp', h5, U5, F5⟩
      have hle : now ≤ max now TO := Nat.le_max_left _ _
      generalize max now TO = NW at *
      have FK := (Fr.refl [] w5).alloc (.cells #[.int .i64 0, .int .i64 0] 31)
      have HB5 := Lib.hid (And.intro (FK.keep (F5.keep HA.out hfp0) (by simp)) (And.intro (FK.keep (F5.keep HD.out hfp1) (by simp)) (FK.keep (F5.keep HZ.out hfp2) (by simp))))
      obtain ⟨x0, x1⟩ := two_cells' HB5.out.1
      obtain ⟨y0, y1, y2, y3⟩ := dcells HB5.out.2.1
      have HK5 := Lib.hid (block_alloc_new w5 (.cells #[.int .i64 0, .int .i64 0] 31))
      have HF5 := Lib.hid (((HF3.out.drewN _).mono (S' := fp) (by simp)).trans F5 |>.trans (FK.mono (by simp)))
      have HU := Lib.hid (And.intro h5 (And.intro U5 F5))
      have HRf := Lib.hid (HRx.out _ HF5.out)
      clear h5 U5 F5 FK HRx
      go_wp2_with fail
      refine HRf.out.mono ?_
      rintro r w6 ⟨rfl, F6⟩
      go_wp2_with fail
      have HHY := Lib.hid (H.out.2.1.frB HF5.out hown |>.fr F6)
      have FK6 := ((Fr.refl [] w5).alloc (.cells #[.int .i64 0, .int .i64 0] 31)).trans F6
      obtain ⟨w7, hw7⟩ : ∃ w7, w7 = (w6.alloc (.cells #[.int .u64 NW, .slice ao L.length cap] 44)).alloc (.cells #[.int .i64 0, .int .i64 0] 31) := ⟨_, rfl⟩
      have F7 : Fr [] w6 w7 := hw7 ▸ (((Fr.refl [] _).alloc _).alloc _)
      have HY7 : w7.heap[w6.heap.size]? = some (.cells #[.int .u64 NW, .slice ao L.length cap] 44) := hw7 ▸ (((Fr.refl [] _).alloc _).keep (block_alloc_new w6 _) (by simp))
      have HM7 : w7.heap[w6.heap.size + 1]? = some (.cells #[.int .i64 0, .int .i64 0] 31) := by
        have := block_alloc_new (w6.alloc (.cells #[.int .u64 NW, .slice ao L.length cap] 44)) (.cells #[.int .i64 0, .int .i64 0] 31)
        rw [← hw7] at this
        simpa using this
      obtain ⟨y0, y1⟩ := two_cells' HY7
      obtain ⟨m0, m1⟩ := two_cells' HM7
      obtain ⟨k0, k1⟩ := two_cells' (F7.keep (F6.keep HK5.out (by simp)) (by simp))
      have HZ7 := Lib.hid (F7.keep (F6.keep HB5.out.2.2 (by simp)) (by simp))
      have HFs := Lib.hid (And.intro FK6 F7)
      clear F6 F7 FK6 HY7 HM7
      rw [← hw7]
      clear hw7
      obtain ⟨z0, z1⟩ := two_cells' HZ7.out
      have hfz := free_of_block HZ7.out
      go_wp2_with fail
      go_region
      go_wp2_with fail
      have FZ : Fr [w.heap.size + 2] w7.drew ((w7.drew.setCell ⟨w.heap.size + 2, 0, none⟩ (.int .u64 NW)).setCell ⟨w.heap.size + 2, 1, none⟩ (.slice ao L.length cap)) := Fr.setCell (Fr.setCell (Fr.refl _ _) (.inl (by simp)) _) (.inl (by simp)) _
      have hM := do_mk H.out (HF3.out.drewN nq) HU.out.1 HU.out.2.1 HU.out.2.2 HHY.out rfl (fun g hg => .inl hg) HFs.out.1 HFs.out.2.drew ⟨by omega, lt_of_block HZ.out⟩ FZ
      refine bodyPost_ret (v := .tuple #[.agg #[.int .u64 NW, .slice ao L.length cap], .bool true]) (by simp [results, Try.results26, go_sem, z0, z1]) rfl ⟨_, NW, seq, L, fp', rfl, hM.1, by omega, hM.2.1, hM.2.2.1, hM.2.2.2, hle, fun _ e h1 h2 => by rw [h1] at h2; cases h2⟩
    · obtain ⟨e, t, rfl, hyes⟩ := H.out.1.headOf hno
      have hdue := H.out.1.few.2.2.2 e (by simp)
      have hlen : t.length ≤ 60000 := by have := HLm.out; simp at this; omega
      have HRx := Lib.hid (fun (w' : World) (F : Fr fp w w') => refstep_yes (e := onE e) (l := t.map onE) (H.out.2.1.frB F hown) (by rw [List.length_map]; exact hlen) now TO hyes)
      refine ((H.out.1.fr0 (HF3.out.drewN _)).step_yes (by omega) (to := TO) hyes).mono ?_
      rintro r w5 ⟨rfl, fp', h5, U5, F5⟩
      have FK := (Fr.refl [] w5).alloc (.cells #[.int .i64 e.kind, .int .i64 e.id] 31)
      have HB5 := Lib.hid (And.intro (FK.keep (F5.keep HA.out hfp0) (by simp)) (And.intro (FK.keep (F5.keep HD.out hfp1) (by simp)) (FK.keep (F5.keep HZ.out hfp2) (by simp))))
      obtain ⟨x0, x1⟩ := two_cells' HB5.out.1
      obtain ⟨y0, y1, y2, y3⟩ := dcells HB5.out.2.1
      have HK5 := Lib.hid (block_alloc_new w5 (.cells #[.int .i64 e.kind, .int .i64 e.id] 31))
      have HF5 := Lib.hid (((HF3.out.drewN _).mono (S' := fp) (by simp)).trans F5 |>.trans (FK.mono (by simp)))
      have HU := Lib.hid (And.intro h5 (And.intro U5 F5))
      have HRf := Lib.hid (HRx.out _ HF5.out)
      clear h5 U5 F5 FK HRx
      go_wp2_with fail
      refine HRf.out.mono ?_
      rintro r w6 ⟨v', rfl, ho, hw, F6⟩
      obtain ⟨a6, c6, rfl, -⟩ := id ho
      rw [List.length_map] at ho hw
      rw [List.length_map]
      go_wp2_with fail
      have HHY := Lib.hid (And.intro ho hw)
      have FK6 := ((Fr.refl [] w5).alloc (.cells #[.int .i64 e.kind, .int .i64 e.id] 31)).trans F6
      obtain ⟨w7, hw7⟩ : ∃ w7, w7 = (w6.alloc (.cells #[.int .u64 e.due, .slice a6 t.length c6] 44)).alloc (.cells #[.int .i64 e.kind, .int .i64 e.id] 31) := ⟨_, rfl⟩
      have F7 : Fr [] w6 w7 := hw7 ▸ (((Fr.refl [] _).alloc _).alloc _)
      have HY7 : w7.heap[w6.heap.size]? = some (.cells #[.int .u64 e.due, .slice a6 t.length c6] 44) := hw7 ▸ (((Fr.refl [] _).alloc _).keep (block_alloc_new w6 _) (by simp))
      have HM7 : w7.heap[w6.heap.size + 1]? = some (.cells #[.int .i64 e.kind, .int .i64 e.id] 31) := by
        have := block_alloc_new (w6.alloc (.cells #[.int .u64 e.due, .slice a6 t.length c6] 44)) (.cells #[.int .i64 e.kind, .int .i64 e.id] 31)
        rw [← hw7] at this
        simpa using this
      obtain ⟨y0, y1⟩ := two_cells' HY7
      obtain ⟨m0, m1⟩ := two_cells' HM7
      obtain ⟨k0, k1⟩ := two_cells' (F7.keep (F6.keep HK5.out (by simp)) (by simp))
      have HZ7 := Lib.hid (F7.keep (F6.keep HB5.out.2.2 (by simp)) (by simp))
      have HFs := Lib.hid (And.intro FK6 F7)
      clear F6 F7 FK6 HY7 HM7 ho hw
      simp only [onE]
      rw [← hw7]
      clear hw7
      obtain ⟨z0, z1⟩ := two_cells' HZ7.out
      have hfz := free_of_block HZ7.out
      go_wp2_with fail
      go_region
      go_wp2_with fail
      have FZ : Fr [w.heap.size + 2] w7.drew ((w7.drew.setCell ⟨w.heap.size + 2, 0, none⟩ (.int .u64 e.due)).setCell ⟨w.heap.size + 2, 1, none⟩ (.slice a6 t.length c6)) := Fr.setCell (Fr.setCell (Fr.refl _ _) (.inl (by simp)) _) (.inl (by simp)) _
      have hM := do_mk H.out (HF3.out.drewN nq) HU.out.1 HU.out.2.1 HU.out.2.2 HHY.out.1 rfl (fun g hg => (HHY.out.2 g hg).imp id (fun h => by have := HFs.out.1.size; simp at h; omega)) HFs.out.1 HFs.out.2.drew ⟨by omega, lt_of_block HZ.out⟩ FZ
      refine bodyPost_ret (v := .tuple #[.agg #[.int .u64 e.due, .slice a6 t.length c6], .bool true]) (by simp [results, Try.results26, go_sem, z0, z1]) rfl ⟨_, e.due, seq, t, fp', rfl, hM.1, by omega, hM.2.1, hM.2.2.1, hM.2.2.2, hdue.1, fun _ e0 h1 h2 => by rw [entOf_gone h1 h2]⟩
end Go.Proofs.Ytibnhfnidgfenaa
