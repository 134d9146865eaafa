/-
  Step, when somebody is due.
-/
import Derived.Test.YtibnhfnidgfenaaWheel18
namespace Go.Proofs.Ytibnhfnidgfenaa
open Go.RowKit

variable {w : World} {b : Nat} {fp : List Nat} {now seq : Nat} {L : List Ent}

theorem without_head {e : Ent} {t : List Ent} (hk : ((e :: t).map Ent.key).Nodup) : withoutE e.key (e :: t) = t := by
  rw [List.map_cons, List.nodup_cons] at hk
  unfold withoutE
  rw [List.filter_cons_of_neg (by simp), List.filter_eq_self]
  intro x hx
  refine decide_eq_true (fun h => hk.1 ?_)
  rw [← h]
  exact List.mem_map_of_mem hx

set_option maxHeartbeats 4000000 in
set_option maxRecDepth 20000 in
theorem IsWheel.step_yes {e : Ent} {t : List Ent} (h : IsWheel w b fp now seq (e :: t)) (hsq : seq ≤ 50000) {to : Nat} (hyes : e.due ≤ to) :
    Calls Try.prog 21 #[.pointer (some ⟨b, 0, none⟩), .int .u64 to] w fun r w' => r = .returned (.tuple #[.agg #[.int .i64 e.kind, .int .i64 e.id], .bool true]) ∧ StepTo w b fp e.due seq t w' := by
  obtain ⟨m1, m2, la, f, h⟩ := h
  have F0 : Fr [] w (w.alloc (.cells #[.int .i64 0, .int .i64 0] 31)) := (Fr.refl _ _).alloc _
  have h0 : WInv (w.alloc (.cells #[.int .i64 0, .int .i64 0] 31)) b m1 m2 fp now seq (e :: t) la f := { h with core := h.core.fr0 F0 }
  have HN := Lib.hid (h0.next (by omega))
  have hde := h.due e (by simp)
  have hle : ∀ x ∈ e :: t, e.due ≤ x.due := fun x hx => by
    rcases List.mem_cons.1 hx with h1 | h1
    · rw [h1]; exact Nat.le_refl _
    · have := (List.pairwise_cons.1 h.sorted).1 x h1
      unfold Ahead at this
      omega
  have HMv := Lib.hid (fun (w' : World) (F : Fr [] w w') => move_spec ({ h with core := h.core.fr0 F } : WInv w' b m1 m2 fp now seq (e :: t) la f).core h.at_ (to := e.due) hde.1 hde.2 (fun x hx => ⟨hle x hx, (h.due x hx).2⟩) (by have := h.few; omega))
  have HFin := Lib.hid (fun (w1 : World) (F : Fr [] w w1) (w' : World) hm => WInv.moved ({ h with core := h.core.fr0 F } : WInv w1 b m1 m2 fp now seq (e :: t) la f) hde.2 hle (w' := w') hm hde.1)
  have HEnt := Lib.hid (fun (w' : World) (F : Fr [] w w') => ent_cells (F.keep (h.core.ents e (by simp)) (by simp)))
  have hwlt := h.core.lt
  have HF0 := Lib.hid F0
  have HKE := Lib.hid h.keys
  have hyes' : ¬ (to : Int) < (e.due : Int) := by omega
  have hbk : e.blk ∈ fp := h.core.foot _ (by simp [ownW])
  clear h h0 F0 hle
  go_enter Try.func21, Try.ntmps21
  go_wp2_with fail
  refine HN.out.mono ?_
  rintro r w1 ⟨rfl, F⟩
  rw [List.head?_cons, Option.map_some]
  have HKB := Lib.hid (F.keep (block_alloc_new w (.cells #[.int .i64 0, .int .i64 0] 31)) (by simp))
  have HF1 := Lib.hid (HF0.out.trans F)
  obtain ⟨-, -, q2, -⟩ := HEnt.out _ HF1.out
  have hs1 : w.heap.size < w1.heap.size := lt_of_block HKB.out
  clear F HN
  go_wp2_with fail
  refine (HMv.out w1 HF1.out).mono ?_
  rintro r w2 ⟨rfl, hm⟩
  obtain ⟨fp', k1, k2, k3⟩ := HFin.out w1 HF1.out w2 hm
  have hnf : w.heap.size ∉ fp := fun h => by have := hwlt _ h; omega
  have hnf' : w.heap.size ∉ fp' := fun h => by
    rcases k2 _ h with h1 | h1
    · exact hnf h1
    · omega
  have HKB2 := Lib.hid (k3.keep HKB.out hnf)
  have HI2 := Lib.hid k1
  have hfin : entOf (e :: t) (e.kind, e.id) = some e := by
    rw [entOf_cons]
    exact if_pos rfl
  have HCa := Lib.hid (k1.cancel_yes hfin hsq)
  have HE2 : Hid (w2.cell? ⟨e.blk, 0, none⟩ = some (.int .i64 e.kind) ∧ w2.cell? ⟨e.blk, 1, none⟩ = some (.int .i64 e.id) ∧ w2.heap[e.blk]? = some e.obj) := Lib.hid (by
    obtain ⟨m1', m2', la', f', hW⟩ := k1
    have := ent_cells (hW.core.ents e (by simp))
    exact ⟨this.1, this.2.1, hW.core.ents e (by simp)⟩)
  have HU2 := Lib.hid k2
  have HF2 := Lib.hid ((HF1.out.mono (S' := fp) (by simp)).trans k3)
  obtain ⟨y0, y1, -⟩ := HE2.out
  clear hm k1 k2 k3 q2
  go_wp2_with fail
  refine HCa.out.mono ?_
  rintro r w3 ⟨rfl, hI3, hF3, hE3⟩
  rw [show ((e.kind, e.id) : Int × Int) = e.key from rfl, without_head HKE.out] at hI3
  have hbe : e.blk ≠ w.heap.size := fun h => hnf (h ▸ hbk)
  obtain ⟨z0, z1, -, -⟩ := ent_cells (hE3 e (by simp))
  have HKB3 := Lib.hid (hF3.keep HKB2.out hnf')
  have h8 := free_of_block HKB3.out
  have d0 : w3.cell? ⟨w.heap.size, 0, none⟩ = some (.int .i64 0) := by rw [cell_of_block HKB3.out]; rfl
  have d1 : w3.cell? ⟨w.heap.size, 1, none⟩ = some (.int .i64 0) := by rw [cell_of_block HKB3.out]; rfl
  have HI3 := Lib.hid hI3
  have HF3 := Lib.hid hF3
  have HU := Lib.hid (show Sub fp' fp w from fun x hx => (HU2.out x hx).imp id (fun h => by have := HF1.out.size; omega))
  clear hI3 hF3 hE3 y0 y1
  go_wp2_with fail
  have F4 : Fr [w.heap.size] w3 (w3.setCell ⟨w.heap.size, 0, none⟩ (.int .i64 e.kind) |>.setCell ⟨w.heap.size, 1, none⟩ (.int .i64 e.id)) := Fr.setCell (Fr.setCell (Fr.refl _ _) (.inl (by simp)) _) (.inl (by simp)) _
  have s1 := World.cell?_setCell_same _ _ (.int .i64 e.kind) d0
  have s0 : (w3.setCell ⟨w.heap.size, 0, none⟩ (.int .i64 e.kind) |>.setCell ⟨w.heap.size, 1, none⟩ (.int .i64 e.id)).cell? ⟨w.heap.size, 0, none⟩ = some (.int .i64 e.kind) := by
    rw [World.cell?_setCell_other _ _ _ _ (by simp)]; exact s1
  have s2 : (w3.setCell ⟨w.heap.size, 0, none⟩ (.int .i64 e.kind) |>.setCell ⟨w.heap.size, 1, none⟩ (.int .i64 e.id)).cell? ⟨w.heap.size, 1, none⟩ = some (.int .i64 e.id) := by
    refine World.cell?_setCell_same _ _ _ (u := .int .i64 0) ?_
    rw [World.cell?_setCell_other _ _ _ _ (by simp)]
    exact d1
  refine bodyPost_ret (v := .tuple #[.agg #[.int .i64 e.kind, .int .i64 e.id], .bool true]) (by simp [results, Try.results21, go_sem, s0, s2]) rfl ?_
  exact ⟨rfl, fp', HI3.out.fr F4 (by simpa using hnf'), HU.out, (HF2.out.sub HF3.out HU.out).trans' F4 (fun x hx => .inr (by simp at hx; omega))⟩
end Go.Proofs.Ytibnhfnidgfenaa
