/-
  Next and Step.
-/
import Derived.Test.YtibnhfnidgfenaaWheel17
namespace Go.Proofs.Ytibnhfnidgfenaa
open Go.RowKit

variable {w : World} {b : Nat} {fp : List Nat} {now seq : Nat} {L : List Ent}

theorem next_nil (w : World) : Calls Try.prog 25 #[.pointer none] w fun e w' => e = .returned (.tuple #[.int .u64 0, .bool false]) ∧ w' = w := by
  go_enter Try.func25, Try.ntmps25
  go_wp2_with fail
  go_ret2
  exact ⟨rfl, rfl⟩
set_option maxHeartbeats 1000000 in
theorem IsWheel.nextOf (h : IsWheel w b fp now seq L) (hsq : seq ≤ 50000) : Calls Try.prog 25 #[.pointer (some ⟨b, 0, none⟩)] w fun e w' => e = .returned (.tuple #[.int .u64 ((L.head?.map (·.due)).getD 0 : Nat), .bool L.head?.isSome]) ∧ Fr [] w w' := by
  obtain ⟨m1, m2, la, f, h⟩ := h
  have HN := Lib.hid (fun (w' : World) (F : Fr [] w w') => ({ h with core := h.core.fr0 F } : WInv w' b m1 m2 fp now seq L la f).next (by omega))
  have HE := Lib.hid (fun (w' : World) (F : Fr [] w w') (e : Ent) (he : e ∈ L) => (ent_cells (F.keep (h.core.ents e he) (by simp))).2.2.1)
  clear h
  cases L with
  | nil =>
    simp only [List.head?_nil, Option.map_none, Option.getD_none, Option.isSome_none] at *
    go_enter Try.func25, Try.ntmps25
    go_wp2_with fail
    refine (HN.out _ (Fr.refl _ _)).mono ?_
    rintro r w1 ⟨rfl, F⟩
    have HF := Lib.hid F
    clear F
    go_wp2_with fail
    go_ret2
    exact ⟨rfl, HF.out⟩
  | cons e t =>
    simp only [List.head?_cons, Option.map_some, Option.getD_some, Option.isSome_some] at *
    go_enter Try.func25, Try.ntmps25
    go_wp2_with fail
    refine (HN.out _ (Fr.refl _ _)).mono ?_
    rintro r w1 ⟨rfl, F⟩
    have HF := Lib.hid F
    clear F
    go_wp2_with fail
    refine (HN.out _ HF.out).mono ?_
    rintro r w2 ⟨rfl, F⟩
    have HF2 := Lib.hid (HF.out.trans F)
    have hc := HE.out _ HF2.out e (by simp)
    clear F
    go_wp2_with fail
    go_ret2
    exact ⟨rfl, HF2.out⟩

/-- The time goes on: nobody was due. -/
theorem WInv.moved {m1 m2 : Nat} {la : List ((Int × Int) × Value)} {f : Int × Int → List Nat} (h : WInv w b m1 m2 fp now seq L la f) {to : Nat} (hlt : to < 18446744073709551616) (hdue : ∀ e ∈ L, to ≤ e.due) {w' : World} (hm : MovedTo w b m1 m2 fp now to seq L la 0 w') (hto : now ≤ to) :
    ∃ fp', IsWheel w' b fp' to seq L ∧ Sub fp' fp w ∧ Fr fp w w' := by
  obtain ⟨fp', f', k1, k2, k3, k4⟩ := hm
  exact ⟨fp', ⟨m1, m2, la, f', k1, h.all, h.len, k2.congr (fun e he => by unfold spotAtI spotI; rw [spotAt_end hto (hdue e he)]), hlt, fun e he => ⟨hdue e he, (h.due e he).2⟩, h.sorted, h.keys, h.seqs, h.few⟩, k3, k4⟩

theorem step_nil (w : World) (to : Nat) : Calls Try.prog 21 #[.pointer none, .int .u64 to] w fun e w' => e = .returned (.tuple #[.agg #[.int .i64 0, .int .i64 0], .bool false]) ∧ Fr [] w w' := by
  go_enter Try.func21, Try.ntmps21
  go_wp2_with fail
  exact bodyPost_ret (v := .tuple #[.agg #[.int .i64 0, .int .i64 0], .bool false]) (by simp [results, Try.results21, go_sem]) rfl ⟨rfl, (Fr.refl _ _).alloc _⟩

/-- What Step leaves. -/
def StepTo (w : World) (b : Nat) (fp : List Nat) (now seq : Nat) (L : List Ent) (w' : World) : Prop := ∃ fp', IsWheel w' b fp' now seq L ∧ Sub fp' fp w ∧ Fr fp w w'

set_option maxHeartbeats 4000000 in
set_option maxRecDepth 20000 in
theorem IsWheel.step_no (h : IsWheel w b fp now seq L) (hsq : seq ≤ 50000) {to : Nat} (hto : to < 18446744073709551616) (hno : ∀ e ∈ L, to < e.due) :
    Calls Try.prog 21 #[.pointer (some ⟨b, 0, none⟩), .int .u64 to] w fun e w' => e = .returned (.tuple #[.agg #[.int .i64 0, .int .i64 0], .bool false]) ∧ StepTo w b fp (max now to) seq L w' := by
  obtain ⟨m1, m2, la, f, h⟩ := h
  have F0 : Fr [] w (w.alloc (.cells #[.int .i64 0, .int .i64 0] 31)) := (Fr.refl _ _).alloc _
  have h0 : WInv (w.alloc (.cells #[.int .i64 0, .int .i64 0] 31)) b m1 m2 fp now seq L la f := { h with core := h.core.fr0 F0 }
  have HN := Lib.hid (h0.next (by omega))
  have HW := Lib.hid (fun (w' : World) (F : Fr [] w w') => ({ h with core := h.core.fr0 F } : WInv w' b m1 m2 fp now seq L la f))
  have hmx : max now to < 18446744073709551616 := by have := h.nowlt; omega
  have hle : ∀ e ∈ L, max now to ≤ e.due := fun e he => by have := hno e he; have := (h.due e he).1; omega
  have HMv := Lib.hid (fun (w' : World) (F : Fr [] w w') => move_spec ({ h with core := h.core.fr0 F } : WInv w' b m1 m2 fp now seq L la f).core h.at_ (to := max now to) (by omega) hmx (fun e he => ⟨hle e he, (h.due e he).2⟩) (by have := h.few; omega))
  have HFin := Lib.hid (fun (w1 : World) (F : Fr [] w w1) (w' : World) hm => WInv.moved ({ h with core := h.core.fr0 F } : WInv w1 b m1 m2 fp now seq L la f) hmx hle (w' := w') hm (by omega))
  have hwlt := h.core.lt
  have HF0 := Lib.hid F0
  have HHd : Hid (∀ e, L.head? = some e → to < e.due ∧ e ∈ L) := Lib.hid (fun e he => by
    have : e ∈ L := List.mem_of_head? he
    exact ⟨hno e this, this⟩)
  clear h h0 F0 hno hle hmx
  go_enter Try.func21, Try.ntmps21
  go_wp2_with fail
  refine HN.out.mono ?_
  rintro r w1 ⟨rfl, F⟩
  have KB := F.keep (block_alloc_new w (.cells #[.int .i64 0, .int .i64 0] 31)) (by simp)
  have HF1 := Lib.hid (HF0.out.trans F)
  have c0 := (HW.out _ HF1.out).core.c0
  have HKB := Lib.hid KB
  have hs1 : w.heap.size < w1.heap.size := lt_of_block KB
  clear F KB HN
  have fin : ∀ (w1 : World), Hid (Fr [] w w1) → Hid (w1.heap[w.heap.size]? = some (.cells #[.int .i64 0, .int .i64 0] 31 (0, 0))) → ∀ w2, MovedTo w1 b m1 m2 fp now (max now to) seq L la 0 w2 →
      Hid (StepTo w b fp (max now to) seq L (w2.setCell ⟨w.heap.size, 0, none⟩ (.int .i64 0) |>.setCell ⟨w.heap.size, 1, none⟩ (.int .i64 0)) ∧ w2.heap[w.heap.size]? = some (.cells #[.int .i64 0, .int .i64 0] 31 (0, 0))) := fun w1 HF1 HKB w2 hm => by
    obtain ⟨fp', k1, k2, k3⟩ := HFin.out w1 HF1.out w2 hm
    have hs1 : w.heap.size < w1.heap.size := lt_of_block HKB.out
    have hnf : w.heap.size ∉ fp := fun h => by have := hwlt _ h; omega
    have hnf' : w.heap.size ∉ fp' := fun h => by
      rcases k2 _ h with h1 | h1
      · exact hnf h1
      · omega
    have F2 : Fr [w.heap.size] w2 (w2.setCell ⟨w.heap.size, 0, none⟩ (.int .i64 0) |>.setCell ⟨w.heap.size, 1, none⟩ (.int .i64 0)) := Fr.setCell (Fr.setCell (Fr.refl _ _) (.inl (by simp)) _) (.inl (by simp)) _
    exact Lib.hid ⟨⟨fp', k1.fr F2 (by simpa using hnf'), fun x hx => (k2 x hx).imp id (fun h => by have := HF1.out.size; omega), ((HF1.out.mono (by simp)).trans k3).trans' F2 (fun x hx => .inr (by simp at hx; omega))⟩, k3.keep HKB.out hnf⟩
  cases hL : L.head? with
  | none =>
    rw [Option.map_none]
    have HMv1 := Lib.hid (HMv.out w1 HF1.out)
    have HFn := Lib.hid (fin w1 HF1 HKB)
    clear fin
    go_wp2_with fail
    all_goals (
      have HMv2 := HMv1.out
      first
        | rw [show ((max now to : Nat) : Int) = (now : Int) by omega] at HMv2
        | rw [show ((max now to : Nat) : Int) = (to : Int) by omega] at HMv2
      refine HMv2.mono ?_
      rintro r w2 ⟨rfl, hm⟩
      have HR := HFn.out w2 hm
      have h8 := free_of_block HR.out.2
      have d0 : w2.cell? ⟨w.heap.size, 0, none⟩ = some (.int .i64 0) := by rw [cell_of_block HR.out.2]; rfl
      have d1 : w2.cell? ⟨w.heap.size, 1, none⟩ = some (.int .i64 0) := by rw [cell_of_block HR.out.2]; rfl
      clear HMv2 hm c0
      go_wp2_with fail
      refine bodyPost_ret (v := .tuple #[.agg #[.int .i64 0, .int .i64 0], .bool false]) (by simp [results, Try.results21, go_sem, d0, d1]) rfl ?_
      exact ⟨rfl, HR.out.1⟩)
  | some e =>
    obtain ⟨he1, he2⟩ := HHd.out e hL
    have hde : (to : Int) < (e.due : Int) := by omega
    have q2 := (ent_cells ((HW.out _ HF1.out).core.ents e he2)).2.2.1
    rw [Option.map_some]
    have HMv1 := Lib.hid (HMv.out w1 HF1.out)
    have HFn := Lib.hid (fin w1 HF1 HKB)
    clear fin
    go_wp2_with fail
    all_goals (
      have HMv2 := HMv1.out
      first
        | rw [show ((max now to : Nat) : Int) = (now : Int) by omega] at HMv2
        | rw [show ((max now to : Nat) : Int) = (to : Int) by omega] at HMv2
      refine HMv2.mono ?_
      rintro r w2 ⟨rfl, hm⟩
      have HR := HFn.out w2 hm
      have h8 := free_of_block HR.out.2
      have d0 : w2.cell? ⟨w.heap.size, 0, none⟩ = some (.int .i64 0) := by rw [cell_of_block HR.out.2]; rfl
      have d1 : w2.cell? ⟨w.heap.size, 1, none⟩ = some (.int .i64 0) := by rw [cell_of_block HR.out.2]; rfl
      clear HMv2 hm c0
      go_wp2_with fail
      refine bodyPost_ret (v := .tuple #[.agg #[.int .i64 0, .int .i64 0], .bool false]) (by simp [results, Try.results21, go_sem, d0, d1]) rfl ?_
      exact ⟨rfl, HR.out.1⟩)
end Go.Proofs.Ytibnhfnidgfenaa
