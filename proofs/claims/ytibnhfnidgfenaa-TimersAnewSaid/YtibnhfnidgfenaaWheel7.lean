/-
  lift: its walk.
-/
import Derived.Test.YtibnhfnidgfenaaWheel6
namespace Go.Proofs.Ytibnhfnidgfenaa
open Go.RowKit

variable {w : World} {b m1 m2 : Nat} {fp : List Nat} {now seq : Nat} {L : List Ent} {la : List ((Int × Int) × Value)} {f : Int × Int → List Nat}

set_option maxHeartbeats 4000000 in
set_option maxRecDepth 20000 in
theorem Core.lift (h : Core w b m1 m2 fp now seq L la f) {e : Ent} (he : e ∈ L) (hin : e.blk ∈ f (spotI now e.due)) (hsub : ∀ x ∈ f (spotI now e.due), x ∈ L.map (·.blk)) (hn : now < 18446744073709551616) (hd : e.due < 18446744073709551616) (hl : (f (spotI now e.due)).length ≤ 60000) :
    Calls Try.prog 42 #[.pointer (some ⟨b, 0, none⟩), .pointer (some ⟨e.blk, 0, none⟩)] w fun r w' => r = .returned (.tuple #[]) ∧ Core w' b m1 m2 fp now seq L la (upd f (spotI now e.due) (keptP e.blk (f (spotI now e.due)))) ∧ Fr fp w w' := by
  have F0 : Fr [] w (w.alloc (.cells #[.pointer (some ⟨e.blk, 0, none⟩)] 82)) := (Fr.refl _ _).alloc _
  have h0 := h.fr0 F0
  obtain ⟨_, _, q2, _⟩ := ent_cells (h0.ents e he)
  have HOf := Lib.hid (of_spec h0.c0 hn hd)
  have HC := Lib.hid h0
  have HF0 := Lib.hid F0
  have c3 := h0.c3
  have hbx0 : ∀ k ∈ fp, k < w.heap.size := h.lt
  clear h h0 F0
  generalize he2 : spotI now e.due = p at *
  clear he2
  obtain ⟨p1, p2⟩ := p
  simp only at HOf
  go_enter Try.func42, Try.ntmps42
  go_wp2_with fail
  refine HOf.out.mono ?_
  rintro r w1 ⟨rfl, F⟩
  have HC1 := Lib.hid (HC.out.fr0 F)
  have x3 : w1.cell? ⟨w.heap.size, 0, none⟩ = some (.pointer (some ⟨e.blk, 0, none⟩)) := F.on (World.cell?_alloc_new _ _ _ 0) (by simp)
  have HF1 := Lib.hid (HF0.out.trans F)
  have hs1 : w.heap.size < w1.heap.size := by have := F.size; simp at this; omega
  clear F c3 q2
  obtain ⟨w2, hw2⟩ : ∃ w2, w2 = w1.alloc (.cells #[.int .i64 p1, .int .i64 p2] 103) := ⟨_, rfl⟩
  have HC2 : Hid (Core w2 b m1 m2 fp now seq L la f) := Lib.hid (by rw [hw2]; exact HC1.out.fr0 ((Fr.refl _ _).alloc _))
  have HF2 : Hid (Fr [] w w2) := Lib.hid (by rw [hw2]; exact HF1.out.alloc _)
  have x0 : w2.cell? ⟨w1.heap.size, 0, none⟩ = some (.int .i64 p1) := by rw [hw2]; simp
  have x1 : w2.cell? ⟨w1.heap.size, 1, none⟩ = some (.int .i64 p2) := by rw [hw2]; simp
  have x3' : w2.cell? ⟨w.heap.size, 0, none⟩ = some (.pointer (some ⟨e.blk, 0, none⟩)) := by rw [hw2]; exact Fr.on ((Fr.refl [] w1).alloc _) x3 (by simp)
  have hbx : w1.heap.size < w2.heap.size := by rw [hw2]; simp
  have c3 := HC2.out.c3
  go_wp2_with fail
  rw [← hw2]
  clear hw2 x3
  obtain ⟨lb, hM, hR, hS, hK⟩ := HC2.out.rows
  have hdist := HC2.out.dist
  have hbm : b ≠ m2 := by simp [ownW] at hdist; exact fun e => hdist.1.2.1 e
  have hbx2 : ∀ k ∈ fp, k < w1.heap.size := HC1.out.lt
  have hlk := run_look keyPlace Try.underlying79 zeroRow (w := w2.drew) (hM.kv.drewN 1) (p1, p2) false
  simp only [Bool.false_eq_true, if_false, enc2] at hlk
  have hrb : ∀ k, (rowAt lb (p1, p2)).ownBlock = some k → k ∈ fp ∧ k ∉ ownW b m1 m2 L := hK (p1, p2)
  obtain ⟨g, cap, hv0, hPB, hSH, hcap, hmax, hg⟩ := (hR (p1, p2)).parts (by intro h0; rw [h0] at hin; cases hin)
  have hgf := hrb g (by rw [hv0]; rfl)
  have hPT := Lib.hid (fun (w9 : World) (ys : List Nat) (v8 : Value) h1 h2 h3 h4 => Core.put' (p := (p1, p2)) HC2.out hR hS hK (w9 := w9) (ys := ys) (v8 := v8) h1 h2 h3 h4)
  have hlk2 : (look lb (p1, p2)).getD (.slice none 0 0) = .slice (some ⟨g, 0, none⟩) (f (p1, p2)).length cap := hv0
  rw [hlk2] at hlk
  have hgm : g ≠ m2 := fun h => hgf.2 (by simp [ownW, h])
  have hgb : g ≠ b := fun h => hgf.2 (by simp [ownW, h])
  have hgx := hbx2 g hgf.1
  have hgx0 := hbx0 g hgf.1
  have HE : Hid (∀ x ∈ e.blk :: f (p1, p2), IsBlk w2 x ∧ x ≠ g) := Lib.hid (fun x hx => by
    have hx' : x ∈ L.map (·.blk) := by
      rcases List.mem_cons.1 hx with h | h
      · exact h ▸ List.mem_map_of_mem he
      · exact hsub x h
    obtain ⟨e', h1, h2⟩ := List.mem_map.1 hx'
    exact ⟨⟨_, _, h2 ▸ HC2.out.ents e' h1⟩, fun h => hgf.2 (by simp only [ownW, List.mem_cons, List.mem_map]; exact .inr (.inr (.inr ⟨e', h1, h2.trans h⟩)))⟩)
  have hm2x := hbx2 m2 (HC1.out.foot m2 (by simp [ownW]))
  have HDE := Lib.hid (fun (wx : World) (F : Fr [] w2 wx) => delete_p (cap := cap) (hPB.fr hg F (by simp)) (hSH.fr F (by simp)) (Nat.lt_of_lt_of_le hg F.size) (F.on x3' (by simp)) (by omega) (fun x hx => ⟨(HE.out x hx).1.fr F (by simp), (HE.out x hx).2⟩) hl hcap)
  have KS := Lib.hid (fun (w' : World) (F : Fr [g, m2] w2 w') => (⟨F.on x0 (by simp; omega), F.on x1 (by simp; omega), F.on c3 (by simp; exact ⟨fun h => hgb h.symm, hbm⟩)⟩ : w'.cell? ⟨w1.heap.size, 0, none⟩ = some (.int .i64 p1) ∧ w'.cell? ⟨w1.heap.size, 1, none⟩ = some (.int .i64 p2) ∧ w'.cell? ⟨b, 3, none⟩ = some (.map (some m2))))
  have HMM := Lib.hid (fun (w' : World) (F : Fr [g] w2 w') (v : Value) => put_runB keyPlace Try.underlying79 (hM.fr F (by simp; exact fun h => hgm h.symm)) (p1, p2) v)
  have hob : (rowAt lb (p1, p2)).ownBlock = some g := by rw [hv0]; rfl
  rw [hob] at hPT
  clear hM hR hS hK hrb x0 x1 x3' c3 hlk2 hv0 hPB hSH hob hsub hin
  have hkl : (keptP e.blk (f (p1, p2))).length ≤ (f (p1, p2)).length := List.length_filter_le _ _
  go_region_held3 (fun w' => w'.cell? ⟨w1.heap.size, 0, none⟩ = some (.int .i64 p1) ∧ w'.cell? ⟨w1.heap.size, 1, none⟩ = some (.int .i64 p2) ∧ w'.cell? ⟨b, 3, none⟩ = some (.map (some m2)))
    (first | exact KS.out _ FX9 | exact KS.out _ (FX8.mono (by simp)) | exact KS.out _ ((Fr.refl _ _).drew))
    (first | (go_at_call 55; refine (HDE.out _ ((Fr.refl _ _).drew)).mono ?_; rintro r w8 ⟨rfl, hA, F8, hSH8⟩; have FX8 : Fr [g] w2 w8 := Fr.trans ((Fr.refl _ _).drew) F8; obtain ⟨w9, hst, hM9, F9⟩ := HMM.out w8 FX8 (.slice (some ⟨g, 0, none⟩) (keptP e.blk (f (p1, p2))).length cap); simp only [enc2] at hst; have FX9 : Fr [g, m2] w2 w9 := (FX8.mono (by simp)).trans (F9.mono (by simp))))
  all_goals (
    go_wp2_with fail
    go_end0
    obtain ⟨k1, k2⟩ := hPT.out w9 _ (.slice (some ⟨g, 0, none⟩) (keptP e.blk (f (p1, p2))).length cap) hM9 (Row.mk' (hSH8.fr F9 (by simp; exact hgm)) (fun t ht => F9.on (hA t ht) (by simp; exact hgm)) (by omega) hmax) rfl (FX9.mono (fun x hx => .inl (by simp at hx ⊢; rcases hx with h | h <;> simp [h])))
    exact ⟨rfl, k1, (HF2.out.mono (by simp)).trans k2⟩)
end Go.Proofs.Ytibnhfnidgfenaa
