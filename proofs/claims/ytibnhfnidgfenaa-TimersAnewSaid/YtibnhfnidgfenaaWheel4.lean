/-
  lay: its walk.
-/
import Derived.Test.YtibnhfnidgfenaaWheel3
namespace Go.Proofs.Ytibnhfnidgfenaa
open Go.RowKit

variable {w : World} {b m1 m2 : Nat} {fp : List Nat} {now seq : Nat} {L : List Ent} {la : List ((Int × Int) × Value)} {f : Int × Int → List Nat}

theorem one_cell {w' : World} {g x : Nat} {E : TypeId} (h : w'.heap[g]? = some (.cells #[ptr x] E (0, 0))) : ∀ j u, [ptr x][j]? = some u → w'.cell? ((⟨g, 0, none⟩ : Addr).add j) = some u := by
  intro j u hj
  match j, hj with
  | 0, hj =>
    simp at hj
    subst hj
    rw [Addr.add_lit, cell_of_block h]
    rfl

set_option maxHeartbeats 4000000 in
set_option maxRecDepth 20000 in
theorem Core.lay (h : Core w b m1 m2 fp now seq L la f) {e : Ent} (he : e ∈ L) (hn : now < 18446744073709551616) (hd : e.due < 18446744073709551616) (hl : (f (spotI now e.due)).length ≤ 200000) :
    Calls Try.prog 41 #[.pointer (some ⟨b, 0, none⟩), .pointer (some ⟨e.blk, 0, none⟩)] w fun r w' => r = .returned (.tuple #[]) ∧ ∃ fp', Core w' b m1 m2 fp' now seq L la (upd f (spotI now e.due) (f (spotI now e.due) ++ [e.blk])) ∧ Sub fp' fp w ∧ Fr fp w w' := by
  obtain ⟨i0, hi, hz0, hz1, hz2⟩ := info_parts1 Try.info_ent
  obtain ⟨_, _, q2, _⟩ := ent_cells (h.ents e he)
  have HOf := Lib.hid (of_spec h.c0 hn hd)
  have HC := Lib.hid h
  have c3 := h.c3
  have HL := Lib.hid hl
  clear h hl
  generalize he2 : spotI now e.due = p at *
  clear he2
  obtain ⟨p1, p2⟩ := p
  simp only at HOf
  go_enter Try.func41, Try.ntmps41
  go_wp2_with fail
  refine HOf.out.mono ?_
  rintro r w1 ⟨rfl, F⟩
  have HC1 := Lib.hid (HC.out.fr0 F)
  have hs1 := F.size
  have HF1 := Lib.hid F
  clear F c3 q2
  obtain ⟨w2, hw2⟩ : ∃ w2, w2 = w1.alloc (.cells #[.int .i64 p1, .int .i64 p2] 103) := ⟨_, rfl⟩
  have HC2 : Hid (Core w2 b m1 m2 fp now seq L la f) := Lib.hid (by rw [hw2]; exact HC1.out.fr0 ((Fr.refl _ _).alloc _))
  have HF2 : Hid (Fr [] w w2) := Lib.hid (by rw [hw2]; exact HF1.out.alloc _)
  have x0 : w2.cell? ⟨w1.heap.size, 0, none⟩ = some (.int .i64 p1) := by rw [hw2]; simp
  have x1 : w2.cell? ⟨w1.heap.size, 1, none⟩ = some (.int .i64 p2) := by rw [hw2]; simp
  have hbx : w1.heap.size < w2.heap.size := by rw [hw2]; simp
  have c3 := HC2.out.c3
  go_wp2_with fail
  rw [← hw2]
  clear hw2
  obtain ⟨lb, hM, hR, hS, hK⟩ := HC2.out.rows
  have hdist := HC2.out.dist
  have hbm : b ≠ m2 := by simp [ownW] at hdist; exact fun e => hdist.1.2.1 e
  have hm2lt : m2 < w2.heap.size := HC2.out.lt m2 (HC2.out.foot m2 (by simp [ownW]))
  have hbx2 : ∀ k ∈ fp, k < w1.heap.size := HC1.out.lt
  have W3F : Fr [] w2 ((w2.alloc (.cells #[ptr e.blk] 82)).drew) := ((Fr.refl [] w2).alloc _).drew
  obtain ⟨n, w4, hrun, F4, HEN⟩ := entry_runB keyPlace Try.underlying79 zeroRow (hM.fr W3F (by simp)) (p1, p2)
  simp only [enc2, ptr] at hrun
  have hrb : ∀ k, (rowAt lb (p1, p2)).ownBlock = some k → k ∈ fp ∧ k ∉ ownW b m1 m2 L := hK (p1, p2)
  have HR0 : Hid (Row w2 (rowAt lb (p1, p2)) (f (p1, p2))) := Lib.hid (hR (p1, p2))
  have HLD := Lib.hid (fun (w9 : World) (v8 : Value) h1 h2 h3 h4 => Core.laid' (p := (p1, p2)) (x := e.blk) HC2.out hR hS hK (w9 := w9) (v8 := v8) h1 h2 h3 h4 rfl)
  have hv0 : (look lb (p1, p2)).getD (.slice none 0 0) = rowAt lb (p1, p2) := rfl
  rw [hv0] at hrun
  clear hv0
  have FX4 : Fr (m2 :: (rowAt lb (p1, p2)).ownBlock.toList) w2 w4 := (W3F.mono (by simp)).trans (F4.mono (fun x hx => .inl (by simp at hx; simp [hx])))
  have hblk4 : w4.heap[w2.heap.size]? = some (.cells #[ptr e.blk] 82 (0, 0)) := F4.keep (w := (w2.alloc (.cells #[ptr e.blk] 82)).drew) (block_alloc_new w2 _) (by simp; omega)
  have hown4 : w4.ownsRow 0 82 1 (rowAt lb (p1, p2)) (f (p1, p2)).length ((f (p1, p2)).map ptr) := ownsRow_fr (ownsRow_fr HR0.out W3F (by simp)) F4 (fun g hg hm => (hrb g hg).2 (by simp at hm; simp [ownW, hm]))
  have hs4 := FX4.size
  have hn1 : w1.heap.size ∉ m2 :: (rowAt lb (p1, p2)).ownBlock.toList := fun hm => by
    rcases List.mem_cons.1 hm with h1 | h1
    · have := hbx2 m2 (HC1.out.foot m2 (by simp [ownW])); omega
    · have := hbx2 _ (hrb _ (by simpa using h1)).1; omega
  have hn2 : b ∉ m2 :: (rowAt lb (p1, p2)).ownBlock.toList := fun hm => by
    rcases List.mem_cons.1 hm with h1 | h1
    · exact hbm h1
    · exact (hrb b (by simpa using h1)).2 (by simp [ownW])
  have KS := Lib.hid (fun (w' : World) (F : Fr (m2 :: (rowAt lb (p1, p2)).ownBlock.toList) w2 w') => (⟨(F.cell (p := ⟨w1.heap.size, 0, none⟩) hbx hn1).trans x0, (F.cell (p := ⟨w1.heap.size, 1, none⟩) hbx hn1).trans x1, (F.cell (p := ⟨b, 3, none⟩) (lt_of_block HC2.out.blk) hn2).trans c3⟩ : w'.cell? ⟨w1.heap.size, 0, none⟩ = some (.int .i64 p1) ∧ w'.cell? ⟨w1.heap.size, 1, none⟩ = some (.int .i64 p2) ∧ w'.cell? ⟨b, 3, none⟩ = some (.map (some m2))))
  clear hn1 hn2
  have HOw4 := Lib.hid hown4
  have HEN := Lib.hid HEN
  have HFX4 := Lib.hid FX4
  have HW3F := Lib.hid W3F
  have HRB := Lib.hid hrb
  clear hM hR hS hK hown4 FX4 W3F F4 hrb x0 x1 c3 HR0
  generalize rowAt lb (p1, p2) = v0 at *
  go_region_held3 (fun w' => w'.cell? ⟨w1.heap.size, 0, none⟩ = some (.int .i64 p1) ∧ w'.cell? ⟨w1.heap.size, 1, none⟩ = some (.int .i64 p2) ∧ w'.cell? ⟨b, 3, none⟩ = some (.map (some m2)))
    (first | exact KS.out _ FX9 | exact KS.out _ FX8 | exact KS.out _ HFX4.out | exact KS.out _ ((Fr.refl _ _).drew) | exact KS.out _ (((Fr.refl _ _).alloc _).drew))
    ((refine step_app_at rfl (.tmp 16) (.tmp 18) 105 rfl 0 82 i0 (.pointer none) 1 8 Try.underlying105 hi hz0 hz1 hz2 rfl (by decide) v0 (f (p1, p2)).length ((f (p1, p2)).map ptr) rfl HOw4.out ⟨w2.heap.size, 0, none⟩ 1 1 [ptr e.blk] rfl rfl (one_cell hblk4) (by intro u hu; simp at hu; subst hu; rfl) (by have := HL.out; unfold maxLen; omega) (by have := HL.out; omega) (Nat.zero_le _) ?_; intro v8 w8 hown8 hg8 hat8; have FX8 := Fr.grown1 HFX4.out hg8 (fun k hk => .inl (by simp [hk])); obtain ⟨w9, hst, hM9, F9⟩ := HEN.out w8 (hg8.block m2 (by omega) (fun h => (HRB.out m2 h.symm).2 (by simp [ownW]))) v8; have FX9 := FX8.trans (F9.mono (fun x hx => .inl (by simp at hx; simp [hx])))))
  go_wp2_with fail
  go_end0
  have hne : ∀ g, v8.ownBlock = some g → g ≠ m2 := fun g hg e2 => by
    rcases hat8 with h | h
    · rw [h] at hg; exact (HRB.out g hg).2 (by simp [ownW, e2])
    · rw [h] at hg; simp at hg; omega
  have hO : Row w9 v8 (f (p1, p2) ++ [e.blk]) := by
    have := ownsRow_fr hown8 F9 (fun g hg hm => hne g hg (by simpa using hm))
    unfold Row
    rw [List.length_append, List.map_append]
    exact this
  obtain ⟨fp', k1, k2, k3⟩ := HLD.out w9 v8 hM9 hO (fun k hk => by
    rcases hat8 with h | h
    · exact .inl (h ▸ hk)
    · rw [h] at hk; simp at hk; exact .inr (by omega)) FX9
  exact ⟨rfl, fp', k1, fun x hx => (k2 x hx).imp id (fun h => by have := HF2.out.size; omega), (HF2.out.mono (by simp)).trans k3⟩
end Go.Proofs.Ytibnhfnidgfenaa
