/-
  The document's sum of outcomes: porpoiseref20.Of; what is real.
-/
import Derived.Test.YtfegdmhfmhaneaaDoorMet5
namespace Go.Proofs.YtfegdmhfmhaneaaDoor
open Go.RowKit

def stepK (m : Su) (kind : Int) (n : Nat) : Su := if kind = n then m.incK n else m
def stepC (m : Su) (cause : Int) (n : Nat) : Su := if cause = n then m.incC n else m
def mid (s : Su) (kind cause : Int) : Nat → Su
  | 0 => s
  | n + 1 => stepC (stepK (mid s kind cause n) kind n) cause n
theorem getK_incK (m : Su) (a j : Nat) (h : j ≠ a) : (m.incK a).getK j = m.getK j := by
  unfold Su.incK Su.getK
  match j, h with
  | 0, h => simp [h.symm]
  | 1, h => simp [h.symm]
  | 2, h => simp [h.symm]
  | 3, h => simp [h.symm]
  | 4, h => simp [h.symm]
  | j + 5, h => rfl
theorem getC_incC (m : Su) (a j : Nat) (h : j ≠ a) : (m.incC a).getC j = m.getC j := by
  unfold Su.incC Su.getC
  match j, h with
  | 0, h => simp [h.symm]
  | 1, h => simp [h.symm]
  | 2, h => simp [h.symm]
  | 3, h => simp [h.symm]
  | 4, h => simp [h.symm]
  | j + 5, h => rfl
theorem mid_get (s : Su) (kind cause : Int) : ∀ (n j : Nat), n ≤ j → (mid s kind cause n).getK j = s.getK j ∧ (mid s kind cause n).getC j = s.getC j
  | 0, _, _ => ⟨rfl, rfl⟩
  | n + 1, j, h => by
    obtain ⟨h1, h2⟩ := mid_get s kind cause n j (by omega)
    have hne : j ≠ n := by omega
    unfold mid stepC stepK
    constructor
    · split
      · show (Su.incC _ n).getK j = _
        rw [show ∀ m : Su, (m.incC n).getK j = m.getK j from fun _ => rfl]
        split
        · rw [getK_incK _ _ _ hne, h1]
        · exact h1
      · split
        · rw [getK_incK _ _ _ hne, h1]
        · exact h1
    · split
      · rw [getC_incC _ _ _ hne]
        split
        · rw [show ∀ m : Su, (m.incK n).getC j = m.getC j from fun _ => rfl, h2]
        · exact h2
      · split
        · rw [show ∀ m : Su, (m.incK n).getC j = m.getC j from fun _ => rfl, h2]
        · exact h2
theorem mid_l (s : Su) (kind cause : Int) : ∀ n, (mid s kind cause n).l = s.l
  | 0 => rfl
  | n + 1 => by
    have h := mid_l s kind cause n
    unfold mid stepC stepK
    split <;> split <;> exact h
theorem mid_five (s : Su) (kind cause : Int) : mid s kind cause 5 = optC (optK s kind) cause := by
  rw [optC_eq, optK_eq]
  have hk : kind = 0 ∨ kind = 1 ∨ kind = 2 ∨ kind = 3 ∨ kind = 4 ∨ (¬ kind = 0 ∧ ¬ kind = 1 ∧ ¬ kind = 2 ∧ ¬ kind = 3 ∧ ¬ kind = 4) := by omega
  have hc : cause = 0 ∨ cause = 1 ∨ cause = 2 ∨ cause = 3 ∨ cause = 4 ∨ (¬ cause = 0 ∧ ¬ cause = 1 ∧ ¬ cause = 2 ∧ ¬ cause = 3 ∧ ¬ cause = 4) := by omega
  rcases hk with rfl | rfl | rfl | rfl | rfl | ⟨h0, h1, h2, h3, h4⟩ <;> rcases hc with rfl | rfl | rfl | rfl | rfl | ⟨g0, g1, g2, g3, g4⟩ <;> simp [mid, stepC, stepK, Su.incC, Su.incK, *]
set_option maxHeartbeats 4000000 in
set_option maxRecDepth 20000 in
theorem real_spec (s : Su) (w : World) :
    Calls Tryd.prog 16 #[.agg s.vals] w fun e w' => e = .returned (.agg s.vals) ∧ Fr [] w w' := by
  have HV : Hid (s.vals = #[.int .u64 s.k0, .int .u64 s.k1, .int .u64 s.k2, .int .u64 s.k3, .int .u64 s.k4, .int .u64 s.c0, .int .u64 s.c1, .int .u64 s.c2, .int .u64 s.c3, .int .u64 s.c4, .int .u64 s.l]) := Lib.hid rfl
  rw [HV.out]
  go_enter Tryd.func16, Tryd.ntmps16
  go_wp2_with fail
  refine bodyPost_ret (v := .agg #[.int .u64 s.k0, .int .u64 s.k1, .int .u64 s.k2, .int .u64 s.k3, .int .u64 s.k4, .int .u64 s.c0, .int .u64 s.c1, .int .u64 s.c2, .int .u64 s.c3, .int .u64 s.c4, .int .u64 s.l]) (by simp [results, Tryd.results16, go_sem]) rfl ?_
  exact ⟨rfl, ((Fr.refl _ _).alloc _).alloc _⟩

abbrev rsum0 : Obj := .cells #[.int .u64 0, .int .u64 0, .int .u64 0, .int .u64 0, .int .u64 0, .int .u64 0, .int .u64 0, .int .u64 0, .int .u64 0, .int .u64 0, .int .u64 0] 41
set_option maxHeartbeats 4000000 in
set_option maxRecDepth 20000 in
theorem refof_spec {w : World} {v : Value} {l : List Ou} (hl : Ous w 0 v l) (h63 : l.length ≤ 9223372036854775807) :
    Calls Tryd.prog 17 #[v] w fun e w' => e = .returned (.agg (sumOf l).vals) ∧ Fr [] w w' := by
  obtain ⟨ao, cap, rfl, hcap, -, hA⟩ := hl
  have HA := Lib.hid hA
  clear hA
  have HB := Lib.hid (block_alloc_new (w.alloc rsum0) rsum0)
  have HB0 := Lib.hid (((Fr.refl [] _).alloc rsum0).keep (block_alloc_new w rsum0) (by simp))
  have HF := Lib.hid (((Fr.refl [] w).alloc rsum0).alloc rsum0)
  have hsz : ((w.alloc rsum0).alloc rsum0).heap.size = w.heap.size + 2 := by simp
  obtain ⟨W, hW⟩ : ∃ W, W = (w.alloc rsum0).alloc rsum0 := ⟨_, rfl⟩
  rw [← hW] at HB HB0 HF hsz
  rw [World.size_alloc] at HB
  have HW := Lib.hid hW
  clear hW
  go_enter Tryd.func17, Tryd.ntmps17
  go_wp2_with fail
  rw [← HW.out]
  go_loopw [4] (fun x wr => ∃ i : Nat, i ≤ l.length ∧ x = .int .i64 i ∧ Hid (wr.heap[w.heap.size + 1]? = some (.cells (sumOf (l.take i)).vals 41)) ∧ Hid (wr.heap[w.heap.size]? = some rsum0) ∧ Hid (Fr [] w wr) ∧ w.heap.size + 2 ≤ wr.heap.size) (fun x _ => l.length - (Go.RowKit.intOf x).toNat)
  case atStart => exact ⟨0, by omega, rfl, HB, HB0, HF, by omega⟩
  case round =>
    obtain ⟨i, hi, rfl, HBi, HB0i, HFi, hszi⟩ := hrel
    by_cases hlt : i < l.length
    · obtain ⟨b, o, rfl, -, h5⟩ := HA.out i hlt
      have b0 : (0 : Int) ≤ (i : Int) := by omega
      have b1 : (i : Int) < (l.length : Int) := by omega
      have HS := Lib.hid (sumOf_snoc (l.take i) (l.getD i default))
      rw [← take_snoc_ou hlt, ← mid_five] at HS
      have HK0 : Hid (∀ k, (sumOf (l.take i)).getK k < 9223372036854775808) := Lib.hid (fun k => by have := Su.getK_le (l.take i) k; have := List.length_take_le i l; omega)
      have HC0 : Hid (∀ k, (sumOf (l.take i)).getC k < 9223372036854775808) := Lib.hid (fun k => by have := Su.getC_le (l.take i) k; have := List.length_take_le i l; omega)
      have HLA : Hid ((sumOf (l.take i)).l = lastOf (l.take i)) := Lib.hid rfl
      generalize lastOf (l.take i) = la at *
      generalize sumOf (l.take i) = s at *
      generalize l.getD i default = E at *
      obtain ⟨eid, kind, cause, val, tm⟩ := E
      simp only at HS
      have HE : Hid (∀ wx : World, Fr [] w wx → wx.cell? ⟨b, o + i * 5 + 1, none⟩ = some (.int .i64 kind) ∧ wx.cell? ⟨b, o + i * 5 + 2, none⟩ = some (.int .i64 cause) ∧ wx.cell? ⟨b, o + i * 5 + 4, none⟩ = some (.int .u64 tm)) := Lib.hid (fun wx F => by
        obtain ⟨_, e1, e2, _, e4⟩ := h5.fr F (by simp)
        exact ⟨e1, e2, e4⟩)
      have hbl := h5.lt
      have nb1 : ¬ b = w.heap.size + 1 := by omega
      have nb2 : ¬ w.heap.size + 1 = b := by omega
      clear h5 hbl
      go_wp2_with fail
      go_loopw [5] (fun x wr => ∃ n : Nat, n ≤ 5 ∧ x = .int .i64 n ∧ Hid (wr.heap[w.heap.size + 1]? = some (.cells (mid s kind cause n).vals 41)) ∧ Hid (wr.heap[w.heap.size]? = some rsum0) ∧ Hid (Fr [] w wr) ∧ w.heap.size + 2 ≤ wr.heap.size) (fun x _ => 5 - (Go.RowKit.intOf x).toNat)
      case atStart => exact ⟨0, by omega, rfl, HBi, HB0i, HFi, hszi⟩
      case round =>
        clear HBi HB0i HFi hszi
        obtain ⟨n, hn, rfl, HBi, HB0i, HFi, hszi⟩ := hrel
        obtain ⟨e1, e2, e4⟩ := HE.out wr HFi.out
        by_cases hn5 : n < 5
        · have hnb : (0 : Int) ≤ (n : Int) := by omega
          have hnb2 : (n : Int) < 5 := by omega
          obtain ⟨g1, g2⟩ := mid_get s kind cause n n (Nat.le_refl _)
          have HM : Hid (mid s kind cause (n + 1) = stepC (stepK (mid s kind cause n) kind n) cause n) := Lib.hid rfl
          have k1 : (mid s kind cause n).getK n < 9223372036854775808 := by rw [g1]; exact HK0.out n
          have k2 : (mid s kind cause n).getC n < 9223372036854775808 := by rw [g2]; exact HC0.out n
          clear g1 g2
          generalize mid s kind cause n = m at *
          have HDone : Hid (∀ (wx : World) (s' : Su), wx.heap[w.heap.size + 1]? = some (.cells s'.vals 41) → s' = stepC (stepK m kind n) cause n → wx.heap[w.heap.size]? = some rsum0 → Fr [] w wx → w.heap.size + 2 ≤ wx.heap.size →
              ∃ n' : Nat, n' ≤ 5 ∧ Value.int .i64 ((n : Int) + 1) = .int .i64 n' ∧ Hid (wx.heap[w.heap.size + 1]? = some (.cells (mid s kind cause n').vals 41)) ∧ Hid (wx.heap[w.heap.size]? = some rsum0) ∧ Hid (Fr [] w wx) ∧ w.heap.size + 2 ≤ wx.heap.size) :=
            Lib.hid (fun wx s' h1 h2 h3 h4 h5 => ⟨n + 1, by omega, by go_num, by rw [HM.out, ← h2]; exact Lib.hid h1, Lib.hid h3, Lib.hid h4, h5⟩)
          have d1 : wr.cell? ⟨w.heap.size + 1, n, none⟩ = some (.int .u64 (m.getK n)) := by rw [cell_of_block HBi.out, Su.cellK hn5]
          have d2 : wr.cell? ⟨w.heap.size + 1, 5 + n, none⟩ = some (.int .u64 (m.getC n)) := by rw [cell_of_block HBi.out, Su.cellC hn5]
          have f1 := free_of_block HBi.out n
          have f2 := free_of_block HBi.out (5 + n)
          have hw1 : IntKind.u64.wrap ((m.getK n : Int) + 1) = (m.getK n : Int) + 1 := by rw [IntKind.wrap_u64]; omega
          have hw2 : IntKind.u64.wrap ((m.getC n : Int) + 1) = (m.getC n : Int) + 1 := by rw [IntKind.wrap_u64]; omega
          have na : ¬ n = 5 + n := by omega
          have nb : ¬ 5 + n = n := by omega
          have hne0 : w.heap.size + 1 ≠ w.heap.size := by omega
          have GK : Hid (∀ (wx : World) (m' : Su), wx.heap[w.heap.size + 1]? = some (.cells m'.vals 41) → (wx.setCell ⟨w.heap.size + 1, n, none⟩ (.int .u64 ((m'.getK n : Int) + 1))).heap[w.heap.size + 1]? = some (.cells (m'.incK n).vals 41)) := Lib.hid (fun wx m' h => by rw [← Su.putK hn5]; exact block_setCell h n _)
          have GC : Hid (∀ (wx : World) (m' : Su), m'.getC n = m.getC n → wx.heap[w.heap.size + 1]? = some (.cells m'.vals 41) → (wx.setCell ⟨w.heap.size + 1, 5 + n, none⟩ (.int .u64 ((m.getC n : Int) + 1))).heap[w.heap.size + 1]? = some (.cells (m'.incC n).vals 41)) := Lib.hid (fun wx m' hg h => by rw [← hg, ← Su.putC hn5]; exact block_setCell h (5 + n) _)
          have HN := Lib.hid hn5
          have HM' := HM
          clear HM k1 k2
          by_cases hk : kind = n
          · by_cases hc : cause = n
            · have hE : Hid ((m.incK n).incC n = stepC (stepK m kind n) cause n) := Lib.hid (by unfold stepC stepK; rw [if_pos hk, if_pos hc])
              go_wp2_with fail
              refine ⟨HDone.out _ _ (GC.out _ (m.incK n) rfl (GK.out _ m HBi.out)) hE.out (block_setCell_other (block_setCell_other HB0i.out hne0 _) hne0 _) (Fr.setCell (Fr.setCell HFi.out (.inr (by simp)) _) (.inr (by simp)) _) (by simp; omega), ?_⟩
              simp [Go.RowKit.intOf]
              omega
            · have hE : Hid (m.incK n = stepC (stepK m kind n) cause n) := Lib.hid (by unfold stepC stepK; rw [if_pos hk, if_neg hc])
              go_wp2_with fail
              refine ⟨HDone.out _ _ (GK.out _ _ HBi.out) hE.out (block_setCell_other HB0i.out hne0 _) (Fr.setCell HFi.out (.inr (by simp)) _) (by simp; omega), ?_⟩
              simp [Go.RowKit.intOf]
              omega
          · by_cases hc : cause = n
            · have hE : Hid (m.incC n = stepC (stepK m kind n) cause n) := Lib.hid (by unfold stepC stepK; rw [if_neg hk, if_pos hc])
              go_wp2_with fail
              refine ⟨HDone.out _ _ (GC.out _ m rfl HBi.out) hE.out (block_setCell_other HB0i.out hne0 _) (Fr.setCell HFi.out (.inr (by simp)) _) (by simp; omega), ?_⟩
              simp [Go.RowKit.intOf]
              omega
            · have hE : Hid (m = stepC (stepK m kind n) cause n) := Lib.hid (by unfold stepC stepK; rw [if_neg hk, if_neg hc])
              go_wp2_with fail
              refine ⟨HDone.out _ _ HBi.out hE.out HB0i.out HFi.out hszi, ?_⟩
              simp [Go.RowKit.intOf]
              omega
        · obtain rfl : n = 5 := by omega
          have d10 : wr.cell? ⟨w.heap.size + 1, 10, none⟩ = some (.int .u64 la) := by rw [cell_of_block HBi.out, ← HLA.out, ← mid_l s kind cause 5]; rfl
          have f10 := free_of_block HBi.out 10
          have hne0 : w.heap.size + 1 ≠ w.heap.size := by omega
          have HB9 := Lib.hid (block_setCell HBi.out 10 (.int .u64 (max la tm)))
          rw [Su.putL, ← HS.out] at HB9
          go_wp2_with fail
          go_region
          go_wp2_with fail
          refine ⟨⟨i + 1, by omega, by go_num, HB9, Lib.hid (block_setCell_other HB0i.out hne0 _), Lib.hid (Fr.drew (Fr.setCell HFi.out (.inr (by simp)) _)), by simp; omega⟩, ?_⟩
          simp [Go.RowKit.intOf]
          omega
    · obtain rfl : i = l.length := by omega
      have HD : Hid (sumOf (l.take l.length) = sumOf l) := Lib.hid (by rw [List.take_length])
      rw [HD.out] at HBi
      clear HD
      obtain ⟨⟨k0, k1, k2, k3, k4, c0, c1, c2, c3, c4, la⟩, hs⟩ : ∃ s, s = sumOf l := ⟨_, rfl⟩
      rw [← hs] at HBi
      have HSL := Lib.hid hs
      clear hs
      obtain ⟨y0, y1, y2, y3, y4, y5, y6, y7, y8, y9, y10⟩ := eleven HBi.out
      obtain ⟨z0, z1, z2, z3, z4, z5, z6, z7, z8, z9, z10⟩ := eleven HB0i.out
      obtain ⟨f0, f1, f2, f3, f4, f5, f6, f7, f8, f9, f10⟩ := free11 HB0i.out
      go_wp2_with fail
      have HB9 := set11 HB0i.out (.int .u64 k0) (.int .u64 k1) (.int .u64 k2) (.int .u64 k3) (.int .u64 k4) (.int .u64 c0) (.int .u64 c1) (.int .u64 c2) (.int .u64 c3) (.int .u64 c4) (.int .u64 la)
      have HF9 := fr11 HFi.out (Nat.le_refl _) (.int .u64 k0) (.int .u64 k1) (.int .u64 k2) (.int .u64 k3) (.int .u64 k4) (.int .u64 c0) (.int .u64 c1) (.int .u64 c2) (.int .u64 c3) (.int .u64 c4) (.int .u64 la)
      clear y0 y1 y2 y3 y4 y5 y6 y7 y8 y9 y10 z0 z1 z2 z3 z4 z5 z6 z7 z8 z9 z10 f0 f1 f2 f3 f4 f5 f6 f7 f8 f9 f10
      revert HB9 HF9
      generalize (((((((((((wr.setCell ⟨w.heap.size, 0, none⟩ (.int .u64 k0)).setCell ⟨w.heap.size, 1, none⟩ (.int .u64 k1)).setCell ⟨w.heap.size, 2, none⟩ (.int .u64 k2)).setCell ⟨w.heap.size, 3, none⟩ (.int .u64 k3)).setCell ⟨w.heap.size, 4, none⟩ (.int .u64 k4)).setCell ⟨w.heap.size, 5, none⟩ (.int .u64 c0)).setCell ⟨w.heap.size, 6, none⟩ (.int .u64 c1)).setCell ⟨w.heap.size, 7, none⟩ (.int .u64 c2)).setCell ⟨w.heap.size, 8, none⟩ (.int .u64 c3)).setCell ⟨w.heap.size, 9, none⟩ (.int .u64 c4)).setCell ⟨w.heap.size, 10, none⟩ (.int .u64 la)) = w9
      intro HB9 HF9
      obtain ⟨y0, y1, y2, y3, y4, y5, y6, y7, y8, y9, y10⟩ := eleven HB9
      refine bodyPost_ret (v := .agg #[.int .u64 k0, .int .u64 k1, .int .u64 k2, .int .u64 k3, .int .u64 k4, .int .u64 c0, .int .u64 c1, .int .u64 c2, .int .u64 c3, .int .u64 c4, .int .u64 la]) (by simp [results, Tryd.results17, go_sem, y0, y1, y2, y3, y4, y5, y6, y7, y8, y9, y10]) rfl ?_
      exact ⟨by rw [← HSL.out]; rfl, HF9⟩
end Go.Proofs.YtfegdmhfmhaneaaDoor
