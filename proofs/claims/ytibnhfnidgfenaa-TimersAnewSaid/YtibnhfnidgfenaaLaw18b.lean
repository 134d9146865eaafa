/-
  A clock behind deeds: ran; awake.
-/
import Derived.Test.YtibnhfnidgfenaaLaw18
namespace Go.Proofs.Ytibnhfnidgfenaa
open Go.RowKit

variable {w : World} {c : Nat} {fp : List Nat} {s : Cs} {n : Nat} {v : Value}
/-- Behind do, and when its clock is boxed. -/
def AfterD (wr : World) (c : Nat) (fp : List Nat) (v : Value) (s' : Cs) (n' : Nat) (wx : World) (g5 : Nat) : Prop :=
  ∃ (v' : Value) (fp' : List Nat), wx.heap[g5]? = some (cbox s'.now v' s'.goal) ∧ CRV wx c fp' s' n' v' ∧ Sub fp' fp wr ∧ Fr fp wr wx ∧ OwnOf wr wx v v' ∧ (wr.heap.size ≤ g5 ∧ g5 ∉ fp' ∧ v'.ownBlock ≠ some g5)
theorem afterD_a {wr wx w5 : World} {v' : Value} {s' : Cs} {n' : Nat} (F : Fr [] wr wx) (h : Did wx c fp v s' n' v' w5) : AfterD wr c fp v s' n' (w5.alloc (cbox s'.now v' s'.goal)) w5.heap.size := by
  obtain ⟨fp', h1, h3, h4, h5⟩ := h
  have sx := F.size
  have s5 := h4.size
  have F9 : Fr [] w5 (w5.alloc (cbox s'.now v' s'.goal)) := (Fr.refl _ _).alloc _
  refine ⟨v', fp', block_alloc_new _ _, h1.fr0 F9, h3.down sx, (F.mono (by simp)).trans (h4.trans (F9.mono (by simp))), fun g hg => (h5 g hg).imp id (fun h => by simp; omega), ⟨by omega, fun hm => ?_, fun he => ?_⟩⟩
  · have := h1.1.lt _ hm; omega
  · have := (h1.2.2 _ he).2; omega
theorem afterD_b {wr wx w5 : World} {v' : Value} {s' : Cs} {n' : Nat} (hfp : ∀ x ∈ fp, x < wr.heap.size) (hv : ∀ g, v.ownBlock = some g → g < wr.heap.size) (F : Fr [] (wr.alloc (cbox 0 (.slice none 0 0) 0)) wx) (h : Did wx c fp v s' n' v' w5) :
    w5.heap[wr.heap.size]? = some (cbox 0 (.slice none 0 0) 0) ∧ AfterD wr c fp v s' n' (((w5.setCell ⟨wr.heap.size, 0, none⟩ (.int .u64 s'.now)).setCell ⟨wr.heap.size, 1, none⟩ v').setCell ⟨wr.heap.size, 2, none⟩ (.int .u64 s'.goal)) wr.heap.size := by
  obtain ⟨fp', h1, h3, h4, h5⟩ := h
  have sx := F.size
  rw [show (wr.alloc (cbox 0 (.slice none 0 0) 0)).heap.size = wr.heap.size + 1 by simp] at sx
  have s5 := h4.size
  have hn : wr.heap.size ∉ fp := fun hm => by have := hfp _ hm; omega
  have hn' : wr.heap.size ∉ fp' := fun hm => by
    rcases h3 _ hm with h | h
    · exact hn h
    · omega
  have hv' : v'.ownBlock ≠ some wr.heap.size := fun he => by
    rcases h5 _ he with h | h
    · have := hv _ h; omega
    · omega
  have hb : w5.heap[wr.heap.size]? = some (cbox 0 (.slice none 0 0) 0) := h4.keep (F.keep (block_alloc_new wr _) (by simp)) hn
  have F9 := set3_fr w5 wr.heap.size (.int .u64 s'.now) v' (.int .u64 s'.goal)
  have F1 : Fr fp wr w5 := ((((Fr.refl [] wr).alloc _).trans F).mono (by simp)).trans h4
  exact ⟨hb, v', fp', set3 hb _ _ _, h1.fr F9 (fun x hx => by simp at hx; subst hx; exact ⟨hn', hv'⟩), h3.down (by omega), F1.trans' F9 (fun x hx => .inr (by simp at hx; omega)), fun g hg => (h5 g hg).imp id (fun h => by simp; omega), ⟨Nat.le_refl _, hn', hv'⟩⟩
def clkTo (ds : List De) (i : Nat) : Cs := (ds.take i).foldl Cs.do ⟨0, [], 0⟩
theorem clkTo_zero (ds : List De) : clkTo ds 0 = ⟨0, [], 0⟩ := rfl
theorem clkTo_succ (ds : List De) {i : Nat} (hi : i < ds.length) : clkTo ds (i + 1) = (clkTo ds i).do (ds.getD i default) := by
  unfold clkTo
  rw [List.take_succ_eq_append_getElem hi, List.foldl_append]
  simp [List.getD, hi]
/-- x of the law, written anew. -/
theorem afterD_x {wr wc : World} {X B : Nat} {s' : Cs} {n' : Nat} {a : Option Addr} {k nn : Nat} {fp' : List Nat} (hX : X < wr.heap.size) (hXfp : X ∉ fp) (hXv : v.ownBlock ≠ some X) (hB : ∀ x ∈ fp, B ≤ x) (hBX : B ≤ X)
    (h5 : CRV wc c fp' s' n' (.slice a nn k)) (U5 : Sub fp' fp wr) (F5 : Fr fp wr wc) (O5 : OwnOf wr wc v (.slice a nn k)) (hb : ∃ a1 a2 a3, wr.heap[X]? = some (cbox a1 a2 a3)) :
    wc.heap[X]? = wr.heap[X]? ∧ X ∉ fp' ∧ (Value.slice a nn k).ownBlock ≠ some X ∧ (∀ x ∈ fp', B ≤ x ∧ x ≠ X) ∧
      CRV (((wc.setCell ⟨X, 0, none⟩ (.int .u64 s'.now)).setCell ⟨X, 1, none⟩ (.slice a nn k)).setCell ⟨X, 2, none⟩ (.int .u64 s'.goal)) c fp' s' n' (.slice a nn k) ∧
      (((wc.setCell ⟨X, 0, none⟩ (.int .u64 s'.now)).setCell ⟨X, 1, none⟩ (.slice a nn k)).setCell ⟨X, 2, none⟩ (.int .u64 s'.goal)).heap[X]? = some (cbox s'.now (.slice a nn k) s'.goal) ∧
      ∀ w0 : World, w0.heap.size ≤ B → Fr [] w0 wr → Fr [] w0 (((wc.setCell ⟨X, 0, none⟩ (.int .u64 s'.now)).setCell ⟨X, 1, none⟩ (.slice a nn k)).setCell ⟨X, 2, none⟩ (.int .u64 s'.goal)) := by
  have hXc := F5.block X hX hXfp
  have hXfp' : X ∉ fp' := fun hm => by
    rcases U5 X hm with h | h
    · exact hXfp h
    · omega
  have hXv' : (Value.slice a nn k).ownBlock ≠ some X := fun he => by
    rcases O5 X he with h | h
    · exact hXv h
    · omega
  have FZ := set3_fr wc X (.int .u64 s'.now) (.slice a nn k) (.int .u64 s'.goal)
  obtain ⟨a1, a2, a3, ho⟩ := hb
  refine ⟨hXc, hXfp', hXv', fun x hx => ⟨?_, fun e => hXfp' (e ▸ hx)⟩, h5.fr FZ (fun x hx => by simp at hx; subst hx; exact ⟨hXfp', hXv'⟩), set3 (hXc.trans ho) _ _ _, fun w0 h0 F0 => ?_⟩
  · rcases U5 x hx with h | h
    · exact hB x h
    · omega
  · exact (F0.trans' F5 (fun x hx => .inr (by have := hB x hx; omega))).trans' FZ (fun x hx => .inr (by simp at hx; omega))
set_option maxHeartbeats 4000000 in
set_option maxRecDepth 20000 in
theorem ran18_spec {w : World} {dv : Value} {ds : List De} (hd : De4s w dv ds) :
    Calls Try.prog 35 #[dv] w fun e w' => ∃ c, e = .returned (.pointer (some ⟨c, 0, none⟩)) ∧ C1 w w' c (clkTo ds (min ds.length 100)) 100 [] := by
  have HD := Lib.hid hd
  obtain ⟨ao, cap, rfl, hlen, -⟩ := hd
  go_enter Try.func35, Try.ntmps35
  go_wp2_with fail
  refine (clockNew w).mono ?_
  rintro r w2 ⟨c, rfl, fp, hW, hfp, F, -⟩
  have HW2 := Lib.hid hW
  have HFp := Lib.hid (fun x hx => ⟨hfp x hx, hW.lt x hx⟩ : ∀ x ∈ fp, w.heap.size ≤ x ∧ x < w2.heap.size)
  have hs1 : w.heap.size ≤ w2.heap.size := F.size
  have HF2 := Lib.hid F
  clear F hW hfp
  go_wp2_with fail
  obtain ⟨X, hX⟩ : ∃ X, X = w2.heap.size := ⟨_, rfl⟩
  have HXB := Lib.hid (block_alloc_new w2 (cbox 0 (.slice none 0 0) 0))
  have FX := (Fr.refl [] w2).alloc (cbox 0 (.slice none 0 0) 0)
  have HW2 := Lib.hid (⟨HW2.out.fr FX (by simp), Ons.nil _, fun g hg => by simp [Value.ownBlock] at hg⟩ : CRV (w2.alloc (cbox 0 (.slice none 0 0) 0)) c fp ⟨0, [], 0⟩ 0 (.slice none 0 0))
  have HF2 := Lib.hid (HF2.out.trans FX)
  have HFp := Lib.hid (fun x hx => ⟨(HFp.out x hx).1, fun e => by have := (HFp.out x hx).2; omega⟩ : ∀ x ∈ fp, w.heap.size ≤ x ∧ x ≠ X)
  rw [← hX] at HXB hs1 ⊢
  clear hX
  go_loopw [5] (fun vi wr => ∃ (i : Nat) (fp : List Nat) (v : Value), vi = .int .i64 i ∧ i ≤ ds.length ∧ i ≤ 100 ∧ Hid (CRV wr c fp (clkTo ds i) i v) ∧ Hid (wr.heap[X]? = some (cbox (clkTo ds i).now v (clkTo ds i).goal)) ∧ Hid (v.ownBlock ≠ some X) ∧ Hid (∀ x ∈ fp, w.heap.size ≤ x ∧ x ≠ X) ∧ Hid (Fr [] w wr)) (fun vi _ => ds.length - (intOf vi).toNat)
  case atStart => exact ⟨0, fp, .slice none 0 0, by go_num, Nat.zero_le _, by omega, HW2, HXB, Lib.hid (by simp [Value.ownBlock]), HFp, HF2⟩
  case round =>
    clear HW2 HXB HFp HF2 FX
    obtain ⟨i, fp, v, rfl, hi, hi2, HW, HXB, HvX, HFp, HF⟩ := hrel
    obtain ⟨va, vc, rfl⟩ := HW.out.form
    by_cases hlt : i < ds.length
    · by_cases hlt2 : i < 100
      · obtain ⟨b1, o1, e, rfl, h4, ht, heq⟩ := (HD.out.fr HF.out).at hlt
        have HSu : Hid (clkTo ds (i + 1) = (clkTo ds i).do e) := Lib.hid (by rw [clkTo_succ ds hlt, heq])
        clear heq
        generalize clkTo ds i = s at *
        have H4 := Lib.hid h4
        obtain ⟨x0, x1, x2⟩ := three_cells HXB.out
        obtain ⟨d0, d1, d2, d3⟩ := h4
        have HDo := Lib.hid (fun (wx : World) (F : Fr [] wr wx) => do18_spec (HW.out.fr0 F) (by omega) e ht)
        have d100 : decide ((i : Int) < 100) = true := decide_eq_true (by omega)
        have hfl := HW.out.1.lt
        have hvl := HW.out.2.2
        have HB := Lib.hid (fun (wx w5 : World) (F : Fr [] (wr.alloc (cbox 0 (.slice none 0 0) 0)) wx) v' s' n' => afterD_b (v' := v') (s' := s') (n' := n') (wx := wx) (w5 := w5) (c := c) (fp := fp) (v := .slice va s.l.length vc) hfl (fun g hg => (hvl g hg).2) F)
        have FA : Fr [] wr (wr.alloc (.cells #[.int .u64 0, .slice none 0 0, .int .u64 0] 61)) := (Fr.refl _ _).alloc _
        obtain ⟨x0a, x1a, x2a⟩ := three_cells (FA.keep HXB.out (by simp))
        obtain ⟨d0a, d1a, d2a, d3a⟩ := H4.out.fr FA (by simp)
        obtain ⟨ek, e1, e2, et⟩ := e
        simp only at d0a d1a d2a d3a d0 d1 d2 d3 ht HDo
        clear FA hfl hvl H4
        go_wp2_with fail
        go_upto_region 7 with fail
        go_cut [6, 7] from 10 to 30 (fun s6 s7 wx => ∃ g5, s6 = .pointer (some ⟨g5, 0, none⟩) ∧ Hid (AfterD wr c fp (.slice va s.l.length vc) (s.do ⟨ek, e1, e2, et⟩) (i + 1) wx g5))
        case first =>
          go_region_with (first
            | (go_at_call 31; refine (HDo.out _ (Fr.refl _ _).drew).mono ?_; rintro e w5 ⟨v', rfl, h5⟩; obtain ⟨a5, c5, hv5⟩ := (id h5).choose_spec.1.form; subst hv5; have A1 := Lib.hid (afterD_a (Fr.refl _ _).drew h5); clear h5)
            | (go_at_call 31; refine (HDo.out _ (((Fr.refl _ _).alloc _).drew)).mono ?_; rintro e w5 ⟨v', rfl, h5⟩; obtain ⟨a5, c5, hv5⟩ := (id h5).choose_spec.1.form; subst hv5; have A0 := HB.out _ _ (Fr.refl _ _).drew _ _ _ h5; have A1 := Lib.hid A0.2; obtain ⟨z0, z1, z2⟩ := three_cells A0.1; have hzf := free_of_block A0.1; clear h5 A0))
          all_goals (
            go_wp2_with fail
            go_meet
            exact ⟨_, rfl, A1⟩)
        case rest =>
          obtain ⟨g5, rfl, A1⟩ := hcut
          rw [← HSu.out] at A1
          obtain ⟨v', fp', hy, h5, U5, F5, O5, hg1, hg2, hg3⟩ := A1.out
          obtain ⟨va', vc', rfl⟩ := h5.form
          obtain ⟨y0, y1, y2⟩ := three_cells hy
          obtain ⟨k1, k2, k3, k4, k5, k6, k7⟩ := afterD_x (lt_of_block HXB.out) (fun hm => (HFp.out X hm).2 rfl) HvX.out (fun x hx => (HFp.out x hx).1) hs1 h5 U5 F5 O5 ⟨_, _, _, HXB.out⟩
          have HXc := k1.trans HXB.out
          obtain ⟨z0, z1, z2⟩ := three_cells HXc
          have hzf := free_of_block HXc
          have HR := Lib.hid (And.intro k3 (And.intro k4 (And.intro k5 (And.intro k6 (k7 w (Nat.le_refl _) HF.out)))))
          clear A1 hy h5 U5 F5 O5 hg1 hg2 hg3 k1 k2 k3 k4 k5 k6 k7 HXc HW HXB HvX HFp HF d0 d1 d2 d3 d0a d1a d2a d3a x0 x1 x2 x0a x1a x2a HDo HB HSu
          generalize hss : clkTo ds (i + 1) = s' at *
          have HSs := Lib.hid hss
          clear hss
          go_wp2_with fail
          go_roundw
          case rel => exact ⟨i + 1, fp', .slice va' s'.l.length vc', by go_num, by omega, by omega, by rw [HSs.out]; exact Lib.hid HR.out.2.2.1, by rw [HSs.out]; exact Lib.hid HR.out.2.2.2.1, Lib.hid HR.out.1, Lib.hid HR.out.2.1, Lib.hid HR.out.2.2.2.2⟩
          case measure => simp [intOf]; omega
      · have hi100 : min ds.length 100 = i := by omega
        have HE := Lib.hid hi100
        clear hi100
        go_wp2_with fail
        go_ret
        exact ⟨c, by first | rfl | simp, by rw [HE.out]; exact ⟨fp, HW.out.1.more hi2, fun x hx => (HFp.out x hx).1, HF.out, by simp⟩⟩
    · have hi100 : min ds.length 100 = i := by omega
      have HE := Lib.hid hi100
      clear hi100
      go_wp2_with fail
      go_ret
      exact ⟨c, by first | rfl | simp, by rw [HE.out]; exact ⟨fp, HW.out.1.more hi2, fun x hx => (HFp.out x hx).1, HF.out, by simp⟩⟩
end Go.Proofs.Ytibnhfnidgfenaa
