/-
  Only and Outs of the program.
-/
import Derived.Test.YtfegdmhfmhaneaaOu2
namespace Go.Proofs.Ytfegdmhfmhaneaa
open Go.RowKit

theorem delete_ev_nil (w : World) (fv : Value) (hf : ∃ g cb, fv = .func (.func g) #[] cb) :
    Calls Try.prog 20 #[.slice none 0 0, fv] w fun e w' => e = .returned (.slice none 0 0) ∧ Fr [] w w' := by
  obtain ⟨g, cb, rfl⟩ := hf
  have HI : Hid (∀ w, Calls Try.prog 28 #[.slice none 0 0, .func (.func g) #[] cb] w fun e w' => e = .returned (.int .i64 (-1)) ∧ Fr [] w w') := Lib.hid (fun w => by
    go_enter Try.func28, Try.ntmps28
    go_wp2_with fail
    go_loopw [8] (fun x wr => x = .int .i64 0 ∧ wr = w) (fun _ _ => 0)
    case atStart => exact ⟨rfl, by trivial⟩
    case round =>
      obtain ⟨rfl, rfl⟩ := hrel
      go_wp2_with fail
      go_ret
      exact ⟨rfl, Fr.refl _ _⟩)
  go_enter Try.func20, Try.ntmps20
  go_wp2_with fail
  refine (HI.out _).mono ?_
  rintro e w1 ⟨rfl, F⟩
  have HF := Lib.hid F
  clear F
  go_wp2_with fail
  go_ret
  exact ⟨rfl, HF.out⟩

theorem EvBlk.of_owns {w : World} {base g n cap : Nat} {l : List Ev} (h : w.ownsRow base 36 9 (.slice (some ⟨g, 0, none⟩) n cap) l.length (l.flatMap Ev.cells)) : EvBlk w g l ∧ g < w.heap.size ∧ base ≤ g ∧ n = l.length ∧ l.length ≤ cap := by
  have hE := Evs.of_owns h
  obtain ⟨h1, h2⟩ := h
  rcases h2 with ⟨hv, hn⟩ | ⟨g', cap', cur, hv, hg, hh, hc, hm, hs, ht⟩
  · cases hv
  · simp only [Value.slice.injEq, Option.some.injEq, Addr.mk.injEq, and_true] at hv
    obtain ⟨hv1, hv2, hv3⟩ := hv
    subst hv1 hv2 hv3
    refine ⟨⟨fun t ht => ?_, free_of_block hh⟩, lt_of_block hh, hg, rfl, hc⟩
    obtain ⟨ao, c2, h3, _, _, h4⟩ := hE
    obtain ⟨b, o, h5, _, h6⟩ := h4 t ht
    subst h5
    simp only [Value.slice.injEq, Option.some.injEq, Addr.mk.injEq, and_true] at h3
    obtain ⟨⟨h7, h8⟩, _⟩ := h3
    subst h7 h8
    simpa using h6

set_option maxHeartbeats 4000000 in
theorem only_spec {w : World} {base : Nat} {v : Value} {l : List Ev} (hl : Evs w base v l) (hn : l.length ≤ 1000) (deps d : Int) :
    Calls Try.prog 12 #[v, .int .i64 deps, .int .i64 d] w fun e w' => ∃ v', e = .returned v' ∧ Evs w' w.heap.size v' (onlyOf l deps d) ∧ Fr [] w w' := by
  have F0 : Fr [] w (w.alloc (.cells #[.int .i64 d] 3)) := (Fr.refl _ _).alloc _
  have HO := Lib.hid (owners_spec (hl.fr0 F0) hn deps)
  have HCL := Lib.hid (fun (w' : World) (F : Fr [] w w') => clone_ev (hl.fr0 F) hn)
  obtain ⟨ao, cap, rfl, -⟩ := hl
  have HF := Lib.hid F0
  clear F0
  go_enter Try.func12, Try.ntmps12
  go_wp2_with fail
  refine HO.out.mono ?_
  rintro e w1 ⟨r, rfl, hr, hM, F⟩
  have c5 := (F.cell (p := ⟨w.heap.size, 0, none⟩) (by simp) (by simp)).trans (World.cell?_alloc_new _ _ _ 0)
  have hr2 := hM.lt
  have hs1 := F.size
  simp only [List.getElem?_toArray, List.getElem?_cons_zero] at c5
  have HF1 := Lib.hid (HF.out.trans F)
  have HF2 := Lib.hid (HF1.out.alloc (.cells #[.map (some r)] 43))
  have HCap : Hid (OnlyCap (w1.alloc (.cells #[.map (some r)] 43)) w.heap.size w1.heap.size r l deps d) := Lib.hid ⟨(((Fr.refl [] w1).alloc _).cell (World.block_lt_of_cell? _ _ c5) (by simp)).trans c5, World.cell?_alloc_new _ _ _ 0, hM.fr ((Fr.refl [] w1).alloc _) (by simp)⟩
  clear F hM c5
  go_wp2_with fail
  refine (HCL.out _ HF2.out).mono ?_
  rintro e w2 ⟨v2, rfl, hown, F⟩
  have HCap := Lib.hid (HCap.out.fr F (by simp))
  have hs2 := F.size
  have HF3 := Lib.hid (HF2.out.trans F)
  clear F HO HCL
  have hsz : w.heap.size + 1 ≤ w1.heap.size := by simpa using hs1
  have hsz2 : w1.heap.size + 1 ≤ w2.heap.size := by simpa using hs2
  rcases hown.2 with ⟨rfl, h0⟩ | ⟨g, c2, cur, rfl, -⟩
  · obtain rfl := List.eq_nil_of_length_eq_zero h0
    clear hown
    go_wp2_with fail
    refine (delete_ev_nil w2 _ ⟨_, _, rfl⟩).mono ?_
    rintro e w3 ⟨rfl, F⟩
    have HF4 := Lib.hid (HF3.out.trans F)
    clear F
    go_wp2_with fail
    go_ret
    exact ⟨_, rfl, ⟨none, 0, rfl, Nat.le_refl _, fun _ => rfl, fun i hi => by simp [onlyOf] at hi⟩, HF4.out⟩
  · obtain ⟨hB, hg, hg2, -, hcap⟩ := EvBlk.of_owns hown
    have hg3 : w1.heap.size + 1 ≤ g := by simpa using hg2
    have hD : DropsIn w2 g w.heap.size w1.heap.size l deps d := fun wx Fx e => drops_spec (HCap.out.fr Fx (by simp; omega)) e
    have HDE := Lib.hid (delete_ev hB hg hD hn hcap)
    clear hown hB hD
    go_wp2_with fail
    refine HDE.out.mono ?_
    rintro e w3 ⟨rfl, hA, F⟩
    have HF4 := Lib.hid (HF3.out.trans' F (fun x hx => .inr (by simp at hx; omega)))
    have HA := Lib.hid hA
    clear F hA
    go_wp2_with fail
    go_ret
    refine ⟨_, rfl, ⟨some ⟨g, 0, none⟩, c2, rfl, Nat.le_trans (onlyOf_len _ _ _) hcap, fun h => (by cases h), fun i hi => ⟨g, 0, rfl, by omega, ?_⟩⟩, HF4.out⟩
    rw [Nat.zero_add]
    exact HA.out i hi
end Go.Proofs.Ytfegdmhfmhaneaa
