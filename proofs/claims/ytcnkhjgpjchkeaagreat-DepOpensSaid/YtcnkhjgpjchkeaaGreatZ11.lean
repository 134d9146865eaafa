/-
  Words, and contracts of functions of the program and of the document, for this seat's claims: each is a lemma on the way; conditions stand in each lemma.
-/
import Derived.Test.YtcnkhjgpjchkeaaGreatZ10
import Derived.Laws.ResultCell
namespace Go.Proofs.YtcnkhjgpjchkeaaGreat
open Go.RowKit

/-- Few deeds, and small ones? -/
def FewR (w : World) (l : List Dd) (e : Ending) (w' : World) : Prop := ∃ b : Bool, e = .returned (.bool b) ∧ (b = true → l.length ≤ 60 ∧ ∀ i, i < l.length → (l.getD i default).small) ∧ Fr [] w w'
theorem FewR.mk {w w' : World} {l : List Dd} {e : Ending} (b : Bool) (he : e = .returned (.bool b)) (h : b = true → l.length ≤ 60 ∧ ∀ i, i < l.length → (l.getD i default).small) (k : Fr [] w w') : FewR w l e w' := ⟨b, he, h, k⟩
set_option maxHeartbeats 4000000 in
theorem few17_spec {w : World} {v : Value} {l : List Dd} (hl : Dds w v l) :
    Calls Tryz.prog 10 #[v] w (FewR w l) := by
  have HL := Lib.hid hl
  obtain ⟨ao, cap, rfl, hn, -⟩ := hl
  go_enter Tryz.func10, Tryz.ntmps10
  go_wp2_with fail
  go_loopw [3] (fun x wr => ∃ (i : Nat), i ≤ l.length ∧ i ≤ 61 ∧ x = .int .i64 i ∧ Hid (∀ j, j < i → (l.getD j default).small) ∧ Hid (Fr [] w wr)) (fun x _ => l.length - (intOf x).toNat)
  case atStart => exact ⟨0, Nat.zero_le _, by omega, rfl, Lib.hid (fun j hj => by omega), Lib.hid (Fr.refl _ _)⟩
  case round =>
    obtain ⟨i, hi2, hi3, rfl, HS, HF⟩ := hrel
    by_cases hlt : i < l.length
    · by_cases hlt2 : i < 61
      · obtain ⟨b, o, vv, va, vm, rfl, ⟨-, -, -, -, -, k5, k6, k7⟩, hd, -⟩ := (HL.out.fr0 HF.out).at hlt
        have HSM : Hid ((l.getD i default).small → ∀ j, j < i + 1 → (l.getD j default).small) := Lib.hid (fun h j hj => if e : j = i then e ▸ h else HS.out j (by omega))
        generalize l.getD i default = d at *
        obtain ⟨a5, c5, rfl, -⟩ := hd.vals
        obtain ⟨a6, c6, rfl, -⟩ := hd.args
        obtain ⟨a7, c7, rfl, -⟩ := hd.ms
        clear hd
        have HX : Hid (d.args.length ≤ 8 → d.ms.length ≤ 8 → d.vals.length ≤ 20 → ∀ j, j < i + 1 → (l.getD j default).small) := Lib.hid (fun h1 h2 h3 => HSM.out ⟨h1, h2, h3⟩)
        clear HSM
        generalize d.args.length = n6 at *
        generalize d.ms.length = n7 at *
        generalize d.vals.length = n5 at *
        by_cases e6 : n6 ≤ 8
        · have f6 : ¬ (8 : Int) < (n6 : Int) := by omega
          by_cases e7 : n7 ≤ 8
          · have f7 : ¬ (8 : Int) < (n7 : Int) := by omega
            by_cases e5 : n5 ≤ 20
            · have f5 : ¬ (20 : Int) < (n5 : Int) := by omega
              have HY := Lib.hid (HX.out e6 e7 e5)
              clear HX
              go_wp2_with fail
              go_roundw
              case rel => exact ⟨i + 1, by omega, by omega, by go_num, HY, HF⟩
              case measure => simp [intOf]; omega
            · have f5 : (20 : Int) < (n5 : Int) := by omega
              clear HX
              go_wp2_with fail
              go_ret
              exact FewR.mk _ rfl (fun h => (by cases h)) HF.out
          · have f7 : (8 : Int) < (n7 : Int) := by omega
            clear HX
            go_wp2_with fail
            go_ret
            exact FewR.mk _ rfl (fun h => (by cases h)) HF.out
        · have f6 : (8 : Int) < (n6 : Int) := by omega
          clear HX
          go_wp2_with fail
          go_ret
          exact FewR.mk _ rfl (fun h => (by cases h)) HF.out
      · go_wp2_with fail
        go_ret
        exact FewR.mk _ rfl (fun h => by have := of_decide_eq_true h; omega) HF.out
    · obtain rfl : i = l.length := by omega
      go_wp2_with fail
      go_ret
      exact FewR.mk _ rfl (fun h => ⟨by have := of_decide_eq_true h; omega, HS.out⟩) HF.out

theorem Tryz.info_mem17 : (Tryz.prog.info? 191).map (fun i => (i.zero, i.size, i.bytes)) = some (some (.agg #[.int .i64 0, .int .i64 0]), 2, 16) := by kernel_rfl
/-- What is owned as members reads as them. -/
theorem Mems.of_owns {w : World} {base : Nat} {v : Value} {ms : List (Int × Int)} (h : w.ownsRow base 191 2 v ms.length (ms.flatMap pairCells)) : Mems w v ms := by
  rcases h.2 with ⟨hv, hn⟩ | ⟨g, cap, cur, hv, hb, hh, h1, h2, h3, ht⟩
  · have : ms = [] := by cases ms with
      | nil => rfl
      | cons a l => simp at hn
    subst this
    exact ⟨none, 0, hv, Nat.le_refl _, fun i hi => by simp at hi⟩
  · refine ⟨_, cap, hv, h1, fun i hi => ⟨g, 0, cur, _, rfl, hh, ?_⟩⟩
    have key : ∀ (l : List (Int × Int)) (j : Nat), j < l.length → (l.flatMap pairCells)[j * 2]? = some (.int .i64 (l.getD j (0, 0)).1) ∧ (l.flatMap pairCells)[j * 2 + 1]? = some (.int .i64 (l.getD j (0, 0)).2) := by
      intro l
      induction l with
      | nil => intro j hj; simp at hj
      | cons a l ih =>
        intro j hj
        cases j with
        | zero => simp [pairCells]
        | succ j =>
          have := ih j (by simpa using hj)
          rw [List.flatMap_cons, show (j + 1) * 2 = j * 2 + 2 by omega]
          simpa [pairCells] using this
    have hk := key ms i hi
    have hlen : (ms.flatMap pairCells).length = ms.length * 2 := by
      clear hk key ht hh h1 h2 h3 hb hi h hv
      induction ms with
      | nil => rfl
      | cons a l ih => rw [List.flatMap_cons, List.length_append, ih]; simp [pairCells]; omega
    have at' : ∀ (k : Nat) (u : Value), (ms.flatMap pairCells)[k]? = some u → cur[k]? = some u := by
      intro k u hu
      rw [← ht, List.getElem?_take] at hu
      split at hu
      · simpa using hu
      · cases hu
    rw [Nat.zero_add]
    exact ⟨at' _ _ hk.1, at' _ _ hk.2⟩
set_option maxHeartbeats 8000000 in
set_option maxRecDepth 20000 in
theorem made17_spec {w : World} {va vm : Value} {args : List Int} {ms : List (Int × Int)} (ha : RdInts w va args) (hm : Rd2 w vm ms) (hn : ms.length ≤ 1000000) :
    Calls Tryz.prog 38 #[.agg #[va, vm]] w fun e w' => (∃ va vm, e = .returned (.agg #[va, vm]) ∧ ArgsV va args.length ∧ Mems w' vm ms) ∧ Fr [] w w' := by
  obtain ⟨aa, ca, rfl, -⟩ := ha
  have HM := Lib.hid hm
  obtain ⟨am, cm, rfl, -⟩ := hm
  obtain ⟨i0, hi, hz0, hz1, hz2⟩ := info_partsD Tryz.info_mem17
  generalize args.length = na at *
  have hb1 := block_alloc (block_alloc (block_alloc_new w (.cells #[.slice aa na ca, .slice am ms.length cm] 52)) (.cells #[.slice none 0 0, .slice none 0 0] 91)) (.cells #[.slice aa na ca, .slice none 0 0] 91)
  have hb2 := block_alloc (block_alloc_new (w.alloc (.cells #[.slice aa na ca, .slice am ms.length cm] 52)) (.cells #[.slice none 0 0, .slice none 0 0] 91)) (.cells #[.slice aa na ca, .slice none 0 0] 91)
  have hb3 := block_alloc_new ((w.alloc (.cells #[.slice aa na ca, .slice am ms.length cm] 52)).alloc (.cells #[.slice none 0 0, .slice none 0 0] 91)) (.cells #[.slice aa na ca, .slice none 0 0] 91)
  have hF := (((Fr.refl [] w).alloc (.cells #[.slice aa na ca, .slice am ms.length cm] 52)).alloc (.cells #[.slice none 0 0, .slice none 0 0] 91)).alloc (.cells #[.slice aa na ca, .slice none 0 0] 91)
  have hsz : (((w.alloc (.cells #[.slice aa na ca, .slice am ms.length cm] 52)).alloc (.cells #[.slice none 0 0, .slice none 0 0] 91)).alloc (.cells #[.slice aa na ca, .slice none 0 0] 91)).heap.size = w.heap.size + 1 + 1 + 1 := by simp
  obtain ⟨w3, hw3⟩ : ∃ w3, w3 = ((w.alloc (.cells #[.slice aa na ca, .slice am ms.length cm] 52)).alloc (.cells #[.slice none 0 0, .slice none 0 0] 91)).alloc (.cells #[.slice aa na ca, .slice none 0 0] 91) := ⟨_, rfl⟩
  rw [← hw3] at hb1 hb2 hb3 hF hsz
  rw [World.size_alloc] at hb2
  rw [World.size_alloc, World.size_alloc] at hb3
  have HW3 := Lib.hid hw3
  have HB1 := Lib.hid hb1
  have HB2 := Lib.hid hb2
  have HB3 := Lib.hid hb3
  have HF3 := Lib.hid hF
  have HSZ := Lib.hid hsz
  have KS : Hid (∀ w' : World, Fr [w.heap.size + 1 + 1] w3 w' → w'.cell? ⟨w.heap.size, 1, none⟩ = some (.slice am ms.length cm)) := Lib.hid (fun w' F => by
    rw [cell_of_block (F.keep HB1.out (fun hs => by rw [List.mem_singleton] at hs; omega))]; rfl)
  have KE : Hid (∀ (i : Nat) (g o : Nat) (x y : Int), am = some ⟨g, o, none⟩ → w.cell? ⟨g, o + i * 2, none⟩ = some (.int .i64 x) → w.cell? ⟨g, o + i * 2 + 1, none⟩ = some (.int .i64 y) → ∀ w' : World, Fr [w.heap.size + 1 + 1] w3 w' → w'.cell? ⟨g, o + i * 2, none⟩ = some (.int .i64 x) ∧ w'.cell? ⟨g, o + i * 2 + 1, none⟩ = some (.int .i64 y)) := Lib.hid (fun i g o x y _ h1 h2 w' F => by
    have hg := World.block_lt_of_cell? _ _ h1
    have hg : g < w.heap.size := hg
    have F' := HF3.out.trans' (c := w') F (fun s hs => .inr (by simp at hs; omega))
    exact ⟨(F'.cell hg (by simp)).trans h1, (F'.cell hg (by simp)).trans h2⟩)
  clear hb1 hb2 hb3 hF hw3 hsz
  go_enter Tryz.func38, Tryz.ntmps38
  go_wp2_with fail
  rw [← HW3.out]
  go_loopw [4] (fun x wr => ∃ (i : Nat) (vm' : Value), i ≤ ms.length ∧ x = .int .i64 i ∧ Hid (Fr [w.heap.size + 1 + 1] w3 wr) ∧ Hid (wr.heap[w.heap.size + 1 + 1]? = some (.cells #[.slice aa na ca, vm'] 91 (0, 0))) ∧ Hid (wr.ownsRow (w.heap.size + 1 + 1 + 1) 191 2 vm' i ((ms.take i).flatMap pairCells))) (fun x _ => ms.length - (intOf x).toNat)
  case atStart => exact ⟨0, .slice none 0 0, Nat.zero_le _, rfl, Lib.hid (Fr.refl _ _), HB3, Lib.hid (World.ownsRow_nil _ _ _ _)⟩
  case round =>
    obtain ⟨i, vm', hi2, rfl, HFr, HBr, HO⟩ := hrel
    obtain ⟨ao2, cap2, hv2⟩ := ownsFormD HO.out
    subst hv2
    have ks1 := KS.out _ HFr.out
    by_cases hlt : i < ms.length
    · obtain ⟨_, _, hve, hat⟩ := HM.out
      obtain ⟨g, o, hao, m0, m1⟩ := hat i hlt
      simp only [Value.slice.injEq] at hve
      obtain ⟨rfl, -, -⟩ := hve
      have HT := Lib.hid (take_snocD (0, 0) hlt)
      generalize ms.getD i (0, 0) = m at *
      obtain ⟨x, y⟩ := m
      have KX := Lib.hid (KE.out i g o x y hao m0 m1)
      subst hao
      clear m0 m1 hat KE
      have FD : Fr [w.heap.size + 1 + 1] w3 wr.drew := HFr.out.drew
      have FA : Fr [w.heap.size + 1 + 1] w3 (wr.drew.alloc (.cells #[.int .i64 x, .int .i64 y] 191)) := FD.alloc _
      have k0 : wr.drew.cell? ⟨w.heap.size + 1 + 1, 1, none⟩ = some (.slice ao2 i cap2) := by
        have h : wr.drew.heap[w.heap.size + 1 + 1]? = some (.cells #[.slice aa na ca, .slice ao2 i cap2] 91 (0, 0)) := HBr.out
        rw [cell_of_block h]; rfl
      have hbA : (wr.drew.alloc (.cells #[.int .i64 x, .int .i64 y] 191)).heap[w.heap.size + 1 + 1]? = some (.cells #[.slice aa na ca, .slice ao2 i cap2] 91 (0, 0)) := block_alloc (w := wr.drew) HBr.out _
      have kA : (wr.drew.alloc (.cells #[.int .i64 x, .int .i64 y] 191)).cell? ⟨w.heap.size + 1 + 1, 1, none⟩ = some (.slice ao2 i cap2) := by rw [cell_of_block hbA]; rfl
      have HBA := Lib.hid hbA
      have kA2 : (wr.alloc (.cells #[.int .i64 x, .int .i64 y] 191)).cell? ⟨w.heap.size + 1 + 1, 1, none⟩ = some (.slice ao2 i cap2) := kA
      have hsz0 := HFr.out.size
      have hsz1 := HSZ.out
      have hi0 : (0 : Int) ≤ (i : Int) := by omega
      have hi1 : (i : Int) < (ms.length : Int) := by omega
      clear hbA
      go_wp2_with fail
      refine wp_region_held_drew (S := fun w' => w'.cell? ⟨w.heap.size, 1, none⟩ = some (.slice (some ⟨g, o, none⟩) ms.length cm) ∧ w'.cell? ⟨g, o + i * 2, none⟩ = some (.int .i64 x) ∧ w'.cell? ⟨g, o + i * 2 + 1, none⟩ = some (.int .i64 y)) (by kernel_rfl) (⟨KS.out _ FD, KX.out _ FD⟩) (fun hHeld => ?_)
      have hRg : Array.replicate 19 false = #[false, false, false, false, false, false, false, false, false, false, false, false, false, false, false, false, false, false, false] := rfl
      refine (?_ : wpAnyH _ _ _ _ _ 19 (Array.replicate 19 false) _ _)
      rw [hRg]
      refine wpAnyH_hide (fun _ _ d _ _ h => by cases d <;> exact h) (fun ops Q hops hQ hQn => ?_)
      clear hRg
      have e0 := congrArg (fun x : Array Oper => x[0]?) hops.out
      simp only [List.getElem?_toArray, List.getElem?_cons_zero] at e0
      have e1 := congrArg (fun x : Array Oper => x[1]?) hops.out
      simp only [List.getElem?_toArray, List.getElem?_cons_zero, List.getElem?_cons_succ] at e1
      have e2 := congrArg (fun x : Array Oper => x[2]?) hops.out
      simp only [List.getElem?_toArray, List.getElem?_cons_zero, List.getElem?_cons_succ] at e2
      have e3 := congrArg (fun x : Array Oper => x[3]?) hops.out
      simp only [List.getElem?_toArray, List.getElem?_cons_zero, List.getElem?_cons_succ] at e3
      have e4 := congrArg (fun x : Array Oper => x[4]?) hops.out
      simp only [List.getElem?_toArray, List.getElem?_cons_zero, List.getElem?_cons_succ] at e4
      have e5 := congrArg (fun x : Array Oper => x[5]?) hops.out
      simp only [List.getElem?_toArray, List.getElem?_cons_zero, List.getElem?_cons_succ] at e5
      have e6 := congrArg (fun x : Array Oper => x[6]?) hops.out
      simp only [List.getElem?_toArray, List.getElem?_cons_zero, List.getElem?_cons_succ] at e6
      have e7 := congrArg (fun x : Array Oper => x[7]?) hops.out
      simp only [List.getElem?_toArray, List.getElem?_cons_zero, List.getElem?_cons_succ] at e7
      have e8 := congrArg (fun x : Array Oper => x[8]?) hops.out
      simp only [List.getElem?_toArray, List.getElem?_cons_zero, List.getElem?_cons_succ] at e8
      have e9 := congrArg (fun x : Array Oper => x[9]?) hops.out
      simp only [List.getElem?_toArray, List.getElem?_cons_zero, List.getElem?_cons_succ] at e9
      have e10 := congrArg (fun x : Array Oper => x[10]?) hops.out
      simp only [List.getElem?_toArray, List.getElem?_cons_zero, List.getElem?_cons_succ] at e10
      have e11 := congrArg (fun x : Array Oper => x[11]?) hops.out
      simp only [List.getElem?_toArray, List.getElem?_cons_zero, List.getElem?_cons_succ] at e11
      have e12 := congrArg (fun x : Array Oper => x[12]?) hops.out
      simp only [List.getElem?_toArray, List.getElem?_cons_zero, List.getElem?_cons_succ] at e12
      have e13 := congrArg (fun x : Array Oper => x[13]?) hops.out
      simp only [List.getElem?_toArray, List.getElem?_cons_zero, List.getElem?_cons_succ] at e13
      have e14 := congrArg (fun x : Array Oper => x[14]?) hops.out
      simp only [List.getElem?_toArray, List.getElem?_cons_zero, List.getElem?_cons_succ] at e14
      have e15 := congrArg (fun x : Array Oper => x[15]?) hops.out
      simp only [List.getElem?_toArray, List.getElem?_cons_zero, List.getElem?_cons_succ] at e15
      have e16 := congrArg (fun x : Array Oper => x[16]?) hops.out
      simp only [List.getElem?_toArray, List.getElem?_cons_zero, List.getElem?_cons_succ] at e16
      have e17 := congrArg (fun x : Array Oper => x[17]?) hops.out
      simp only [List.getElem?_toArray, List.getElem?_cons_zero, List.getElem?_cons_succ] at e17
      have e18 := congrArg (fun x : Array Oper => x[18]?) hops.out
      simp only [List.getElem?_toArray, List.getElem?_cons_zero, List.getElem?_cons_succ] at e18
      refine wpAnyH_take (i := 0) (v := .pointer (some ⟨w.heap.size + 1 + 1, 1, none⟩)) e0 (by rw [hops.out]; kernel_rfl) (by rw [hops.out]; kernel_rfl) (by rw [hops.out]; kernel_rfl) (fun c a w h => hQ c a _ _ w h) (Or.inl ⟨rfl, fun w' _ => by go_simp⟩) hHeld ?_
      (try simp only [Act.put, List.setIfInBounds_toArray, List.set_cons_zero, List.set_cons_succ])
      refine wpAnyH_take (i := 2) (v := .pointer (some ⟨w.heap.size, 1, none⟩)) e2 (by rw [hops.out]; kernel_rfl) (by rw [hops.out]; kernel_rfl) (by rw [hops.out]; kernel_rfl) (fun c a w h => hQ c a _ _ w h) (Or.inl ⟨rfl, fun w' _ => by go_simp⟩) hHeld ?_
      (try simp only [Act.put, List.setIfInBounds_toArray, List.set_cons_zero, List.set_cons_succ])
      refine wpAnyH_take (i := 3) (v := .slice (some ⟨g, o, none⟩) ms.length cm) e3 (by rw [hops.out]; kernel_rfl) (by rw [hops.out]; kernel_rfl) (by rw [hops.out]; kernel_rfl) (fun c a w h => hQ c a _ _ w h) (Or.inl ⟨rfl, fun w' hS => by have hS := hS.1; go_simp⟩) hHeld ?_
      (try simp only [Act.put, List.setIfInBounds_toArray, List.set_cons_zero, List.set_cons_succ])
      refine wpAnyH_take (i := 4) (v := .int .i64 i) e4 (by rw [hops.out]; kernel_rfl) (by rw [hops.out]; kernel_rfl) (by rw [hops.out]; kernel_rfl) (fun c a w h => hQ c a _ _ w h) (Or.inl ⟨rfl, fun w' _ => by go_simp⟩) hHeld ?_
      (try simp only [Act.put, List.setIfInBounds_toArray, List.set_cons_zero, List.set_cons_succ])
      refine wpAnyH_take (i := 5) (v := .pointer (some ⟨g, o + i * 2, none⟩)) e5 (by rw [hops.out]; kernel_rfl) (by rw [hops.out]; kernel_rfl) (by rw [hops.out]; kernel_rfl) (fun c a w h => hQ c a _ _ w h) (Or.inl ⟨rfl, fun w' _ => by go_simp⟩) hHeld ?_
      (try simp only [Act.put, List.setIfInBounds_toArray, List.set_cons_zero, List.set_cons_succ])
      refine wpAnyH_take (i := 6) (v := .pointer (some ⟨g, o + i * 2, none⟩)) e6 (by rw [hops.out]; kernel_rfl) (by rw [hops.out]; kernel_rfl) (by rw [hops.out]; kernel_rfl) (fun c a w h => hQ c a _ _ w h) (Or.inl ⟨rfl, fun w' _ => by go_simp⟩) hHeld ?_
      (try simp only [Act.put, List.setIfInBounds_toArray, List.set_cons_zero, List.set_cons_succ])
      refine wpAnyH_take (i := 7) (v := .int .i64 x) e7 (by rw [hops.out]; kernel_rfl) (by rw [hops.out]; kernel_rfl) (by rw [hops.out]; kernel_rfl) (fun c a w h => hQ c a _ _ w h) (Or.inl ⟨rfl, fun w' hS => by have hS := hS.2.1; go_simp⟩) hHeld ?_
      (try simp only [Act.put, List.setIfInBounds_toArray, List.set_cons_zero, List.set_cons_succ])
      refine wpAnyH_take (i := 8) (v := .pointer (some ⟨w.heap.size, 1, none⟩)) e8 (by rw [hops.out]; kernel_rfl) (by rw [hops.out]; kernel_rfl) (by rw [hops.out]; kernel_rfl) (fun c a w h => hQ c a _ _ w h) (Or.inl ⟨rfl, fun w' _ => by go_simp⟩) hHeld ?_
      (try simp only [Act.put, List.setIfInBounds_toArray, List.set_cons_zero, List.set_cons_succ])
      refine wpAnyH_take (i := 9) (v := .slice (some ⟨g, o, none⟩) ms.length cm) e9 (by rw [hops.out]; kernel_rfl) (by rw [hops.out]; kernel_rfl) (by rw [hops.out]; kernel_rfl) (fun c a w h => hQ c a _ _ w h) (Or.inl ⟨rfl, fun w' hS => by have hS := hS.1; go_simp⟩) hHeld ?_
      (try simp only [Act.put, List.setIfInBounds_toArray, List.set_cons_zero, List.set_cons_succ])
      refine wpAnyH_take (i := 10) (v := .int .i64 i) e10 (by rw [hops.out]; kernel_rfl) (by rw [hops.out]; kernel_rfl) (by rw [hops.out]; kernel_rfl) (fun c a w h => hQ c a _ _ w h) (Or.inl ⟨rfl, fun w' _ => by go_simp⟩) hHeld ?_
      (try simp only [Act.put, List.setIfInBounds_toArray, List.set_cons_zero, List.set_cons_succ])
      refine wpAnyH_take (i := 11) (v := .pointer (some ⟨g, o + i * 2, none⟩)) e11 (by rw [hops.out]; kernel_rfl) (by rw [hops.out]; kernel_rfl) (by rw [hops.out]; kernel_rfl) (fun c a w h => hQ c a _ _ w h) (Or.inl ⟨rfl, fun w' _ => by go_simp⟩) hHeld ?_
      (try simp only [Act.put, List.setIfInBounds_toArray, List.set_cons_zero, List.set_cons_succ])
      refine wpAnyH_take (i := 12) (v := .pointer (some ⟨g, o + i * 2 + 1, none⟩)) e12 (by rw [hops.out]; kernel_rfl) (by rw [hops.out]; kernel_rfl) (by rw [hops.out]; kernel_rfl) (fun c a w h => hQ c a _ _ w h) (Or.inl ⟨rfl, fun w' _ => by go_simp⟩) hHeld ?_
      (try simp only [Act.put, List.setIfInBounds_toArray, List.set_cons_zero, List.set_cons_succ])
      refine wpAnyH_take (i := 13) (v := .int .i64 y) e13 (by rw [hops.out]; kernel_rfl) (by rw [hops.out]; kernel_rfl) (by rw [hops.out]; kernel_rfl) (fun c a w h => hQ c a _ _ w h) (Or.inl ⟨rfl, fun w' hS => by have hS := hS.2.2; go_simp⟩) hHeld ?_
      (try simp only [Act.put, List.setIfInBounds_toArray, List.set_cons_zero, List.set_cons_succ])
      refine wpAnyH_take (i := 14) (v := .agg #[.int .i64 x, .int .i64 y]) e14 (by rw [hops.out]; kernel_rfl) (by rw [hops.out]; kernel_rfl) (by rw [hops.out]; kernel_rfl) (fun c a w h => hQ c a _ _ w h) (Or.inl ⟨rfl, fun w' _ => by go_simp⟩) hHeld ?_
      (try simp only [Act.put, List.setIfInBounds_toArray, List.set_cons_zero, List.set_cons_succ])
      refine wpAnyH_ready (rs := [1, 15]) (by rw [hops.out]; kernel_rfl) (by simp) ?_
      refine AllReadyH.cons e1 (fun K hK => ?_) ?_
      · go_simp
        refine hK.out _ _ (⟨KS.out _ FD, KX.out _ FD⟩) (fun hHeld => ?_)
        clear hK K
        (try simp only [List.setIfInBounds_toArray, List.set_cons_zero, List.set_cons_succ])
        refine wpAnyH_ready (rs := [15]) (by rw [hops.out]; kernel_rfl) (by simp) ?_
        refine AllReadyH.cons e15 (fun K hK => ?_) AllReadyH.nil
        go_simp
        refine hK.out _ _ (⟨KS.out _ FA, KX.out _ FA⟩) (fun hHeld => ?_)
        clear hK K
        (try simp only [List.setIfInBounds_toArray, List.set_cons_zero, List.set_cons_succ])
        refine wpAnyH_ready (rs := [16]) (by rw [hops.out]; kernel_rfl) (by simp) ?_
        refine AllReadyH.cons e16 (fun K hK => ?_) AllReadyH.nil
        refine step_app rfl (.tmp 16) (.tmp 30) 89 rfl (w.heap.size + 1 + 1 + 1) 191 i0 _ 2 16 Tryz.underlying89 hi hz0 hz1 hz2 rfl (by decide) (.slice ao2 i cap2) i _ rfl (ownsRow_fr HO.out (show Fr [] wr _ from by repeat (first | exact Fr.refl _ _ | apply Fr.drew | apply Fr.alloc)) (by simp)) _ 1 _ rfl (Src.pair wr.drew (x, y) 191 wr.drew.heap.size rfl) (by unfold maxLen; omega) (by omega) (by simp; omega) ?_
        intro v8 w8 hown hg
        obtain ⟨a8, c8, h8⟩ := ownsFormD hown
        subst h8
        have F8 := Fr.of_grownD FA hg (fun q hq => .inr (by have := (World.ownsRow.lt HO.out q hq).1; omega))
        have B8 := grown_keepD hg HBA.out (owns_neD (ownsRow_fr HO.out (show Fr [] wr (wr.drew.alloc (.cells #[.int .i64 x, .int .i64 y] 191)) from by repeat (first | exact Fr.refl _ _ | apply Fr.drew | apply Fr.alloc)) (by simp)) HBA.out (show (191 : TypeId) ≠ 91 by decide))
        have f8 := free_of_block B8 1
        have g8 : w8.cell? ⟨w.heap.size + 1 + 1, 1, none⟩ = some (.slice ao2 i cap2) := (cell_of_block B8 1).trans rfl
        refine hK.out _ _ (⟨KS.out _ F8, KX.out _ F8⟩) (fun hHeld => ?_)
        clear hK K
        (try simp only [Act.put, List.setIfInBounds_toArray, List.set_cons_zero, List.set_cons_succ])
        refine wpAnyH_take (i := 17) (v := .pointer (some ⟨w.heap.size + 1 + 1, 1, none⟩)) e17 (by rw [hops.out]; kernel_rfl) (by rw [hops.out]; kernel_rfl) (by rw [hops.out]; kernel_rfl) (fun c a w h => hQ c a _ _ w h) (Or.inl ⟨rfl, fun w' _ => by go_simp⟩) hHeld ?_
        (try simp only [Act.put, List.setIfInBounds_toArray, List.set_cons_zero, List.set_cons_succ])
        refine wpAnyH_ready (rs := [18]) (by rw [hops.out]; kernel_rfl) (by simp) ?_
        refine AllReadyH.cons e18 (fun K hK => ?_) AllReadyH.nil
        go_simp
        have F9 : Fr [w.heap.size + 1 + 1] w3 (w8.setCell ⟨w.heap.size + 1 + 1, 1, none⟩ (.slice a8 (i + 1) c8)) := F8.setCell (.inl (by simp)) _
        refine hK.out _ _ (⟨KS.out _ F9, KX.out _ F9⟩) (fun hHeld => ?_)
        clear hK K
        (try simp only [List.setIfInBounds_toArray, List.set_cons_zero, List.set_cons_succ])
        refine wpAnyH_done (by rw [hops.out]; kernel_rfl) (hQn.out _ _ ?_) _
        clear hQn hQ hops e0 e1 e2 e3 e4 e5 e6 e7 e8 e9 e10 e11 e12 e13 e14 e15 e16 e17 e18
        have HF9 := Lib.hid F9
        have HB9 : Hid ((w8.setCell ⟨w.heap.size + 1 + 1, 1, none⟩ (.slice a8 (i + 1) c8)).heap[w.heap.size + 1 + 1]? = some (.cells #[.slice aa na ca, .slice a8 (i + 1) c8] 91 (0, 0))) := Lib.hid (block_setCell B8 1 (.slice a8 (i + 1) c8))
        have HO9 : Hid ((w8.setCell ⟨w.heap.size + 1 + 1, 1, none⟩ (.slice a8 (i + 1) c8)).ownsRow (w.heap.size + 1 + 1 + 1) 191 2 (.slice a8 (i + 1) c8) (i + 1) ((ms.take (i + 1)).flatMap pairCells)) := Lib.hid (by
          rw [HT.out, List.flatMap_append]
          have hown2 : w8.ownsRow (w.heap.size + 1 + 1 + 1) 191 2 (.slice a8 (i + 1) c8) (i + 1) ((ms.take i).flatMap pairCells ++ [(x, y)].flatMap pairCells) := by simpa using hown
          refine ownsRow_fr hown2 (show Fr [w.heap.size + 1 + 1] w8 _ from (Fr.refl _ _).setCell (.inl (by simp)) _) (fun q hq hs => ?_)
          simp at hs
          exact owns_neD hown2 B8 (show (191 : TypeId) ≠ 91 by decide) q hq hs)
        clear F8 F9 B8 f8 g8 hown hg FD FA k0 kA kA2 ks1
        go_wp2_with fail
        go_roundw
        case rel => exact ⟨i + 1, .slice a8 (i + 1) c8, by omega, by go_num, HF9, HB9, HO9⟩
        case measure => simp [intOf]; omega
      refine AllReadyH.cons e15 (fun K hK => ?_) AllReadyH.nil
      go_simp
      refine hK.out _ _ (⟨KS.out _ FA, KX.out _ FA⟩) (fun hHeld => ?_)
      clear hK K
      (try simp only [List.setIfInBounds_toArray, List.set_cons_zero, List.set_cons_succ])
      refine wpAnyH_ready (rs := [1]) (by rw [hops.out]; kernel_rfl) (by simp) ?_
      refine AllReadyH.cons e1 (fun K hK => ?_) AllReadyH.nil
      go_simp
      refine hK.out _ _ (⟨KS.out _ FA, KX.out _ FA⟩) (fun hHeld => ?_)
      clear hK K
      (try simp only [List.setIfInBounds_toArray, List.set_cons_zero, List.set_cons_succ])
      refine wpAnyH_ready (rs := [16]) (by rw [hops.out]; kernel_rfl) (by simp) ?_
      refine AllReadyH.cons e16 (fun K hK => ?_) AllReadyH.nil
      refine step_app rfl (.tmp 16) (.tmp 30) 89 rfl (w.heap.size + 1 + 1 + 1) 191 i0 _ 2 16 Tryz.underlying89 hi hz0 hz1 hz2 rfl (by decide) (.slice ao2 i cap2) i _ rfl (ownsRow_fr HO.out (show Fr [] wr _ from by repeat (first | exact Fr.refl _ _ | apply Fr.drew | apply Fr.alloc)) (by simp)) _ 1 _ rfl (Src.pair wr.drew (x, y) 191 wr.drew.heap.size rfl) (by unfold maxLen; omega) (by omega) (by simp; omega) ?_
      intro v8 w8 hown hg
      obtain ⟨a8, c8, h8⟩ := ownsFormD hown
      subst h8
      have F8 := Fr.of_grownD FA hg (fun q hq => .inr (by have := (World.ownsRow.lt HO.out q hq).1; omega))
      have B8 := grown_keepD hg HBA.out (owns_neD (ownsRow_fr HO.out (show Fr [] wr (wr.drew.alloc (.cells #[.int .i64 x, .int .i64 y] 191)) from by repeat (first | exact Fr.refl _ _ | apply Fr.drew | apply Fr.alloc)) (by simp)) HBA.out (show (191 : TypeId) ≠ 91 by decide))
      have f8 := free_of_block B8 1
      have g8 : w8.cell? ⟨w.heap.size + 1 + 1, 1, none⟩ = some (.slice ao2 i cap2) := (cell_of_block B8 1).trans rfl
      refine hK.out _ _ (⟨KS.out _ F8, KX.out _ F8⟩) (fun hHeld => ?_)
      clear hK K
      (try simp only [Act.put, List.setIfInBounds_toArray, List.set_cons_zero, List.set_cons_succ])
      refine wpAnyH_take (i := 17) (v := .pointer (some ⟨w.heap.size + 1 + 1, 1, none⟩)) e17 (by rw [hops.out]; kernel_rfl) (by rw [hops.out]; kernel_rfl) (by rw [hops.out]; kernel_rfl) (fun c a w h => hQ c a _ _ w h) (Or.inl ⟨rfl, fun w' _ => by go_simp⟩) hHeld ?_
      (try simp only [Act.put, List.setIfInBounds_toArray, List.set_cons_zero, List.set_cons_succ])
      refine wpAnyH_ready (rs := [18]) (by rw [hops.out]; kernel_rfl) (by simp) ?_
      refine AllReadyH.cons e18 (fun K hK => ?_) AllReadyH.nil
      go_simp
      have F9 : Fr [w.heap.size + 1 + 1] w3 (w8.setCell ⟨w.heap.size + 1 + 1, 1, none⟩ (.slice a8 (i + 1) c8)) := F8.setCell (.inl (by simp)) _
      refine hK.out _ _ (⟨KS.out _ F9, KX.out _ F9⟩) (fun hHeld => ?_)
      clear hK K
      (try simp only [List.setIfInBounds_toArray, List.set_cons_zero, List.set_cons_succ])
      refine wpAnyH_done (by rw [hops.out]; kernel_rfl) (hQn.out _ _ ?_) _
      clear hQn hQ hops e0 e1 e2 e3 e4 e5 e6 e7 e8 e9 e10 e11 e12 e13 e14 e15 e16 e17 e18
      have HF9 := Lib.hid F9
      have HB9 : Hid ((w8.setCell ⟨w.heap.size + 1 + 1, 1, none⟩ (.slice a8 (i + 1) c8)).heap[w.heap.size + 1 + 1]? = some (.cells #[.slice aa na ca, .slice a8 (i + 1) c8] 91 (0, 0))) := Lib.hid (block_setCell B8 1 (.slice a8 (i + 1) c8))
      have HO9 : Hid ((w8.setCell ⟨w.heap.size + 1 + 1, 1, none⟩ (.slice a8 (i + 1) c8)).ownsRow (w.heap.size + 1 + 1 + 1) 191 2 (.slice a8 (i + 1) c8) (i + 1) ((ms.take (i + 1)).flatMap pairCells)) := Lib.hid (by
        rw [HT.out, List.flatMap_append]
        have hown2 : w8.ownsRow (w.heap.size + 1 + 1 + 1) 191 2 (.slice a8 (i + 1) c8) (i + 1) ((ms.take i).flatMap pairCells ++ [(x, y)].flatMap pairCells) := by simpa using hown
        refine ownsRow_fr hown2 (show Fr [w.heap.size + 1 + 1] w8 _ from (Fr.refl _ _).setCell (.inl (by simp)) _) (fun q hq hs => ?_)
        simp at hs
        exact owns_neD hown2 B8 (show (191 : TypeId) ≠ 91 by decide) q hq hs)
      clear F8 F9 B8 f8 g8 hown hg FD FA k0 kA kA2 ks1
      go_wp2_with fail
      go_roundw
      case rel => exact ⟨i + 1, .slice a8 (i + 1) c8, by omega, by go_num, HF9, HB9, HO9⟩
      case measure => simp [intOf]; omega
    · obtain rfl : i = ms.length := by omega
      rw [List.take_length] at HO
      have hb2 := HFr.out.keep HB2.out (fun hs => by rw [List.mem_singleton] at hs; omega)
      have hb3 := HBr.out
      have c30 : wr.cell? ⟨w.heap.size + 1 + 1, 0, none⟩ = some (.slice aa na ca) := (cell_of_block hb3 0).trans rfl
      have c31 : wr.cell? ⟨w.heap.size + 1 + 1, 1, none⟩ = some (.slice ao2 ms.length cap2) := (cell_of_block hb3 1).trans rfl
      have c20 : wr.cell? ⟨w.heap.size + 1, 0, none⟩ = some (.slice none 0 0) := (cell_of_block hb2 0).trans rfl
      have c21 : wr.cell? ⟨w.heap.size + 1, 1, none⟩ = some (.slice none 0 0) := (cell_of_block hb2 1).trans rfl
      have f20 := free_of_block hb2 0
      have f21 := free_of_block hb2 1
      have kz : Fr [w.heap.size + 1] wr ((wr.setCell ⟨w.heap.size + 1, 0, none⟩ (.slice aa na ca)).setCell ⟨w.heap.size + 1, 1, none⟩ (.slice ao2 ms.length cap2)) := ((Fr.refl _ _).setCell (p := ⟨w.heap.size + 1, 0, none⟩) (.inl (by simp)) _).setCell (p := ⟨w.heap.size + 1, 1, none⟩) (.inl (by simp)) _
      have HMS := Lib.hid (Mems.of_owns (ownsRow_fr HO.out kz (fun q hq hs => by simp at hs; exact owns_neD HO.out hb2 (show (191 : TypeId) ≠ 91 by decide) q hq hs)))
      have HEND := Lib.hid ((HF3.out.trans' HFr.out (fun s hs => .inr (by simp at hs; omega))).trans' kz (fun s hs => .inr (by simp at hs; omega)))
      clear hb2 hb3 kz HB1 HB2 HB3 HW3 HSZ KS KE
      go_wp2_with fail
      refine bodyPost_ret (v := .agg #[.slice aa na ca, .slice ao2 ms.length cap2]) (by simp [results, Tryz.results38, go_sem, c20, c21]) rfl ?_
      exact ⟨⟨_, _, rfl, ⟨aa, ca, rfl⟩, HMS.out⟩, HEND.out⟩
end Go.Proofs.YtcnkhjgpjchkeaaGreat

namespace Go.Proofs.YtcnkhjgpjchkeaaGreat
open Go.RowKit

theorem PubR.put {w w2 w3 : World} {y : Nat} {cs : Array Value} {A : DepA} {M : DepM} {σ : DS} {va vo : Value} (k : Fr [] w w2) (h2 : IsDep w2 A M) (hb : w2.heap[y]? = some (.cells cs 57 (0, 0))) (hy : w.heap.size ≤ y) (hd : IsDep w3 A σ.M) (F : Fr A.list w2 w3)
    (ra : w3.ownsRow w2.heap.size 95 3 va σ.ac.length (σ.ac.flatMap ActM.cells)) (ro : w3.ownsRow w2.heap.size 87 5 vo σ.ou.length (σ.ou.flatMap Ou.cells)) {err : Int} {e : Ending} (he : e = .returned (.tuple #[.agg #[va, vo], .int .i64 err])) (u0 u1 : Value) :
    PubR w A σ err e ((w3.setCell ⟨y, 0, none⟩ u0).setCell ⟨y, 1, none⟩ u1) := by
  have hyn : y ∉ A.list := fun hs => h2.nobox (.inr (.inr (.inr rfl))) _ hs _ _ hb
  have hb3 := F.keep hb hyn
  have k1 : Fr [y] w3 ((w3.setCell ⟨y, 0, none⟩ u0).setCell ⟨y, 1, none⟩ u1) := ((Fr.refl _ _).setCell (p := ⟨y, 0, none⟩) (.inl (by simp)) _).setCell (p := ⟨y, 1, none⟩) (.inl (by simp)) _
  have hn : ∀ s ∈ A.list, s ∉ [y] := fun s hs h => by
    simp at h; subst h
    exact hyn hs
  have hm : NoMem w3 [y] := NoMem.cons (NoMem.nil w3) hb3 (by intro _ _ e; simp only [Obj.cells.injEq] at e; exact absurd e.2.1 (by decide))
  refine ⟨va, vo, he, hd.fr k1 hn hm, ((k.mono (S' := A.list) (by simp)).trans F).trans' k1 (fun s hs => .inr (by simp at hs; subst hs; exact hy)), ownsRow_fr (ownsRow_lower ra k.size) k1 ?_, ownsRow_fr (ownsRow_lower ro k.size) k1 ?_⟩
  · intro g hg hs; simp at hs; exact owns_neD ra hb3 (by show (95 : TypeId) ≠ 57; decide) g hg hs
  · intro g hg hs; simp at hs; exact owns_neD ro hb3 (by show (87 : TypeId) ≠ 57; decide) g hg hs
/-- A value's block stands ahead of the dependency's. -/
theorem ahead {A : DepA} {n : Nat} (hA : ∀ x ∈ A.list, n ≤ x) {vv : Value} (hv : ∀ g, vv.ownBlock = some g → g < n) : ∀ g, vv.ownBlock = some g → g ∉ A.list := fun g hg hm => by
  have := hA g hm; have := hv g hg; omega
theorem RdInts.noBlk {w : World} {vv : Value} {xs : List Int} (h : RdInts w vv xs) {A : DepA} (hA : ∀ x ∈ A.list, w.heap.size ≤ x) : xs = [] ∨ ∀ g, vv.ownBlock = some g → g ∉ A.list := by
  cases xs with
  | nil => exact .inl rfl
  | cons x xs =>
    refine .inr (ahead hA fun g hg => ?_)
    obtain ⟨ao, cap, rfl, _, _, h4⟩ := h
    obtain ⟨b, o, rfl, hc⟩ := h4 0 (by simp)
    simp only [Value.ownBlock, Option.some.injEq] at hg
    subst hg
    exact World.block_lt_of_cell? _ _ hc
set_option maxHeartbeats 8000000 in
set_option maxRecDepth 20000 in
theorem do17_spec {w : World} {A : DepA} {M : DepM} (h : IsDep w A M) (now : Nat) (hnow : now < 18446744073709551616) (hi : DInv M NoOne) {n : Nat} (hz : DSz n M) (hn : n ≤ 100000000000000) {d : Dd} (hd : d.small) {vv va vm : Value} (hv : DdV w vv va vm d) (hva : d.vals = [] ∨ ∀ g, vv.ownBlock = some g → g ∉ A.list) :
    Calls Tryz.prog 12 #[.pointer (some ⟨A.d, 0, none⟩), .int .u64 now, .agg #[.int .i64 d.kind, .int .i64 d.id, .int .i64 d.step, .int .u64 d.t, .bool d.ok, vv, va, vm]] w (PubR w A (M.deed now d).1 (M.deed now d).2) := by
  have hch := (CF.okay h.fine h.ran).ch
  have hok := hi.ok hch.2
  have HV := Lib.hid hv
  obtain ⟨av, cv, rfl, -⟩ := hv.vals
  obtain ⟨aa, ca, rfl, -⟩ := hv.args
  obtain ⟨am, cm, rfl, -⟩ := hv.ms
  have HB := Lib.hid (block_alloc_new (w.alloc (.cells #[.int .i64 d.kind, .int .i64 d.id, .int .i64 d.step, .int .u64 d.t, .bool d.ok, .slice av d.vals.length cv, .slice aa d.args.length ca, .slice am d.ms.length cm] 54)) (.cells #[.slice none 0 0, .slice none 0 0] 57))
  have HF := Lib.hid (((Fr.refl [] w).alloc (.cells #[.int .i64 d.kind, .int .i64 d.id, .int .i64 d.step, .int .u64 d.t, .bool d.ok, .slice av d.vals.length cv, .slice aa d.args.length ca, .slice am d.ms.length cm] 54)).alloc (.cells #[.slice none 0 0, .slice none 0 0] 57))
  have hz2 : (zeroValue 57).run Tryz.prog (w.alloc (.cells #[.int .i64 d.kind, .int .i64 d.id, .int .i64 d.step, .int .u64 d.t, .bool d.ok, .slice av d.vals.length cv, .slice aa d.args.length ca, .slice am d.ms.length cm] 54)) = .ok (.agg #[.slice none 0 0, .slice none 0 0]) (w.alloc (.cells #[.int .i64 d.kind, .int .i64 d.id, .int .i64 d.step, .int .u64 d.t, .bool d.ok, .slice av d.vals.length cv, .slice aa d.args.length ca, .slice am d.ms.length cm] 54)) := by kernel_rfl
  have hbx := block_alloc (block_alloc_new w (.cells #[.int .i64 d.kind, .int .i64 d.id, .int .i64 d.step, .int .u64 d.t, .bool d.ok, .slice av d.vals.length cv, .slice aa d.args.length ca, .slice am d.ms.length cm] 54)) (.cells #[.slice none 0 0, .slice none 0 0] 57)
  obtain ⟨w2, hw2⟩ : ∃ w2, w2 = (w.alloc (.cells #[.int .i64 d.kind, .int .i64 d.id, .int .i64 d.step, .int .u64 d.t, .bool d.ok, .slice av d.vals.length cv, .slice aa d.args.length ca, .slice am d.ms.length cm] 54)).alloc (.cells #[.slice none 0 0, .slice none 0 0] 57) := ⟨_, rfl⟩
  rw [← hw2] at HB HF hbx
  rw [World.size_alloc] at HB
  have HW2 := Lib.hid hw2
  have h2 := h.fr0 HF.out
  have HV2 := Lib.hid (HV.out.fr0 HF.out)
  have H2 := Lib.hid h2
  have HOK := Lib.hid hok
  have HZ := Lib.hid hz
  have HD := Lib.hid hd
  have HVA := Lib.hid hva
  have b0 : w2.cell? ⟨w.heap.size, 0, none⟩ = some (.int .i64 d.kind) := (cell_of_block hbx 0).trans rfl
  have b1 : w2.cell? ⟨w.heap.size, 1, none⟩ = some (.int .i64 d.id) := (cell_of_block hbx 1).trans rfl
  have b2 : w2.cell? ⟨w.heap.size, 2, none⟩ = some (.int .i64 d.step) := (cell_of_block hbx 2).trans rfl
  have b4 : w2.cell? ⟨w.heap.size, 4, none⟩ = some (.bool d.ok) := (cell_of_block hbx 4).trans rfl
  have b5 : w2.cell? ⟨w.heap.size, 5, none⟩ = some (.slice av d.vals.length cv) := (cell_of_block hbx 5).trans rfl
  have b6 : w2.cell? ⟨w.heap.size, 6, none⟩ = some (.slice aa d.args.length ca) := (cell_of_block hbx 6).trans rfl
  have b7 : w2.cell? ⟨w.heap.size, 7, none⟩ = some (.slice am d.ms.length cm) := (cell_of_block hbx 7).trans rfl
  have HHY := Lib.hid (Nat.le_succ w.heap.size)
  clear hw2 hbx h h2 hi hz hd hv hva hok hch
  by_cases e1 : d.kind = 1
  · have HE : Hid (M.deed now d = M.offer now d.args.length d.ms) := Lib.hid (by unfold DepM.deed; rw [if_pos e1])
    have hk1 : (d.kind == 1) = true := by simpa using e1
    clear e1
    have HMA := Lib.hid (made17_spec HV2.out.args HV2.out.ms (by have := HD.out.2.1; omega))
    clear b1 b2 b4 b5
    go_enter Tryz.func12, Tryz.ntmps12
    go_wp2_with fail
    rw [← HW2.out]
    refine HMA.out.mono ?_
    rintro e w4 ⟨⟨va, vm, rfl, hA, hM⟩, F4⟩
    have HN := Lib.hid (H2.out.fr0 F4)
    have HK := Lib.hid (HF.out.trans F4)
    have HB4 := F4.keep HB.out (by simp)
    have HOF := Lib.hid (offerD_spec HN.out now hnow HZ.out.since (by have := HZ.out.win; omega) HOK.out hA hM (by have := HD.out.2.1; omega))
    generalize M.offer now d.args.length d.ms = R at HE HOF
    obtain ⟨R1, R2⟩ := R
    simp only at HOF
    obtain ⟨a0, c0, rfl⟩ := hA
    obtain ⟨am', cm', rfl, -, -⟩ := hM
    clear F4 HMA b0 b6 b7
    go_wp2_with fail
    refine HOF.out.mono ?_
    rintro e w5 ⟨pa, po, rfl, D5, F5, ra, ro⟩
    clear HOF
    obtain ⟨qa, qc, hqa⟩ := ownsFormD ra
    obtain ⟨qo, qd, hqo⟩ := ownsFormD ro
    subst hqa hqo
    have hb3 := F5.keep HB4 (fun hs => HN.out.nobox (.inr (.inr (.inr rfl))) _ hs _ _ HB4)
    have r0 : w5.cell? ⟨w.heap.size + 1, 0, none⟩ = some (.slice none 0 0) := (cell_of_block hb3 0).trans rfl
    have r1 : w5.cell? ⟨w.heap.size + 1, 1, none⟩ = some (.slice none 0 0) := (cell_of_block hb3 1).trans rfl
    have g0 := free_of_block hb3 0
    have g1 := free_of_block hb3 1
    have HEND := Lib.hid (PubR.put HK.out HN.out HB4 HHY.out D5 F5 ra ro (err := R2) rfl (.slice qa R1.ac.length qc) (.slice qo R1.ou.length qd))
    clear hb3 F5 D5 ra ro
    go_wp2_with fail
    refine bodyPost_ret (v := .tuple #[.agg #[.slice qa R1.ac.length qc, .slice qo R1.ou.length qd], .int .i64 (R2)]) (by simp [results, Tryz.results12, go_sem, r0, r1]) rfl ?_
    rw [HE.out]
    exact HEND.out
  by_cases e2 : d.kind = 2
  · have HE : Hid (M.deed now d = (⟨M.pick.1, [], []⟩, M.pick.2)) := Lib.hid (by unfold DepM.deed; rw [if_neg e1, if_pos e2])
    have hk1 : (d.kind == 1) = false := by simpa using e1
    have hk2 : (d.kind == 2) = true := by simpa using e2
    clear e2
    have HN := H2
    have HK := HF
    have HB4 := HB.out
    have HOF := Lib.hid (pickD_spec HN.out now HOK.out)
    generalize M.pick = R at HE HOF
    obtain ⟨R1', R2⟩ := R
    simp only at HOF HE
    obtain ⟨R1, hR1⟩ : ∃ R1 : DS, R1 = ⟨R1', [], []⟩ := ⟨_, rfl⟩
    rw [← hR1] at HOF HE
    clear hR1
    clear b1 b2 b4 b5 b6 b7
    go_enter Tryz.func12, Tryz.ntmps12
    go_wp2_with fail
    rw [← HW2.out]
    refine HOF.out.mono ?_
    rintro e w5 ⟨pa, po, rfl, D5, F5, ra, ro⟩
    clear HOF
    obtain ⟨qa, qc, hqa⟩ := ownsFormD ra
    obtain ⟨qo, qd, hqo⟩ := ownsFormD ro
    subst hqa hqo
    have hb3 := F5.keep HB4 (fun hs => HN.out.nobox (.inr (.inr (.inr rfl))) _ hs _ _ HB4)
    have r0 : w5.cell? ⟨w.heap.size + 1, 0, none⟩ = some (.slice none 0 0) := (cell_of_block hb3 0).trans rfl
    have r1 : w5.cell? ⟨w.heap.size + 1, 1, none⟩ = some (.slice none 0 0) := (cell_of_block hb3 1).trans rfl
    have g0 := free_of_block hb3 0
    have g1 := free_of_block hb3 1
    have HEND := Lib.hid (PubR.put HK.out HN.out HB4 HHY.out D5 F5 ra ro (err := R2) rfl (.slice qa R1.ac.length qc) (.slice qo R1.ou.length qd))
    clear hb3 F5 D5 ra ro
    go_wp2_with fail
    refine bodyPost_ret (v := .tuple #[.agg #[.slice qa R1.ac.length qc, .slice qo R1.ou.length qd], .int .i64 (R2)]) (by simp [results, Tryz.results12, go_sem, r0, r1]) rfl ?_
    rw [HE.out]
    exact HEND.out
  by_cases e3 : d.kind = 3
  · have HE : Hid (M.deed now d = M.answer now d.id d.ok d.vals) := Lib.hid (by unfold DepM.deed; rw [if_neg e1, if_neg e2, if_pos e3])
    have hk1 : (d.kind == 1) = false := by simpa using e1
    have hk2 : (d.kind == 2) = false := by simpa using e2
    have hk3 : (d.kind == 3) = true := by simpa using e3
    clear e3
    have HN := H2
    have HK := HF
    have HB4 := HB.out
    have HOF := Lib.hid (answerD_spec HN.out now hnow (by have := HZ.out.win; omega) (by have := HZ.out.took; omega) HOK.out d.id d.ok HV2.out.vals HVA.out (by have := HD.out.2.2; omega))
    generalize M.answer now d.id d.ok d.vals = R at HE HOF
    obtain ⟨R1, R2⟩ := R
    simp only at HOF
    clear b2 b6 b7
    go_enter Tryz.func12, Tryz.ntmps12
    go_wp2_with fail
    rw [← HW2.out]
    refine HOF.out.mono ?_
    rintro e w5 ⟨pa, po, rfl, D5, F5, ra, ro⟩
    clear HOF
    obtain ⟨qa, qc, hqa⟩ := ownsFormD ra
    obtain ⟨qo, qd, hqo⟩ := ownsFormD ro
    subst hqa hqo
    have hb3 := F5.keep HB4 (fun hs => HN.out.nobox (.inr (.inr (.inr rfl))) _ hs _ _ HB4)
    have r0 : w5.cell? ⟨w.heap.size + 1, 0, none⟩ = some (.slice none 0 0) := (cell_of_block hb3 0).trans rfl
    have r1 : w5.cell? ⟨w.heap.size + 1, 1, none⟩ = some (.slice none 0 0) := (cell_of_block hb3 1).trans rfl
    have g0 := free_of_block hb3 0
    have g1 := free_of_block hb3 1
    have HEND := Lib.hid (PubR.put HK.out HN.out HB4 HHY.out D5 F5 ra ro (err := R2) rfl (.slice qa R1.ac.length qc) (.slice qo R1.ou.length qd))
    clear hb3 F5 D5 ra ro
    go_wp2_with fail
    refine bodyPost_ret (v := .tuple #[.agg #[.slice qa R1.ac.length qc, .slice qo R1.ou.length qd], .int .i64 (R2)]) (by simp [results, Tryz.results12, go_sem, r0, r1]) rfl ?_
    rw [HE.out]
    exact HEND.out
  by_cases e4 : d.kind = 4
  · have HE : Hid (M.deed now d = M.fallback now d.id d.step d.ok d.vals) := Lib.hid (by unfold DepM.deed; rw [if_neg e1, if_neg e2, if_neg e3, if_pos e4])
    have hk1 : (d.kind == 1) = false := by simpa using e1
    have hk2 : (d.kind == 2) = false := by simpa using e2
    have hk3 : (d.kind == 3) = false := by simpa using e3
    have hk4 : (d.kind == 4) = true := by simpa using e4
    clear e4
    have HN := H2
    have HK := HF
    have HB4 := HB.out
    have HOF := Lib.hid (fallbackD_spec HN.out now hnow HOK.out d.id d.step d.ok HV2.out.vals HVA.out (by have := HD.out.2.2; omega))
    generalize M.fallback now d.id d.step d.ok d.vals = R at HE HOF
    obtain ⟨R1, R2⟩ := R
    simp only at HOF
    clear b6 b7
    go_enter Tryz.func12, Tryz.ntmps12
    go_wp2_with fail
    rw [← HW2.out]
    refine HOF.out.mono ?_
    rintro e w5 ⟨pa, po, rfl, D5, F5, ra, ro⟩
    clear HOF
    obtain ⟨qa, qc, hqa⟩ := ownsFormD ra
    obtain ⟨qo, qd, hqo⟩ := ownsFormD ro
    subst hqa hqo
    have hb3 := F5.keep HB4 (fun hs => HN.out.nobox (.inr (.inr (.inr rfl))) _ hs _ _ HB4)
    have r0 : w5.cell? ⟨w.heap.size + 1, 0, none⟩ = some (.slice none 0 0) := (cell_of_block hb3 0).trans rfl
    have r1 : w5.cell? ⟨w.heap.size + 1, 1, none⟩ = some (.slice none 0 0) := (cell_of_block hb3 1).trans rfl
    have g0 := free_of_block hb3 0
    have g1 := free_of_block hb3 1
    have HEND := Lib.hid (PubR.put HK.out HN.out HB4 HHY.out D5 F5 ra ro (err := R2) rfl (.slice qa R1.ac.length qc) (.slice qo R1.ou.length qd))
    clear hb3 F5 D5 ra ro
    go_wp2_with fail
    refine bodyPost_ret (v := .tuple #[.agg #[.slice qa R1.ac.length qc, .slice qo R1.ou.length qd], .int .i64 (R2)]) (by simp [results, Tryz.results12, go_sem, r0, r1]) rfl ?_
    rw [HE.out]
    exact HEND.out
  · have HE : Hid (M.deed now d = (M.late now d.id, 0)) := Lib.hid (by unfold DepM.deed; rw [if_neg e1, if_neg e2, if_neg e3, if_neg e4])
    have HN := H2
    have HK := HF
    have HB4 := HB.out
    have hk1 : (d.kind == 1) = false := by simpa using e1
    have hk2 : (d.kind == 2) = false := by simpa using e2
    have hk3 : (d.kind == 3) = false := by simpa using e3
    have hk4 : (d.kind == 4) = false := by simpa using e4
    have HOF := Lib.hid (lateD_spec HN.out now hnow (by have := HZ.out.win; omega) HOK.out d.id)
    generalize M.late now d.id = R1 at HE HOF
    clear b2 b4 b5 b6 b7
    go_enter Tryz.func12, Tryz.ntmps12
    go_wp2_with fail
    rw [← HW2.out]
    refine HOF.out.mono ?_
    rintro e w5 ⟨pa, po, rfl, D5, F5, ra, ro⟩
    clear HOF
    obtain ⟨qa, qc, hqa⟩ := ownsFormD ra
    obtain ⟨qo, qd, hqo⟩ := ownsFormD ro
    subst hqa hqo
    have hb3 := F5.keep HB4 (fun hs => HN.out.nobox (.inr (.inr (.inr rfl))) _ hs _ _ HB4)
    have r0 : w5.cell? ⟨w.heap.size + 1, 0, none⟩ = some (.slice none 0 0) := (cell_of_block hb3 0).trans rfl
    have r1 : w5.cell? ⟨w.heap.size + 1, 1, none⟩ = some (.slice none 0 0) := (cell_of_block hb3 1).trans rfl
    have g0 := free_of_block hb3 0
    have g1 := free_of_block hb3 1
    have HEND := Lib.hid (PubR.put HK.out HN.out HB4 HHY.out D5 F5 ra ro (err := 0) rfl (.slice qa R1.ac.length qc) (.slice qo R1.ou.length qd))
    clear hb3 F5 D5 ra ro
    go_wp2_with fail
    refine bodyPost_ret (v := .tuple #[.agg #[.slice qa R1.ac.length qc, .slice qo R1.ou.length qd], .int .i64 (0)]) (by simp [results, Tryz.results12, go_sem, r0, r1]) rfl ?_
    rw [HE.out]
    exact HEND.out
end Go.Proofs.YtcnkhjgpjchkeaaGreat

namespace Go.Proofs.YtcnkhjgpjchkeaaGreat
open Go.RowKit

set_option maxHeartbeats 4000000 in
set_option maxRecDepth 20000 in
theorem depNew_no (w : World) (k : CF) (hf : k.fine = false) : Calls Tryz.prog 8 #[k.val] w fun e w' => e = .returned (.pointer none) ∧ Fr [] w w' := by
  have CC := Lib.hid (fun w' => check_spec w' k)
  have HF := Lib.hid ((Fr.refl [] w).alloc (.cells #[.int .i64 k.mode, .int .i64 k.pool, .int .i64 k.queue, .int .i64 k.sem, .int .i64 k.fb, .int .i64 k.ch, .int .u64 k.t, .int .u64 k.ft, .int .i64 k.vo, .int .i64 k.pe, .int .u64 k.sl, .int .i64 k.bu, .int .u64 k.wi, .int .u64 k.wd, .int .i64 k.ba, .int .i64 k.fo] 24))
  go_enter Tryz.func8, Tryz.ntmps8
  go_wp2_with fail
  refine (CC.out _).mono ?_
  rintro e w3 ⟨n, rfl, F3⟩
  rw [hf]
  go_wp2_with fail
  go_ret
  exact ⟨rfl, HF.out.trans F3⟩
end Go.Proofs.YtcnkhjgpjchkeaaGreat

namespace Go.Proofs.YtcnkhjgpjchkeaaGreat
open Go.RowKit

set_option maxHeartbeats 2000000 in
set_option maxRecDepth 20000 in
theorem ref09_new (k : CF) (w : World) : Calls Tryz.prog 36 #[.agg ([.int .i64 k.mode, .int .i64 k.pool, .int .i64 k.queue, .int .i64 k.sem, .int .i64 k.fb, .int .i64 k.ch, .int .u64 k.t, .int .u64 k.ft, .int .i64 k.vo, .int .i64 k.pe, .int .u64 k.sl, .int .i64 k.bu, .int .u64 k.wi, .int .u64 k.wd, .int .i64 k.ba, .int .i64 k.fo] : List Value).toArray] w fun e w' => e = .returned (.agg #[.int .i64 1, .int .u64 0, .int .u64 k.sl, .int .i64 k.fo]) ∧ Fr [] w w' := by
  go_enter Tryz.func36, Tryz.ntmps36
  go_wp2_with fail
  refine bodyPost_ret (v := .agg #[.int .i64 1, .int .u64 0, .int .u64 k.sl, .int .i64 k.fo]) (by simp [results, Tryz.results36, go_sem]) rfl ?_
  exact ⟨rfl, ((Fr.refl _ _).alloc _).alloc _⟩
/-- A new dependency, as the document has it. -/
def ref17L (k : CF) : List Value := [.int .i64 k.mode, .int .i64 k.pool, .int .i64 k.queue, .int .i64 k.sem, .int .i64 k.fb, .int .i64 k.ch, .int .u64 k.t, .int .u64 k.ft, .int .i64 k.vo, .int .i64 k.pe, .int .u64 k.sl, .int .i64 k.bu, .int .u64 k.wi, .int .u64 k.wd, .int .i64 k.ba, .int .i64 k.fo, .int .i64 1, .int .u64 0, .int .u64 k.sl, .int .i64 k.fo, .int .i64 k.most, .int .i64 k.que, .slice none 0 0, .slice none 0 0, .slice none 0 0, .int .i64 k.bu, .int .u64 k.wi, .int .u64 0, .slice none 0 0, .int .i64 k.bu, .int .u64 k.wi, .int .u64 0, .slice none 0 0, .slice none 0 0, .int .i64 0, .slice none 0 0, .slice none 0 0]
set_option maxHeartbeats 8000000 in
set_option maxRecDepth 20000 in
theorem ref17Build (w : World) (k : CF) : (Instr.build 45 #[(0, .agg ([.int .i64 k.mode, .int .i64 k.pool, .int .i64 k.queue, .int .i64 k.sem, .int .i64 k.fb, .int .i64 k.ch, .int .u64 k.t, .int .u64 k.ft, .int .i64 k.vo, .int .i64 k.pe, .int .u64 k.sl, .int .i64 k.bu, .int .u64 k.wi, .int .u64 k.wd, .int .i64 k.ba, .int .i64 k.fo] : List Value).toArray), (1, .agg #[.int .i64 1, .int .u64 0, .int .u64 k.sl, .int .i64 k.fo]), (2, .agg #[.int .i64 k.most, .int .i64 k.que, .slice none 0 0, .slice none 0 0]), (4, .agg #[.int .i64 k.bu, .int .u64 k.wi, .int .u64 0, .slice none 0 0]), (5, .agg #[.int .i64 k.bu, .int .u64 k.wi, .int .u64 0, .slice none 0 0])]).run Tryz.prog w = .ok (.agg (ref17L k).toArray) w := by
  go_simp
  rfl
theorem ref17L_one (k : CF) : ∀ v ∈ ref17L k, v.oneCell' = true := by
  intro v hv
  simp only [ref17L, List.mem_cons, List.not_mem_nil, or_false] at hv
  rcases hv with rfl | rfl | rfl | rfl | rfl | rfl | rfl | rfl | rfl | rfl | rfl | rfl | rfl | rfl | rfl | rfl | rfl | rfl | rfl | rfl | rfl | rfl | rfl | rfl | rfl | rfl | rfl | rfl | rfl | rfl | rfl | rfl | rfl | rfl | rfl | rfl | rfl <;> rfl
theorem there_of {w : World} {b : Nat} {cs : Array Value} {E : TypeId} (h : w.heap[b]? = some (.cells cs E (0, 0))) {n : Nat} (hn : n = cs.size) : w.there b 0 n := fun j hj => by
  rw [Nat.zero_add, cell_of_block h]
  exact ⟨by simp [hn ▸ hj], free_of_block h j⟩
theorem range_of {w : World} {b : Nat} {cs : List Value} {E : TypeId} {fr : Nat × Nat} (h : w.heap[b]? = some (.cells cs.toArray E fr)) : w.rangeAt b 0 cs := fun j v hj => by
  rw [Nat.zero_add, cell_of_block h, List.getElem?_toArray]; exact hj
theorem results_cell_tmpD {fn : Func} {p u : Tmp} {ty : TypeId} (h : fn.results = #[.cell p ty, .tmp u]) (tmps : Array Value) (P : Program) (w : World) {b : Nat} {v : Value}
    (hp : tmps.getD p undef = .pointer (some ⟨b, 0, none⟩)) (hl : (loadVar ty ⟨b, 0, none⟩).run P w = .ok v w) : (results fn tmps).run P w = .ok (.tuple #[v, tmps.getD u undef]) w := by
  rw [results_cell_tmp h, hp]
  simp [asAddr, hl]
def Ref17R (k : CF) (w : World) (e : Ending) (w' : World) : Prop := e = .returned (.tuple #[.agg (ref17L k).toArray, .bool k.fine]) ∧ Fr [] w w'
set_option maxHeartbeats 8000000 in
set_option maxRecDepth 20000 in
theorem ref17_new (w : World) (k : CF) (hr : k.Ran) : Calls Tryz.prog 9 #[k.val] w (Ref17R k w) := by
  have HC8 := Lib.hid (fun w' => check8_spec w' k hr)
  have HK := Lib.hid (fun w' => ref10_new k w')
  have HB := Lib.hid (fun w' => ref09_new k w')
  have HBD := Lib.hid (fun w' => ref17Build w' k)
  have hu := Lib.hid Tryz.underlying24
  have hu2 := Lib.hid Tryz.underlying45
  have hiC : Hid ((Tryz.prog.info? 24).map (·.size) = some ([.int .i64 k.mode, .int .i64 k.pool, .int .i64 k.queue, .int .i64 k.sem, .int .i64 k.fb, .int .i64 k.ch, .int .u64 k.t, .int .u64 k.ft, .int .i64 k.vo, .int .i64 k.pe, .int .u64 k.sl, .int .i64 k.bu, .int .u64 k.wi, .int .u64 k.wd, .int .i64 k.ba, .int .i64 k.fo] : List Value).length) := Lib.hid (by kernel_rfl)
  have hiR : Hid ((Tryz.prog.info? 45).map (·.size) = some (ref17L k).length) := Lib.hid (by kernel_rfl)
  have HONE := Lib.hid (ref17L_one k)
  have hlR : Hid ((ref17L k).length = 37) := Lib.hid rfl
  have hkv : Hid (k.val = .agg ([.int .i64 k.mode, .int .i64 k.pool, .int .i64 k.queue, .int .i64 k.sem, .int .i64 k.fb, .int .i64 k.ch, .int .u64 k.t, .int .u64 k.ft, .int .i64 k.vo, .int .i64 k.pe, .int .u64 k.sl, .int .i64 k.bu, .int .u64 k.wi, .int .u64 k.wd, .int .i64 k.ba, .int .i64 k.fo] : List Value).toArray) := Lib.hid rfl
  have hb1 := block_alloc (block_alloc_new w (.cells ([.int .i64 k.mode, .int .i64 k.pool, .int .i64 k.queue, .int .i64 k.sem, .int .i64 k.fb, .int .i64 k.ch, .int .u64 k.t, .int .u64 k.ft, .int .i64 k.vo, .int .i64 k.pe, .int .u64 k.sl, .int .i64 k.bu, .int .u64 k.wi, .int .u64 k.wd, .int .i64 k.ba, .int .i64 k.fo] : List Value).toArray 24)) (.cells ((.int .i64 0 :: .int .i64 0 :: .int .i64 0 :: .int .i64 0 :: .int .i64 0 :: .int .i64 0 :: .int .u64 0 :: .int .u64 0 :: .int .i64 0 :: .int .i64 0 :: .int .u64 0 :: .int .i64 0 :: .int .u64 0 :: .int .u64 0 :: .int .i64 0 :: .int .i64 0 :: .int .i64 0 :: .int .u64 0 :: .int .u64 0 :: .int .i64 0 :: .int .i64 0 :: .int .i64 0 :: .slice none 0 0 :: .slice none 0 0 :: .slice none 0 0 :: .int .i64 0 :: .int .u64 0 :: .int .u64 0 :: .slice none 0 0 :: .int .i64 0 :: .int .u64 0 :: .int .u64 0 :: .slice none 0 0 :: .slice none 0 0 :: .int .i64 0 :: .slice none 0 0 :: .slice none 0 0 :: []) : List Value).toArray 45)
  have hb2 := block_alloc_new (w.alloc (.cells ([.int .i64 k.mode, .int .i64 k.pool, .int .i64 k.queue, .int .i64 k.sem, .int .i64 k.fb, .int .i64 k.ch, .int .u64 k.t, .int .u64 k.ft, .int .i64 k.vo, .int .i64 k.pe, .int .u64 k.sl, .int .i64 k.bu, .int .u64 k.wi, .int .u64 k.wd, .int .i64 k.ba, .int .i64 k.fo] : List Value).toArray 24)) (.cells ((.int .i64 0 :: .int .i64 0 :: .int .i64 0 :: .int .i64 0 :: .int .i64 0 :: .int .i64 0 :: .int .u64 0 :: .int .u64 0 :: .int .i64 0 :: .int .i64 0 :: .int .u64 0 :: .int .i64 0 :: .int .u64 0 :: .int .u64 0 :: .int .i64 0 :: .int .i64 0 :: .int .i64 0 :: .int .u64 0 :: .int .u64 0 :: .int .i64 0 :: .int .i64 0 :: .int .i64 0 :: .slice none 0 0 :: .slice none 0 0 :: .slice none 0 0 :: .int .i64 0 :: .int .u64 0 :: .int .u64 0 :: .slice none 0 0 :: .int .i64 0 :: .int .u64 0 :: .int .u64 0 :: .slice none 0 0 :: .slice none 0 0 :: .int .i64 0 :: .slice none 0 0 :: .slice none 0 0 :: []) : List Value).toArray 45)
  have hF := ((Fr.refl [] w).alloc (.cells ([.int .i64 k.mode, .int .i64 k.pool, .int .i64 k.queue, .int .i64 k.sem, .int .i64 k.fb, .int .i64 k.ch, .int .u64 k.t, .int .u64 k.ft, .int .i64 k.vo, .int .i64 k.pe, .int .u64 k.sl, .int .i64 k.bu, .int .u64 k.wi, .int .u64 k.wd, .int .i64 k.ba, .int .i64 k.fo] : List Value).toArray 24)).alloc (.cells ((.int .i64 0 :: .int .i64 0 :: .int .i64 0 :: .int .i64 0 :: .int .i64 0 :: .int .i64 0 :: .int .u64 0 :: .int .u64 0 :: .int .i64 0 :: .int .i64 0 :: .int .u64 0 :: .int .i64 0 :: .int .u64 0 :: .int .u64 0 :: .int .i64 0 :: .int .i64 0 :: .int .i64 0 :: .int .u64 0 :: .int .u64 0 :: .int .i64 0 :: .int .i64 0 :: .int .i64 0 :: .slice none 0 0 :: .slice none 0 0 :: .slice none 0 0 :: .int .i64 0 :: .int .u64 0 :: .int .u64 0 :: .slice none 0 0 :: .int .i64 0 :: .int .u64 0 :: .int .u64 0 :: .slice none 0 0 :: .slice none 0 0 :: .int .i64 0 :: .slice none 0 0 :: .slice none 0 0 :: []) : List Value).toArray 45)
  obtain ⟨w0, hw0⟩ : ∃ w0, w0 = (w.alloc (.cells ([.int .i64 k.mode, .int .i64 k.pool, .int .i64 k.queue, .int .i64 k.sem, .int .i64 k.fb, .int .i64 k.ch, .int .u64 k.t, .int .u64 k.ft, .int .i64 k.vo, .int .i64 k.pe, .int .u64 k.sl, .int .i64 k.bu, .int .u64 k.wi, .int .u64 k.wd, .int .i64 k.ba, .int .i64 k.fo] : List Value).toArray 24)).alloc (.cells ((.int .i64 0 :: .int .i64 0 :: .int .i64 0 :: .int .i64 0 :: .int .i64 0 :: .int .i64 0 :: .int .u64 0 :: .int .u64 0 :: .int .i64 0 :: .int .i64 0 :: .int .u64 0 :: .int .i64 0 :: .int .u64 0 :: .int .u64 0 :: .int .i64 0 :: .int .i64 0 :: .int .i64 0 :: .int .u64 0 :: .int .u64 0 :: .int .i64 0 :: .int .i64 0 :: .int .i64 0 :: .slice none 0 0 :: .slice none 0 0 :: .slice none 0 0 :: .int .i64 0 :: .int .u64 0 :: .int .u64 0 :: .slice none 0 0 :: .int .i64 0 :: .int .u64 0 :: .int .u64 0 :: .slice none 0 0 :: .slice none 0 0 :: .int .i64 0 :: .slice none 0 0 :: .slice none 0 0 :: []) : List Value).toArray 45) := ⟨_, rfl⟩
  rw [← hw0] at hb1 hb2 hF
  rw [World.size_alloc] at hb2
  have HW0 := Lib.hid hw0
  have HB1 := Lib.hid hb1
  have HB2 := Lib.hid hb2
  have HF := Lib.hid hF
  clear hw0 hb1 hb2 hF hr
  go_enter Tryz.func9, Tryz.ntmps9
  go_wp2_with fail
  rw [← HW0.out]
  refine (HK.out _).mono ?_
  rintro e w1 ⟨rfl, F1⟩
  have HF1 := Lib.hid (HF.out.trans F1)
  have HB11 := Lib.hid (F1.keep HB1.out (by simp))
  have HB21 := Lib.hid (F1.keep HB2.out (by simp))
  clear F1 HK HW0 HF
  go_wp2_with fail
  have hbK := block_alloc_new w1 (.cells #[.int .i64 k.most, .int .i64 k.que, .slice none 0 0, .slice none 0 0] 33)
  have hb1 := block_alloc HB11.out (.cells #[.int .i64 k.most, .int .i64 k.que, .slice none 0 0, .slice none 0 0] 33)
  have hb2 := block_alloc HB21.out (.cells #[.int .i64 k.most, .int .i64 k.que, .slice none 0 0, .slice none 0 0] 33)
  have hF2 := HF1.out.alloc (.cells #[.int .i64 k.most, .int .i64 k.que, .slice none 0 0, .slice none 0 0] 33)
  generalize hw2 : w1.alloc (.cells #[.int .i64 k.most, .int .i64 k.que, .slice none 0 0, .slice none 0 0] 33) = w2 at *
  have KS : Hid (∀ w' : World, Fr [] w2 w' → w'.rangeAt w.heap.size 0 [.int .i64 k.mode, .int .i64 k.pool, .int .i64 k.queue, .int .i64 k.sem, .int .i64 k.fb, .int .i64 k.ch, .int .u64 k.t, .int .u64 k.ft, .int .i64 k.vo, .int .i64 k.pe, .int .u64 k.sl, .int .i64 k.bu, .int .u64 k.wi, .int .u64 k.wd, .int .i64 k.ba, .int .i64 k.fo] ∧ w'.cell? ⟨w.heap.size, 11, none⟩ = some (.int .i64 k.bu) ∧ w'.cell? ⟨w.heap.size, 12, none⟩ = some (.int .u64 k.wi) ∧ w'.cell? ⟨w1.heap.size, 0, none⟩ = some (.int .i64 k.most) ∧ w'.cell? ⟨w1.heap.size, 1, none⟩ = some (.int .i64 k.que) ∧ w'.cell? ⟨w1.heap.size, 2, none⟩ = some (.slice none 0 0) ∧ w'.cell? ⟨w1.heap.size, 3, none⟩ = some (.slice none 0 0)) := Lib.hid (fun w' F => by
    have h1 := F.keep hb1 (by simp)
    have h2 := F.keep hbK (by simp)
    exact ⟨range_of h1, (cell_of_block h1 11).trans rfl, (cell_of_block h1 12).trans rfl, (cell_of_block h2 0).trans rfl, (cell_of_block h2 1).trans rfl, (cell_of_block h2 2).trans rfl, (cell_of_block h2 3).trans rfl⟩)
  have HB1 := Lib.hid hb1
  have HB2 := Lib.hid hb2
  have HF2 := Lib.hid hF2
  have F0 : Fr [] w2 w2.drew := (Fr.refl _ _).drew
  clear hbK hb1 hb2 hF2 hw2 HF1 HB11 HB21
  refine wp_region_held_drew (S := fun w' => w'.rangeAt w.heap.size 0 [.int .i64 k.mode, .int .i64 k.pool, .int .i64 k.queue, .int .i64 k.sem, .int .i64 k.fb, .int .i64 k.ch, .int .u64 k.t, .int .u64 k.ft, .int .i64 k.vo, .int .i64 k.pe, .int .u64 k.sl, .int .i64 k.bu, .int .u64 k.wi, .int .u64 k.wd, .int .i64 k.ba, .int .i64 k.fo] ∧ w'.cell? ⟨w.heap.size, 11, none⟩ = some (.int .i64 k.bu) ∧ w'.cell? ⟨w.heap.size, 12, none⟩ = some (.int .u64 k.wi) ∧ w'.cell? ⟨w1.heap.size, 0, none⟩ = some (.int .i64 k.most) ∧ w'.cell? ⟨w1.heap.size, 1, none⟩ = some (.int .i64 k.que) ∧ w'.cell? ⟨w1.heap.size, 2, none⟩ = some (.slice none 0 0) ∧ w'.cell? ⟨w1.heap.size, 3, none⟩ = some (.slice none 0 0)) (by kernel_rfl) (KS.out _ F0) (fun hHeld => ?_)
  have hRg : Array.replicate 17 false = #[false, false, false, false, false, false, false, false, false, false, false, false, false, false, false, false, false] := rfl
  refine (?_ : wpAnyH _ _ _ _ _ 17 (Array.replicate 17 false) _ _)
  rw [hRg]
  refine wpAnyH_hide (fun _ _ d _ _ h => by cases d <;> exact h) (fun ops Q hops hQ hQn => ?_)
  clear hRg
  have e0 := congrArg (fun x : Array Oper => x[0]?) hops.out
  simp only [List.getElem?_toArray, List.getElem?_cons_zero] at e0
  have e1 := congrArg (fun x : Array Oper => x[1]?) hops.out
  simp only [List.getElem?_toArray, List.getElem?_cons_zero, List.getElem?_cons_succ] at e1
  have e2 := congrArg (fun x : Array Oper => x[2]?) hops.out
  simp only [List.getElem?_toArray, List.getElem?_cons_zero, List.getElem?_cons_succ] at e2
  have e3 := congrArg (fun x : Array Oper => x[3]?) hops.out
  simp only [List.getElem?_toArray, List.getElem?_cons_zero, List.getElem?_cons_succ] at e3
  have e4 := congrArg (fun x : Array Oper => x[4]?) hops.out
  simp only [List.getElem?_toArray, List.getElem?_cons_zero, List.getElem?_cons_succ] at e4
  have e5 := congrArg (fun x : Array Oper => x[5]?) hops.out
  simp only [List.getElem?_toArray, List.getElem?_cons_zero, List.getElem?_cons_succ] at e5
  have e6 := congrArg (fun x : Array Oper => x[6]?) hops.out
  simp only [List.getElem?_toArray, List.getElem?_cons_zero, List.getElem?_cons_succ] at e6
  have e7 := congrArg (fun x : Array Oper => x[7]?) hops.out
  simp only [List.getElem?_toArray, List.getElem?_cons_zero, List.getElem?_cons_succ] at e7
  have e8 := congrArg (fun x : Array Oper => x[8]?) hops.out
  simp only [List.getElem?_toArray, List.getElem?_cons_zero, List.getElem?_cons_succ] at e8
  have e9 := congrArg (fun x : Array Oper => x[9]?) hops.out
  simp only [List.getElem?_toArray, List.getElem?_cons_zero, List.getElem?_cons_succ] at e9
  have e10 := congrArg (fun x : Array Oper => x[10]?) hops.out
  simp only [List.getElem?_toArray, List.getElem?_cons_zero, List.getElem?_cons_succ] at e10
  have e11 := congrArg (fun x : Array Oper => x[11]?) hops.out
  simp only [List.getElem?_toArray, List.getElem?_cons_zero, List.getElem?_cons_succ] at e11
  have e12 := congrArg (fun x : Array Oper => x[12]?) hops.out
  simp only [List.getElem?_toArray, List.getElem?_cons_zero, List.getElem?_cons_succ] at e12
  have e13 := congrArg (fun x : Array Oper => x[13]?) hops.out
  simp only [List.getElem?_toArray, List.getElem?_cons_zero, List.getElem?_cons_succ] at e13
  have e14 := congrArg (fun x : Array Oper => x[14]?) hops.out
  simp only [List.getElem?_toArray, List.getElem?_cons_zero, List.getElem?_cons_succ] at e14
  have e15 := congrArg (fun x : Array Oper => x[15]?) hops.out
  simp only [List.getElem?_toArray, List.getElem?_cons_zero, List.getElem?_cons_succ] at e15
  have e16 := congrArg (fun x : Array Oper => x[16]?) hops.out
  simp only [List.getElem?_toArray, List.getElem?_cons_zero, List.getElem?_cons_succ] at e16
  refine wpAnyH_take (i := 0) (v := .agg ([.int .i64 k.mode, .int .i64 k.pool, .int .i64 k.queue, .int .i64 k.sem, .int .i64 k.fb, .int .i64 k.ch, .int .u64 k.t, .int .u64 k.ft, .int .i64 k.vo, .int .i64 k.pe, .int .u64 k.sl, .int .i64 k.bu, .int .u64 k.wi, .int .u64 k.wd, .int .i64 k.ba, .int .i64 k.fo] : List Value).toArray) e0 (by rw [hops.out]; kernel_rfl) (by rw [hops.out]; kernel_rfl) (by rw [hops.out]; kernel_rfl) (fun c a w h => hQ c a _ _ w h) (yieldsIf_load_mid rfl _ _ rfl w.heap.size 0 rfl _ _ (fun _ h => h.1) hu.out rfl hiC.out) hHeld ?_
  (try simp only [Act.put, List.setIfInBounds_toArray, List.set_cons_zero, List.set_cons_succ])
  refine wpAnyH_take (i := 1) (v := .agg ([.int .i64 k.mode, .int .i64 k.pool, .int .i64 k.queue, .int .i64 k.sem, .int .i64 k.fb, .int .i64 k.ch, .int .u64 k.t, .int .u64 k.ft, .int .i64 k.vo, .int .i64 k.pe, .int .u64 k.sl, .int .i64 k.bu, .int .u64 k.wi, .int .u64 k.wd, .int .i64 k.ba, .int .i64 k.fo] : List Value).toArray) e1 (by rw [hops.out]; kernel_rfl) (by rw [hops.out]; kernel_rfl) (by rw [hops.out]; kernel_rfl) (fun c a w h => hQ c a _ _ w h) (yieldsIf_load_mid rfl _ _ rfl w.heap.size 0 rfl _ _ (fun _ h => h.1) hu.out rfl hiC.out) hHeld ?_
  (try simp only [Act.put, List.setIfInBounds_toArray, List.set_cons_zero, List.set_cons_succ])
  refine wpAnyH_take (i := 3) (v := .agg #[.int .i64 k.most, .int .i64 k.que, .slice none 0 0, .slice none 0 0]) e3 (by rw [hops.out]; kernel_rfl) (by rw [hops.out]; kernel_rfl) (by rw [hops.out]; kernel_rfl) (fun c a w h => hQ c a _ _ w h) (Or.inl ⟨rfl, fun w' hS => by obtain ⟨-, -, -, s0, s1, s2, s3⟩ := hS; go_simp⟩) hHeld ?_
  (try simp only [Act.put, List.setIfInBounds_toArray, List.set_cons_zero, List.set_cons_succ])
  refine wpAnyH_take (i := 4) (v := .pointer (some ⟨w.heap.size, 11, none⟩)) e4 (by rw [hops.out]; kernel_rfl) (by rw [hops.out]; kernel_rfl) (by rw [hops.out]; kernel_rfl) (fun c a w h => hQ c a _ _ w h) (Or.inl ⟨rfl, fun w' _ => by go_simp⟩) hHeld ?_
  (try simp only [Act.put, List.setIfInBounds_toArray, List.set_cons_zero, List.set_cons_succ])
  refine wpAnyH_take (i := 5) (v := .int .i64 k.bu) e5 (by rw [hops.out]; kernel_rfl) (by rw [hops.out]; kernel_rfl) (by rw [hops.out]; kernel_rfl) (fun c a w h => hQ c a _ _ w h) (Or.inl ⟨rfl, fun w' hS => by have hS := hS.2.1; go_simp⟩) hHeld ?_
  (try simp only [Act.put, List.setIfInBounds_toArray, List.set_cons_zero, List.set_cons_succ])
  refine wpAnyH_take (i := 6) (v := .pointer (some ⟨w.heap.size, 12, none⟩)) e6 (by rw [hops.out]; kernel_rfl) (by rw [hops.out]; kernel_rfl) (by rw [hops.out]; kernel_rfl) (fun c a w h => hQ c a _ _ w h) (Or.inl ⟨rfl, fun w' _ => by go_simp⟩) hHeld ?_
  (try simp only [Act.put, List.setIfInBounds_toArray, List.set_cons_zero, List.set_cons_succ])
  refine wpAnyH_take (i := 7) (v := .int .u64 k.wi) e7 (by rw [hops.out]; kernel_rfl) (by rw [hops.out]; kernel_rfl) (by rw [hops.out]; kernel_rfl) (fun c a w h => hQ c a _ _ w h) (Or.inl ⟨rfl, fun w' hS => by have hS := hS.2.2.1; go_simp⟩) hHeld ?_
  (try simp only [Act.put, List.setIfInBounds_toArray, List.set_cons_zero, List.set_cons_succ])
  refine wpAnyH_take (i := 8) (v := .agg #[.int .i64 k.bu, .int .u64 k.wi, .int .u64 0, .slice none 0 0]) e8 (by rw [hops.out]; kernel_rfl) (by rw [hops.out]; kernel_rfl) (by rw [hops.out]; kernel_rfl) (fun c a w h => hQ c a _ _ w h) (Or.inl ⟨rfl, fun w' _ => by go_simp⟩) hHeld ?_
  (try simp only [Act.put, List.setIfInBounds_toArray, List.set_cons_zero, List.set_cons_succ])
  refine wpAnyH_take (i := 9) (v := .pointer (some ⟨w.heap.size, 11, none⟩)) e9 (by rw [hops.out]; kernel_rfl) (by rw [hops.out]; kernel_rfl) (by rw [hops.out]; kernel_rfl) (fun c a w h => hQ c a _ _ w h) (Or.inl ⟨rfl, fun w' _ => by go_simp⟩) hHeld ?_
  (try simp only [Act.put, List.setIfInBounds_toArray, List.set_cons_zero, List.set_cons_succ])
  refine wpAnyH_take (i := 10) (v := .int .i64 k.bu) e10 (by rw [hops.out]; kernel_rfl) (by rw [hops.out]; kernel_rfl) (by rw [hops.out]; kernel_rfl) (fun c a w h => hQ c a _ _ w h) (Or.inl ⟨rfl, fun w' hS => by have hS := hS.2.1; go_simp⟩) hHeld ?_
  (try simp only [Act.put, List.setIfInBounds_toArray, List.set_cons_zero, List.set_cons_succ])
  refine wpAnyH_take (i := 11) (v := .pointer (some ⟨w.heap.size, 12, none⟩)) e11 (by rw [hops.out]; kernel_rfl) (by rw [hops.out]; kernel_rfl) (by rw [hops.out]; kernel_rfl) (fun c a w h => hQ c a _ _ w h) (Or.inl ⟨rfl, fun w' _ => by go_simp⟩) hHeld ?_
  (try simp only [Act.put, List.setIfInBounds_toArray, List.set_cons_zero, List.set_cons_succ])
  refine wpAnyH_take (i := 12) (v := .int .u64 k.wi) e12 (by rw [hops.out]; kernel_rfl) (by rw [hops.out]; kernel_rfl) (by rw [hops.out]; kernel_rfl) (fun c a w h => hQ c a _ _ w h) (Or.inl ⟨rfl, fun w' hS => by have hS := hS.2.2.1; go_simp⟩) hHeld ?_
  (try simp only [Act.put, List.setIfInBounds_toArray, List.set_cons_zero, List.set_cons_succ])
  refine wpAnyH_take (i := 13) (v := .agg #[.int .i64 k.bu, .int .u64 k.wi, .int .u64 0, .slice none 0 0]) e13 (by rw [hops.out]; kernel_rfl) (by rw [hops.out]; kernel_rfl) (by rw [hops.out]; kernel_rfl) (fun c a w h => hQ c a _ _ w h) (Or.inl ⟨rfl, fun w' _ => by go_simp⟩) hHeld ?_
  (try simp only [Act.put, List.setIfInBounds_toArray, List.set_cons_zero, List.set_cons_succ])
  refine wpAnyH_ready (rs := [2, 15]) (by rw [hops.out]; kernel_rfl) (by simp) ?_
  refine AllReadyH.cons e2 (fun K hK => ?_) ?_
  · go_simp
    go_at_call 36
    refine (HB.out _).mono ?_
    rintro e w3 ⟨rfl, F3⟩
    go_wp2_with fail
    have F3 := F0.trans F3
    refine hK.out _ _ (KS.out _ F3) (fun hHeld => ?_)
    clear hK K
    (try simp only [List.setIfInBounds_toArray, List.set_cons_zero, List.set_cons_succ])
    refine wpAnyH_take (i := 14) (v := .agg (ref17L k).toArray) e14 (by rw [hops.out]; kernel_rfl) (by rw [hops.out]; kernel_rfl) (by rw [hops.out]; kernel_rfl) (fun c a w h => hQ c a _ _ w h) (yieldsIf_build rfl _ _ rfl _ (by simp only [List.map_toArray, List.map_cons, List.map_nil]; rfl) _ (fun w' _ => HBD.out w')) hHeld ?_
    (try simp only [Act.put, List.setIfInBounds_toArray, List.set_cons_zero, List.set_cons_succ])
    refine wpAnyH_ready (rs := [15]) (by rw [hops.out]; kernel_rfl) (by simp) ?_
    refine AllReadyH.cons e15 (fun K hK => ?_) AllReadyH.nil
    go_simp
    have FX := F3.alloc (.cells ((.int .i64 0 :: .int .i64 0 :: .int .i64 0 :: .int .i64 0 :: .int .i64 0 :: .int .i64 0 :: .int .u64 0 :: .int .u64 0 :: .int .i64 0 :: .int .i64 0 :: .int .u64 0 :: .int .i64 0 :: .int .u64 0 :: .int .u64 0 :: .int .i64 0 :: .int .i64 0 :: .int .i64 0 :: .int .u64 0 :: .int .u64 0 :: .int .i64 0 :: .int .i64 0 :: .int .i64 0 :: .slice none 0 0 :: .slice none 0 0 :: .slice none 0 0 :: .int .i64 0 :: .int .u64 0 :: .int .u64 0 :: .slice none 0 0 :: .int .i64 0 :: .int .u64 0 :: .int .u64 0 :: .slice none 0 0 :: .slice none 0 0 :: .int .i64 0 :: .slice none 0 0 :: .slice none 0 0 :: []) : List Value).toArray 45)
    refine hK.out _ _ (KS.out _ FX) (fun hHeld => ?_)
    clear hK K
    (try simp only [List.setIfInBounds_toArray, List.set_cons_zero, List.set_cons_succ])
    have hbZ := block_alloc_new w3 (.cells ((.int .i64 0 :: .int .i64 0 :: .int .i64 0 :: .int .i64 0 :: .int .i64 0 :: .int .i64 0 :: .int .u64 0 :: .int .u64 0 :: .int .i64 0 :: .int .i64 0 :: .int .u64 0 :: .int .i64 0 :: .int .u64 0 :: .int .u64 0 :: .int .i64 0 :: .int .i64 0 :: .int .i64 0 :: .int .u64 0 :: .int .u64 0 :: .int .i64 0 :: .int .i64 0 :: .int .i64 0 :: .slice none 0 0 :: .slice none 0 0 :: .slice none 0 0 :: .int .i64 0 :: .int .u64 0 :: .int .u64 0 :: .slice none 0 0 :: .int .i64 0 :: .int .u64 0 :: .int .u64 0 :: .slice none 0 0 :: .slice none 0 0 :: .int .i64 0 :: .slice none 0 0 :: .slice none 0 0 :: []) : List Value).toArray 45)
    have hge := F3.size
    clear F3
    have hth : (w3.alloc (.cells ((.int .i64 0 :: .int .i64 0 :: .int .i64 0 :: .int .i64 0 :: .int .i64 0 :: .int .i64 0 :: .int .u64 0 :: .int .u64 0 :: .int .i64 0 :: .int .i64 0 :: .int .u64 0 :: .int .i64 0 :: .int .u64 0 :: .int .u64 0 :: .int .i64 0 :: .int .i64 0 :: .int .i64 0 :: .int .u64 0 :: .int .u64 0 :: .int .i64 0 :: .int .i64 0 :: .int .i64 0 :: .slice none 0 0 :: .slice none 0 0 :: .slice none 0 0 :: .int .i64 0 :: .int .u64 0 :: .int .u64 0 :: .slice none 0 0 :: .int .i64 0 :: .int .u64 0 :: .int .u64 0 :: .slice none 0 0 :: .slice none 0 0 :: .int .i64 0 :: .slice none 0 0 :: .slice none 0 0 :: []) : List Value).toArray 45)).there w3.heap.size 0 (ref17L k).length := there_of hbZ rfl
    refine wpAnyH_ready (rs := [16]) (by rw [hops.out]; kernel_rfl) (by simp) ?_
    refine AllReadyH.cons e16 (fun K hK => ?_) AllReadyH.nil
    rw [if_pos (by rfl)]
    refine wp_store_mid _ _ _ rfl w3.heap.size 0 (ref17L k).toArray rfl rfl hth hiR.out (all_oneCell_toArray HONE.out) ?_
    simp only [Act.put]
    have F5 := Fr.setCells (S := []) (b := w3.heap.size) (.inr hge) (ref17L k) 0 _ FX
    have hb6 := row_setCells hbZ (ref17L k) rfl
    refine hK.out _ _ (KS.out _ F5) (fun hHeld => ?_)
    clear hK K
    refine wpAnyH_done (by rw [hops.out]; kernel_rfl) (hQn.out _ _ ?_) _
    clear hQn hQ hops e0 e1 e2 e3 e4 e5 e6 e7 e8 e9 e10 e11 e12 e13 e14 e15 e16 hth
    generalize (w3.alloc (.cells ((.int .i64 0 :: .int .i64 0 :: .int .i64 0 :: .int .i64 0 :: .int .i64 0 :: .int .i64 0 :: .int .u64 0 :: .int .u64 0 :: .int .i64 0 :: .int .i64 0 :: .int .u64 0 :: .int .i64 0 :: .int .u64 0 :: .int .u64 0 :: .int .i64 0 :: .int .i64 0 :: .int .i64 0 :: .int .u64 0 :: .int .u64 0 :: .int .i64 0 :: .int .i64 0 :: .int .i64 0 :: .slice none 0 0 :: .slice none 0 0 :: .slice none 0 0 :: .int .i64 0 :: .int .u64 0 :: .int .u64 0 :: .slice none 0 0 :: .int .i64 0 :: .int .u64 0 :: .int .u64 0 :: .slice none 0 0 :: .slice none 0 0 :: .int .i64 0 :: .slice none 0 0 :: .slice none 0 0 :: []) : List Value).toArray 45)).setCells w3.heap.size 0 (ref17L k) = w4 at hb6 F5 ⊢
    obtain ⟨b6, hb6e⟩ : ∃ b6, b6 = w3.heap.size := ⟨_, rfl⟩
    rw [← hb6e] at hb6 hge ⊢
    have hlt2 := lt_of_block HB2.out
    have hc4 := F5.keep HB1.out (by simp)
    have hz4 := F5.keep HB2.out (by simp)
    have KS3 : Hid (∀ w' : World, Fr [w.heap.size + 1] w4 w' → w'.rangeAt b6 0 (ref17L k) ∧ w'.rangeAt w.heap.size 0 [.int .i64 k.mode, .int .i64 k.pool, .int .i64 k.queue, .int .i64 k.sem, .int .i64 k.fb, .int .i64 k.ch, .int .u64 k.t, .int .u64 k.ft, .int .i64 k.vo, .int .i64 k.pe, .int .u64 k.sl, .int .i64 k.bu, .int .u64 k.wi, .int .u64 k.wd, .int .i64 k.ba, .int .i64 k.fo]) := Lib.hid (fun w' F => ⟨range_of (F.keep hb6 (fun hs => by rw [List.mem_singleton] at hs; omega)), range_of (F.keep hc4 (fun hs => by rw [List.mem_singleton] at hs; omega))⟩)
    have HZ4 := Lib.hid hz4
    have HF5 := Lib.hid (HF2.out.trans F5)
    have F6 : Fr [w.heap.size + 1] w4 w4.drew := (Fr.refl _ _).drew
    have F6n : Fr [] w4 w4.drew := (Fr.refl _ _).drew
    clear hb6 hb6e hge hlt2 hc4 hz4 F5 FX hbZ hHeld KS HBD HB HB1 HB2 HF2
    go_wp2_with fail
    refine wp_region_held_drew (S := fun w' => w'.rangeAt b6 0 (ref17L k) ∧ w'.rangeAt w.heap.size 0 [.int .i64 k.mode, .int .i64 k.pool, .int .i64 k.queue, .int .i64 k.sem, .int .i64 k.fb, .int .i64 k.ch, .int .u64 k.t, .int .u64 k.ft, .int .i64 k.vo, .int .i64 k.pe, .int .u64 k.sl, .int .i64 k.bu, .int .u64 k.wi, .int .u64 k.wd, .int .i64 k.ba, .int .i64 k.fo]) (by kernel_rfl) (KS3.out _ F6) (fun hHeld => ?_)
    have hRg : Array.replicate 6 false = #[false, false, false, false, false, false] := rfl
    refine (?_ : wpAnyH _ _ _ _ _ 6 (Array.replicate 6 false) _ _)
    rw [hRg]
    refine wpAnyH_hide (fun _ _ d _ _ h => by cases d <;> exact h) (fun ops Q hops hQ hQn => ?_)
    clear hRg
    have e0 := congrArg (fun x : Array Oper => x[0]?) hops.out
    simp only [List.getElem?_toArray, List.getElem?_cons_zero] at e0
    have e1 := congrArg (fun x : Array Oper => x[1]?) hops.out
    simp only [List.getElem?_toArray, List.getElem?_cons_zero, List.getElem?_cons_succ] at e1
    have e2 := congrArg (fun x : Array Oper => x[2]?) hops.out
    simp only [List.getElem?_toArray, List.getElem?_cons_zero, List.getElem?_cons_succ] at e2
    have e3 := congrArg (fun x : Array Oper => x[3]?) hops.out
    simp only [List.getElem?_toArray, List.getElem?_cons_zero, List.getElem?_cons_succ] at e3
    have e4 := congrArg (fun x : Array Oper => x[4]?) hops.out
    simp only [List.getElem?_toArray, List.getElem?_cons_zero, List.getElem?_cons_succ] at e4
    have e5 := congrArg (fun x : Array Oper => x[5]?) hops.out
    simp only [List.getElem?_toArray, List.getElem?_cons_zero, List.getElem?_cons_succ] at e5
    refine wpAnyH_take (i := 0) (v := .agg (ref17L k).toArray) e0 (by rw [hops.out]; kernel_rfl) (by rw [hops.out]; kernel_rfl) (by rw [hops.out]; kernel_rfl) (fun c a w h => hQ c a _ _ w h) (yieldsIf_load_mid rfl _ _ rfl b6 0 rfl _ _ (fun _ h => h.1) hu2.out rfl hiR.out) hHeld ?_
    (try simp only [Act.put, List.setIfInBounds_toArray, List.set_cons_zero, List.set_cons_succ])
    refine wpAnyH_take (i := 1) (v := .agg ([.int .i64 k.mode, .int .i64 k.pool, .int .i64 k.queue, .int .i64 k.sem, .int .i64 k.fb, .int .i64 k.ch, .int .u64 k.t, .int .u64 k.ft, .int .i64 k.vo, .int .i64 k.pe, .int .u64 k.sl, .int .i64 k.bu, .int .u64 k.wi, .int .u64 k.wd, .int .i64 k.ba, .int .i64 k.fo] : List Value).toArray) e1 (by rw [hops.out]; kernel_rfl) (by rw [hops.out]; kernel_rfl) (by rw [hops.out]; kernel_rfl) (fun c a w h => hQ c a _ _ w h) (yieldsIf_load_mid rfl _ _ rfl w.heap.size 0 rfl _ _ (fun _ h => h.2) hu.out rfl hiC.out) hHeld ?_
    (try simp only [Act.put, List.setIfInBounds_toArray, List.set_cons_zero, List.set_cons_succ])
    refine wpAnyH_ready (rs := [2]) (by rw [hops.out]; kernel_rfl) (by simp) ?_
    refine AllReadyH.cons e2 (fun K hK => ?_) AllReadyH.nil
    go_simp
    go_at_call 37
    refine (HC8.out _).mono ?_
    rintro e w5 ⟨n, rfl, hn0, hn1, hn2, F7⟩
    go_wp2_with fail
    have F7n : Fr [] w4 w5 := F6n.trans F7
    have F7 : Fr [w.heap.size + 1] w4 w5 := F6.trans (F7.mono (by simp))
    refine hK.out _ _ (KS3.out _ F7) (fun hHeld => ?_)
    clear hK K
    (try simp only [List.setIfInBounds_toArray, List.set_cons_zero, List.set_cons_succ])
    have hn : (n == 0) = k.fine := by
      cases hf : k.fine with
      | true => rw [hn2.2 hf]; rfl
      | false =>
        have : n ≠ 0 := fun e => by have := hn2.1 e; rw [hf] at this; cases this
        simpa using this
    have hz5 := F7n.keep HZ4.out (by simp)
    refine wpAnyH_take (i := 3) (v := .bool k.fine) e3 (by rw [hops.out]; kernel_rfl) (by rw [hops.out]; kernel_rfl) (by rw [hops.out]; kernel_rfl) (fun c a w h => hQ c a _ _ w h) (Or.inl ⟨rfl, fun w' hS => by rw [← hn]; go_simp⟩) hHeld ?_
    (try simp only [Act.put, List.setIfInBounds_toArray, List.set_cons_zero, List.set_cons_succ])
    have hth : w5.there (w.heap.size + 1) 0 (ref17L k).length := there_of hz5 rfl
    refine wpAnyH_ready (rs := [4]) (by rw [hops.out]; kernel_rfl) (by simp) ?_
    refine AllReadyH.cons e4 (fun K hK => ?_) AllReadyH.nil
    rw [if_pos (by rfl)]
    refine wp_store_mid _ _ _ rfl (w.heap.size + 1) 0 (ref17L k).toArray rfl rfl hth hiR.out (all_oneCell_toArray HONE.out) ?_
    simp only [Act.put]
    have F8 := Fr.setCells (S := [w.heap.size + 1]) (b := w.heap.size + 1) (.inl (by simp)) (ref17L k) 0 _ F7
    have hb8 := row_setCells hz5 (ref17L k) rfl
    refine hK.out _ _ (KS3.out _ F8) (fun hHeld => ?_)
    clear hK K
    refine wpAnyH_take (i := 5) (v := .bool k.fine) e5 (by rw [hops.out]; kernel_rfl) (by rw [hops.out]; kernel_rfl) (by rw [hops.out]; kernel_rfl) (fun c a w h => hQ c a _ _ w h) (Or.inl ⟨rfl, fun w' _ => by go_simp⟩) hHeld ?_
    (try simp only [Act.put, List.setIfInBounds_toArray, List.set_cons_zero, List.set_cons_succ])
    refine wpAnyH_done (by rw [hops.out]; kernel_rfl) (hQn.out _ _ ?_) _
    clear hQn hQ hops e0 e1 e2 e3 e4 e5 hth
    have HEND := Lib.hid (HF5.out.trans' F8 (fun s hs => .inr (by rw [List.mem_singleton] at hs; omega)))
    generalize w5.setCells (w.heap.size + 1) 0 (ref17L k) = w6 at hb8 F8 HEND ⊢
    have hrg := range_of hb8
    have hlv := run_loadVar_mid (P := Tryz.prog) w6 (w.heap.size + 1) 0 45 (ref17L k) _ hrg hu2.out rfl hiR.out
    clear hb8 F8 hHeld hz5 F7 F7n hn hn2 hn0 hn1 F6 F6n hrg
    go_wp2_with fail
    refine bodyPost_ret (v := .tuple #[.agg (ref17L k).toArray, .bool k.fine]) (results_cell_tmpD Tryz.results9 _ _ _ rfl hlv) rfl ?_
    exact ⟨rfl, HEND.out⟩
  refine AllReadyH.cons e15 (fun K hK => ?_) AllReadyH.nil
  go_simp
  have F4 := F0.alloc (.cells ((.int .i64 0 :: .int .i64 0 :: .int .i64 0 :: .int .i64 0 :: .int .i64 0 :: .int .i64 0 :: .int .u64 0 :: .int .u64 0 :: .int .i64 0 :: .int .i64 0 :: .int .u64 0 :: .int .i64 0 :: .int .u64 0 :: .int .u64 0 :: .int .i64 0 :: .int .i64 0 :: .int .i64 0 :: .int .u64 0 :: .int .u64 0 :: .int .i64 0 :: .int .i64 0 :: .int .i64 0 :: .slice none 0 0 :: .slice none 0 0 :: .slice none 0 0 :: .int .i64 0 :: .int .u64 0 :: .int .u64 0 :: .slice none 0 0 :: .int .i64 0 :: .int .u64 0 :: .int .u64 0 :: .slice none 0 0 :: .slice none 0 0 :: .int .i64 0 :: .slice none 0 0 :: .slice none 0 0 :: []) : List Value).toArray 45)
  have hbZ := block_alloc_new w2.drew (.cells ((.int .i64 0 :: .int .i64 0 :: .int .i64 0 :: .int .i64 0 :: .int .i64 0 :: .int .i64 0 :: .int .u64 0 :: .int .u64 0 :: .int .i64 0 :: .int .i64 0 :: .int .u64 0 :: .int .i64 0 :: .int .u64 0 :: .int .u64 0 :: .int .i64 0 :: .int .i64 0 :: .int .i64 0 :: .int .u64 0 :: .int .u64 0 :: .int .i64 0 :: .int .i64 0 :: .int .i64 0 :: .slice none 0 0 :: .slice none 0 0 :: .slice none 0 0 :: .int .i64 0 :: .int .u64 0 :: .int .u64 0 :: .slice none 0 0 :: .int .i64 0 :: .int .u64 0 :: .int .u64 0 :: .slice none 0 0 :: .slice none 0 0 :: .int .i64 0 :: .slice none 0 0 :: .slice none 0 0 :: []) : List Value).toArray 45)
  refine hK.out _ _ (KS.out _ F4) (fun hHeld => ?_)
  clear hK K
  (try simp only [List.setIfInBounds_toArray, List.set_cons_zero, List.set_cons_succ])
  refine wpAnyH_ready (rs := [2]) (by rw [hops.out]; kernel_rfl) (by simp) ?_
  refine AllReadyH.cons e2 (fun K hK => ?_) AllReadyH.nil
  go_simp
  go_at_call 36
  refine (HB.out _).mono ?_
  rintro e w3 ⟨rfl, F3⟩
  go_wp2_with fail
  have hbZ := F3.keep hbZ (by simp)
  have FX := F4.trans F3
  refine hK.out _ _ (KS.out _ FX) (fun hHeld => ?_)
  clear hK K
  (try simp only [List.setIfInBounds_toArray, List.set_cons_zero, List.set_cons_succ])
  refine wpAnyH_take (i := 14) (v := .agg (ref17L k).toArray) e14 (by rw [hops.out]; kernel_rfl) (by rw [hops.out]; kernel_rfl) (by rw [hops.out]; kernel_rfl) (fun c a w h => hQ c a _ _ w h) (yieldsIf_build rfl _ _ rfl _ (by simp only [List.map_toArray, List.map_cons, List.map_nil]; rfl) _ (fun w' _ => HBD.out w')) hHeld ?_
  (try simp only [Act.put, List.setIfInBounds_toArray, List.set_cons_zero, List.set_cons_succ])
  have hge : w2.heap.size ≤ w2.heap.size := Nat.le_refl _
  clear F3 F4
  change w3.heap[w2.heap.size]? = _ at hbZ
  have hth : w3.there w2.heap.size 0 (ref17L k).length := there_of hbZ rfl
  refine wpAnyH_ready (rs := [16]) (by rw [hops.out]; kernel_rfl) (by simp) ?_
  refine AllReadyH.cons e16 (fun K hK => ?_) AllReadyH.nil
  rw [if_pos (by rfl)]
  refine wp_store_mid _ _ _ rfl w2.heap.size 0 (ref17L k).toArray rfl rfl hth hiR.out (all_oneCell_toArray HONE.out) ?_
  simp only [Act.put]
  have F5 := Fr.setCells (S := []) (b := w2.heap.size) (.inr hge) (ref17L k) 0 _ FX
  have hb6 := row_setCells hbZ (ref17L k) rfl
  refine hK.out _ _ (KS.out _ F5) (fun hHeld => ?_)
  clear hK K
  refine wpAnyH_done (by rw [hops.out]; kernel_rfl) (hQn.out _ _ ?_) _
  clear hQn hQ hops e0 e1 e2 e3 e4 e5 e6 e7 e8 e9 e10 e11 e12 e13 e14 e15 e16 hth
  generalize w3.setCells w2.heap.size 0 (ref17L k) = w4 at hb6 F5 ⊢
  obtain ⟨b6, hb6e⟩ : ∃ b6, b6 = w2.heap.size := ⟨_, rfl⟩
  rw [← hb6e] at hb6 hge ⊢
  have hlt2 := lt_of_block HB2.out
  have hc4 := F5.keep HB1.out (by simp)
  have hz4 := F5.keep HB2.out (by simp)
  have KS3 : Hid (∀ w' : World, Fr [w.heap.size + 1] w4 w' → w'.rangeAt b6 0 (ref17L k) ∧ w'.rangeAt w.heap.size 0 [.int .i64 k.mode, .int .i64 k.pool, .int .i64 k.queue, .int .i64 k.sem, .int .i64 k.fb, .int .i64 k.ch, .int .u64 k.t, .int .u64 k.ft, .int .i64 k.vo, .int .i64 k.pe, .int .u64 k.sl, .int .i64 k.bu, .int .u64 k.wi, .int .u64 k.wd, .int .i64 k.ba, .int .i64 k.fo]) := Lib.hid (fun w' F => ⟨range_of (F.keep hb6 (fun hs => by rw [List.mem_singleton] at hs; omega)), range_of (F.keep hc4 (fun hs => by rw [List.mem_singleton] at hs; omega))⟩)
  have HZ4 := Lib.hid hz4
  have HF5 := Lib.hid (HF2.out.trans F5)
  have F6 : Fr [w.heap.size + 1] w4 w4.drew := (Fr.refl _ _).drew
  have F6n : Fr [] w4 w4.drew := (Fr.refl _ _).drew
  clear hb6 hb6e hge hlt2 hc4 hz4 F5 FX hbZ hHeld KS HBD HB HB1 HB2 HF2
  go_wp2_with fail
  refine wp_region_held_drew (S := fun w' => w'.rangeAt b6 0 (ref17L k) ∧ w'.rangeAt w.heap.size 0 [.int .i64 k.mode, .int .i64 k.pool, .int .i64 k.queue, .int .i64 k.sem, .int .i64 k.fb, .int .i64 k.ch, .int .u64 k.t, .int .u64 k.ft, .int .i64 k.vo, .int .i64 k.pe, .int .u64 k.sl, .int .i64 k.bu, .int .u64 k.wi, .int .u64 k.wd, .int .i64 k.ba, .int .i64 k.fo]) (by kernel_rfl) (KS3.out _ F6) (fun hHeld => ?_)
  have hRg : Array.replicate 6 false = #[false, false, false, false, false, false] := rfl
  refine (?_ : wpAnyH _ _ _ _ _ 6 (Array.replicate 6 false) _ _)
  rw [hRg]
  refine wpAnyH_hide (fun _ _ d _ _ h => by cases d <;> exact h) (fun ops Q hops hQ hQn => ?_)
  clear hRg
  have e0 := congrArg (fun x : Array Oper => x[0]?) hops.out
  simp only [List.getElem?_toArray, List.getElem?_cons_zero] at e0
  have e1 := congrArg (fun x : Array Oper => x[1]?) hops.out
  simp only [List.getElem?_toArray, List.getElem?_cons_zero, List.getElem?_cons_succ] at e1
  have e2 := congrArg (fun x : Array Oper => x[2]?) hops.out
  simp only [List.getElem?_toArray, List.getElem?_cons_zero, List.getElem?_cons_succ] at e2
  have e3 := congrArg (fun x : Array Oper => x[3]?) hops.out
  simp only [List.getElem?_toArray, List.getElem?_cons_zero, List.getElem?_cons_succ] at e3
  have e4 := congrArg (fun x : Array Oper => x[4]?) hops.out
  simp only [List.getElem?_toArray, List.getElem?_cons_zero, List.getElem?_cons_succ] at e4
  have e5 := congrArg (fun x : Array Oper => x[5]?) hops.out
  simp only [List.getElem?_toArray, List.getElem?_cons_zero, List.getElem?_cons_succ] at e5
  refine wpAnyH_take (i := 0) (v := .agg (ref17L k).toArray) e0 (by rw [hops.out]; kernel_rfl) (by rw [hops.out]; kernel_rfl) (by rw [hops.out]; kernel_rfl) (fun c a w h => hQ c a _ _ w h) (yieldsIf_load_mid rfl _ _ rfl b6 0 rfl _ _ (fun _ h => h.1) hu2.out rfl hiR.out) hHeld ?_
  (try simp only [Act.put, List.setIfInBounds_toArray, List.set_cons_zero, List.set_cons_succ])
  refine wpAnyH_take (i := 1) (v := .agg ([.int .i64 k.mode, .int .i64 k.pool, .int .i64 k.queue, .int .i64 k.sem, .int .i64 k.fb, .int .i64 k.ch, .int .u64 k.t, .int .u64 k.ft, .int .i64 k.vo, .int .i64 k.pe, .int .u64 k.sl, .int .i64 k.bu, .int .u64 k.wi, .int .u64 k.wd, .int .i64 k.ba, .int .i64 k.fo] : List Value).toArray) e1 (by rw [hops.out]; kernel_rfl) (by rw [hops.out]; kernel_rfl) (by rw [hops.out]; kernel_rfl) (fun c a w h => hQ c a _ _ w h) (yieldsIf_load_mid rfl _ _ rfl w.heap.size 0 rfl _ _ (fun _ h => h.2) hu.out rfl hiC.out) hHeld ?_
  (try simp only [Act.put, List.setIfInBounds_toArray, List.set_cons_zero, List.set_cons_succ])
  refine wpAnyH_ready (rs := [2]) (by rw [hops.out]; kernel_rfl) (by simp) ?_
  refine AllReadyH.cons e2 (fun K hK => ?_) AllReadyH.nil
  go_simp
  go_at_call 37
  refine (HC8.out _).mono ?_
  rintro e w5 ⟨n, rfl, hn0, hn1, hn2, F7⟩
  go_wp2_with fail
  have F7n : Fr [] w4 w5 := F6n.trans F7
  have F7 : Fr [w.heap.size + 1] w4 w5 := F6.trans (F7.mono (by simp))
  refine hK.out _ _ (KS3.out _ F7) (fun hHeld => ?_)
  clear hK K
  (try simp only [List.setIfInBounds_toArray, List.set_cons_zero, List.set_cons_succ])
  have hn : (n == 0) = k.fine := by
    cases hf : k.fine with
    | true => rw [hn2.2 hf]; rfl
    | false =>
      have : n ≠ 0 := fun e => by have := hn2.1 e; rw [hf] at this; cases this
      simpa using this
  have hz5 := F7n.keep HZ4.out (by simp)
  refine wpAnyH_take (i := 3) (v := .bool k.fine) e3 (by rw [hops.out]; kernel_rfl) (by rw [hops.out]; kernel_rfl) (by rw [hops.out]; kernel_rfl) (fun c a w h => hQ c a _ _ w h) (Or.inl ⟨rfl, fun w' hS => by rw [← hn]; go_simp⟩) hHeld ?_
  (try simp only [Act.put, List.setIfInBounds_toArray, List.set_cons_zero, List.set_cons_succ])
  have hth : w5.there (w.heap.size + 1) 0 (ref17L k).length := there_of hz5 rfl
  refine wpAnyH_ready (rs := [4]) (by rw [hops.out]; kernel_rfl) (by simp) ?_
  refine AllReadyH.cons e4 (fun K hK => ?_) AllReadyH.nil
  rw [if_pos (by rfl)]
  refine wp_store_mid _ _ _ rfl (w.heap.size + 1) 0 (ref17L k).toArray rfl rfl hth hiR.out (all_oneCell_toArray HONE.out) ?_
  simp only [Act.put]
  have F8 := Fr.setCells (S := [w.heap.size + 1]) (b := w.heap.size + 1) (.inl (by simp)) (ref17L k) 0 _ F7
  have hb8 := row_setCells hz5 (ref17L k) rfl
  refine hK.out _ _ (KS3.out _ F8) (fun hHeld => ?_)
  clear hK K
  refine wpAnyH_take (i := 5) (v := .bool k.fine) e5 (by rw [hops.out]; kernel_rfl) (by rw [hops.out]; kernel_rfl) (by rw [hops.out]; kernel_rfl) (fun c a w h => hQ c a _ _ w h) (Or.inl ⟨rfl, fun w' _ => by go_simp⟩) hHeld ?_
  (try simp only [Act.put, List.setIfInBounds_toArray, List.set_cons_zero, List.set_cons_succ])
  refine wpAnyH_done (by rw [hops.out]; kernel_rfl) (hQn.out _ _ ?_) _
  clear hQn hQ hops e0 e1 e2 e3 e4 e5 hth
  have HEND := Lib.hid (HF5.out.trans' F8 (fun s hs => .inr (by rw [List.mem_singleton] at hs; omega)))
  generalize w5.setCells (w.heap.size + 1) 0 (ref17L k) = w6 at hb8 F8 HEND ⊢
  have hrg := range_of hb8
  have hlv := run_loadVar_mid (P := Tryz.prog) w6 (w.heap.size + 1) 0 45 (ref17L k) _ hrg hu2.out rfl hiR.out
  clear hb8 F8 hHeld hz5 F7 F7n hn hn2 hn0 hn1 F6 F6n hrg
  go_wp2_with fail
  refine bodyPost_ret (v := .tuple #[.agg (ref17L k).toArray, .bool k.fine]) (results_cell_tmpD Tryz.results9 _ _ _ rfl hlv) rfl ?_
  exact ⟨rfl, HEND.out⟩
end Go.Proofs.YtcnkhjgpjchkeaaGreat

namespace Go.Proofs.YtcnkhjgpjchkeaaGreat
open Go.RowKit

def awK : CF := ⟨1, 1, 1, 0, 0, 0, 10, 5, 9, 50, 0, 2, 10, 0, 0, 0⟩
/-- What the contracts ask of how a dependency stands. -/
def DepM.good (M : DepM) : Prop := M.br.since < 18446744073709551616 ∧ M.win.L.length < 1000000000000000 ∧ M.took.L.length < 1000000000000000 ∧ ∀ p ∈ M.calls, p.2.ms.length ≤ 1000000 ∧ 0 ≤ p.2.step ∧ p.2.step ≤ 3
instance (M : DepM) : Decidable M.good := inferInstanceAs (Decidable (_ ∧ _))
theorem good_of {M : DepM} (h : decide M.good = true) : M.good := of_decide_eq_true h
theorem awK_fine : awK.fine = true := by kernel_rfl
theorem aw_all : ∃ M0 M1 M2 M3 M4 M5 M6 : DepM, ∃ a2 : ActM, ∃ o4 o5 : Ou, DepM.new awK = M0 ∧ M0.good
    ∧ M0.offer 0 1 [(1, 0)] = (⟨M1, [⟨true, 1, 10⟩], []⟩, 0) ∧ M1.good
    ∧ M1.offer 1 1 [(2, 0)] = (⟨M2, [a2], []⟩, 0) ∧ M2.good
    ∧ M2.offer 2 1 [(3, 0)] = (⟨M3, [], [⟨3, 4, 3, 0, 2⟩]⟩, 0) ∧ M3.good
    ∧ M3.late 10 1 = ⟨M4, [], [o4]⟩ ∧ M4.good
    ∧ M4.late 11 2 = ⟨M5, [], [o5]⟩ ∧ M5.good
    ∧ M5.answer 20 1 true [9] = (⟨M6, [], []⟩, 0)
    ∧ M6.snapV 20 = #[.int .i64 0, .int .i64 0, .int .i64 0, .int .i64 0, .int .i64 1, .int .u64 0, .int .u64 0, .int .u64 2, .int .u64 0, .int .u64 0, .int .u64 0, .int .u64 0] :=
  ⟨DepM.new awK, ((DepM.new awK).offer 0 1 [(1, 0)]).1.M, (((DepM.new awK).offer 0 1 [(1, 0)]).1.M.offer 1 1 [(2, 0)]).1.M, ((((DepM.new awK).offer 0 1 [(1, 0)]).1.M.offer 1 1 [(2, 0)]).1.M.offer 2 1 [(3, 0)]).1.M,
    (((((DepM.new awK).offer 0 1 [(1, 0)]).1.M.offer 1 1 [(2, 0)]).1.M.offer 2 1 [(3, 0)]).1.M.late 10 1).M, ((((((DepM.new awK).offer 0 1 [(1, 0)]).1.M.offer 1 1 [(2, 0)]).1.M.offer 2 1 [(3, 0)]).1.M.late 10 1).M.late 11 2).M,
    (((((((DepM.new awK).offer 0 1 [(1, 0)]).1.M.offer 1 1 [(2, 0)]).1.M.offer 2 1 [(3, 0)]).1.M.late 10 1).M.late 11 2).M.answer 20 1 true [9]).1.M, ⟨true, 2, 11⟩, ⟨1, 4, 2, 0, 10⟩, ⟨2, 4, 2, 0, 11⟩,
    rfl, good_of (by kernel_rfl), by kernel_rfl, good_of (by kernel_rfl), by kernel_rfl, good_of (by kernel_rfl), by kernel_rfl, good_of (by kernel_rfl), by kernel_rfl, good_of (by kernel_rfl), by kernel_rfl, good_of (by kernel_rfl), by kernel_rfl, by kernel_rfl⟩
end Go.Proofs.YtcnkhjgpjchkeaaGreat
