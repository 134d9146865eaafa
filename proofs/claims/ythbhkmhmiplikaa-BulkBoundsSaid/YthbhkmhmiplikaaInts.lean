/-
  Slices of ints: what one reads as; how it stays; the functions of porpoiseref04.
-/
import Derived.Test.YthbhkmhmiplikaaRing
import Derived.Test.YthbhkmhmiplikaaApp
namespace Go.Proofs.Ythbhkmhmiplikaa
open Go.RowKit

/-- v is a slice that reads as the numbers xs. -/
def RdInts (w : World) (v : Value) (xs : List Int) : Prop :=
  ∃ ao cap, v = .slice ao xs.length cap ∧ xs.length ≤ cap ∧ (ao = none → cap = 0) ∧ ∀ j, j < xs.length → ∃ b o, ao = some ⟨b, o, none⟩ ∧ w.cell? ⟨b, o + j, none⟩ = some (.int .i64 (el xs j))

/-- .. and lies in no block below base. -/
def Lst (w : World) (base : Nat) (v : Value) (xs : List Int) : Prop := RdInts w v xs ∧ ∀ g, v.ownBlock = some g → base ≤ g

theorem RdInts.fr {w w' : World} {v : Value} {xs : List Int} (h : RdInts w v xs) {S : List Nat} (k : Fr S w w') (hn : ∀ g, v.ownBlock = some g → g ∉ S) : RdInts w' v xs := by
  obtain ⟨ao, cap, rfl, h2, h3, h4⟩ := h
  refine ⟨ao, cap, rfl, h2, h3, fun j hj => ?_⟩
  obtain ⟨b, o, hb, hc⟩ := h4 j hj
  refine ⟨b, o, hb, ?_⟩
  rw [k.cell (World.block_lt_of_cell? _ _ hc) (hn b (by simp [Value.ownBlock, hb]))]
  exact hc
theorem Lst.fr {w w' : World} {base : Nat} {v : Value} {xs : List Int} (h : Lst w base v xs) {S : List Nat} (k : Fr S w w') (hS : ∀ x ∈ S, x < base) : Lst w' base v xs :=
  ⟨h.1.fr k (fun g hg hm => by have := h.2 g hg; have := hS g hm; omega), h.2⟩
theorem Lst.dr {w w' : World} {base : Nat} {v : Value} {xs : List Int} (h : Lst w base v xs) (k : ∃ q, w' = w.drewN q) : Lst w' base v xs := by obtain ⟨q, rfl⟩ := k; exact h
theorem Lst.mono {w : World} {base base' : Nat} {v : Value} {xs : List Int} (h : Lst w base v xs) (hb : base' ≤ base) : Lst w base' v xs :=
  ⟨h.1, fun g hg => Nat.le_trans hb (h.2 g hg)⟩
theorem Lst.nil (w : World) (base : Nat) : Lst w base (.slice none 0 0) [] := ⟨⟨none, 0, rfl, Nat.le_refl _, fun _ => rfl, fun j hj => by simp at hj⟩, fun g hg => by simp [Value.ownBlock] at hg⟩
/-- What the call owns reads so. -/
theorem Lst.of_owns {w : World} {base : Nat} {v : Value} {xs : List Int} (h : w.ownsRow base 3 1 v xs.length (xs.map (Value.int .i64))) : Lst w base v xs := by
  refine ⟨?_, fun g hg => (h.lt g hg).1⟩
  obtain ⟨h1, h2⟩ := h
  rcases h2 with ⟨rfl, hn⟩ | ⟨g, cap, cur, rfl, hg, hh, hc, hm, hs, ht⟩
  · obtain rfl := List.eq_nil_of_length_eq_zero hn
    exact (Lst.nil w base).1
  · refine ⟨some ⟨g, 0, none⟩, cap, rfl, hc, fun e => by simp at e, fun j hj => ⟨g, 0, rfl, ?_⟩⟩
    rw [Nat.zero_add, cell_of_block hh]
    have : (cur.toList.take (xs.length * 1))[j]? = some (.int .i64 (el xs j)) := by rw [ht]; simp [el, hj]
    rw [List.getElem?_take, if_pos (by omega)] at this
    simpa using this

theorem Try.info_int : (Try.prog.info? 3).map (fun i => (i.zero, i.size, i.bytes)) = some (some (.int .i64 0), 1, 8) := by kernel_rfl

theorem Fr.of_grown {S : List Nat} {a w w' : World} {row : Option Nat} (h : Fr S a w) (hg : w.grownBy w' row) (hr : ∀ k, row = some k → k ∈ S ∨ a.heap.size ≤ k) : Fr S a w' :=
  ⟨hg.os.trans h.os, hg.tape.trans h.tape, hg.output.trans h.output, Nat.le_trans h.size hg.size, fun i hi hn =>
    (hg.block i (Nat.lt_of_lt_of_le hi h.size) (fun e => by rcases hr i e.symm with h1 | h1; exact hn h1; omega)).trans (h.block i hi hn)⟩

theorem cell_one {w : World} {v : Value} {E : TypeId} {j : Nat} {u : Value} (q : Nat) (hj : [v][j]? = some u) : ((w.drewN q).alloc (.cells #[v] E)).cell? ((⟨w.heap.size, 0, none⟩ : Addr).add j) = some u := by
  match j, hj with
  | 0, hj =>
    simp at hj
    subst hj
    exact World.cell?_alloc_new (w.drewN q) #[v] E 0

theorem take_snoc_ints (xs : List Int) (k : Nat) (hk : k < xs.length) : List.take k (List.map (Value.int .i64) xs) ++ [Value.int .i64 (el xs k)] = List.map (Value.int .i64) (List.take (k + 1) xs) := by
  rw [List.map_take, List.take_succ_eq_append_getElem (l := xs.map (Value.int .i64)) (by simpa using hk)]; simp [el, hk]

theorem take_snoc_el (xs : List Int) (k : Nat) (hk : k < xs.length) : xs.take k ++ [el xs k] = xs.take (k + 1) := by
  rw [List.take_succ_eq_append_getElem hk]; simp [el, List.getD, hk]

set_option maxHeartbeats 1000000 in
theorem list_walk {w : World} {b f m : Nat} {l xs : List Int} (hl : l.length = 8) (hf : f < 8) (hm : m ≤ 8) (hn : xs.length ≤ m) (hx : ∀ i, i < xs.length → el l ((f + i) % 8) = el xs i)
    (h : w.heap[b]? = some (.cells (ringCells l f xs.length m) 68 (0, 0))) :
    Calls Try.prog 19 #[.pointer (some ⟨b, 0, none⟩)] w fun e w' => ∃ v, e = .returned v ∧ w'.ownsRow w.heap.size 3 1 v xs.length (xs.map (Value.int .i64)) ∧ Fr [] w w' := by
  have H0 := Lib.hid (len_cell b xs.length w (ring_9 hl h))
  have H := Lib.hid h
  have HX := Lib.hid hx
  have hb := lt_of_block h
  clear h hx
  obtain ⟨i0, hi, hz0, hz1, hz2⟩ := info_parts Try.info_int
  go_enter Try.func19, Try.ntmps19
  go_wp2_with (go_at_call 20; refine H0.out.mono ?_; rintro e w' ⟨rfl, rfl⟩)
  go_loopw [3, 7] (fun s v wr => ∃ i : Nat, i ≤ xs.length ∧ v = .int .i64 i ∧ Hid (wr.ownsRow w'.heap.size 3 1 s i ((xs.take i).map (Value.int .i64))) ∧ Hid (Fr [] w' wr)) (fun _ v _ => xs.length - (intOf v).toNat)
  case atStart => exact ⟨0, Nat.zero_le _, rfl, Lib.hid (by simpa using World.ownsRow_nil _ _ _ _), Lib.hid (Fr.refl _ _)⟩
  case round =>
    obtain ⟨i, hi', rfl, HO, HF⟩ := hrel
    by_cases hlt : i < xs.length
    · have hk := HF.out.keep H.out (by simp)
      have c8 := ring_8 hl hk
      have ca := ring_at hl hk ((f + i) % 8) (by omega)
      rw [HX.out i hlt] at ca
      have hsz := HF.out.size
      clear hk
      go_wp2_with (first
        | (go_at_call 43; refine (at_spec' b f i _ _ (by omega) hf (by omega) (by assumption)).mono ?_; rintro e w1 ⟨rfl, q, rfl⟩)
        | (at_builtin; refine wpList_append_own _ rfl _ _ 26 rfl w'.heap.size 3 i0 (.int .i64 0) 1 8 Try.underlying26 hi hz0 hz1 hz2 rfl (by decide) _ _ _ rfl (World.ownsRow.alloc (w := wr.drewN _) HO.out _) ⟨wr.heap.size, 0, none⟩ 1 1 [.int .i64 (el xs i)] rfl rfl ?c1 ?c2 ?c3 ?c4 ?c5 ?_))
      case c1 =>
        intro j u hj
        exact cell_one q hj
      case c2 => intro u hu; simp at hu; subst hu; rfl
      case c3 => unfold maxLen; omega
      case c4 => omega
      case c5 => simp; omega
      intro v' w1 hown' hgrow _
      have HO' := Lib.hid hown'
      have HF' := Lib.hid (Fr.of_grown (S := []) ((HF.out.drewN q).alloc _) hgrow (fun k hk => Or.inr (by have := World.ownsRow.lt HO.out k hk; omega)))
      clear hown' hgrow
      go_wp2
      go_roundw
      case rel => exact ⟨i + 1, by omega, by go_num, Lib.hid (by have := HO'.out; rw [take_snoc_ints xs i hlt] at this; exact this), HF'⟩
      case measure => simp [intOf]; omega
    · go_wp2
      go_ret
      have : i = xs.length := by omega
      subst this
      exact ⟨_, rfl, by simpa using HO.out, HF.out⟩

theorem IsRing.list {w : World} {b : Nat} {xs : List Int} {m : Nat} (h : IsRing w b xs m) :
    Calls Try.prog 19 #[.pointer (some ⟨b, 0, none⟩)] w fun e w' => ∃ v, e = .returned v ∧ w'.ownsRow w.heap.size 3 1 v xs.length (xs.map (Value.int .i64)) ∧ Fr [] w w' := by
  obtain ⟨l, f, h1, h2, h3, h4, h5, h6⟩ := h
  exact list_walk h1 h2 h3 h4 h5 h6

theorem list_nil (w : World) : Calls Try.prog 19 #[.pointer none] w fun e w' => e = .returned (.slice none 0 0) ∧ w' = w := by
  go_enter Try.func19, Try.ntmps19
  go_wp2_with (go_at_call 20; refine (len_nil _).mono ?_; rintro e w' ⟨rfl, rfl⟩)
  refine wp_loop_rounds 1 ?_
  rw [rounds_succ]
  go_wp2
  go_ret
  exact ⟨rfl, rfl⟩

theorem new_none (m : Int) (w : World) (h : m < 0 ∨ 8 < m) : Calls Try.prog 16 #[.int .i64 m] w fun e w' => e = .returned (.pointer none) ∧ w' = w := by
  rcases h with h | h
  · go_enter Try.func16, Try.ntmps16
    go_wp2
    go_ret
    exact ⟨rfl, rfl⟩
  · have h' : ¬ m < 0 := by omega
    go_enter Try.func16, Try.ntmps16
    go_wp2
    go_ret
    exact ⟨rfl, rfl⟩
theorem new_walk (m : Nat) (w : World) (h : m ≤ 8) : Calls Try.prog 16 #[.int .i64 m] w fun e w' => e = .returned (.pointer (some ⟨w.heap.size, 0, none⟩)) ∧ w' = w.alloc (.cells (ringCells (List.replicate 8 0) 0 0 m) 68) := by
  go_enter Try.func16, Try.ntmps16
  go_wp2
  go_ret
  exact ⟨rfl, rfl⟩
theorem new_ring (m : Nat) (w : World) (h : m ≤ 8) : Calls Try.prog 16 #[.int .i64 m] w fun e w' => e = .returned (.pointer (some ⟨w.heap.size, 0, none⟩)) ∧ IsRing w' w.heap.size [] m ∧ w'.heap.size = w.heap.size + 1 ∧ Fr [] w w' := by
  refine (new_walk m w h).mono fun e w' ⟨he, hw⟩ => ⟨he, ?_, ?_, ?_⟩
  · subst hw
    exact ⟨List.replicate 8 0, 0, by simp, by omega, h, by simp, fun i hi => by simp at hi, block_alloc_new _ _⟩
  · subst hw; simp
  · subst hw; exact (Fr.refl _ _).alloc _
end Go.Proofs.Ythbhkmhmiplikaa
