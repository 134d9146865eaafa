/-
  The ring of package ring: what each of its methods does to the block of memory that it stands in.
-/
import Derived.Test.YthbhkmhmiplikaaBase
namespace Go.Proofs.Ythbhkmhmiplikaa
open Go.RowKit

/-- The number at a place of a list. -/
def el (l : List Int) (j : Nat) : Int := l.getD j 0

/-- The cells of a ring: its array, where the first one stands, how many there are, how many there may be. -/
def ringCells (l : List Int) (f n m : Nat) : Array Value := (l.map (Value.int .i64) ++ [Value.int .i64 f, Value.int .i64 n, Value.int .i64 m]).toArray

/-- Block b is a ring that holds the numbers xs, of m at most. -/
def IsRing (w : World) (b : Nat) (xs : List Int) (m : Nat) : Prop :=
  ∃ (l : List Int) (f : Nat), l.length = 8 ∧ f < 8 ∧ m ≤ 8 ∧ xs.length ≤ m ∧ (∀ i, i < xs.length → el l ((f + i) % 8) = el xs i) ∧
    w.heap[b]? = some (.cells (ringCells l f xs.length m) 68 (0, 0))

theorem IsRing.drewN {w : World} {b : Nat} {xs : List Int} {m : Nat} (h : IsRing w b xs m) (n : Nat) : IsRing (w.drewN n) b xs m := h
theorem IsRing.dr {w w' : World} {b : Nat} {xs : List Int} {m : Nat} (h : IsRing w b xs m) (k : ∃ q, w' = w.drewN q) : IsRing w' b xs m := by obtain ⟨q, rfl⟩ := k; exact h
theorem IsRing.fr {w w' : World} {b : Nat} {xs : List Int} {m : Nat} (h : IsRing w b xs m) {S : List Nat} (k : Fr S w w') (hb : b ∉ S) : IsRing w' b xs m := by
  obtain ⟨l, f, h1, h2, h3, h4, h5, h6⟩ := h
  exact ⟨l, f, h1, h2, h3, h4, h5, k.keep h6 hb⟩
theorem IsRing.lt {w : World} {b : Nat} {xs : List Int} {m : Nat} (h : IsRing w b xs m) : b < w.heap.size := by
  obtain ⟨l, f, h1, h2, h3, h4, h5, h6⟩ := h
  exact lt_of_block h6

section
variable {w : World} {b : Nat} {l : List Int} {f n m : Nat} (hl : l.length = 8) (h : w.heap[b]? = some (.cells (ringCells l f n m) 68 (0, 0)))
include hl h
theorem ring_at (j : Nat) (hj : j < 8) : w.cell? ⟨b, j, none⟩ = some (.int .i64 (el l j)) := by
  rw [cell_of_block h]; simp [ringCells, List.getElem?_append, hl, hj, el]
theorem ring_8 : w.cell? ⟨b, 8, none⟩ = some (.int .i64 f) := by rw [cell_of_block h]; simp [ringCells, hl]
theorem ring_9 : w.cell? ⟨b, 9, none⟩ = some (.int .i64 n) := by rw [cell_of_block h]; simp [ringCells, hl]
theorem ring_10 : w.cell? ⟨b, 10, none⟩ = some (.int .i64 m) := by rw [cell_of_block h]; simp [ringCells, hl]
end
theorem ring_set_at {l : List Int} {f n m : Nat} (hl : l.length = 8) (j : Nat) (hj : j < 8) (x : Int) : (ringCells l f n m).setIfInBounds j (.int .i64 x) = ringCells (l.set j x) f n m := by
  simp [ringCells, hl, hj, List.map_set]
theorem ring_set_8 {l : List Int} {f n m : Nat} (hl : l.length = 8) (x : Nat) : (ringCells l f n m).setIfInBounds 8 (.int .i64 x) = ringCells l x n m := by
  simp [ringCells, hl]
theorem ring_set_9 {l : List Int} {f n m : Nat} (hl : l.length = 8) (x : Nat) : (ringCells l f n m).setIfInBounds 9 (.int .i64 x) = ringCells l f x m := by
  simp [ringCells, hl]

/-- at: a number's place. -/
theorem at_spec (b f i : Nat) (w : World) (hf : f < 8) (hi : i < 100) (c8 : w.cell? ⟨b, 8, none⟩ = some (.int .i64 f)) :
    Calls Try.prog 43 #[.pointer (some ⟨b, 0, none⟩), .int .i64 i] w fun e w' => e = .returned (.pointer (some ⟨b, (f + i) % 8, none⟩)) ∧ ∃ q, w' = w.drewN q := by
  go_enter Try.func43, Try.ntmps43
  go_wp2
  go_quiet (fail)
  go_wp2
  go_ret
  exact ⟨rfl, _, rfl⟩

theorem at_spec' (b f i : Nat) (v : Int) (w : World) (hv : v = i) (hf : f < 8) (hi : i < 100) (c8 : w.cell? ⟨b, 8, none⟩ = some (.int .i64 f)) :
    Calls Try.prog 43 #[.pointer (some ⟨b, 0, none⟩), .int .i64 v] w fun e w' => e = .returned (.pointer (some ⟨b, (f + i) % 8, none⟩)) ∧ ∃ q, w' = w.drewN q := by
  subst hv
  exact at_spec b f i w hf hi c8

theorem len_nil (w : World) : Calls Try.prog 20 #[.pointer none] w fun e w' => e = .returned (.int .i64 0) ∧ w' = w := by
  go_enter Try.func20, Try.ntmps20
  go_wp2
  go_ret
  exact ⟨rfl, rfl⟩
theorem len_cell (b n : Nat) (w : World) (c9 : w.cell? ⟨b, 9, none⟩ = some (.int .i64 n)) :
    Calls Try.prog 20 #[.pointer (some ⟨b, 0, none⟩)] w fun e w' => e = .returned (.int .i64 n) ∧ w' = w := by
  go_enter Try.func20, Try.ntmps20
  go_wp2
  go_ret
  exact ⟨rfl, rfl⟩

theorem full_nil (w : World) : Calls Try.prog 21 #[.pointer none] w fun e w' => e = .returned (.bool true) ∧ ∃ q, w' = w.drewN q := by
  go_enter Try.func21, Try.ntmps21
  go_wp2
  go_quiet (fail)
  go_wp2
  go_ret
  exact ⟨rfl, _, rfl⟩
theorem full_cell (b n m : Nat) (w : World) (c9 : w.cell? ⟨b, 9, none⟩ = some (.int .i64 n)) (c10 : w.cell? ⟨b, 10, none⟩ = some (.int .i64 m)) :
    Calls Try.prog 21 #[.pointer (some ⟨b, 0, none⟩)] w fun e w' => e = .returned (.bool (decide (n = m))) ∧ ∃ q, w' = w.drewN q := by
  by_cases hnm : n = m
  · subst hnm
    go_enter Try.func21, Try.ntmps21
    go_wp2
    go_quiet (fail)
    go_wp2
    go_ret
    exact ⟨by simp, _, rfl⟩
  · have h1 : ((n : Int) == (m : Int)) = false := by simp; omega
    go_enter Try.func21, Try.ntmps21
    go_wp2
    go_quiet (fail)
    go_wp2
    go_ret
    exact ⟨by simp [hnm], _, rfl⟩

theorem IsRing.len {w : World} {b : Nat} {xs : List Int} {m : Nat} (h : IsRing w b xs m) :
    Calls Try.prog 20 #[.pointer (some ⟨b, 0, none⟩)] w fun e w' => e = .returned (.int .i64 xs.length) ∧ w' = w := by
  obtain ⟨l, f, h1, h2, h3, h4, h5, h6⟩ := h
  exact len_cell b _ w (ring_9 h1 h6)
theorem IsRing.full {w : World} {b : Nat} {xs : List Int} {m : Nat} (h : IsRing w b xs m) :
    Calls Try.prog 21 #[.pointer (some ⟨b, 0, none⟩)] w fun e w' => e = .returned (.bool (decide (xs.length = m))) ∧ ∃ q, w' = w.drewN q := by
  obtain ⟨l, f, h1, h2, h3, h4, h5, h6⟩ := h
  exact full_cell b _ _ w (ring_9 h1 h6) (ring_10 h1 h6)

theorem push_nil (x : Int) (w : World) : Calls Try.prog 25 #[.pointer none, .int .i64 x] w fun e w' => e = .returned (.bool false) ∧ ∃ q, w' = w.drewN q := by
  go_enter Try.func25, Try.ntmps25
  go_wp2_with (go_at_call 21; refine (full_nil _).mono ?_; rintro e w' ⟨rfl, q, rfl⟩)
  go_ret
  exact ⟨rfl, _, rfl⟩

theorem push_full {w : World} {b : Nat} {xs : List Int} {m : Nat} (h : IsRing w b xs m) (hm : xs.length = m) (x : Int) :
    Calls Try.prog 25 #[.pointer (some ⟨b, 0, none⟩), .int .i64 x] w fun e w' => e = .returned (.bool false) ∧ ∃ q, w' = w.drewN q := by
  have hc := h.full
  rw [decide_eq_true hm] at hc
  go_enter Try.func25, Try.ntmps25
  go_wp2_with (go_at_call 21; refine hc.mono ?_; rintro e w' ⟨rfl, q, rfl⟩)
  go_ret
  exact ⟨rfl, _, rfl⟩

theorem push_walk {w : World} {b f n m : Nat} {l : List Int} (hl : l.length = 8) (hf : f < 8) (hm : m ≤ 8) (hn : n < m) (x : Int)
    (h : w.heap[b]? = some (.cells (ringCells l f n m) 68 (0, 0))) :
    Calls Try.prog 25 #[.pointer (some ⟨b, 0, none⟩), .int .i64 x] w fun e w' => e = .returned (.bool true) ∧ ∃ q,
      w' = ((w.drewN q).setCell ⟨b, (f + n) % 8, none⟩ (.int .i64 x)).setCell ⟨b, 9, none⟩ (.int .i64 ((n + 1 : Nat) : Int)) := by
  have c8 := ring_8 hl h
  have c9 := ring_9 hl h
  have c10 := ring_10 hl h
  have ca := ring_at hl h ((f + n) % 8) (by omega)
  have fz := free_of_block h
  have hc := fun q => full_cell b n m (w.drewN q) c9 c10
  rw [decide_eq_false (by omega : ¬ n = m)] at hc
  have hc0 : Calls Try.prog 21 _ w _ := hc 0
  clear hc h
  have H0 := Lib.hid hc0
  clear hc0
  go_enter Try.func25, Try.ntmps25
  go_wp2_with (first
    | (go_at_call 21; refine H0.out.mono ?_; rintro e w' ⟨rfl, q, rfl⟩)
    | (go_at_call 43; refine (at_spec b f n _ hf (by omega) (by assumption)).mono ?_; rintro e w' ⟨rfl, q, rfl⟩))
  go_ret
  exact ⟨rfl, _, rfl⟩

theorem two_set {w : World} {b f n m g k : Nat} {l : List Int} (hl : l.length = 8) (h : w.heap[b]? = some (.cells (ringCells l f n m) 68 (0, 0))) (j : Nat) (hj : j < 8) (x : Int) (q : Nat) :
    (((w.drewN q).setCell ⟨b, j, none⟩ (.int .i64 x)).setCell ⟨b, 9, none⟩ (.int .i64 (k : Int))).heap[b]? = some (.cells (ringCells (l.set j x) f k m) 68 (0, 0)) ∧
    (((w.drewN q).setCell ⟨b, 8, none⟩ (.int .i64 (g : Int))).setCell ⟨b, 9, none⟩ (.int .i64 (k : Int))).heap[b]? = some (.cells (ringCells l g k m) 68 (0, 0)) := by
  have h0 : (w.drewN q).heap[b]? = some (.cells (ringCells l f n m) 68 (0, 0)) := h
  constructor
  · have h1 := block_setCell h0 j (.int .i64 x)
    rw [ring_set_at hl j hj] at h1
    have h2 := block_setCell h1 9 (.int .i64 (k : Int))
    rw [ring_set_9 (by simpa using hl)] at h2
    exact h2
  · have h1 := block_setCell h0 8 (.int .i64 (g : Int))
    rw [ring_set_8 hl] at h1
    have h2 := block_setCell h1 9 (.int .i64 (k : Int))
    rw [ring_set_9 hl] at h2
    exact h2

theorem IsRing.push {w : World} {b : Nat} {xs : List Int} {m : Nat} (h : IsRing w b xs m) (x : Int) :
    Calls Try.prog 25 #[.pointer (some ⟨b, 0, none⟩), .int .i64 x] w fun e w' => e = .returned (.bool (decide (xs.length < m))) ∧
      IsRing w' b (if xs.length < m then xs ++ [x] else xs) m ∧ Fr [b] w w' := by
  by_cases hm : xs.length = m
  · rw [decide_eq_false (by omega), if_neg (by omega)]
    exact (push_full h hm x).mono fun e w' ⟨he, q, hq⟩ => ⟨he, hq ▸ h.drewN q, hq ▸ Fr.of_drewN w q⟩
  · obtain ⟨l, f, h1, h2, h3, h4, h5, h6⟩ := h
    rw [decide_eq_true (by omega : xs.length < m), if_pos (by omega : xs.length < m)]
    refine (push_walk h1 h2 h3 (by omega) x h6).mono fun e w' ⟨he, q, hq⟩ => ⟨he, ?_, ?_⟩
    · subst hq
      refine ⟨l.set ((f + xs.length) % 8) x, f, by simpa using h1, h2, h3, by simp; omega, ?_, ?_⟩
      · intro i hi
        simp only [List.length_append, List.length_singleton] at hi
        by_cases hx : i = xs.length
        · subst hx
          simp [el, List.getD, h1, show (f + xs.length) % 8 < 8 by omega]
        · have := h5 i (by omega)
          simp only [el, List.getD, List.getElem?_set, h1] at this ⊢
          rw [if_neg (by omega), List.getElem?_append_left (by omega)]
          exact this
      · have := (two_set (g := 0) (k := xs.length + 1) h1 h6 ((f + xs.length) % 8) (by omega) x q).1
        simpa using this
    · subst hq
      exact ((Fr.of_drewN w q).setCell (.inl (by simp)) _).setCell (.inl (by simp)) _

theorem pop_nil (w : World) : Calls Try.prog 23 #[.pointer none] w fun e w' => e = .returned (.tuple #[.int .i64 0, .bool false]) ∧ ∃ q, w' = w.drewN q := by
  go_enter Try.func23, Try.ntmps23
  go_wp2_with (go_at_call 20; refine (len_nil _).mono ?_; rintro e w' ⟨rfl, rfl⟩)
  go_ret2
  exact ⟨rfl, 0, rfl⟩

theorem pop_none (w : World) (b : Nat) (c9 : w.cell? ⟨b, 9, none⟩ = some (.int .i64 0)) : Calls Try.prog 23 #[.pointer (some ⟨b, 0, none⟩)] w fun e w' => e = .returned (.tuple #[.int .i64 0, .bool false]) ∧ ∃ q, w' = w.drewN q := by
  have H0 := Lib.hid (len_cell b 0 w c9)
  go_enter Try.func23, Try.ntmps23
  go_wp2_with (go_at_call 20; refine (H0.out).mono ?_; rintro e w' ⟨rfl, rfl⟩)
  go_ret2
  exact ⟨rfl, 0, rfl⟩

theorem pop_walk {w : World} {b f n m : Nat} {l : List Int} (hl : l.length = 8) (hf : f < 8) (hm : m ≤ 8) (hn : n < m)
    (h : w.heap[b]? = some (.cells (ringCells l f (n + 1) m) 68 (0, 0))) :
    Calls Try.prog 23 #[.pointer (some ⟨b, 0, none⟩)] w fun e w' => e = .returned (.tuple #[.int .i64 (el l f), .bool true]) ∧ ∃ q,
      w' = ((w.drewN q).setCell ⟨b, 8, none⟩ (.int .i64 (((f + 1) % 8 : Nat) : Int))).setCell ⟨b, 9, none⟩ (.int .i64 (n : Int)) := by
  have c8 := ring_8 hl h
  have c9 := ring_9 hl h
  have ca := ring_at hl h f hf
  have fz := free_of_block h
  have H0 := Lib.hid (len_cell b (n + 1) w c9)
  have H1 := Lib.hid (at_spec b f 0 w hf (by omega) c8)
  have ht : ((((n + 1 : Nat) : Int)) == 0) = false := by simp; omega
  have ef : (f + 0) % 8 = f := by omega
  rw [ef] at H1
  clear h ef
  go_enter Try.func23, Try.ntmps23
  go_wp2_with (first
    | (go_at_call 20; refine H0.out.mono ?_; rintro e w' ⟨rfl, rfl⟩)
    | (go_at_call 43; refine H1.out.mono ?_; rintro e w' ⟨rfl, q, rfl⟩))
  go_ret2
  exact ⟨rfl, _, rfl⟩

theorem IsRing.pop {w : World} {b : Nat} {xs : List Int} {m : Nat} (h : IsRing w b xs m) :
    Calls Try.prog 23 #[.pointer (some ⟨b, 0, none⟩)] w fun e w' => e = .returned (.tuple #[.int .i64 (el xs 0), .bool (decide (0 < xs.length))]) ∧ IsRing w' b xs.tail m ∧ Fr [b] w w' := by
  obtain ⟨l, f, h1, h2, h3, h4, h5, h6⟩ := h
  cases xs with
  | nil =>
    refine (pop_none w b (ring_9 h1 h6)).mono fun e w' ⟨he, q, hq⟩ => ⟨he, ?_, hq ▸ Fr.of_drewN w q⟩
    subst hq
    exact ⟨l, f, h1, h2, h3, h4, h5, h6⟩
  | cons x xs =>
    refine (pop_walk h1 h2 h3 (by simp at h4; omega) h6).mono fun e w' ⟨he, q, hq⟩ => ⟨?_, ?_, ?_⟩
    · have := h5 0 (by simp)
      rw [show (f + 0) % 8 = f by omega] at this
      rw [he, this]; simp
    · subst hq
      refine ⟨l, (f + 1) % 8, h1, by omega, h3, by simp at h4 ⊢; omega, ?_, ?_⟩
      · intro i hi
        have := h5 (i + 1) (by simpa using hi)
        rw [show ((f + 1) % 8 + i) % 8 = (f + (i + 1)) % 8 by omega, this]
        simp [el]
      · exact (two_set (b := b) (g := (f + 1) % 8) (k := xs.length) h1 h6 0 (by omega) 0 q).2
    · subst hq
      exact ((Fr.of_drewN w q).setCell (.inl (by simp)) _).setCell (.inl (by simp)) _

theorem remove_nil (x : Int) (w : World) : Calls Try.prog 26 #[.pointer none, .int .i64 x] w fun e w' => e = .returned (.bool false) ∧ ∃ q, w' = w.drewN q := by
  go_enter Try.func26, Try.ntmps26
  go_wp2_with (go_at_call 20; refine (len_nil _).mono ?_; rintro e w' ⟨rfl, rfl⟩)
  refine wp_loop_rounds 1 ?_
  rw [rounds_succ]
  go_wp2
  go_ret
  exact ⟨rfl, 0, rfl⟩

theorem block_at_drew {w : World} {b : Nat} {o : Option Obj} (h : w.heap[b]? = o) (q : Nat) : (w.drewN q).heap[b]? = o := h

/-- What a ring's array holds while what stands behind place i is moved up, up to place k. -/
def Moved (xs : List Int) (f i k : Nat) (l : List Int) : Prop :=
  l.length = 8 ∧ ∀ j, j < xs.length → el l ((f + j) % 8) = if i ≤ j ∧ j < k then el xs (j + 1) else el xs j

theorem Moved.step {xs : List Int} {f i k : Nat} {l : List Int} (h : Moved xs f i k l) (hk : i ≤ k) (hlt : k + 1 < xs.length) (h8 : xs.length ≤ 8) :
    Moved xs f i (k + 1) (l.set ((f + k) % 8) (el l ((f + (k + 1)) % 8))) := by
  obtain ⟨h1, h2⟩ := h
  refine ⟨by simpa using h1, fun j hj => ?_⟩
  by_cases hjk : j = k
  · subst hjk
    rw [if_pos (by omega), h2 (j + 1) hlt, if_neg (by omega)]
    simp [el, List.getD, h1, show (f + j) % 8 < 8 by omega]
  · have := h2 j hj
    have hne : ¬ (f + k) % 8 = (f + j) % 8 := by omega
    simp only [el, List.getD, List.getElem?_set, h1] at this ⊢
    rw [if_neg hne, this]
    by_cases hc : i ≤ j ∧ j < k
    · rw [if_pos hc, if_pos (by omega)]
    · rw [if_neg hc, if_neg (by omega)]

set_option maxHeartbeats 1000000 in
theorem remove_walk {w : World} {b f m : Nat} {l xs : List Int} (hl : l.length = 8) (hf : f < 8) (hm : m ≤ 8) (hn : xs.length ≤ m) (hx : ∀ i, i < xs.length → el l ((f + i) % 8) = el xs i) (x : Int)
    (h : w.heap[b]? = some (.cells (ringCells l f xs.length m) 68 (0, 0))) :
    Calls Try.prog 26 #[.pointer (some ⟨b, 0, none⟩), .int .i64 x] w fun e w' =>
      (e = .returned (.bool false) ∧ (∀ j, j < xs.length → el xs j ≠ x) ∧ ∃ q, w' = w.drewN q) ∨
      ∃ i, i < xs.length ∧ el xs i = x ∧ (∀ j, j < i → el xs j ≠ x) ∧ e = .returned (.bool true) ∧ ∃ l', Moved xs f i (xs.length - 1) l' ∧ w'.heap[b]? = some (.cells (ringCells l' f (xs.length - 1) m) 68 (0, 0)) ∧ Fr [b] w w' := by
  have H0 := Lib.hid (len_cell b xs.length w (ring_9 hl h))
  have H := Lib.hid h
  have HX := Lib.hid hx
  clear h hx
  go_enter Try.func26, Try.ntmps26
  go_wp2_with (go_at_call 20; refine H0.out.mono ?_; rintro e w' ⟨rfl, rfl⟩)
  go_loopw [9] (fun v wr => ∃ i : Nat, i ≤ xs.length ∧ v = .int .i64 i ∧ Hid (∀ j, j < i → el xs j ≠ x) ∧ ∃ q, wr = w'.drewN q) (fun v _ => xs.length - (intOf v).toNat)
  case atStart => exact ⟨0, Nat.zero_le _, rfl, Lib.hid (fun j hj => by omega), 0, rfl⟩
  case round =>
    obtain ⟨i, hi, rfl, HN, q, rfl⟩ := hrel
    by_cases hlt : i < xs.length
    · have c8 := ring_8 hl H.out
      have ca := ring_at hl H.out ((f + i) % 8) (by omega)
      rw [HX.out i hlt] at ca
      by_cases he : el xs i = x
      · have hne : (el xs i != x) = false := by simpa using he
        go_wp2_with (first
          | (go_at_call 43; refine (at_spec b f i _ hf (by omega) (by assumption)).mono ?_; rintro e w1 ⟨rfl, q1, rfl⟩))
        clear c8 ca
        go_loopw [6] (fun v wr => ∃ k : Nat, i ≤ k ∧ k < xs.length ∧ v = .int .i64 k ∧ ∃ l' : List Int, Hid (Moved xs f i k l') ∧ Hid (wr.heap[b]? = some (.cells (ringCells l' f xs.length m) 68 (0, 0))) ∧ Hid (Fr [b] w' wr)) (fun v _ => xs.length - (intOf v).toNat)
        case atStart => exact ⟨i, Nat.le_refl _, hlt, rfl, l, Lib.hid ⟨hl, fun j hj => by rw [if_neg (by omega)]; exact HX.out j hj⟩, H, Lib.hid (Fr.of_drewN _ _)⟩
        case round =>
          obtain ⟨k, hik, hkn, rfl, l', HM, HB, HF⟩ := hrel
          have hl' := HM.out.1
          have c8 := ring_8 hl' HB.out
          have c9 := ring_9 hl' HB.out
          have fz := free_of_block HB.out
          have cb := ring_at hl' HB.out ((f + k) % 8) (by omega)
          have ca := ring_at hl' HB.out ((f + (k + 1)) % 8) (by omega)
          by_cases hk1 : k + 1 < xs.length
          · go_wp2_with fail
            refine (at_spec' b f k _ _ (by omega) hf (by omega) (by exact c8)).mono ?_
            rintro e w1 ⟨rfl, q1, rfl⟩
            go_wp2_with fail
            refine (at_spec' b f (k + 1) _ _ (by omega) hf (by omega) (by exact c8)).mono ?_
            rintro e w1 ⟨rfl, q2, rfl⟩
            go_wp2_with fail
            go_roundw
            case rel =>
              have hb := block_setCell (block_at_drew HB.out (q1 + q2)) ((f + k) % 8) (.int .i64 (el l' ((f + (k + 1)) % 8)))
              rw [ring_set_at hl' _ (by omega)] at hb
              exact ⟨k + 1, by omega, hk1, by go_num, _, Lib.hid (HM.out.step hik hk1 (by omega)), Lib.hid hb, Lib.hid ((HF.out.drewN _).setCell (.inl (by simp)) _)⟩
            case measure => simp [intOf]; omega
          · go_wp2_with fail
            go_ret
            refine Or.inr ⟨i, hlt, he, HN.out, rfl, l', ?_, ?_, ?_⟩
            · rw [show xs.length - 1 = k by omega]; exact HM.out
            · have hb := block_setCell HB.out 9 (.int .i64 ((xs.length - 1 : Nat) : Int))
              rw [ring_set_9 hl'] at hb
              rw [show ((xs.length - 1 : Nat) : Int) = (xs.length : Int) - 1 by omega] at hb
              exact hb
            · exact HF.out.setCell (.inl (by simp)) _
      · have hne : (el xs i != x) = true := by simpa using he
        go_wp2_with (first
          | (go_at_call 43; refine (at_spec b f i _ hf (by omega) (by assumption)).mono ?_; rintro e w' ⟨rfl, q, rfl⟩))
        go_roundw
        case rel => exact ⟨i + 1, by omega, by go_num, Lib.hid (fun j hj => by by_cases hji : j = i; (subst hji; exact he); exact HN.out j (by omega)), _, rfl⟩
        case measure => simp [intOf]; omega
    · go_wp2
      go_ret
      exact Or.inl ⟨rfl, fun j hj => HN.out j (by omega), _, rfl⟩

/-- A list without the first one that is x. -/
def rem (x : Int) : List Int → List Int
  | [] => []
  | y :: l => if y = x then l else y :: rem x l

theorem rem_none (x : Int) : ∀ xs : List Int, (∀ j, j < xs.length → el xs j ≠ x) → x ∉ xs ∧ rem x xs = xs
  | [], _ => ⟨by simp, rfl⟩
  | y :: l, h => by
    have h0 : y ≠ x := h 0 (by simp)
    have ih := rem_none x l (fun j hj => by have := h (j + 1) (by simpa using hj); simpa [el] using this)
    exact ⟨by simp [ih.1]; exact fun e => h0 e.symm, by simp [rem, h0, ih.2]⟩

theorem rem_some (x : Int) : ∀ (xs : List Int) (i : Nat), i < xs.length → el xs i = x → (∀ j, j < i → el xs j ≠ x) → x ∈ xs ∧ (rem x xs).length = xs.length - 1 ∧ ∀ j, el (rem x xs) j = if i ≤ j then el xs (j + 1) else el xs j
  | [], _, h, _, _ => by simp at h
  | y :: l, i, h, he, hn => by
    cases i with
    | zero =>
      have : y = x := he
      subst this
      exact ⟨by simp, by simp [rem], fun j => by simp [rem, el]⟩
    | succ i =>
      have h0 : y ≠ x := hn 0 (by omega)
      obtain ⟨h1, h2, h3⟩ := rem_some x l i (by simpa using h) (by simpa [el] using he) (fun j hj => by have := hn (j + 1) (by omega); simpa [el] using this)
      refine ⟨by simp [h1], by have : i < l.length := by simpa using h
                               simp [rem, h0, h2]; omega, fun j => ?_⟩
      cases j with
      | zero => simp [rem, h0, el]
      | succ j =>
        have := h3 j
        simp only [rem, h0, if_false]
        simpa [el] using this

theorem IsRing.remove {w : World} {b : Nat} {xs : List Int} {m : Nat} (h : IsRing w b xs m) (x : Int) :
    Calls Try.prog 26 #[.pointer (some ⟨b, 0, none⟩), .int .i64 x] w fun e w' => e = .returned (.bool (decide (x ∈ xs))) ∧ IsRing w' b (rem x xs) m ∧ Fr [b] w w' := by
  obtain ⟨l, f, h1, h2, h3, h4, h5, h6⟩ := h
  refine (remove_walk h1 h2 h3 h4 h5 x h6).mono fun e w' hp => ?_
  rcases hp with ⟨he, hno, q, hq⟩ | ⟨i, hi, hx, hno, he, l', hM, hB, hF⟩
  · obtain ⟨k1, k2⟩ := rem_none x xs hno
    subst hq
    rw [decide_eq_false k1, k2]
    exact ⟨he, ⟨l, f, h1, h2, h3, h4, h5, h6⟩, Fr.of_drewN _ _⟩
  · obtain ⟨k1, k2, k3⟩ := rem_some x xs i hi hx hno
    rw [decide_eq_true k1]
    refine ⟨he, ⟨l', f, hM.1, h2, h3, by omega, fun j hj => ?_, by rw [k2]; exact hB⟩, hF⟩
    rw [k2] at hj
    rw [hM.2 j (by omega), k3 j]
    by_cases hij : i ≤ j
    · rw [if_pos ⟨hij, hj⟩, if_pos hij]
    · rw [if_neg (by omega), if_neg hij]
end Go.Proofs.Ythbhkmhmiplikaa
