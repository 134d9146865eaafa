/-
  A copy of a slice of events; rows of nine cells.
-/
import Derived.Test.YtfegdmhfmhaneaaEv3
import Derived.Lib.SliceRun
namespace Go.Proofs.Ytfegdmhfmhaneaa
open Go.RowKit

theorem cells_len (e : Ev) : e.cells.length = 9 := rfl
theorem flat_len (l : List Ev) : (l.flatMap Ev.cells).length = l.length * 9 := by
  induction l with
  | nil => rfl
  | cons x l ih => rw [List.flatMap_cons, List.length_append, ih, cells_len, List.length_cons]; omega
theorem flat_get : ∀ (l : List Ev) (i k : Nat), i < l.length → k < 9 → (l.flatMap Ev.cells)[i * 9 + k]? = (l.getD i default).cells[k]?
  | [], i, k, hi, _ => by simp at hi
  | x :: l, 0, k, _, hk => by
    rw [List.flatMap_cons, List.getElem?_append_left (by rw [cells_len]; omega)]
    simp
  | x :: l, i + 1, k, hi, hk => by
    rw [List.flatMap_cons, List.getElem?_append_right (by rw [cells_len]; omega), cells_len, show (i + 1) * 9 + k - 9 = i * 9 + k by omega, flat_get l i k (by simpa using hi) hk]
    simp
theorem At9.get {w : World} {b o : Nat} {e : Ev} (h : At9 w b o e) {k : Nat} {u : Value} (hu : e.cells[k]? = some u) : w.cell? ⟨b, o + k, none⟩ = some u := by
  obtain ⟨h0, h1, h2, h3, h4, h5, h6, h7, h8⟩ := h
  unfold Ev.cells at hu
  match k, hu with
  | 0, hu => simp at hu; subst hu; exact h0
  | 1, hu => simp at hu; subst hu; exact h1
  | 2, hu => simp at hu; subst hu; exact h2
  | 3, hu => simp at hu; subst hu; exact h3
  | 4, hu => simp at hu; subst hu; exact h4
  | 5, hu => simp at hu; subst hu; exact h5
  | 6, hu => simp at hu; subst hu; exact h6
  | 7, hu => simp at hu; subst hu; exact h7
  | 8, hu => simp at hu; subst hu; exact h8
  | k + 9, hu => simp at hu
theorem At9.mk {w : World} {b o : Nat} {e : Ev} (h : ∀ k u, e.cells[k]? = some u → w.cell? ⟨b, o + k, none⟩ = some u) : At9 w b o e :=
  ⟨h 0 _ rfl, h 1 _ rfl, h 2 _ rfl, h 3 _ rfl, h 4 _ rfl, h 5 _ rfl, h 6 _ rfl, h 7 _ rfl, h 8 _ rfl⟩
theorem cells_one {e : Ev} {u : Value} (h : u ∈ e.cells) : u.oneCell' = true := by
  unfold Ev.cells at h
  simp only [List.mem_cons, List.not_mem_nil, or_false] at h
  rcases h with h | h | h | h | h | h | h | h | h <;> subst h <;> rfl

/-- Events as what is appended. -/
theorem Evs.src {w : World} {base : Nat} {v : Value} {l : List Ev} (h : Evs w base v l) : Src w 9 v l.length (l.flatMap Ev.cells) := by
  obtain ⟨ao, cap, rfl, h2, h3, h4⟩ := h
  refine ⟨ao, cap, rfl, flat_len l, h2, fun h => ⟨by have := h3 h; omega, h3 h⟩, fun u hu => ?_, fun j u hj => ?_⟩
  · obtain ⟨e, _, he⟩ := List.mem_flatMap.1 hu
    exact cells_one he
  · have hlt : j < l.length * 9 := by
      rw [← flat_len]
      exact (List.getElem?_eq_some_iff.1 hj).1
    have hi : j / 9 < l.length := by omega
    have e : j = j / 9 * 9 + j % 9 := by omega
    rw [e, flat_get l _ _ hi (by omega)] at hj
    obtain ⟨b, o, h5, _, h7⟩ := h4 _ hi
    refine ⟨b, o, h5, ?_⟩
    have := h7.get hj
    rw [Nat.add_assoc, ← e] at this
    exact this
/-- What the call owns reads so. -/
theorem Evs.of_owns {w : World} {base : Nat} {v : Value} {l : List Ev} (h : w.ownsRow base 36 9 v l.length (l.flatMap Ev.cells)) : Evs w base v l := by
  obtain ⟨h1, h2⟩ := h
  rcases h2 with ⟨rfl, hn⟩ | ⟨g, cap, cur, rfl, hg, hh, hc, hm, hs, ht⟩
  · obtain rfl := List.eq_nil_of_length_eq_zero hn
    exact ⟨none, 0, rfl, by simp, fun _ => rfl, fun i hi => by simp at hi⟩
  · refine ⟨some ⟨g, 0, none⟩, cap, rfl, hc, fun e => by simp at e, fun i hi => ⟨g, 0, rfl, hg, At9.mk fun k u hu => ?_⟩⟩
    have hk : k < 9 := by
      rw [← cells_len (l.getD i default)]
      exact (List.getElem?_eq_some_iff.1 hu).1
    rw [Nat.zero_add, cell_of_block hh]
    have : (cur.toList.take (l.length * 9))[i * 9 + k]? = some u := by rw [ht, flat_get l i k hi hk, hu]
    rw [List.getElem?_take, if_pos (by omega)] at this
    simpa using this
theorem Try.info_ev : (Try.prog.info? 36).map (fun i => (i.zero, i.size, i.bytes)) = some (some (.agg #[.int .i64 0, .int .i64 0, .int .i64 0, .int .i64 0, .int .i64 0, .int .i64 0, .int .u64 0, .bool false, .slice none 0 0]), 9, 88) := by kernel_rfl
theorem info_parts9 {P : Program} {t : TypeId} {z : Value} {a b : Nat} (h : (P.info? t).map (fun i => (i.zero, i.size, i.bytes)) = some (some z, a, b)) : ∃ i, P.info? t = some i ∧ i.zero = some z ∧ i.size = a ∧ i.bytes = b := by
  cases hi : P.info? t with
  | none => rw [hi] at h; cases h
  | some i =>
    rw [hi] at h
    simp only [Option.map_some, Option.some.injEq, Prod.mk.injEq] at h
    exact ⟨i, rfl, h.1, h.2.1, h.2.2⟩
theorem Fr.of_grown9 {S : List Nat} {a w w' : World} {row : Option Nat} (h : Fr S a w) (hg : w.grownBy w' row) (hr : ∀ k, row = some k → k ∈ S ∨ a.heap.size ≤ k) : Fr S a w' :=
  ⟨hg.os.trans h.os, hg.tape.trans h.tape, hg.output.trans h.output, Nat.le_trans h.size hg.size, fun i hi hn =>
    (hg.block i (Nat.lt_of_lt_of_le hi h.size) (fun e => by rcases hr i e.symm with h1 | h1; exact hn h1; omega)).trans (h.block i hi hn)⟩

set_option maxHeartbeats 2000000 in
theorem clone_ev {w : World} {base : Nat} {v : Value} {l : List Ev} (hl : Evs w base v l) (hn : l.length ≤ 1000) :
    Calls Try.prog 21 #[v] w fun e w' => ∃ v', e = .returned v' ∧ w'.ownsRow w.heap.size 36 9 v' l.length (l.flatMap Ev.cells) ∧ Fr [] w w' := by
  obtain ⟨i0, hi, hz0, hz1, hz2⟩ := info_parts9 Try.info_ev
  have HS := Lib.hid hl.src
  obtain ⟨ao, cap, rfl, hc, hnone, -⟩ := hl
  cases ao with
  | none =>
    have : cap = 0 := hnone rfl
    have hl0 : l = [] := List.eq_nil_of_length_eq_zero (by omega)
    subst hl0
    subst this
    simp only [List.length_nil]
    have hq := Lib.run_eql_slice_nil (P := Try.prog) w 22 36 none 0 0 0 0 Try.underlying22
    go_enter Try.func21, Try.ntmps21
    go_wp2_with fail
    go_ret
    exact ⟨_, rfl, World.ownsRow_nil _ _ _ _, Fr.refl _ _⟩
  | some ad =>
    clear hnone
    have hq := Lib.run_eql_slice_nil (P := Try.prog) w 22 36 (some ad) l.length cap 0 0 Try.underlying22
    go_enter Try.func21, Try.ntmps21
    go_wp2_with (at_builtin; refine wpList_app rfl (.tmp 5) (.tmp 6) 22 rfl w.heap.size 36 i0 _ 9 88 Try.underlying22 hi hz0 hz1 hz2 rfl (by decide) (.slice (some ⟨w.heap.size, 0, none⟩) 0 0) 0 _ rfl (owns_empty w _ _ _ (Nat.le_refl _)) _ _ _ rfl (HS.out.alloc _) (by unfold maxLen; omega) (by omega) (by simp) ?_; intro v8 w8 hown hg)
    go_wp2_with fail
    go_ret
    refine ⟨_, rfl, by simpa using hown, Fr.of_grown9 ((Fr.refl _ _).alloc _) hg (fun k hk => .inr ?_)⟩
    have : w.heap.size = k := by simpa [Value.ownBlock] using hk
    omega
end Go.Proofs.Ytfegdmhfmhaneaa
