/-
  Slices of timers of the document's wheel: rows of three cells; at.
-/
import Derived.Test.YtibnhfnidgfenaaWLaw1
import Derived.Test.YtibnhfnidgfenaaApp
namespace Go.Proofs.Ytibnhfnidgfenaa
open Go.RowKit

/-- A timer of the document. -/
structure On where
  kind : Int
  id : Int
  due : Nat
deriving Inhabited
def On.key (e : On) : Int × Int := (e.kind, e.id)
def On.cells (e : On) : List Value := [.int .i64 e.kind, .int .i64 e.id, .int .u64 e.due]
def On.obj (e : On) : Obj := .cells #[.int .i64 e.kind, .int .i64 e.id, .int .u64 e.due] 94
theorem On.len (e : On) : e.cells.length = 3 := rfl
def At3 (w : World) (b o : Nat) (e : On) : Prop :=
  w.cell? ⟨b, o, none⟩ = some (.int .i64 e.kind) ∧ w.cell? ⟨b, o + 1, none⟩ = some (.int .i64 e.id) ∧ w.cell? ⟨b, o + 2, none⟩ = some (.int .u64 e.due)
theorem At3.fr {w w' : World} {b o : Nat} {e : On} (h : At3 w b o e) {S : List Nat} (k : Fr S w w') (hn : b ∉ S) : At3 w' b o e := by
  obtain ⟨h0, h1, h2⟩ := h
  exact ⟨k.on h0 hn, k.on h1 hn, k.on h2 hn⟩
theorem At3.box {w : World} {b : Nat} {e : On} (h : w.heap[b]? = some e.obj) : At3 w b 0 e :=
  ⟨by rw [cell_of_block h]; rfl, by rw [cell_of_block h]; rfl, by rw [cell_of_block h]; rfl⟩
theorem flat3_len (l : List On) : (l.flatMap On.cells).length = l.length * 3 := by
  induction l with
  | nil => rfl
  | cons x l ih => rw [List.flatMap_cons, List.length_append, ih, On.len, List.length_cons]; omega
theorem flat3_get : ∀ (l : List On) (i k : Nat), i < l.length → k < 3 → (l.flatMap On.cells)[i * 3 + k]? = (l.getD i default).cells[k]?
  | [], i, k, hi, _ => by simp at hi
  | x :: l, 0, k, _, hk => by
    rw [List.flatMap_cons, List.getElem?_append_left (by rw [On.len]; omega)]
    simp
  | x :: l, i + 1, k, hi, hk => by
    rw [List.flatMap_cons, List.getElem?_append_right (by rw [On.len]; omega), On.len, show (i + 1) * 3 + k - 3 = i * 3 + k by omega, flat3_get l i k (by simpa using hi) hk]
    simp
theorem At3.get {w : World} {b o : Nat} {e : On} (h : At3 w b o e) {k : Nat} {u : Value} (hu : e.cells[k]? = some u) : w.cell? ⟨b, o + k, none⟩ = some u := by
  obtain ⟨h0, h1, h2⟩ := h
  unfold On.cells at hu
  match k, hu with
  | 0, hu => simp at hu; subst hu; exact h0
  | 1, hu => simp at hu; subst hu; exact h1
  | 2, hu => simp at hu; subst hu; exact h2
  | k + 3, hu => simp at hu
theorem At3.mk {w : World} {b o : Nat} {e : On} (h : ∀ k u, e.cells[k]? = some u → w.cell? ⟨b, o + k, none⟩ = some u) : At3 w b o e := ⟨h 0 _ rfl, h 1 _ rfl, h 2 _ rfl⟩
theorem On.one {e : On} {u : Value} (h : u ∈ e.cells) : u.oneCell' = true := by
  unfold On.cells at h
  simp only [List.mem_cons, List.not_mem_nil, or_false] at h
  rcases h with h | h | h <;> subst h <;> rfl

/-- v is a slice that reads as the timers l. -/
def Ons (w : World) (v : Value) (l : List On) : Prop :=
  ∃ ao cap, v = .slice ao l.length cap ∧ l.length ≤ cap ∧ (ao = none → cap = 0) ∧ ∀ i, i < l.length → ∃ b o, ao = some ⟨b, o, none⟩ ∧ At3 w b (o + i * 3) (l.getD i default)
theorem Ons.fr {w w' : World} {v : Value} {l : List On} (h : Ons w v l) (k : Fr [] w w') : Ons w' v l := by
  obtain ⟨ao, cap, rfl, h2, h3, h4⟩ := h
  refine ⟨ao, cap, rfl, h2, h3, fun i hi => ?_⟩
  obtain ⟨b, o, h5, h6⟩ := h4 i hi
  exact ⟨b, o, h5, h6.fr k (by simp)⟩
theorem Ons.nil (w : World) : Ons w (.slice none 0 0) [] := ⟨none, 0, rfl, Nat.le_refl _, fun _ => rfl, fun i hi => by simp at hi⟩
theorem Ons.src {w : World} {v : Value} {l : List On} (h : Ons w v l) : Src w 3 v l.length (l.flatMap On.cells) := by
  obtain ⟨ao, cap, rfl, h2, h3, h4⟩ := h
  refine ⟨ao, cap, rfl, flat3_len l, h2, fun h => ⟨by have := h3 h; omega, h3 h⟩, fun u hu => ?_, fun j u hj => ?_⟩
  · obtain ⟨e, _, he⟩ := List.mem_flatMap.1 hu
    exact On.one he
  · have hlt : j < l.length * 3 := by
      rw [← flat3_len]
      exact (List.getElem?_eq_some_iff.1 hj).1
    have hi : j / 3 < l.length := by omega
    have e : j = j / 3 * 3 + j % 3 := by omega
    rw [e, flat3_get l _ _ hi (by omega)] at hj
    obtain ⟨b, o, h5, h7⟩ := h4 _ hi
    refine ⟨b, o, h5, ?_⟩
    have := h7.get hj
    rw [Nat.add_assoc, ← e] at this
    exact this
theorem Ons.of_owns {w : World} {base : Nat} {v : Value} {l : List On} (h : w.ownsRow base 94 3 v l.length (l.flatMap On.cells)) : Ons w v l := by
  obtain ⟨h1, h2⟩ := h
  rcases h2 with ⟨rfl, hn⟩ | ⟨g, cap, cur, rfl, hg, hh, hc, hm, hs, ht⟩
  · obtain rfl := List.eq_nil_of_length_eq_zero hn
    exact Ons.nil w
  · refine ⟨some ⟨g, 0, none⟩, cap, rfl, hc, fun e => by simp at e, fun i hi => ⟨g, 0, rfl, At3.mk fun k u hu => ?_⟩⟩
    have hk : k < 3 := by
      rw [← On.len (l.getD i default)]
      exact (List.getElem?_eq_some_iff.1 hu).1
    rw [Nat.zero_add, cell_of_block hh]
    have : (cur.toList.take (l.length * 3))[i * 3 + k]? = some u := by rw [ht, flat3_get l i k hi hk, hu]
    rw [List.getElem?_take, if_pos (by omega)] at this
    simpa using this
theorem Try.info_on : (Try.prog.info? 94).map (fun i => (i.zero, i.size, i.bytes)) = some (some (.agg #[.int .i64 0, .int .i64 0, .int .u64 0]), 3, 24) := by kernel_rfl
theorem info_parts3 {P : Program} {t : TypeId} {z : Value} {a b : Nat} (h : (P.info? t).map (fun i => (i.zero, i.size, i.bytes)) = some (some z, a, b)) : ∃ i, P.info? t = some i ∧ i.zero = some z ∧ i.size = a ∧ i.bytes = b := by
  cases hi : P.info? t with
  | none => rw [hi] at h; cases h
  | some i =>
    rw [hi] at h
    simp only [Option.map_some, Option.some.injEq, Prod.mk.injEq] at h
    exact ⟨i, rfl, h.1, h.2.1, h.2.2⟩
theorem Fr.of_grown3 {S : List Nat} {a w w' : World} {row : Option Nat} (h : Fr S a w) (hg : w.grownBy w' row) (hr : ∀ k, row = some k → k ∈ S ∨ a.heap.size ≤ k) : Fr S a w' :=
  ⟨hg.os.trans h.os, hg.tape.trans h.tape, hg.output.trans h.output, Nat.le_trans h.size hg.size, fun i hi hn =>
    (hg.block i (Nat.lt_of_lt_of_le hi h.size) (fun e => by rcases hr i e.symm with h1 | h1; exact hn h1; omega)).trans (h.block i hi hn)⟩
theorem Src.one3 (w : World) (e : On) : Src (w.alloc e.obj) 3 (.slice (some ⟨w.heap.size, 0, none⟩) 1 1) 1 e.cells :=
  ⟨_, _, rfl, rfl, Nat.le_refl _, (fun h => by cases h), (fun _ hu => On.one hu), (fun j u hj => ⟨w.heap.size, 0, rfl, (At3.box (block_alloc_new w e.obj)).get hj⟩)⟩
theorem ownsForm3 {w : World} {base : Nat} {e : TypeId} {size : Nat} {v : Value} {n : Nat} {xs : List Value} (h : w.ownsRow base e size v n xs) : ∃ ao cap, v = .slice ao n cap := by
  rcases h.2 with ⟨h, h0⟩ | ⟨g, c, cur, h, _⟩
  · exact ⟨none, 0, by rw [h, h0]⟩
  · exact ⟨_, _, h⟩

theorem two_cells' {w : World} {p : Nat} {x y : Value} {t : TypeId} {s : Nat × Nat} (h : w.heap[p]? = some (.cells #[x, y] t s)) :
    w.cell? ⟨p, 0, none⟩ = some x ∧ w.cell? ⟨p, 1, none⟩ = some y := ⟨by rw [cell_of_block h]; rfl, by rw [cell_of_block h]; rfl⟩
/-- What at tells. -/
def AtI (l : List On) (k : Int × Int) (r : Int) : Prop := (∃ i, i < l.length ∧ r = i ∧ (l.getD i default).key = k ∧ ∀ j, j < i → (l.getD j default).key ≠ k) ∨ (r = -1 ∧ ∀ j, j < l.length → (l.getD j default).key ≠ k)

set_option maxHeartbeats 2000000 in
theorem at_spec {w : World} {v : Value} {l : List On} (h : Ons w v l) (hn : l.length ≤ 60000) (now : Nat) (k1 k2 : Int) :
    Calls Try.prog 48 #[.agg #[.int .u64 now, v], .agg #[.int .i64 k1, .int .i64 k2]] w fun e w' => (∃ r, e = .returned (.int .i64 r) ∧ AtI l (k1, k2) r) ∧ Fr [] w w' := by
  have F0 : Fr [] w ((w.alloc (.cells #[.int .u64 now, v] 44)).alloc (.cells #[.int .i64 k1, .int .i64 k2] 31)) := ((Fr.refl _ _).alloc _).alloc _
  have HF0 := Lib.hid F0
  obtain ⟨ao, cap, rfl, hc, h0, h4⟩ := h.fr F0
  have H4 := Lib.hid h4
  clear h h4 F0
  go_enter Try.func48, Try.ntmps48
  go_wp2_with fail
  have HX := Lib.hid (((Fr.refl [] _).alloc (.cells #[.int .i64 k1, .int .i64 k2] 31)).keep (block_alloc_new w (.cells #[.int .u64 now, .slice ao l.length cap] 44)) (by simp))
  have HY := Lib.hid (block_alloc_new (w.alloc (.cells #[.int .u64 now, .slice ao l.length cap] 44)) (.cells #[.int .i64 k1, .int .i64 k2] 31))
  rw [show (w.alloc (.cells #[.int .u64 now, .slice ao l.length cap] 44)).heap.size = w.heap.size + 1 by simp] at HY
  obtain ⟨w0, hw0⟩ : ∃ w0, w0 = (w.alloc (.cells #[.int .u64 now, .slice ao l.length cap] 44)).alloc (.cells #[.int .i64 k1, .int .i64 k2] 31) := ⟨_, rfl⟩
  rw [← hw0] at HX HY HF0 H4 ⊢
  clear hw0
  go_loopw [5] (fun v wr => ∃ i : Nat, i ≤ l.length ∧ v = .int .i64 i ∧ Hid (∀ j, j < i → (l.getD j default).key ≠ (k1, k2)) ∧ Hid (Fr [] w0 wr)) (fun v _ => l.length - (intOf v).toNat)
  case atStart => exact ⟨0, Nat.zero_le _, by go_num, Lib.hid (fun j hj => by omega), Lib.hid (Fr.refl _ _)⟩
  case round =>
    obtain ⟨i, hi, rfl, HN, HF⟩ := hrel
    obtain ⟨x0, x1⟩ := two_cells' (HF.out.keep HX.out (by simp))
    obtain ⟨y0, y1⟩ := two_cells' (HF.out.keep HY.out (by simp))
    by_cases hlt : i < l.length
    · obtain ⟨b, o, rfl, h3⟩ := H4.out i hlt
      obtain ⟨z0, z1, z2⟩ := h3.fr HF.out (by simp)
      have HNs : (l.getD i default).key ≠ (k1, k2) → Hid (∀ j, j < i + 1 → (l.getD j default).key ≠ (k1, k2)) := fun h => Lib.hid (fun j hj => by
        by_cases hji : j = i
        · subst hji; exact h
        · exact HN.out j (by omega))
      have HYs : Hid ((l.getD i default).key = (k1, k2) → AtI l (k1, k2) i) := Lib.hid (fun h => .inl ⟨i, hlt, rfl, h, HN.out⟩)
      clear h3
      generalize l.getD i default = y at *
      obtain ⟨yk, yi, yd⟩ := y
      simp only [On.key, Prod.mk.injEq, ne_eq, not_and] at *
      by_cases he1 : yk = k1
      · by_cases he2 : yi = k2
        · have HR := Lib.hid (HYs.out ⟨he1, he2⟩)
          subst he1 he2
          clear HYs HNs
          go_wp2_with fail
          go_quiet (fail)
          go_wp2_with fail
          go_ret
          exact ⟨⟨_, rfl, HR.out⟩, (HF0.out.trans HF.out).drewN _⟩
        · have e1 : (yi == k2) = false := by simpa using he2
          have HN2 := HNs (fun _ => he2)
          subst he1
          clear HYs HNs
          go_wp2_with fail
          go_quiet (fail)
          go_wp2_with fail
          go_roundw
          case rel => exact ⟨i + 1, by omega, by go_num, HN2, Lib.hid (HF.out.drewN _)⟩
          case measure => simp [intOf]; omega
      · have e1 : (yk == k1) = false := by simpa using he1
        have HN2 := HNs (fun h => absurd h he1)
        clear HYs HNs
        go_wp2_with fail
        go_quiet (fail)
        go_wp2_with fail
        go_roundw
        case rel => exact ⟨i + 1, by omega, by go_num, HN2, Lib.hid (HF.out.drewN _)⟩
        case measure => simp [intOf]; omega
    · go_wp2_with fail
      go_ret
      exact ⟨⟨_, rfl, .inr ⟨rfl, fun j hj => HN.out j (by omega)⟩⟩, HF0.out.trans HF.out⟩
end Go.Proofs.Ytibnhfnidgfenaa
