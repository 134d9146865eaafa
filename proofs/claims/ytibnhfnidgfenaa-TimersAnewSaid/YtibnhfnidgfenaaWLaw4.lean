/-
  A wheel of timers of calls, told by when they are due; two of them beside each other.
-/
import Derived.Test.YtibnhfnidgfenaaWLaw3
namespace Go.Proofs.Ytibnhfnidgfenaa
open Go.RowKit

/-- A wheel whose timers are of calls. -/
def WV (w : World) (b : Nat) (fp : List Nat) (now seq : Nat) (l : List (Nat × Int)) : Prop := ∃ L, IsWheel w b fp now seq L ∧ Calls1 L l
variable {w : World} {b : Nat} {fp : List Nat} {now seq : Nat} {l : List (Nat × Int)}
theorem WV.fr (h : WV w b fp now seq l) {w' : World} {S : List Nat} (k : Fr S w w') (hS : ∀ x ∈ S, x ∉ fp) : WV w' b fp now seq l := by
  obtain ⟨L, h1, h2⟩ := h
  exact ⟨L, h1.fr k hS, h2⟩
theorem WV.lt (h : WV w b fp now seq l) : ∀ x ∈ fp, x < w.heap.size := by
  obtain ⟨L, h1, h2⟩ := h
  exact h1.lt
theorem WV.due (h : WV w b fp now seq l) : ∀ x ∈ l, now ≤ x.1 ∧ x.1 < 18446744073709551616 := by
  obtain ⟨L, ⟨m1, m2, la, f, h1⟩, h2, h3⟩ := h
  intro x hx
  rw [← h2] at hx
  obtain ⟨e, he, rfl⟩ := List.mem_map.1 hx
  exact h1.due e he
/-- What a step leaves. -/
def SV (w : World) (b : Nat) (fp : List Nat) (now seq : Nat) (l : List (Nat × Int)) (w' : World) : Prop := ∃ fp', WV w' b fp' now seq l ∧ Sub fp' fp w ∧ Fr fp w w'
theorem WV.step_no (h : WV w b fp now seq l) (hs : seq ≤ 50000) {to : Nat} (ht : to < 18446744073709551616) (hno : ∀ x ∈ l, to < x.1) :
    Calls Try.prog 21 #[.pointer (some ⟨b, 0, none⟩), .int .u64 to] w fun e w' => e = .returned (.tuple #[.agg #[.int .i64 0, .int .i64 0], .bool false]) ∧ SV w b fp (max now to) seq l w' := by
  obtain ⟨L, h1, h2, h3⟩ := h
  refine (h1.step_no hs ht (fun e he => hno (view e) (by rw [← h2]; exact List.mem_map_of_mem he))).mono ?_
  rintro r w' ⟨rfl, fp', k1, k2, k3⟩
  exact ⟨rfl, fp', ⟨L, k1, h2, h3⟩, k2, k3⟩
theorem WV.step_yes {d : Nat} {i : Int} (h : WV w b fp now seq ((d, i) :: l)) (hs : seq ≤ 50000) {to : Nat} (hyes : d ≤ to) :
    Calls Try.prog 21 #[.pointer (some ⟨b, 0, none⟩), .int .u64 to] w fun e w' => e = .returned (.tuple #[.agg #[.int .i64 1, .int .i64 i], .bool true]) ∧ SV w b fp d seq l w' := by
  obtain ⟨L, h1, h2, h3⟩ := h
  cases L with
  | nil => simp at h2
  | cons e t =>
    rw [List.map_cons, List.cons.injEq] at h2
    obtain ⟨h4, h5⟩ := h2
    simp only [view, Prod.mk.injEq] at h4
    obtain ⟨rfl, rfl⟩ := h4
    have hk := h3 e (by simp)
    refine (h1.step_yes hs hyes).mono ?_
    rintro r w' ⟨rfl, fp', k1, k2, k3⟩
    exact ⟨by rw [hk], fp', ⟨t, k1, h5, fun x hx => h3 x (by simp [hx])⟩, k2, k3⟩
theorem WV.nowOf (h : WV w b fp now seq l) : Calls Try.prog 22 #[.pointer (some ⟨b, 0, none⟩)] w fun e w' => e = .returned (.int .u64 now) ∧ w' = w := by
  obtain ⟨L, h1, h2⟩ := h
  exact h1.nowOf
theorem WV.lenOf (h : WV w b fp now seq l) : Calls Try.prog 23 #[.pointer (some ⟨b, 0, none⟩)] w fun e w' => e = .returned (.int .i64 l.length) ∧ w' = w := by
  obtain ⟨L, h1, h2⟩ := h
  rw [← h2.len]
  exact h1.lenOf
theorem WV.put (h : WV w b fp now seq l) {i : Int} {d : Nat} (hi : ∀ x ∈ l, x.2 ≠ i) (hd : d < 18446744073709551616) (hn : now ≤ d) (hs : seq < 50000) :
    Calls Try.prog 18 #[.pointer (some ⟨b, 0, none⟩), .agg #[.int .i64 1, .int .i64 i], .int .u64 d] w fun e w' => e = .returned (.int .i64 0) ∧ SV w b fp now (seq + 1) (insV (d, i) l) w' := by
  obtain ⟨L, h1, h2⟩ := h
  refine (h1.put_new (h2.none hi) hd hs).mono ?_
  rintro r w' ⟨rfl, e, fp', k1, k2, k3, k4, k5, k6⟩
  exact ⟨rfl, fp', ⟨_, k4, h2.ins k1 (by rw [k2]; omega)⟩, k5, k6⟩
theorem entOf_view {L : List Ent} (h : ∀ e ∈ L, e.kind = 1) {i : Int} (hi : ∃ x ∈ L.map view, x.2 = i) : ∃ e, entOf L (1, i) = some e := by
  obtain ⟨x, hx, hx2⟩ := hi
  obtain ⟨e, he, rfl⟩ := List.mem_map.1 hx
  cases hf : entOf L (1, i) with
  | some e => exact ⟨e, rfl⟩
  | none =>
    unfold entOf at hf
    rw [List.find?_eq_none] at hf
    have := hf e he
    simp only [decide_eq_true_eq] at this
    exact absurd (by rw [Ent.key, h e he]; rw [← hx2]; rfl) this
theorem withoutE_view {L : List Ent} (h : ∀ e ∈ L, e.kind = 1) (i : Int) : (withoutE (1, i) L).map view = (L.map view).filter fun x => decide (x.2 ≠ i) := by
  induction L with
  | nil => rfl
  | cons e t ih =>
    have ht := ih (fun x hx => h x (by simp [hx]))
    have he := h e (by simp)
    unfold withoutE at ht ⊢
    by_cases h2 : e.id = i
    · rw [List.filter_cons_of_neg (by simp [Ent.key, he, h2]), List.map_cons, List.filter_cons_of_neg (by simp [view, h2]), ht]
    · rw [List.filter_cons_of_pos (by simp [Ent.key, he, h2]), List.map_cons, List.map_cons, List.filter_cons_of_pos (by simp [view, h2]), ht]
theorem WV.cancel_yes (h : WV w b fp now seq l) {i : Int} (hi : ∃ x ∈ l, x.2 = i) (hs : seq ≤ 50000) :
    Calls Try.prog 20 #[.pointer (some ⟨b, 0, none⟩), .agg #[.int .i64 1, .int .i64 i]] w fun e w' => e = .returned (.bool true) ∧ SV w b fp now seq (l.filter fun x => decide (x.2 ≠ i)) w' := by
  obtain ⟨L, h1, h2, h3⟩ := h
  subst h2
  obtain ⟨e, he⟩ := entOf_view h3 hi
  refine (h1.cancel_yes he hs).mono ?_
  rintro r w' ⟨rfl, k1, k2, k3⟩
  exact ⟨rfl, fp, ⟨_, k1, withoutE_view h3 i, fun x hx => h3 x (List.mem_filter.1 hx).1⟩, fun x hx => .inl hx, k2⟩
theorem WV.cancel_no (h : WV w b fp now seq l) {i : Int} (hi : ∀ x ∈ l, x.2 ≠ i) :
    Calls Try.prog 20 #[.pointer (some ⟨b, 0, none⟩), .agg #[.int .i64 1, .int .i64 i]] w fun e w' => e = .returned (.bool false) ∧ Fr [] w w' := by
  obtain ⟨L, h1, h2⟩ := h
  exact h1.cancel_no (h2.none hi)

/-- One wheel since w0, that is new. -/
def W1 (w0 w : World) (b now seq : Nat) (l : List (Nat × Int)) : Prop := ∃ fp, WV w b fp now seq l ∧ (∀ x ∈ fp, w0.heap.size ≤ x) ∧ Fr [] w0 w
variable {w0 : World}
theorem W1.fr0 (h : W1 w0 w b now seq l) {w' : World} (F : Fr [] w w') : W1 w0 w' b now seq l := by
  obtain ⟨fp, h1, h2, h3⟩ := h
  exact ⟨fp, h1.fr F (by simp), h2, h3.trans F⟩
theorem W1.of (h2 : ∀ x ∈ fp, w0.heap.size ≤ x) (h3 : Fr [] w0 w) {w' : World} {now' seq' : Nat} {l' : List (Nat × Int)} (k : SV w b fp now' seq' l' w') : W1 w0 w' b now' seq' l' := by
  obtain ⟨fp', k1, k2, k3⟩ := k
  exact ⟨fp', k1, k2.ge h2 h3.size, h3.ge k3 h2⟩

/-- Two wheels since w0, that are new, and apart; and blocks that neither has. -/
def W2 (w0 w : World) (a b na nb sa sb : Nat) (la lb : List (Nat × Int)) (K : List (Nat × Obj)) : Prop :=
  ∃ fa fb, WV w a fa na sa la ∧ WV w b fb nb sb lb ∧ (∀ x ∈ fa, x ∉ fb) ∧ (∀ x ∈ fa, w0.heap.size ≤ x) ∧ (∀ x ∈ fb, w0.heap.size ≤ x) ∧ (∀ k ∈ K, w.heap[k.1]? = some k.2 ∧ k.1 ∉ fa ∧ k.1 ∉ fb) ∧ Fr [] w0 w
variable {a na nb sa sb : Nat} {la lb : List (Nat × Int)} {K : List (Nat × Obj)}
theorem W2.swap (h : W2 w0 w a b na nb sa sb la lb K) : W2 w0 w b a nb na sb sa lb la K := by
  obtain ⟨fa, fb, h1, h2, h3, h4, h5, h6, h7⟩ := h
  exact ⟨fb, fa, h2, h1, fun x hx hy => h3 x hy hx, h5, h4, fun k hk => ⟨(h6 k hk).1, (h6 k hk).2.2, (h6 k hk).2.1⟩, h7⟩
theorem W2.fr0 (h : W2 w0 w a b na nb sa sb la lb K) {w' : World} (F : Fr [] w w') : W2 w0 w' a b na nb sa sb la lb K := by
  obtain ⟨fa, fb, h1, h2, h3, h4, h5, h6, h7⟩ := h
  exact ⟨fa, fb, h1.fr F (by simp), h2.fr F (by simp), h3, h4, h5, fun k hk => ⟨F.keep (h6 k hk).1 (by simp), (h6 k hk).2⟩, h7.trans F⟩
/-- A block more. -/
theorem W2.box (h : W2 w0 w a b na nb sa sb la lb K) (o : Obj) : W2 w0 (w.alloc o) a b na nb sa sb la lb ((w.heap.size, o) :: K) := by
  obtain ⟨ga, gb, g1, g2, g3, g4, g5, g6, g7⟩ := h
  have F := (Fr.refl [] w).alloc o
  refine ⟨ga, gb, g1.fr F (by simp), g2.fr F (by simp), g3, g4, g5, fun k hk => ?_, g7.trans F⟩
  rcases List.mem_cons.1 hk with h8 | h8
  · subst h8
    exact ⟨block_alloc_new _ _, fun hx => by have := g1.lt _ hx; simp at this, fun hx => by have := g2.lt _ hx; simp at this⟩
  · exact ⟨F.keep (g6 k h8).1 (by simp), (g6 k h8).2⟩
theorem W2.less (h : W2 w0 w a b na nb sa sb la lb K) {K' : List (Nat × Obj)} (hk : ∀ k ∈ K', k ∈ K) : W2 w0 w a b na nb sa sb la lb K' := by
  obtain ⟨fa, fb, h1, h2, h3, h4, h5, h6, h7⟩ := h
  exact ⟨fa, fb, h1, h2, h3, h4, h5, fun k hk' => h6 k (hk k hk'), h7⟩
theorem W2.call (h : W2 w0 w a b na nb sa sb la lb K) {f : Nat} {args : Array Value} {r : Ending} {na' sa' : Nat} {la' : List (Nat × Int)}
    (k : ∀ fa, WV w a fa na sa la → Calls Try.prog f args w fun e w' => e = r ∧ SV w a fa na' sa' la' w') :
    Calls Try.prog f args w fun e w' => e = r ∧ W2 w0 w' a b na' nb sa' sb la' lb K := by
  obtain ⟨fa, fb, h1, h2, h3, h4, h5, h6, h7⟩ := h
  refine (k fa h1).mono ?_
  rintro e w' ⟨rfl, fa', k1, k2, k3⟩
  refine ⟨rfl, fa', fb, k1, h2.fr k3 h3, fun x hx hy => ?_, k2.ge h4 h7.size, h5, fun q hq => ⟨k3.keep (h6 q hq).1 (h6 q hq).2.1, k2.out (h6 q hq).2.1 (lt_of_block (h6 q hq).1), (h6 q hq).2.2⟩, h7.ge k3 h4⟩
  rcases k2 x hx with h8 | h8
  · exact h3 x h8 hy
  · have := h2.lt x hy; omega
theorem W1.call (h : W1 w0 w b now seq l) {f : Nat} {args : Array Value} {r : Ending} {now' seq' : Nat} {l' : List (Nat × Int)}
    (k : ∀ fa, WV w b fa now seq l → Calls Try.prog f args w fun e w' => e = r ∧ SV w b fa now' seq' l' w') :
    Calls Try.prog f args w fun e w' => e = r ∧ W1 w0 w' b now' seq' l' := by
  obtain ⟨fp, h1, h2, h3⟩ := h
  refine (k fp h1).mono ?_
  rintro e w' ⟨rfl, k1⟩
  exact ⟨rfl, W1.of h2 h3 k1⟩
theorem W2.read (h : W2 w0 w a b na nb sa sb la lb K) {p : Nat} {o : Obj} (hk : (p, o) ∈ K) : w.heap[p]? = some o := by
  obtain ⟨fa, fb, h1, h2, h3, h4, h5, h6, h7⟩ := h
  exact (h6 _ hk).1
theorem W2.fr (h : W2 w0 w a b na nb sa sb la lb K) : Fr [] w0 w := by
  obtain ⟨fa, fb, h1, h2, h3, h4, h5, h6, h7⟩ := h
  exact h7
theorem W2.nowOf (h : W2 w0 w a b na nb sa sb la lb K) : Calls Try.prog 22 #[.pointer (some ⟨a, 0, none⟩)] w fun e w' => e = .returned (.int .u64 na) ∧ w' = w := by
  obtain ⟨fa, fb, h1, h2, h3, h4, h5, h6, h7⟩ := h
  exact h1.nowOf
theorem W2.lenOf (h : W2 w0 w a b na nb sa sb la lb K) : Calls Try.prog 23 #[.pointer (some ⟨a, 0, none⟩)] w fun e w' => e = .returned (.int .i64 la.length) ∧ w' = w := by
  obtain ⟨fa, fb, h1, h2, h3, h4, h5, h6, h7⟩ := h
  exact h1.lenOf
theorem W1.nowOf (h : W1 w0 w b now seq l) : Calls Try.prog 22 #[.pointer (some ⟨b, 0, none⟩)] w fun e w' => e = .returned (.int .u64 now) ∧ w' = w := by
  obtain ⟨fp, h1, -⟩ := h
  exact h1.nowOf
theorem W1.lenOf (h : W1 w0 w b now seq l) : Calls Try.prog 23 #[.pointer (some ⟨b, 0, none⟩)] w fun e w' => e = .returned (.int .i64 l.length) ∧ w' = w := by
  obtain ⟨fp, h1, -⟩ := h
  exact h1.lenOf
/-- What put tells, of one wheel. -/
theorem W1.put {v : Value} {xs : List Nat} (hx : U64s w v xs) (now : Nat) (hn : now < 18446744073709551616) (F : Fr [] w0 w) :
    Calls Try.prog 16 #[.int .u64 now, v] w fun e w' => ∃ b, e = .returned (.pointer (some ⟨b, 0, none⟩)) ∧ W1 w0 w' b now (min xs.length 60) (putV (dueAt now xs) (fun _ => true) (min xs.length 60)) ∧ Fr [] w w' := by
  refine (put_spec hx now hn).mono ?_
  rintro e w' ⟨b, fp, L, rfl, h1, h2, h3, h4⟩
  exact ⟨b, rfl, ⟨fp, ⟨L, h1, h2⟩, fun x hx => by have := h3 x hx; have := F.size; omega, F.trans h4⟩, h4⟩
theorem U64s.fr {v : Value} {xs : List Nat} (hx : U64s w v xs) {w' : World} (F : Fr [] w w') : U64s w' v xs := by
  obtain ⟨ao, cap, h1, h2, h3, h4⟩ := hx
  refine ⟨ao, cap, h1, h2, h3, fun j hj => ?_⟩
  obtain ⟨b, o, h5, h6⟩ := h4 j hj
  exact ⟨b, o, h5, F.on h6 (by simp)⟩
theorem W2.of {fa fb : List Nat} {w1 : World} (h1 : WV w1 a fa na sa la) (h2 : ∀ x ∈ fa, w0.heap.size ≤ x) (F1 : Fr [] w0 w1) (F : Fr [] w1 w) (k1 : WV w b fb nb sb lb) (k2 : ∀ x ∈ fb, w1.heap.size ≤ x) : W2 w0 w a b na nb sa sb la lb [] :=
  ⟨fa, fb, h1.fr F (by simp), k1, fun x hx hy => by have := h1.lt x hx; have := k2 x hy; omega, h2, fun x hx => by have := k2 x hx; have := F1.size; omega, by simp, F1.trans F⟩
/-- .. and of a second one. -/
theorem W1.put2 (h : W1 w0 w a na sa la) {v : Value} {xs : List Nat} (hx : U64s w v xs) (now : Nat) (hn : now < 18446744073709551616) :
    Calls Try.prog 16 #[.int .u64 now, v] w fun e w' => ∃ b, e = .returned (.pointer (some ⟨b, 0, none⟩)) ∧ W2 w0 w' a b na now sa (min xs.length 60) la (putV (dueAt now xs) (fun _ => true) (min xs.length 60)) [] := by
  obtain ⟨fp, g1, g2, g3⟩ := h
  refine (put_spec hx now hn).mono ?_
  rintro e w' ⟨b, fb, L, rfl, h1, h2, h3, h4⟩
  exact ⟨b, rfl, W2.of g1 g2 g3 h4 ⟨L, h1, h2⟩ h3⟩
theorem W1.new2 (h : W1 w0 w a na sa la) (now : Nat) (hn : now < 18446744073709551616) :
    Calls Try.prog 17 #[.int .u64 now] w fun e w' => ∃ b, e = .returned (.pointer (some ⟨b, 0, none⟩)) ∧ W2 w0 w' a b na now sa 0 la [] [] := by
  obtain ⟨fp, g1, g2, g3⟩ := h
  refine (wheel_new w now hn).mono ?_
  rintro e w' ⟨b, fb, rfl, h1, h2, h3⟩
  exact ⟨b, rfl, W2.of g1 g2 g3 h3 ⟨[], h1, rfl, by simp⟩ h2⟩

/-- How many of the first n are due up to a time. -/
def cntV (d : Nat → Nat) (to : Nat) : Nat → Nat
  | 0 => 0
  | n + 1 => cntV d to n + if d n ≤ to then 1 else 0
theorem insV_count (x : Nat × Int) (p : Nat × Int → Bool) : ∀ l : List (Nat × Int), (insV x l).countP p = l.countP p + if p x then 1 else 0
  | [] => by simp [insV]
  | y :: l => by
    unfold insV
    split
    · rw [List.countP_cons]
    · rw [List.countP_cons, insV_count x p l, List.countP_cons]; omega
theorem putV_count (d : Nat → Nat) (to : Nat) : ∀ n, (putV d (fun _ => true) n).countP (fun x => decide (x.1 ≤ to)) = cntV d to n
  | 0 => rfl
  | n + 1 => by
    unfold putV cntV
    rw [if_pos rfl, insV_count, putV_count d to n]
    simp
theorem putV_len (d : Nat → Nat) : ∀ n, (putV d (fun _ => true) n).length = n
  | 0 => rfl
  | n + 1 => by unfold putV; rw [if_pos rfl, insV_len, putV_len d n]
theorem insV_neg {x y : Nat × Int} {l : List (Nat × Int)} (h : ¬ x.1 < y.1) : insV x (y :: l) = y :: insV x l := if_neg h
theorem insV_filter (x : Nat × Int) (p : Nat × Int → Bool) : ∀ l : List (Nat × Int), l.Pairwise (fun a c => a.1 ≤ c.1) → (insV x l).filter p = if p x then insV x (l.filter p) else l.filter p
  | [], _ => by simp [insV, List.filter_cons]
  | y :: l, h => by
    obtain ⟨h1, h2⟩ := List.pairwise_cons.1 h
    have ih := insV_filter x p l h2
    have front : ∀ t : List (Nat × Int), (∀ z ∈ t, x.1 < z.1) → insV x t = x :: t := fun t ht => by
      cases t with
      | nil => rfl
      | cons z t => unfold insV; rw [if_pos (ht z (by simp))]
    by_cases hlt : x.1 < y.1
    · have : insV x (y :: l) = x :: y :: l := by unfold insV; rw [if_pos hlt]
      rw [this, List.filter_cons, front ((y :: l).filter p) (fun z hz => by
        rcases List.mem_cons.1 (List.mem_filter.1 hz).1 with h3 | h3
        · rw [h3]; exact hlt
        · have := h1 z h3; omega)]
    · rw [insV_neg hlt, List.filter_cons, ih, List.filter_cons]
      by_cases hp : p y = true
      · rw [if_pos hp, if_pos hp]
        by_cases hq : p x = true
        · rw [if_pos hq, if_pos hq]
          rw [insV_neg hlt]
        · rw [if_neg hq, if_neg hq]
      · rw [if_neg hp, if_neg hp]
theorem putV_filter (d : Nat → Nat) (c : Nat) : ∀ n, (putV d (fun _ => true) n).filter (fun x => decide (x.2 ≠ (c : Int))) = putV d (fun i => decide (i ≠ c)) n
  | 0 => rfl
  | n + 1 => by
    unfold putV
    rw [if_pos rfl, insV_filter _ _ _ ((putV_sorted n).imp (fun h => by omega)), putV_filter d c n]
    by_cases h : n = c
    · simp [h]
    · have : ¬ (n : Int) = (c : Int) := by omega
      simp [h, this]
end Go.Proofs.Ytibnhfnidgfenaa
