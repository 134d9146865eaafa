/-
  The clock as the time, the timers in their turn, and the goal.
-/
import Derived.Test.YtibnhfnidgfenaaRef18
namespace Go.Proofs.Ytibnhfnidgfenaa
open Go.RowKit

/-- The time, the timers, the goal. -/
structure Cs where
  now : Nat
  l : List On
  goal : Nat
def Cs.set (s : Cs) (k : Int × Int) (due : Nat) : Cs := ⟨s.now, insO ⟨k.1, k.2, max due s.now⟩ (lessO k s.l), s.goal⟩
def Cs.stop (s : Cs) (k : Int × Int) : Cs := ⟨s.now, lessO k s.l, s.goal⟩
def Cs.go (s : Cs) (n : Nat) : Cs := ⟨s.now, s.l, sadd s.goal n⟩
/-- The next timer that comes. -/
def Cs.comes (s : Cs) : Option On := s.l.head?.bind fun e => if e.due ≤ s.goal then some e else none
def Cs.next (s : Cs) : Cs := match s.comes with
  | some e => ⟨e.due, s.l.tail, s.goal⟩
  | none => ⟨max s.now s.goal, s.l, s.goal⟩
def keyV (o : Option On) : Value := .agg #[.int .i64 ((o.map On.kind).getD 0), .int .i64 ((o.map On.id).getD 0)]
theorem Cs.comes_some {s : Cs} {e : On} (h : s.comes = some e) : s.l = e :: s.l.tail ∧ e.due ≤ s.goal := by
  unfold Cs.comes at h
  cases hl : s.l with
  | nil => rw [hl] at h; simp at h
  | cons x t =>
    rw [hl] at h
    simp only [List.head?_cons, Option.bind_some] at h
    split at h
    · rename_i hd
      simp only [Option.some.injEq] at h
      subst h
      exact ⟨rfl, hd⟩
    · cases h

/-- Block c is such a clock; it was told of n timers at most. -/
def CkV (w : World) (c : Nat) (fp : List Nat) (s : Cs) (n : Nat) : Prop :=
  ∃ seq L, IsClock w c fp s.now seq L s.goal ∧ L.map onE = s.l ∧ seq ≤ n ∧ s.now ≤ s.goal
theorem CkV.fr {w w' : World} {c : Nat} {fp : List Nat} {s : Cs} {n : Nat} (h : CkV w c fp s n) {S : List Nat} (k : Fr S w w') (hS : ∀ x ∈ S, x ∉ fp) : CkV w' c fp s n := by
  obtain ⟨seq, L, h1, h2⟩ := h
  exact ⟨seq, L, h1.fr k hS, h2⟩
theorem CkV.lt {w : World} {c : Nat} {fp : List Nat} {s : Cs} {n : Nat} (h : CkV w c fp s n) : ∀ x ∈ fp, x < w.heap.size := by
  obtain ⟨seq, L, h1, h2⟩ := h
  exact h1.lt
/-- What a clock's state is. -/
structure CsOk (s : Cs) (n : Nat) : Prop where
  len : s.l.length ≤ n
  keys : (s.l.map On.key).Nodup
  le : s.now ≤ s.goal
  lt : s.goal < 18446744073709551616
  due : ∀ e ∈ s.l, s.now ≤ e.due ∧ e.due < 18446744073709551616
  sorted : s.l.Pairwise (fun a b => a.due ≤ b.due)
theorem Cs.comes_none {s : Cs} {n : Nat} (h : CsOk s n) (hc : s.comes = none) : ∀ e ∈ s.l, s.goal < e.due := by
  intro e he
  have hs := h.sorted
  unfold Cs.comes at hc
  cases hl : s.l with
  | nil => rw [hl] at he; cases he
  | cons x t =>
    rw [hl] at hc hs he
    simp only [List.head?_cons, Option.bind_some, ite_eq_right_iff, reduceCtorEq, imp_false] at hc
    rcases List.mem_cons.1 he with h | h
    · subst h; omega
    · have := (List.pairwise_cons.1 hs).1 _ h
      omega
theorem IsClock.sorted {w : World} {c : Nat} {fp : List Nat} {now seq : Nat} {L : List Ent} {goal : Nat} (h : IsClock w c fp now seq L goal) : L.Pairwise Ahead := by
  obtain ⟨b, fw, h1, h2, -⟩ := h
  obtain ⟨m1, m2, la, f, h⟩ := h2
  exact h.sorted
theorem CkV.ok {w : World} {c : Nat} {fp : List Nat} {s : Cs} {n : Nat} (h : CkV w c fp s n) : CsOk s n := by
  obtain ⟨seq, L, h1, h2, h3, h4⟩ := h
  obtain ⟨k1, k2, k3, k4, k5⟩ := h1.few
  refine ⟨by rw [← h2, List.length_map]; omega, by rw [← h2, List.map_map]; exact k2, h4, k5, fun e he => ?_, ?_⟩
  · rw [← h2] at he
    obtain ⟨x, hx, rfl⟩ := List.mem_map.1 he
    exact k4 x hx
  · rw [← h2, List.pairwise_map]
    exact h1.sorted.imp (fun {a b} h => by unfold Ahead at h; simp only [onE]; omega)

def CkTo (w : World) (c : Nat) (fp : List Nat) (s : Cs) (n : Nat) (w' : World) : Prop := ∃ fp', CkV w' c fp' s n ∧ Sub fp' fp w ∧ Fr fp w w'
variable {w : World} {c : Nat} {fp : List Nat} {s : Cs} {n : Nat}
theorem CkV.set (h : CkV w c fp s n) (hn : n < 50000) (k1 k2 : Int) (due : Nat) (hd : due < 18446744073709551616) :
    Calls Try.prog 38 #[.pointer (some ⟨c, 0, none⟩), .agg #[.int .i64 k1, .int .i64 k2], .int .u64 due] w fun r w' => r = .returned (.tuple #[]) ∧ CkTo w c fp (s.set (k1, k2) due) (n + 1) w' := by
  obtain ⟨seq, L, h1, h2, h3, h4⟩ := h
  refine (h1.set (by omega) k1 k2 due hd).mono ?_
  rintro r w' ⟨rfl, e, q1, q2, fp', q3, q4, q5⟩
  refine ⟨rfl, fp', ⟨seq + 1, _, q3, ?_, by omega, h4⟩, q4, q5⟩
  simp only [Ent.key, Prod.mk.injEq] at q1
  simp only [Cs.set]
  rw [insE_on, without_on, h2]
  unfold onE
  rw [q1.1, q1.2, q2]
theorem CkV.stop (h : CkV w c fp s n) (hn : n ≤ 50000) (k1 k2 : Int) :
    Calls Try.prog 40 #[.pointer (some ⟨c, 0, none⟩), .agg #[.int .i64 k1, .int .i64 k2]] w fun r w' => r = .returned (.bool (onOf s.l (k1, k2)).isSome) ∧ CkTo w c fp (s.stop (k1, k2)) n w' := by
  obtain ⟨seq, L, h1, h2, h3, h4⟩ := h
  refine (h1.stop (by omega) k1 k2).mono ?_
  rintro r w' ⟨rfl, fp', q3, q4, q5⟩
  refine ⟨by rw [← h2, onOf_map, Option.isSome_map], fp', ⟨seq, _, q3, ?_, h3, h4⟩, q4, q5⟩
  rw [without_on, h2]
  rfl
theorem CkV.go (h : CkV w c fp s n) (m : Nat) :
    Calls Try.prog 36 #[.pointer (some ⟨c, 0, none⟩), .int .u64 m] w fun r w' => r = .returned (.tuple #[]) ∧ CkTo w c fp (s.go m) n w' := by
  obtain ⟨seq, L, h1, h2, h3, h4⟩ := h
  have hg := h1.few.2.2.2.2
  refine (h1.go m).mono ?_
  rintro r w' ⟨rfl, fp', q3, q4, q5⟩
  exact ⟨rfl, fp', ⟨seq, _, q3, h2, h3, Nat.le_trans h4 (sadd_le _ _ hg)⟩, q4, q5⟩
theorem CkV.next (h : CkV w c fp s n) (hn : n ≤ 50000) :
    Calls Try.prog 37 #[.pointer (some ⟨c, 0, none⟩)] w fun r w' => r = .returned (.tuple #[keyV s.comes, .bool s.comes.isSome]) ∧ CkTo w c fp s.next n w' := by
  have hok := h.ok
  obtain ⟨seq, L, h1, h2, h3, h4⟩ := h
  cases hc : s.comes with
  | some e =>
    obtain ⟨q1, q2⟩ := Cs.comes_some hc
    rw [q1] at h2
    cases L with
    | nil => simp at h2
    | cons x t =>
      simp only [List.map_cons, List.cons.injEq] at h2
      obtain ⟨rfl, h2⟩ := h2
      refine (h1.next_yes (by omega) q2).mono ?_
      rintro r w' ⟨rfl, fp', q3, q4, q5⟩
      refine ⟨rfl, fp', ⟨seq, t, ?_, ?_, h3, ?_⟩, q4, q5⟩
      · unfold Cs.next; rw [hc]; exact q3
      · unfold Cs.next; rw [hc]; exact h2
      · unfold Cs.next; rw [hc]; exact q2
  | none =>
    have hno : ∀ e ∈ L, s.goal < e.due := by
      intro e he
      have hs := hok.sorted
      unfold Cs.comes at hc
      cases hl : s.l with
      | nil => rw [hl] at h2; simp at h2; rw [h2] at he; cases he
      | cons x t =>
        rw [hl] at hc hs
        simp only [List.head?_cons, Option.bind_some, ite_eq_right_iff, reduceCtorEq, imp_false] at hc
        have hm : onE e ∈ x :: t := by rw [← hl, ← h2]; exact List.mem_map_of_mem he
        rcases List.mem_cons.1 hm with h | h
        · have : e.due = x.due := by rw [← h]; rfl
          omega
        · have := (List.pairwise_cons.1 hs).1 _ h
          simp only [onE] at this
          omega
    refine (h1.next_no (by omega) hno).mono ?_
    rintro r w' ⟨rfl, fp', q3, q4, q5⟩
    refine ⟨rfl, fp', ⟨seq, L, ?_, ?_, h3, ?_⟩, q4, q5⟩
    · unfold Cs.next; rw [hc]; exact q3
    · unfold Cs.next; rw [hc]; exact h2
    · unfold Cs.next; rw [hc]; simp only; omega
theorem CkV.nowOf (h : CkV w c fp s n) : Calls Try.prog 32 #[.pointer (some ⟨c, 0, none⟩)] w fun e w' => e = .returned (.int .u64 s.now) ∧ w' = w := by
  obtain ⟨seq, L, h1, h2, h3, h4⟩ := h
  exact h1.nowOf
theorem CkV.goalOf (h : CkV w c fp s n) : Calls Try.prog 33 #[.pointer (some ⟨c, 0, none⟩)] w fun e w' => e = .returned (.int .u64 s.goal) ∧ w' = w := by
  obtain ⟨seq, L, h1, h2, h3, h4⟩ := h
  exact h1.goalOf
theorem CkV.lenOf (h : CkV w c fp s n) : Calls Try.prog 34 #[.pointer (some ⟨c, 0, none⟩)] w fun e w' => e = .returned (.int .i64 s.l.length) ∧ w' = w := by
  obtain ⟨seq, L, h1, h2, h3, h4⟩ := h
  have := h1.lenOf
  rw [← h2, List.length_map]
  exact this

/-- A clock of the call's own, and boxes that stay. -/
def C1 (w0 w : World) (c : Nat) (s : Cs) (n : Nat) (K : List (Nat × Obj)) : Prop := ∃ fp, CkV w c fp s n ∧ (∀ x ∈ fp, w0.heap.size ≤ x) ∧ Fr [] w0 w ∧ ∀ k ∈ K, w.heap[k.1]? = some k.2 ∧ k.1 ∉ fp
theorem C1.fr0 {w0 w w' : World} {K : List (Nat × Obj)} (h : C1 w0 w c s n K) (F : Fr [] w w') : C1 w0 w' c s n K := by
  obtain ⟨fp, h1, h2, h3, h4⟩ := h
  exact ⟨fp, h1.fr F (by simp), h2, h3.trans F, fun k hk => ⟨F.keep (h4 k hk).1 (by simp), (h4 k hk).2⟩⟩
theorem C1.box {w0 w : World} {K : List (Nat × Obj)} (h : C1 w0 w c s n K) (o : Obj) : C1 w0 (w.alloc o) c s n ((w.heap.size, o) :: K) := by
  obtain ⟨fp, h1, h2, h3, h4⟩ := h
  have F := (Fr.refl [] w).alloc o
  refine ⟨fp, h1.fr F (by simp), h2, h3.trans F, fun k hk => ?_⟩
  rcases List.mem_cons.1 hk with rfl | hk
  · exact ⟨block_alloc_new _ _, fun hm => by have := h1.lt _ hm; simp at this⟩
  · exact ⟨F.keep (h4 k hk).1 (by simp), (h4 k hk).2⟩
theorem C1.less {w0 w : World} {K K' : List (Nat × Obj)} (h : C1 w0 w c s n K) (hk : ∀ k ∈ K', k ∈ K) : C1 w0 w c s n K' := by
  obtain ⟨fp, h1, h2, h3, h4⟩ := h
  exact ⟨fp, h1, h2, h3, fun k hk' => h4 k (hk k hk')⟩
theorem C1.read {w0 w : World} {K : List (Nat × Obj)} (h : C1 w0 w c s n K) {p : Nat} {o : Obj} (hk : (p, o) ∈ K) : w.heap[p]? = some o := by
  obtain ⟨fp, h1, h2, h3, h4⟩ := h
  exact (h4 _ hk).1
theorem C1.ok {w0 w : World} {K : List (Nat × Obj)} (h : C1 w0 w c s n K) : CsOk s n := by
  obtain ⟨fp, h1, h2, h3⟩ := h
  exact h1.ok
theorem C1.frame {w0 w : World} {K : List (Nat × Obj)} (h : C1 w0 w c s n K) : Fr [] w0 w := by
  obtain ⟨fp, h1, h2, h3, h4⟩ := h
  exact h3
theorem C1.call {w0 w : World} {K : List (Nat × Obj)} (h : C1 w0 w c s n K) {f : Nat} {args : Array Value} {r : Ending} {s' : Cs} {n' : Nat}
    (k : ∀ fp, CkV w c fp s n → Calls Try.prog f args w fun e w' => e = r ∧ CkTo w c fp s' n' w') : Calls Try.prog f args w fun e w' => e = r ∧ C1 w0 w' c s' n' K := by
  obtain ⟨fp, h1, h2, h3, h4⟩ := h
  refine (k fp h1).mono ?_
  rintro e w' ⟨rfl, fp', k1, k2, k3⟩
  refine ⟨rfl, fp', k1, fun x hx => ?_, h3.trans' k3 (fun x hx => .inr (h2 x hx)), fun k hk => ⟨k3.keep (h4 k hk).1 (h4 k hk).2, fun hm => ?_⟩⟩
  · rcases k2 x hx with h5 | h5
    · exact h2 x h5
    · have := h3.size; omega
  · rcases k2 _ hm with h5 | h5
    · exact (h4 k hk).2 h5
    · have := lt_of_block (h4 k hk).1; omega
theorem C1.ask {w0 w : World} {K : List (Nat × Obj)} (h : C1 w0 w c s n K) {f : Nat} {args : Array Value} {r : Ending}
    (k : ∀ fp, CkV w c fp s n → Calls Try.prog f args w fun e w' => e = r ∧ w' = w) : Calls Try.prog f args w fun e w' => e = r ∧ w' = w := by
  obtain ⟨fp, h1, h2, h3⟩ := h
  exact k fp h1
/-- A clock below another world. -/
theorem C1.base {w0 w1 w : World} {K : List (Nat × Obj)} (h : C1 w1 w c s n []) (F : Fr [] w0 w1) (hK : ∀ k ∈ K, w1.heap[k.1]? = some k.2) : C1 w0 w c s n K := by
  obtain ⟨fp, h1, h2, h3, h4⟩ := h
  exact ⟨fp, h1, fun x hx => Nat.le_trans F.size (h2 x hx), F.trans h3, fun k hk => ⟨h3.keep (hK k hk) (by simp), fun hm => by have := h2 _ hm; have := lt_of_block (hK k hk); omega⟩⟩
theorem clockNew (w : World) : Calls Try.prog 30 #[] w fun r w' => ∃ c, r = .returned (.pointer (some ⟨c, 0, none⟩)) ∧ C1 w w' c ⟨0, [], 0⟩ 0 [] := by
  refine (clock_new w).mono ?_
  rintro r w' ⟨c, fp, rfl, h1, h2, h3⟩
  exact ⟨c, rfl, fp, ⟨0, [], h1, rfl, Nat.le_refl _, Nat.le_refl _⟩, h2, h3, by simp⟩
/-- Two clocks of the call's own. -/
def C2 (w0 w : World) (a b : Nat) (sa sb : Cs) (na nb : Nat) (K : List (Nat × Obj)) : Prop :=
  ∃ fa fb, CkV w a fa sa na ∧ CkV w b fb sb nb ∧ (∀ x ∈ fa, w0.heap.size ≤ x) ∧ (∀ x ∈ fb, w0.heap.size ≤ x) ∧ (∀ x ∈ fa, x ∉ fb) ∧ Fr [] w0 w ∧ ∀ k ∈ K, w.heap[k.1]? = some k.2 ∧ k.1 ∉ fa ∧ k.1 ∉ fb
section
variable {w0 : World} {a b : Nat} {sa sb : Cs} {na nb : Nat} {K : List (Nat × Obj)}
theorem C2.swap (h : C2 w0 w a b sa sb na nb K) : C2 w0 w b a sb sa nb na K := by
  obtain ⟨fa, fb, h1, h2, h3, h4, h5, h6, h7⟩ := h
  exact ⟨fb, fa, h2, h1, h4, h3, fun x hx hm => h5 x hm hx, h6, fun k hk => ⟨(h7 k hk).1, (h7 k hk).2.2, (h7 k hk).2.1⟩⟩
theorem C2.fr0 (h : C2 w0 w a b sa sb na nb K) {w' : World} (F : Fr [] w w') : C2 w0 w' a b sa sb na nb K := by
  obtain ⟨fa, fb, h1, h2, h3, h4, h5, h6, h7⟩ := h
  exact ⟨fa, fb, h1.fr F (by simp), h2.fr F (by simp), h3, h4, h5, h6.trans F, fun k hk => ⟨F.keep (h7 k hk).1 (by simp), (h7 k hk).2⟩⟩
theorem C2.box (h : C2 w0 w a b sa sb na nb K) (o : Obj) : C2 w0 (w.alloc o) a b sa sb na nb ((w.heap.size, o) :: K) := by
  obtain ⟨fa, fb, h1, h2, h3, h4, h5, h6, h7⟩ := h
  have F := (Fr.refl [] w).alloc o
  refine ⟨fa, fb, h1.fr F (by simp), h2.fr F (by simp), h3, h4, h5, h6.trans F, fun k hk => ?_⟩
  rcases List.mem_cons.1 hk with rfl | hk
  · exact ⟨block_alloc_new _ _, fun hm => by have := h1.lt _ hm; simp at this, fun hm => by have := h2.lt _ hm; simp at this⟩
  · exact ⟨F.keep (h7 k hk).1 (by simp), (h7 k hk).2⟩
theorem C2.less {K' : List (Nat × Obj)} (h : C2 w0 w a b sa sb na nb K) (hk : ∀ k ∈ K', k ∈ K) : C2 w0 w a b sa sb na nb K' := by
  obtain ⟨fa, fb, h1, h2, h3, h4, h5, h6, h7⟩ := h
  exact ⟨fa, fb, h1, h2, h3, h4, h5, h6, fun k hk' => h7 k (hk k hk')⟩
theorem C2.read (h : C2 w0 w a b sa sb na nb K) {p : Nat} {o : Obj} (hk : (p, o) ∈ K) : w.heap[p]? = some o := by
  obtain ⟨fa, fb, h1, h2, h3, h4, h5, h6, h7⟩ := h
  exact (h7 _ hk).1
theorem C2.ok (h : C2 w0 w a b sa sb na nb K) : CsOk sa na ∧ CsOk sb nb := by
  obtain ⟨fa, fb, h1, h2, -⟩ := h
  exact ⟨h1.ok, h2.ok⟩
theorem C2.frame (h : C2 w0 w a b sa sb na nb K) : Fr [] w0 w := by
  obtain ⟨fa, fb, h1, h2, h3, h4, h5, h6, h7⟩ := h
  exact h6
theorem C2.call (h : C2 w0 w a b sa sb na nb K) {f : Nat} {args : Array Value} {r : Ending} {s' : Cs} {n' : Nat}
    (k : ∀ fp, CkV w a fp sa na → Calls Try.prog f args w fun e w' => e = r ∧ CkTo w a fp s' n' w') : Calls Try.prog f args w fun e w' => e = r ∧ C2 w0 w' a b s' sb n' nb K := by
  obtain ⟨fa, fb, h1, h2, h3, h4, h5, h6, h7⟩ := h
  refine (k fa h1).mono ?_
  rintro e w' ⟨rfl, fp', k1, k2, k3⟩
  refine ⟨rfl, fp', fb, k1, h2.fr k3 (fun x hx => h5 x hx), fun x hx => ?_, h4, fun x hx hm => ?_, h6.trans' k3 (fun x hx => .inr (h3 x hx)), fun k hk => ⟨k3.keep (h7 k hk).1 (h7 k hk).2.1, fun hm => ?_, (h7 k hk).2.2⟩⟩
  · rcases k2 x hx with h8 | h8
    · exact h3 x h8
    · have := h6.size; omega
  · rcases k2 x hx with h8 | h8
    · exact h5 x h8 hm
    · have := h2.lt x hm; omega
  · rcases k2 _ hm with h8 | h8
    · exact (h7 k hk).2.1 h8
    · have := lt_of_block (h7 k hk).1; omega
theorem C2.ask (h : C2 w0 w a b sa sb na nb K) {f : Nat} {args : Array Value} {r : Ending}
    (k : ∀ fp, CkV w a fp sa na → Calls Try.prog f args w fun e w' => e = r ∧ w' = w) : Calls Try.prog f args w fun e w' => e = r ∧ w' = w := by
  obtain ⟨fa, fb, h1, -⟩ := h
  exact k fa h1
/-- A second one. -/
theorem C2.of {w1 w : World} (h : C1 w0 w1 a sa na []) (k : C1 w1 w b sb nb []) : C2 w0 w a b sa sb na nb [] := by
  obtain ⟨fa, h1, h2, h3, h4⟩ := h
  obtain ⟨fb, k1, k2, k3, k4⟩ := k
  exact ⟨fa, fb, h1.fr k3 (by simp), k1, h2, fun x hx => by have := k2 x hx; have := h3.size; omega, fun x hx hm => by have := h1.lt x hx; have := k2 x hm; omega, h3.trans k3, by simp⟩
end
end Go.Proofs.Ytibnhfnidgfenaa
