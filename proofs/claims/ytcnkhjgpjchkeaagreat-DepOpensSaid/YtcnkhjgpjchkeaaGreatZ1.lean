/-
  Words, and contracts of functions of the program and of the document, for this seat's claims: each is a lemma on the way; conditions stand in each lemma.
-/
import Derived.WalkKit
import Derived.WalkSmall
import Derived.Deep.QuietTactic
import Derived.BigQuiet
import Derived.Lib.Hide
import Derived.Test.YtcnkhjgpjchkeaaGreatProg
import Derived.IntWalk
import Derived.Laws.AppendOwnNone
import Derived.Deep.RegionLaw
import Derived.Laws.Bits64
import Derived.Laws.Bits64b
import Derived.Deep.DeepMust
import Derived.Laws.StructEq
import Derived.MapKept
import Derived.Laws.Rows
namespace Go.Proofs.YtcnkhjgpjchkeaaGreat
open Go.RowKit

/-- From w to w' only the blocks of S, and new ones, may have turned. -/
structure Fr (S : List Nat) (w w' : World) : Prop where
  os : w'.os = w.os
  tape : w'.tape = w.tape
  output : w'.output = w.output
  size : w.heap.size ≤ w'.heap.size
  block : ∀ k, k < w.heap.size → k ∉ S → w'.heap[k]? = w.heap[k]?

theorem Fr.refl (S : List Nat) (w : World) : Fr S w w := ⟨rfl, rfl, rfl, Nat.le_refl _, fun _ _ _ => rfl⟩
theorem Fr.drewN {S : List Nat} {a w : World} (h : Fr S a w) (n : Nat) : Fr S a (w.drewN n) := ⟨h.os, h.tape, h.output, h.size, h.block⟩
theorem Fr.drew {S : List Nat} {a w : World} (h : Fr S a w) : Fr S a w.drew := ⟨h.os, h.tape, h.output, h.size, h.block⟩
theorem Fr.dr {S : List Nat} {a w w' : World} (h : Fr S a w) (k : ∃ q, w' = w.drewN q) : Fr S a w' := by obtain ⟨q, rfl⟩ := k; exact h.drewN q
theorem Fr.of_drewN {S : List Nat} (w : World) (n : Nat) : Fr S w (w.drewN n) := (Fr.refl S w).drewN n

theorem Fr.trans' {S S' : List Nat} {a b c : World} (h : Fr S a b) (k : Fr S' b c) (hS : ∀ x, x ∈ S' → x ∈ S ∨ a.heap.size ≤ x) : Fr S a c :=
  ⟨k.os.trans h.os, k.tape.trans h.tape, k.output.trans h.output, Nat.le_trans h.size k.size, fun i hi hn =>
    (k.block i (Nat.lt_of_lt_of_le hi h.size) (fun hm => by rcases hS i hm with h1 | h1; exact hn h1; omega)).trans (h.block i hi hn)⟩
theorem Fr.trans {S : List Nat} {a b c : World} (h : Fr S a b) (k : Fr S b c) : Fr S a c := h.trans' k fun _ hx => Or.inl hx
theorem Fr.mono {S S' : List Nat} {a b : World} (h : Fr S a b) (hS : ∀ x, x ∈ S → x ∈ S' ∨ a.heap.size ≤ x) : Fr S' a b := (Fr.refl S' a).trans' h hS
theorem Fr.alloc {S : List Nat} {a w : World} (h : Fr S a w) (o : Obj) : Fr S a (w.alloc o) :=
  ⟨h.os, h.tape, h.output, by have := h.size; simp; omega, fun k hk hn => by have := h.size; rw [Below.heap_alloc _ _ _ (by omega)]; exact h.block k hk hn⟩
theorem Fr.setCell {S : List Nat} {a w : World} (h : Fr S a w) {p : Addr} (hp : p.block ∈ S ∨ a.heap.size ≤ p.block) (u : Value) : Fr S a (w.setCell p u) :=
  ⟨h.os, h.tape, h.output, by have := h.size; simp; omega, fun k hk hn => by
    rw [Below.heap_setCell _ _ _ _ (fun e => by subst e; rcases hp with h1 | h1; exact hn h1; omega)]; exact h.block k hk hn⟩
theorem Fr.below {S : List Nat} {a w : World} {B : Nat} (h : Fr S a w) (hB : B ≤ a.heap.size) (hS : ∀ x, x ∈ S → B ≤ x) : Below B a w :=
  ⟨h.os, h.tape, h.output, h.size, fun k hk => h.block k (by omega) (fun hm => by have := hS k hm; omega)⟩
theorem Fr.of_below {S : List Nat} {a w : World} (h : Below a.heap.size a w) : Fr S a w :=
  ⟨h.os, h.tape, h.output, h.size, fun k hk _ => h.block k hk⟩
theorem Fr.cell {S : List Nat} {w w' : World} (h : Fr S w w') {p : Addr} (hp : p.block < w.heap.size) (hn : p.block ∉ S) : w'.cell? p = w.cell? p :=
  World.cell?_of_block (w := w) (h.block p.block hp hn)
theorem Fr.frozen {S : List Nat} {w w' : World} (h : Fr S w w') {p : Addr} (hp : p.block < w.heap.size) (hn : p.block ∉ S) : w'.frozen? p = w.frozen? p :=
  World.frozen?_of_block (w := w) (h.block p.block hp hn)
/-- A block that is known stays. -/
theorem Fr.keep {S : List Nat} {w w' : World} (h : Fr S w w') {b : Nat} {o : Obj} (hb : w.heap[b]? = some o) (hn : b ∉ S) : w'.heap[b]? = some o :=
  (h.block b (lt_of_block hb) hn).trans hb

/-! A block of cells that is known whole. -/
theorem cell_of_block {w : World} {b : Nat} {c : Array Value} {E : TypeId} {fr : Nat × Nat} (h : w.heap[b]? = some (.cells c E fr)) (i : Nat) : w.cell? ⟨b, i, none⟩ = c[i]? := by
  simp [World.cell?, h]
theorem free_of_block {w : World} {b : Nat} {c : Array Value} {E : TypeId} (h : w.heap[b]? = some (.cells c E (0, 0))) (i : Nat) : w.frozen? ⟨b, i, none⟩ = false := by
  simp [World.frozen?, h]
theorem block_setCell {w : World} {b : Nat} {c : Array Value} {E : TypeId} {fr : Nat × Nat} (h : w.heap[b]? = some (.cells c E fr)) (i : Nat) (v : Value) :
    (w.setCell ⟨b, i, none⟩ v).heap[b]? = some (.cells (c.setIfInBounds i v) E fr) := by
  simp [World.setCell, Array.getElem?_modify, h]
theorem block_setCell_other {w : World} {b : Nat} {o : Option Obj} (h : w.heap[b]? = o) {p : Addr} (hp : p.block ≠ b) (v : Value) : (w.setCell p v).heap[b]? = o := by
  rw [Below.heap_setCell _ _ _ _ (fun e => hp e.symm)]; exact h
theorem block_alloc {w : World} {b : Nat} {o : Obj} (h : w.heap[b]? = some o) (x : Obj) : (w.alloc x).heap[b]? = some o := by
  rw [Below.heap_alloc _ _ _ (lt_of_block h)]; exact h
theorem block_alloc_new (w : World) (x : Obj) : (w.alloc x).heap[w.heap.size]? = some x := by
  show (w.heap.push x)[w.heap.size]? = _
  simp

theorem ret_int {k : IntKind} {a b : Int} (h : a = b) : Ending.returned (.int k a) = .returned (.int k b) := by rw [h]
theorem ret_bool {a b : Bool} (h : a = b) : Ending.returned (.bool a) = .returned (.bool b) := by rw [h]

/-- The kind of an int: within its bounds. -/
def I64 (x : Int) : Prop := -9223372036854775808 ≤ x ∧ x ≤ 9223372036854775807
end Go.Proofs.YtcnkhjgpjchkeaaGreat

namespace Go.Proofs.YtcnkhjgpjchkeaaGreat
open Go.RowKit

/-- Two numbers together, at most the greatest one. -/
def sadd (a b : Nat) : Nat := min (a + b) 18446744073709551615
theorem sadd_lt (a b : Nat) : sadd a b < 18446744073709551616 := by unfold sadd; omega
theorem sadd_le (a b : Nat) (ha : a < 18446744073709551616) : a ≤ sadd a b := by unfold sadd; omega

theorem ret_u64 {a b : Int} (h : a = b) : Ending.returned (.int .u64 a) = .returned (.int .u64 b) := by rw [h]
theorem satadd_spec (w : World) (a b : Nat) (ha : a < 18446744073709551616) :
    Calls Tryz.prog 109 #[.int .u64 a, .int .u64 b] w fun e w' => e = .returned (.int .u64 (sadd a b : Nat)) ∧ w' = w := by
  obtain ⟨left, hleft⟩ : ∃ x, x = 18446744073709551615 - a := ⟨_, rfl⟩
  have hw1 : IntKind.u64.wrap (18446744073709551615 - (a : Int)) = (left : Int) := by rw [IntKind.wrap_u64]; omega
  obtain ⟨mn, hmn⟩ : ∃ x, x = min b left := ⟨_, rfl⟩
  have hw2 : (if left < b then (left : Int) else (b : Int)) = (mn : Int) := by split <;> omega
  obtain ⟨S, hS⟩ : ∃ x, x = sadd a b := ⟨_, rfl⟩
  have hw3 : IntKind.u64.wrap ((a : Int) + (mn : Int)) = (S : Int) := by rw [IntKind.wrap_u64]; unfold sadd at hS; omega
  rw [← hS]
  clear hleft hmn hS ha
  go_enter Tryz.func109, Tryz.ntmps109
  go_wp2_with fail
  go_ret
  exact ⟨rfl, rfl⟩
theorem refadd_spec (w : World) (a b : Nat) (ha : a < 18446744073709551616) (hb : b < 18446744073709551616) :
    Calls Tryz.prog 11 #[.int .u64 a, .int .u64 b] w fun e w' => e = .returned (.int .u64 (sadd a b : Nat)) ∧ w' = w := by
  obtain ⟨left, hleft⟩ : ∃ x, x = 18446744073709551615 - b := ⟨_, rfl⟩
  have hw1 : IntKind.u64.wrap (18446744073709551615 - (b : Int)) = (left : Int) := by rw [IntKind.wrap_u64]; omega
  by_cases h : left < a
  · have hs : sadd a b = 18446744073709551615 := by unfold sadd; omega
    have HS := Lib.hid hs
    clear hleft hs ha hb
    go_enter Tryz.func11, Tryz.ntmps11
    go_wp2_with fail
    go_ret
    exact ⟨by rw [HS.out]; rfl, rfl⟩
  · have hs : sadd a b = a + b := by unfold sadd; omega
    have hw3 : IntKind.u64.wrap ((a : Int) + (b : Int)) = ((a + b : Nat) : Int) := by rw [IntKind.wrap_u64]; omega
    have HS := Lib.hid hs
    clear hleft hs ha hb
    go_enter Tryz.func11, Tryz.ntmps11
    go_wp2_with fail
    go_ret
    exact ⟨ret_u64 (by rw [HS.out]; omega), rfl⟩
end Go.Proofs.YtcnkhjgpjchkeaaGreat

namespace Go.Proofs.YtcnkhjgpjchkeaaGreat
open Go.RowKit

/-- v is a slice of m elements, each of 'size' cells, that reads as the cells 'news'. -/
def Src (w : World) (size : Nat) (v : Value) (m : Nat) (news : List Value) : Prop :=
  ∃ ao c, v = .slice ao m c ∧ news.length = m * size ∧ m ≤ c ∧ (ao = none → m = 0 ∧ c = 0) ∧ (∀ u ∈ news, u.oneCell' = true) ∧ ∀ j u, news[j]? = some u → ∃ b o, ao = some ⟨b, o, none⟩ ∧ w.cell? ⟨b, o + j, none⟩ = some u

theorem Src.fr {w w' : World} {size m : Nat} {v : Value} {news : List Value} (h : Src w size v m news) {S : List Nat} (k : Fr S w w') (hn : ∀ g, v.ownBlock = some g → g ∉ S) : Src w' size v m news := by
  obtain ⟨ao, c, rfl, h2, h3, h4, h5, h6⟩ := h
  refine ⟨ao, c, rfl, h2, h3, h4, h5, fun j u hj => ?_⟩
  obtain ⟨b, o, hb, hc⟩ := h6 j u hj
  exact ⟨b, o, hb, by rw [k.cell (World.block_lt_of_cell? _ _ hc) (hn b (by simp [Value.ownBlock, hb]))]; exact hc⟩
theorem Src.alloc {w : World} {size m : Nat} {v : Value} {news : List Value} (h : Src w size v m news) (o : Obj) : Src (w.alloc o) size v m news :=
  h.fr (S := []) ((Fr.refl _ _).alloc o) (fun _ _ => by simp)
theorem Src.drew {w : World} {size m : Nat} {v : Value} {news : List Value} (h : Src w size v m news) : Src w.drew size v m news := h
theorem Src.drewN {w : World} {size m : Nat} {v : Value} {news : List Value} (h : Src w size v m news) (q : Nat) : Src (w.drewN q) size v m news := h

theorem run_app {P : Program} (w : World) (base : Nat) (t ty e : TypeId) (i : TypeInfo) (z : Value) (size bytes : Nat) (ht : P.underlying t = some (.slice e)) (hi : P.info? e = some i) (hz : i.zero = some z)
    (hsize : i.size = size) (hby : i.bytes = bytes) (hzs : z.cells.size = size) (hsz : 0 < size)
    (v : Value) (n : Nat) (xs : List Value) (hown : w.ownsRow base e size v n xs) (x : Value) (m : Nat) (news : List Value) (hx : Src w size x m news)
    (h63 : n + m ≤ maxLen) (hbytes : (n + m) * bytes ≤ 140737488355328) (hbase : base ≤ w.heap.size) :
    ∃ v' w', (Builtin.append_ #[t, t] ty #[v, x]).run P w = .ok v' w' ∧ w'.ownsRow base e size v' (n + m) (xs ++ news) ∧ w.grownBy w' v.ownBlock := by
  obtain ⟨ao, c, rfl, h2, h3, h4, h5, h6⟩ := hx
  cases ao with
  | some ad =>
    have hc : ∀ j u, news[j]? = some u → w.cell? (ad.add j) = some u := by
      intro j u hj
      obtain ⟨b, o, hb, hc⟩ := h6 j u hj
      simp only [Option.some.injEq] at hb
      subst hb
      rw [Addr.add_lit]
      exact hc
    obtain ⟨v', w', h1, h2, h3, _⟩ := run_append_own (P := P) w base t ty e i z size bytes ht hi hz hsize hby hzs hsz v n xs hown ad m c news h2 hc h5 h63 hbytes hbase
    exact ⟨v', w', h1, h2, h3⟩
  | none =>
    obtain ⟨rfl, rfl⟩ := h4 rfl
    have hnews : news = [] := List.eq_nil_of_length_eq_zero (by simpa using h2)
    subst hnews
    exact ⟨v, w, run_append_owned_none (P := P) (w := w) base t ty e i size ht hi v n xs hown, by simpa using hown, World.grownBy.refl _ _⟩

theorem oper_app {P : Program} {o : Oper} {a : Act} {w : World} {K : Act → World → Prop} {Q : Exit → Act → World → Prop}
    (s x : Operand) (t : TypeId) (hop : o.op = Op.call { callee := Callee.builtin Builtin.append, args := #[s, x], argTypes := #[t, t] })
    (base : Nat) (e : TypeId) (i : TypeInfo) (z : Value) (size bytes : Nat) (ht : P.underlying t = some (.slice e)) (hi : P.info? e = some i) (hz : i.zero = some z)
    (hsize : i.size = size) (hby : i.bytes = bytes) (hzs : z.cells.size = size) (hsz : 0 < size)
    (v : Value) (n : Nat) (xs : List Value) (hs : a.eval s = v) (hown : w.ownsRow base e size v n xs) (y : Value) (m : Nat) (news : List Value) (hy : a.eval x = y) (hx : Src w size y m news)
    (h63 : n + m ≤ maxLen) (hbytes : (n + m) * bytes ≤ 140737488355328) (hbase : base ≤ w.heap.size)
    (hK : ∀ v' w', w'.ownsRow base e size v' (n + m) (xs ++ news) → w.grownBy w' v.ownBlock → K (a.put o.dst v') w') : o.wp P a w K Q := by
  subst hy
  obtain ⟨v', w', hr, h2, h3⟩ := run_app (P := P) w base t o.type e i z size bytes ht hi hz hsize hby hzs hsz v n xs hown _ m news hx h63 hbytes hbase
  unfold Oper.wp execOp
  simp only [hop, resolve, invoke, builtin, Sem.run_bind, Sem.run_pure, Result.andThen_ok, List.map_toArray, List.map_cons, List.map_nil, hs, hr]
  exact hK v' w' h2 h3

/-- The law for a walk. -/
theorem wpList_app {P : Program} {w : World} {ops : Array Oper} {rest : List Oper} {o : Oper} {a : Act} {Q : Exit → Act → World → Prop} (hg : o.guard = none)
    (s x : Operand) (t : TypeId) (hop : o.op = Op.call { callee := Callee.builtin Builtin.append, args := #[s, x], argTypes := #[t, t] })
    (base : Nat) (e : TypeId) (i : TypeInfo) (z : Value) (size bytes : Nat) (ht : P.underlying t = some (.slice e)) (hi : P.info? e = some i) (hz : i.zero = some z)
    (hsize : i.size = size) (hby : i.bytes = bytes) (hzs : z.cells.size = size) (hsz : 0 < size)
    (v : Value) (n : Nat) (xs : List Value) (hs : a.eval s = v) (hown : w.ownsRow base e size v n xs) (y : Value) (m : Nat) (news : List Value) (hy : a.eval x = y) (hx : Src w size y m news)
    (h63 : n + m ≤ maxLen) (hbytes : (n + m) * bytes ≤ 140737488355328) (hbase : base ≤ w.heap.size)
    (hK : ∀ v' w', w'.ownsRow base e size v' (n + m) (xs ++ news) → w.grownBy w' v.ownBlock → wpList P ops Q rest (a.put o.dst v') w') : wpList P ops Q (o :: rest) a w :=
  wpList_plain hg fun _ hK' => oper_app s x t hop base e i z size bytes ht hi hz hsize hby hzs hsz v n xs hs hown y m news hy hx h63 hbytes hbase fun v' w' h2 h3 => hK' _ _ (hK v' w' h2 h3)

/-- The law for a region that draws its order. -/
theorem step_app {P : Program} {ops : Array Oper} {o : Oper} {a : Act} {w : World} {K : Act → World → Prop} {Q : Exit → Act → World → Prop} {E : Prop} (hg : o.guard = none)
    (s x : Operand) (t : TypeId) (hop : o.op = Op.call { callee := Callee.builtin Builtin.append, args := #[s, x], argTypes := #[t, t] })
    (base : Nat) (e : TypeId) (i : TypeInfo) (z : Value) (size bytes : Nat) (ht : P.underlying t = some (.slice e)) (hi : P.info? e = some i) (hz : i.zero = some z)
    (hsize : i.size = size) (hby : i.bytes = bytes) (hzs : z.cells.size = size) (hsz : 0 < size)
    (v : Value) (n : Nat) (xs : List Value) (hs : a.eval s = v) (hown : w.ownsRow base e size v n xs) (y : Value) (m : Nat) (news : List Value) (hy : a.eval x = y) (hx : Src w size y m news)
    (h63 : n + m ≤ maxLen) (hbytes : (n + m) * bytes ≤ 140737488355328) (hbase : base ≤ w.heap.size)
    (hK : ∀ v' w', w'.ownsRow base e size v' (n + m) (xs ++ news) → w.grownBy w' v.ownBlock → K (a.put o.dst v') w') :
    if Region.wanted o (yielded ops a.tmps) = true then Oper.wp P o a w K Q else E := by
  have hw : Region.wanted o (yielded ops a.tmps) = true := by simp [Region.wanted, hg]
  rw [if_pos hw]
  exact oper_app s x t hop base e i z size bytes ht hi hz hsize hby hzs hsz v n xs hs hown y m news hy hx h63 hbytes hbase hK

/-- The empty slice that has just been made. -/
theorem owns_empty (w : World) (base : Nat) (E : TypeId) (size : Nat) (h : base ≤ w.heap.size) : (w.alloc (.cells #[] E)).ownsRow base E size (.slice (some ⟨w.heap.size, 0, none⟩) 0 0) 0 [] :=
  ⟨by simp, .inr ⟨w.heap.size, 0, #[], rfl, h, block_alloc_new _ _, Nat.le_refl _, by simp [maxLen], by simp, by simp⟩⟩
/-- One element that has just been boxed. -/
theorem Src.one (w : World) (E : TypeId) (v : Value) (hv : v.oneCell' = true) : Src (w.alloc (.cells #[v] E)) 1 (.slice (some ⟨w.heap.size, 0, none⟩) 1 1) 1 [v] :=
  ⟨_, _, rfl, rfl, Nat.le_refl _, (fun h => by cases h), (fun u hu => by simp at hu; subst hu; exact hv), (fun j u hj => ⟨w.heap.size, 0, rfl, by
    match j, hj with
    | 0, hj => simp at hj; subst hj; exact World.cell?_alloc_new w #[v] E 0⟩)⟩
theorem ownsRow_fr {w w' : World} {base : Nat} {e : TypeId} {size : Nat} {v : Value} {n : Nat} {xs : List Value} (h : w.ownsRow base e size v n xs) {S : List Nat} (k : Fr S w w') (hn : ∀ g, v.ownBlock = some g → g ∉ S) : w'.ownsRow base e size v n xs := by
  obtain ⟨h1, h2⟩ := h
  refine ⟨h1, ?_⟩
  rcases h2 with h2 | ⟨g, cap, cur, hv, hg, hh, r⟩
  · exact .inl h2
  · exact .inr ⟨g, cap, cur, hv, hg, k.keep hh (hn g (by simp [hv, Value.ownBlock])), r⟩
end Go.Proofs.YtcnkhjgpjchkeaaGreat

namespace Go.Proofs.YtcnkhjgpjchkeaaGreat
open Go.RowKit

theorem satsub_spec (w : World) (a b : Nat) (ha : a < 18446744073709551616) :
    Calls Tryz.prog 63 #[.int .u64 a, .int .u64 b] w fun e w' => e = .returned (.int .u64 ((a - b : Nat) : Int)) ∧ w' = w := by
  obtain ⟨S, hS⟩ : ∃ x, x = a - b := ⟨_, rfl⟩
  have HS := Lib.hid hS
  rw [← hS]
  clear hS
  go_enter Tryz.func63, Tryz.ntmps63
  go_wp2_with fail
  all_goals
    go_ret
    have hS := HS.out
    exact ⟨ret_u64 (by first | omega | (rw [IntKind.wrap_u64]; omega)), rfl⟩

theorem andlow (t : Nat) (ht : t < 18446744073709551616) : bits .and .u64 (t : Int) 4294967295 = ((t % 4294967296 : Nat) : Int) := by
  have := bits_and_u64_nat t 4294967295 ht (by decide)
  rw [show ((4294967295 : Nat) : Int) = 4294967295 from rfl] at this
  rw [this, show (4294967295 : Nat) = 2 ^ 32 - 1 from rfl, Nat.and_two_pow_sub_one_eq_mod]
theorem or_low (m l : Nat) (hl : l < 4294967296) (hm : m < 4294967296) : bits .or .u64 ((m * 4294967296 : Nat) : Int) (l : Int) = ((m * 4294967296 + l : Nat) : Int) := by
  rw [bits_or_u64_nat _ _ (by omega) (by omega)]
  have : m * 4294967296 ||| l = m * 4294967296 + l := by
    have := Nat.two_pow_add_eq_or_of_lt (i := 32) hl m
    rw [Nat.mul_comm] at this
    exact this.symm
  rw [this]
theorem mul_parts (a b : Nat) : a * b = (a / 4294967296) * (b / 4294967296) * 18446744073709551616 + ((a % 4294967296) * (b / 4294967296) + (a / 4294967296) * (b % 4294967296)) * 4294967296 + (a % 4294967296) * (b % 4294967296) := by
  have ea : a = a / 4294967296 * 4294967296 + a % 4294967296 := by omega
  have eb : b = b / 4294967296 * 4294967296 + b % 4294967296 := by omega
  generalize a / 4294967296 = p at *
  generalize a % 4294967296 = q at *
  generalize b / 4294967296 = r at *
  generalize b % 4294967296 = s at *
  subst ea eb
  simp only [Nat.add_mul, Nat.mul_add]
  have e1 : p * 4294967296 * (r * 4294967296) = p * r * 18446744073709551616 := by rw [Nat.mul_mul_mul_comm]
  have e2 : p * 4294967296 * s = p * s * 4294967296 := by rw [Nat.mul_right_comm]
  have e3 : q * (r * 4294967296) = q * r * 4294967296 := by rw [Nat.mul_assoc]
  omega
theorem lt_mul64 {a b : Nat} (ha : a < 4294967296) (hb : b < 4294967296) : a * b ≤ 18446744065119617025 := by
  have : a * b ≤ 4294967295 * 4294967295 := Nat.mul_le_mul (by omega) (by omega)
  omega
set_option maxHeartbeats 1000000 in
set_option maxRecDepth 20000 in
theorem wide_spec (w : World) (a b : Nat) (ha : a < 18446744073709551616) (hb : b < 18446744073709551616) :
    Calls Tryz.prog 151 #[.int .u64 a, .int .u64 b] w fun e w' => e = .returned (.tuple #[.int .u64 ((a * b / 18446744073709551616 : Nat) : Int), .int .u64 ((a * b % 18446744073709551616 : Nat) : Int)]) ∧ w' = w := by
  have h1 := andlow a ha
  have h2 := andlow b hb
  have hm := mul_parts a b
  generalize a * b = ab at *
  obtain ⟨al, hal⟩ : ∃ x, x = a % 4294967296 := ⟨_, rfl⟩
  obtain ⟨ah, hah⟩ : ∃ x, x = a / 4294967296 := ⟨_, rfl⟩
  obtain ⟨bl, hbl⟩ : ∃ x, x = b % 4294967296 := ⟨_, rfl⟩
  obtain ⟨bh, hbh⟩ : ∃ x, x = b / 4294967296 := ⟨_, rfl⟩
  have d1 : (a : Int) / 4294967296 = (ah : Int) := by omega
  have d2 : (b : Int) / 4294967296 = (bh : Int) := by omega
  rw [← hal] at h1 hm
  rw [← hbl] at h2 hm
  rw [← hah, ← hbh] at hm
  have k1 := lt_mul64 (show al < 4294967296 by omega) (show bl < 4294967296 by omega)
  have k2 := lt_mul64 (show al < 4294967296 by omega) (show bh < 4294967296 by omega)
  have k3 := lt_mul64 (show ah < 4294967296 by omega) (show bl < 4294967296 by omega)
  have k4 := lt_mul64 (show ah < 4294967296 by omega) (show bh < 4294967296 by omega)
  obtain ⟨ll, hll⟩ : ∃ x, x = al * bl := ⟨_, rfl⟩
  obtain ⟨lh, hlh⟩ : ∃ x, x = al * bh := ⟨_, rfl⟩
  obtain ⟨hl, hhl⟩ : ∃ x, x = ah * bl := ⟨_, rfl⟩
  obtain ⟨hh, hhh⟩ : ∃ x, x = ah * bh := ⟨_, rfl⟩
  have m1 : IntKind.u64.wrap ((al : Int) * (bl : Int)) = (ll : Int) := by rw [IntKind.wrap_u64, ← Int.natCast_mul, ← hll]; omega
  have m2 : IntKind.u64.wrap ((al : Int) * (bh : Int)) = (lh : Int) := by rw [IntKind.wrap_u64, ← Int.natCast_mul, ← hlh]; omega
  have m3 : IntKind.u64.wrap ((ah : Int) * (bl : Int)) = (hl : Int) := by rw [IntKind.wrap_u64, ← Int.natCast_mul, ← hhl]; omega
  have m4 : IntKind.u64.wrap ((ah : Int) * (bh : Int)) = (hh : Int) := by rw [IntKind.wrap_u64, ← Int.natCast_mul, ← hhh]; omega
  rw [← hll, ← hlh, ← hhl, ← hhh] at hm
  rw [← hll] at k1
  rw [← hlh] at k2
  rw [← hhl] at k3
  rw [← hhh] at k4
  clear hll hlh hhl hhh hal hah hbl hbh ha hb
  have n1 := andlow ll (by omega)
  have n2 := andlow lh (by omega)
  have n3 := andlow hl (by omega)
  obtain ⟨ll0, e1⟩ : ∃ x, x = ll % 4294967296 := ⟨_, rfl⟩
  obtain ⟨lh0, e2⟩ : ∃ x, x = lh % 4294967296 := ⟨_, rfl⟩
  obtain ⟨hl0, e3⟩ : ∃ x, x = hl % 4294967296 := ⟨_, rfl⟩
  rw [← e1] at n1
  rw [← e2] at n2
  rw [← e3] at n3
  obtain ⟨ll1, e4⟩ : ∃ x, x = ll / 4294967296 := ⟨_, rfl⟩
  obtain ⟨lh1, e5⟩ : ∃ x, x = lh / 4294967296 := ⟨_, rfl⟩
  obtain ⟨hl1, e6⟩ : ∃ x, x = hl / 4294967296 := ⟨_, rfl⟩
  have q1 : (ll : Int) / 4294967296 = (ll1 : Int) := by omega
  have q2 : (lh : Int) / 4294967296 = (lh1 : Int) := by omega
  have q3 : (hl : Int) / 4294967296 = (hl1 : Int) := by omega
  obtain ⟨ma, e7⟩ : ∃ x, x = ll1 + lh0 := ⟨_, rfl⟩
  obtain ⟨mid, e8⟩ : ∃ x, x = ma + hl0 := ⟨_, rfl⟩
  obtain ⟨mid0, e9⟩ : ∃ x, x = mid % 4294967296 := ⟨_, rfl⟩
  obtain ⟨mid1, e10⟩ : ∃ x, x = mid / 4294967296 := ⟨_, rfl⟩
  have s1 : IntKind.u64.wrap ((ll1 : Int) + (lh0 : Int)) = (ma : Int) := by rw [IntKind.wrap_u64]; omega
  have s2 : IntKind.u64.wrap ((ma : Int) + (hl0 : Int)) = (mid : Int) := by rw [IntKind.wrap_u64]; omega
  have s3 : (mid : Int) / 4294967296 = (mid1 : Int) := by omega
  obtain ⟨ms, e14⟩ : ∃ x, x = mid0 * 4294967296 := ⟨_, rfl⟩
  obtain ⟨lo, e15⟩ : ∃ x, x = mid0 * 4294967296 + ll0 := ⟨_, rfl⟩
  have s4 : IntKind.u64.wrap ((mid : Int) * 4294967296) = (ms : Int) := by rw [IntKind.wrap_u64]; omega
  have s5 : bits .or .u64 (ms : Int) (ll0 : Int) = (lo : Int) := by rw [e14, e15]; exact or_low mid0 ll0 (by omega) (by omega)
  obtain ⟨x1, e11⟩ : ∃ x, x = hh + lh1 := ⟨_, rfl⟩
  obtain ⟨x2, e12⟩ : ∃ x, x = x1 + hl1 := ⟨_, rfl⟩
  obtain ⟨hi, e13⟩ : ∃ x, x = x2 + mid1 := ⟨_, rfl⟩
  have s6 : IntKind.u64.wrap ((hh : Int) + (lh1 : Int)) = (x1 : Int) := by rw [IntKind.wrap_u64]; omega
  have s7 : IntKind.u64.wrap ((x1 : Int) + (hl1 : Int)) = (x2 : Int) := by rw [IntKind.wrap_u64]; omega
  have s8 : IntKind.u64.wrap ((x2 : Int) + (mid1 : Int)) = (hi : Int) := by rw [IntKind.wrap_u64]; omega
  have r1 : ab / 18446744073709551616 = hi := by omega
  have r2 : ab % 18446744073709551616 = lo := by omega
  rw [r1, r2]
  clear e1 e2 e3 e4 e5 e6 e7 e8 e9 e10 e11 e12 e13 e14 e15 r1 r2 hm k1 k2 k3 k4
  go_enter Tryz.func151, Tryz.ntmps151
  go_wp2_with fail
  go_ret2
  exact ⟨rfl, rfl⟩

/-- A part of a whole: so many of a hundred, or more. -/
def watl (p w : Nat) (q : Int) : Bool := decide (w * q.toNat ≤ p * 100)
theorem ret_boolS {a b : Bool} (h : a = b) : Ending.returned (.bool a) = .returned (.bool b) := by rw [h]
set_option maxHeartbeats 1000000 in
theorem atleast_spec (w : World) (p t : Nat) (q : Int) (hp : p < 18446744073709551616) (ht : t < 18446744073709551616) (hq : q ≤ 9223372036854775807) :
    Calls Tryz.prog 112 #[.int .u64 p, .int .u64 t, .int .i64 q] w fun e w' => e = .returned (.bool (watl p t q)) ∧ w' = w := by
  have HW1 := Lib.hid (wide_spec w p 100 hp (by decide))
  have HW2 := Lib.hid (wide_spec w t q.toNat ht (by omega))
  have HX : Hid (watl p t q = (decide (t * q.toNat / 18446744073709551616 < p * 100 / 18446744073709551616) || (decide (p * 100 / 18446744073709551616 = t * q.toNat / 18446744073709551616) && decide (t * q.toNat % 18446744073709551616 ≤ p * 100 % 18446744073709551616)))) := Lib.hid (by
    unfold watl
    generalize t * q.toNat = x
    generalize p * 100 = y
    by_cases h : x ≤ y
    · simp [h]; omega
    · simp [h]; omega)
  rw [HX.out]
  obtain ⟨Q, hQ⟩ : ∃ x, x = q.toNat := ⟨_, rfl⟩
  rw [← hQ] at HW2 ⊢
  generalize p * 100 / 18446744073709551616 = a at *
  generalize p * 100 % 18446744073709551616 = b at *
  generalize t * Q / 18446744073709551616 = c at *
  generalize t * Q % 18446744073709551616 = d at *
  have HQ := Lib.hid hQ
  have hwq : IntKind.u64.wrap (if q < 0 then 0 else q) = (Q : Int) := by rw [IntKind.wrap_u64]; split <;> omega
  clear hp ht hQ
  go_enter Tryz.func112, Tryz.ntmps112
  go_wp2_with fail
  refine HW1.out.mono ?_
  rintro e w1 ⟨rfl, rfl⟩
  go_wp2_with fail
  all_goals (
    refine HW2.out.mono ?_
    rintro e w2 ⟨rfl, rfl⟩
    by_cases e1 : c < a
    · go_wp2_with fail
      go_ret
      exact ⟨ret_boolS (by simp [e1]), rfl⟩
    · by_cases e2 : a = c
      · subst e2
        go_wp2_with fail
        go_ret
        exact ⟨ret_boolS (by simp), rfl⟩
      · have e3 : ((a : Int) == (c : Int)) = false := by simp; omega
        go_wp2_with fail
        go_ret
        exact ⟨ret_boolS (by simp [e1, e2]), rfl⟩)

/-- The sum of some numbers. -/
def ssum (l : List Nat) : Nat := l.foldl sadd 0
theorem ssum_snoc (l : List Nat) (a : Nat) : ssum (l ++ [a]) = sadd (ssum l) a := by unfold ssum; rw [List.foldl_append]; rfl
theorem ssum_lt (l : List Nat) : ssum l < 18446744073709551616 := by
  rcases List.eq_nil_or_concat l with rfl | ⟨l', a, rfl⟩
  · decide
  · rw [List.concat_eq_append, ssum_snoc]; exact sadd_lt _ _
/-- A slice of counts that reads as l. -/
def Nats (w : World) (v : Value) (l : List Nat) : Prop :=
  ∃ ao cap, v = .slice ao l.length cap ∧ ∀ i, i < l.length → ∃ b o, ao = some ⟨b, o, none⟩ ∧ w.cell? ⟨b, o + i, none⟩ = some (.int .u64 (l.getD i 0 : Nat))
theorem satsum_spec {w : World} {v : Value} {l : List Nat} (hl : Nats w v l) (h63 : l.length ≤ 9223372036854775807) :
    Calls Tryz.prog 111 #[v] w fun e w' => e = .returned (.int .u64 ((ssum l : Nat) : Int)) ∧ w' = w := by
  obtain ⟨ao, cap, rfl, h4⟩ := hl
  have H4 := Lib.hid h4
  clear h4
  go_enter Tryz.func111, Tryz.ntmps111
  go_wp2_with fail
  go_loop [3, 8] (fun s i => ∃ k : Nat, k ≤ l.length ∧ i = .int .i64 k ∧ s = .int .u64 ((ssum (l.take k) : Nat) : Int)) (fun _ i => l.length - (intOf i).toNat)
  case atStart => exact ⟨0, Nat.zero_le _, rfl, rfl⟩
  case round =>
    obtain ⟨k, hk, rfl, rfl⟩ := hrel
    by_cases hlt : k < l.length
    · obtain ⟨b, o, rfl, hc⟩ := H4.out k hlt
      have HA := Lib.hid (satadd_spec w (ssum (l.take k)) (l.getD k 0) (ssum_lt _))
      have HN : Hid (ssum (l.take (k + 1)) = sadd (ssum (l.take k)) (l.getD k 0)) := Lib.hid (by
        rw [List.take_succ_eq_append_getElem hlt, ssum_snoc]; simp [List.getD, hlt])
      generalize l.getD k 0 = x at *
      go_wp2_with fail
      refine HA.out.mono ?_
      rintro e w1 ⟨rfl, rfl⟩
      go_wp2_with fail
      go_round
      case rel => exact ⟨k + 1, by omega, by go_num, by rw [HN.out]⟩
      case measure => simp [intOf]; omega
    · obtain rfl : k = l.length := by omega
      go_wp2_with fail
      go_ret
      exact ⟨rfl, rfl⟩
end Go.Proofs.YtcnkhjgpjchkeaaGreat

namespace Go.Proofs.YtcnkhjgpjchkeaaGreat

/-- What was counted: of which bucket, and as which kind; buckets, their width, the time. -/
structure WinM where
  n : Nat
  width : Nat
  now : Nat
  L : List (Nat × Nat)
deriving DecidableEq
/-- How often a kind was counted in a bucket that stands in slot i. -/
def slotc (L : List (Nat × Nat)) (n a i k : Nat) : Nat := (L.filter fun e => decide (e.1 = a ∧ e.1 % n = i ∧ e.2 = k)).length
/-- How often a kind was counted in the last n buckets, up to b. -/
def totc (L : List (Nat × Nat)) (n b k : Nat) : Nat := (L.filter fun e => decide (b - e.1 < n ∧ e.2 = k)).length
def sumTo (f : Nat → Nat) : Nat → Nat
  | 0 => 0
  | i + 1 => sumTo f i + f i
theorem sumTo_add (f g : Nat → Nat) : ∀ n, sumTo (fun i => f i + g i) n = sumTo f n + sumTo g n
  | 0 => rfl
  | n + 1 => by simp only [sumTo, sumTo_add f g n]; omega
theorem sumTo_congr {f g : Nat → Nat} : ∀ n, (∀ i, i < n → f i = g i) → sumTo f n = sumTo g n
  | 0, _ => rfl
  | n + 1, h => by simp only [sumTo]; rw [sumTo_congr n (fun i hi => h i (by omega)), h n (by omega)]
theorem sumTo_zero : ∀ n, sumTo (fun _ => 0) n = 0
  | 0 => rfl
  | n + 1 => by simp only [sumTo]; rw [sumTo_zero n]
theorem sumTo_one (r c : Nat) : ∀ n, sumTo (fun i => if i = r then c else 0) n = if r < n then c else 0
  | 0 => by simp [sumTo]
  | n + 1 => by
    simp only [sumTo, sumTo_one r c n]
    by_cases h : r < n
    · rw [if_pos h, if_neg (by omega), if_pos (by omega)]; omega
    · rw [if_neg h]
      by_cases h2 : n = r
      · rw [if_pos h2, if_pos (by omega)]; omega
      · rw [if_neg h2, if_neg (by omega)]
theorem sumTo_mono (f : Nat → Nat) {i n : Nat} (h : i ≤ n) : sumTo f i ≤ sumTo f n := by
  induction n with
  | zero => obtain rfl : i = 0 := by omega
            exact Nat.le_refl _
  | succ n ih =>
    by_cases e : i = n + 1
    · subst e; exact Nat.le_refl _
    · have := ih (by omega)
      simp only [sumTo]; omega
theorem slotc_cons (e : Nat × Nat) (L : List (Nat × Nat)) (n a i k : Nat) : slotc (e :: L) n a i k = (if e.1 = a ∧ e.1 % n = i ∧ e.2 = k then 1 else 0) + slotc L n a i k := by
  unfold slotc
  rw [List.filter_cons]
  by_cases h : e.1 = a ∧ e.1 % n = i ∧ e.2 = k
  · rw [if_pos (decide_eq_true h), if_pos h, List.length_cons]; omega
  · rw [if_neg (by simpa using h), if_neg h]; omega
theorem totc_cons (e : Nat × Nat) (L : List (Nat × Nat)) (n b k : Nat) : totc (e :: L) n b k = (if b - e.1 < n ∧ e.2 = k then 1 else 0) + totc L n b k := by
  unfold totc
  rw [List.filter_cons]
  by_cases h : b - e.1 < n ∧ e.2 = k
  · rw [if_pos (decide_eq_true h), if_pos h, List.length_cons]; omega
  · rw [if_neg (by simpa using h), if_neg h]; omega
theorem slotc_snoc (e : Nat × Nat) (L : List (Nat × Nat)) (n a i k : Nat) : slotc (L ++ [e]) n a i k = slotc L n a i k + (if e.1 = a ∧ e.1 % n = i ∧ e.2 = k then 1 else 0) := by
  unfold slotc
  rw [List.filter_append, List.length_append]
  simp only [List.filter_cons, List.filter_nil]
  by_cases h : e.1 = a ∧ e.1 % n = i ∧ e.2 = k
  · rw [if_pos (decide_eq_true h), if_pos h]; rfl
  · rw [if_neg (by simpa using h), if_neg h]; rfl
theorem totc_snoc (e : Nat × Nat) (L : List (Nat × Nat)) (n b k : Nat) : totc (L ++ [e]) n b k = totc L n b k + (if b - e.1 < n ∧ e.2 = k then 1 else 0) := by
  unfold totc
  rw [List.filter_append, List.length_append]
  simp only [List.filter_cons, List.filter_nil]
  by_cases h : b - e.1 < n ∧ e.2 = k
  · rw [if_pos (decide_eq_true h), if_pos h]; rfl
  · rw [if_neg (by simpa using h), if_neg h]; rfl
theorem slotc_le (L : List (Nat × Nat)) (n a i k : Nat) : slotc L n a i k ≤ L.length := List.length_filter_le _ _
theorem totc_le (L : List (Nat × Nat)) (n b k : Nat) : totc L n b k ≤ L.length := List.length_filter_le _ _
theorem mod_near {a b n : Nat} (h1 : a ≤ b) (h2 : b - a < n) (h3 : b % n = a % n) : a = b := by
  have h := Nat.sub_mod_eq_zero_of_mod_eq h3
  rw [Nat.mod_eq_of_lt h2] at h
  omega
/-- What slots hold, of the last n buckets, is what was counted in these. -/
theorem sum_slots (n b k : Nat) (hn : 0 < n) (a : Nat → Nat) (ha : ∀ i, i < n → a i ≤ b) (hm : ∀ i, i < n → a i % n = i ∨ a i = 0) :
    ∀ L : List (Nat × Nat), (∀ e ∈ L, e.1 ≤ a (e.1 % n)) → sumTo (fun i => if b - a i < n then slotc L n (a i) i k else 0) n = totc L n b k := by
  intro L
  induction L with
  | nil =>
    intro _
    have : (fun i => if b - a i < n then slotc [] n (a i) i k else 0) = fun _ => 0 := by
      funext i; unfold slotc; simp
    rw [this, sumTo_zero]; rfl
  | cons e L ih =>
    intro hL
    have he := hL e (by simp)
    have := ih (fun x hx => hL x (by simp [hx]))
    rw [totc_cons, ← this]
    have hr : e.1 % n < n := Nat.mod_lt _ hn
    have key : (if b - e.1 < n ∧ e.2 = k then 1 else 0) = (if b - a (e.1 % n) < n ∧ e.1 = a (e.1 % n) ∧ e.2 = k then 1 else 0) := by
      have hab := ha _ hr
      have hmm := hm _ hr
      by_cases h : b - e.1 < n ∧ e.2 = k
      · rw [if_pos h, if_pos]
        have heq : e.1 = a (e.1 % n) := by
          rcases hmm with h1 | h1
          · exact mod_near he (by omega) h1
          · omega
        exact ⟨by omega, heq, h.2⟩
      · rw [if_neg h, if_neg]
        rintro ⟨h1, h2, h3⟩
        exact h ⟨by omega, h3⟩
    rw [key]
    have hsp : sumTo (fun i => if b - a i < n then slotc (e :: L) n (a i) i k else 0) n =
        sumTo (fun i => (if i = e.1 % n then (if b - a (e.1 % n) < n ∧ e.1 = a (e.1 % n) ∧ e.2 = k then 1 else 0) else 0) + (if b - a i < n then slotc L n (a i) i k else 0)) n := by
      refine sumTo_congr n fun i hi => ?_
      rw [slotc_cons]
      by_cases h : b - a i < n
      · rw [if_pos h, if_pos h]
        by_cases h2 : i = e.1 % n
        · subst h2
          rw [if_pos rfl]
          congr 1
          by_cases h3 : e.1 = a (e.1 % n) ∧ e.2 = k
          · rw [if_pos ⟨h3.1, rfl, h3.2⟩, if_pos ⟨h, h3⟩]
          · rw [if_neg (fun hh => h3 ⟨hh.1, hh.2.2⟩), if_neg (fun hh => h3 hh.2)]
        · rw [if_neg h2, if_neg (fun hh => h2 hh.2.1.symm)]
      · rw [if_neg h, if_neg h]
        by_cases h2 : i = e.1 % n
        · subst h2
          rw [if_pos rfl, if_neg (fun hh => h hh.1)]
        · rw [if_neg h2]
    rw [hsp, sumTo_add, sumTo_one, if_pos hr]

/-- What the slots are. -/
structure WinOk (K : Nat) (s : WinM) (a : Nat → Nat) : Prop where
  n1 : 1 ≤ s.n
  n8 : s.n ≤ 8
  wd : 1 ≤ s.width
  wd2 : s.width < 18446744073709551616
  now : s.now < 18446744073709551616
  len : s.L.length ≤ 1000000000000000
  at_le : ∀ i, i < 8 → a i ≤ s.now / s.width
  at_mod : ∀ i, i < 8 → a i % s.n = i ∨ a i = 0
  mem : ∀ e ∈ s.L, e.1 ≤ a (e.1 % s.n)
  kind : ∀ e ∈ s.L, e.2 < K

/-- The time moves. -/
def WinM.to (s : WinM) (now : Nat) : WinM := { s with now := max s.now now }
def WinM.bkt (s : WinM) : Nat := s.now / s.width
def WinM.add (s : WinM) (now kind : Nat) : WinM := { s.to now with L := s.L ++ [((s.to now).bkt, kind)] }
def WinM.cnt (s : WinM) (k : Nat) : Nat := totc s.L s.n s.bkt k
def WinM.reset (s : WinM) : WinM := { s with L := [] }
/-- The slots, when the time has moved. -/
def WinM.slots (s : WinM) (a : Nat → Nat) : Nat → Nat := fun i => if i = s.bkt % s.n then s.bkt else a i

theorem bkt_mono {s : WinM} (now : Nat) : s.bkt ≤ (s.to now).bkt := Nat.div_le_div_right (Nat.le_max_left _ _)
theorem WinOk.move {K : Nat} {s : WinM} {a : Nat → Nat} (h : WinOk K s a) (now : Nat) (hnow : now < 18446744073709551616) : WinOk K (s.to now) ((s.to now).slots a) := by
  have hb := bkt_mono (s := s) now
  refine ⟨h.n1, h.n8, h.wd, h.wd2, ?_, h.len, ?_, ?_, ?_, h.kind⟩
  · show max s.now now < _
    have := h.now; omega
  · intro i hi
    unfold WinM.slots
    split
    · exact Nat.le_refl _
    · exact Nat.le_trans (h.at_le i hi) hb
  · intro i hi
    unfold WinM.slots
    split
    · rename_i e; exact .inl e.symm
    · exact h.at_mod i hi
  · intro e he
    unfold WinM.slots
    have h1 := h.mem e he
    have h2 := h.at_le (e.1 % s.n) (Nat.lt_of_lt_of_le (Nat.mod_lt _ h.n1) h.n8)
    split
    · exact Nat.le_trans h1 (Nat.le_trans h2 hb)
    · exact h1
/-- What a slot holds, when the time has moved. -/
theorem slotc_move {K : Nat} {s : WinM} {a : Nat → Nat} (h : WinOk K s a) (now i k : Nat) :
    slotc s.L s.n ((s.to now).slots a i) i k = if i = (s.to now).bkt % s.n ∧ a i ≠ (s.to now).bkt then 0 else slotc s.L s.n (a i) i k := by
  unfold WinM.slots
  have hn : (s.to now).n = s.n := rfl
  rw [hn]
  by_cases h1 : i = (s.to now).bkt % s.n
  · rw [if_pos h1]
    by_cases h2 : a i = (s.to now).bkt
    · rw [if_neg (fun hh => hh.2 h2), h2]
    · rw [if_pos ⟨h1, h2⟩]
      unfold slotc
      rw [List.length_eq_zero_iff, List.filter_eq_nil_iff]
      intro e he hh
      simp only [decide_eq_true_eq] at hh
      obtain ⟨e1, e2, e3⟩ := hh
      have hm := h.mem e he
      have hi8 : i < 8 := by rw [h1]; exact Nat.lt_of_lt_of_le (Nat.mod_lt _ h.n1) h.n8
      have hl := h.at_le i hi8
      have hb := bkt_mono (s := s) now
      rw [e2] at hm
      have : a i ≤ (s.to now).bkt := Nat.le_trans hl hb
      omega
  · rw [if_neg h1, if_neg (fun hh => h1 hh.1)]
theorem WinOk.added {K : Nat} {s : WinM} {a : Nat → Nat} (h : WinOk K s a) (hat : a (s.bkt % s.n) = s.bkt) (kind : Nat) (hk : kind < K) (hl : s.L.length < 1000000000000000) : WinOk K { s with L := s.L ++ [(s.bkt, kind)] } a := by
  refine ⟨h.n1, h.n8, h.wd, h.wd2, h.now, ?_, h.at_le, h.at_mod, ?_, ?_⟩
  · simp; omega
  · intro e he
    rcases List.mem_append.1 he with he | he
    · exact h.mem e he
    · simp only [List.mem_cons, List.not_mem_nil, or_false] at he
      subst he
      show s.bkt ≤ a (s.bkt % s.n)
      omega
  · intro e he
    rcases List.mem_append.1 he with he | he
    · exact h.kind e he
    · simp only [List.mem_cons, List.not_mem_nil, or_false] at he
      subst he; exact hk
theorem slots_self (s : WinM) (a : Nat → Nat) : s.slots a (s.bkt % s.n) = s.bkt := by unfold WinM.slots; rw [if_pos rfl]
theorem WinOk.resetOk {K : Nat} {s : WinM} {a : Nat → Nat} (h : WinOk K s a) : WinOk K s.reset (fun _ => 0) :=
  ⟨h.n1, h.n8, h.wd, h.wd2, h.now, by simp [WinM.reset], fun _ _ => Nat.zero_le _, fun _ _ => .inr rfl, fun e he => by simp [WinM.reset] at he, fun e he => by simp [WinM.reset] at he⟩
theorem slotc_nil (n a i k : Nat) : slotc [] n a i k = 0 := rfl
/-- What Counts tells. -/
theorem WinOk.sum {K : Nat} {s : WinM} {a : Nat → Nat} (h : WinOk K s a) (k : Nat) :
    sumTo (fun i => if s.bkt - a i < s.n then slotc s.L s.n (a i) i k else 0) s.n = s.cnt k :=
  sum_slots s.n s.bkt k h.n1 a (fun i hi => h.at_le i (by have := h.n8; omega)) (fun i hi => h.at_mod i (by have := h.n8; omega)) s.L h.mem
theorem cnt_len (s : WinM) (k : Nat) : s.cnt k ≤ s.L.length := totc_le _ _ _ _
end Go.Proofs.YtcnkhjgpjchkeaaGreat

namespace Go.Proofs.YtcnkhjgpjchkeaaGreat
open Go.RowKit

/-- A breaker: its state, since when, how long it sleeps, how it is forced. -/
structure Brk where
  st : Int
  since : Nat
  sleep : Nat
  force : Int
deriving DecidableEq
def Brk.ask (s : Brk) (now : Nat) : Brk × Int :=
  if s.force = 1 then (s, 3) else if s.force = 2 ∨ s.st = 1 then (s, 1) else if s.st = 2 ∧ sadd s.since s.sleep ≤ now then ({ s with st := 3 }, 2) else (s, 3)
def Brk.trip (s : Brk) (now : Nat) : Brk := if s.st = 1 ∧ s.force = 0 then { s with st := 2, since := now } else s
def Brk.done (s : Brk) (now : Nat) (ok : Bool) : Brk := if s.st = 3 then (if ok then { s with st := 1 } else { s with st := 2, since := now }) else s
def Brk.back (s : Brk) : Brk := if s.st = 3 then { s with st := 2 } else s

def IsBrk (w : World) (b : Nat) (s : Brk) : Prop :=
  w.heap[b]? = some (.cells #[.int .i64 s.st, .int .u64 s.since, .int .u64 s.sleep, .int .i64 s.force] 167 (0, 0))
theorem IsBrk.fr {w w' : World} {b : Nat} {s : Brk} (h : IsBrk w b s) {S : List Nat} (k : Fr S w w') (hb : b ∉ S) : IsBrk w' b s := k.keep h hb
theorem IsBrk.cells {w : World} {b : Nat} {s : Brk} (h : IsBrk w b s) : w.cell? ⟨b, 0, none⟩ = some (.int .i64 s.st) ∧ w.cell? ⟨b, 1, none⟩ = some (.int .u64 s.since) ∧ w.cell? ⟨b, 2, none⟩ = some (.int .u64 s.sleep) ∧ w.cell? ⟨b, 3, none⟩ = some (.int .i64 s.force) ∧ w.frozen? ⟨b, 0, none⟩ = false ∧ w.frozen? ⟨b, 1, none⟩ = false :=
  ⟨by rw [cell_of_block h]; rfl, by rw [cell_of_block h]; rfl, by rw [cell_of_block h]; rfl, by rw [cell_of_block h]; rfl, free_of_block h 0, free_of_block h 1⟩
theorem IsBrk.set0 {w : World} {b : Nat} {s : Brk} (h : IsBrk w b s) (x : Int) : IsBrk (w.setCell ⟨b, 0, none⟩ (.int .i64 x)) b { s with st := x } := block_setCell h 0 _
theorem IsBrk.set01 {w : World} {b : Nat} {s : Brk} (h : IsBrk w b s) (x : Int) (n : Nat) : IsBrk ((w.setCell ⟨b, 0, none⟩ (.int .i64 x)).setCell ⟨b, 1, none⟩ (.int .u64 n)) b { s with st := x, since := n } := block_setCell (block_setCell h 0 (.int .i64 x)) 1 _
theorem Fr.set0 (w : World) (b i : Nat) (v : Value) : Fr [b] w (w.setCell ⟨b, i, none⟩ v) := (Fr.refl _ _).setCell (.inl (by simp)) v

theorem brkState_nil (w : World) : Calls Tryz.prog 54 #[.pointer none] w fun e w' => e = .returned (.int .i64 0) ∧ w' = w := by
  go_enter Tryz.func54, Tryz.ntmps54
  go_wp2_with fail
  go_ret
  exact ⟨rfl, rfl⟩
theorem IsBrk.state {w : World} {b : Nat} {s : Brk} (h : IsBrk w b s) : Calls Tryz.prog 54 #[.pointer (some ⟨b, 0, none⟩)] w fun e w' => e = .returned (.int .i64 s.st) ∧ w' = w := by
  obtain ⟨c0, -⟩ := h.cells
  go_enter Tryz.func54, Tryz.ntmps54
  go_wp2_with fail
  go_ret
  exact ⟨rfl, rfl⟩
theorem IsBrk.open {w : World} {b : Nat} {s : Brk} (h : IsBrk w b s) (now : Nat) :
    Calls Tryz.prog 155 #[.pointer (some ⟨b, 0, none⟩), .int .u64 now] w fun e w' => e = .returned (.tuple #[]) ∧ IsBrk w' b { s with st := 2, since := now } ∧ Fr [b] w w' := by
  obtain ⟨c0, c1, c2, c3, f0, f1⟩ := h.cells
  have H := Lib.hid (h.set01 2 now)
  have HF := Lib.hid ((Fr.set0 w b 0 (.int .i64 2)).trans (Fr.set0 _ b 1 (.int .u64 now)))
  clear h
  go_enter Tryz.func155, Tryz.ntmps155
  go_wp2_with fail
  go_end0
  exact ⟨rfl, H.out, HF.out⟩
theorem IsBrk.tripC {w : World} {b : Nat} {s : Brk} (h : IsBrk w b s) (now : Nat) :
    Calls Tryz.prog 118 #[.pointer (some ⟨b, 0, none⟩), .int .u64 now] w fun e w' => (∃ r, e = .returned (.bool r)) ∧ IsBrk w' b (s.trip now) ∧ Fr [b] w w' := by
  obtain ⟨c0, c1, c2, c3, f0, f1⟩ := h.cells
  have HO := Lib.hid (h.open now)
  have H := Lib.hid h
  clear h
  unfold Brk.trip
  by_cases e1 : s.st = 1
  · by_cases e2 : s.force = 0
    · rw [if_pos ⟨e1, e2⟩]
      rw [e1] at c0
      rw [e2] at c3
      clear e1 e2
      go_enter Tryz.func118, Tryz.ntmps118
      go_wp2_with fail
      refine HO.out.mono ?_
      rintro e w1 ⟨rfl, B, F⟩
      have HB := Lib.hid B
      have HF := Lib.hid F
      clear B F
      go_wp2_with fail
      go_ret
      exact ⟨⟨_, rfl⟩, HB.out, HF.out⟩
    · rw [if_neg (fun h => e2 h.2)]
      rw [e1] at c0
      have b2 : (s.force == 0) = false := by simpa using e2
      clear e1 e2
      go_enter Tryz.func118, Tryz.ntmps118
      go_wp2_with fail
      go_ret
      exact ⟨⟨_, rfl⟩, H.out, Fr.refl _ _⟩
  · rw [if_neg (fun h => e1 h.1)]
    have b2 : (s.st == 1) = false := by simpa using e1
    clear e1
    go_enter Tryz.func118, Tryz.ntmps118
    go_wp2_with fail
    go_ret
    exact ⟨⟨_, rfl⟩, H.out, Fr.refl _ _⟩
theorem IsBrk.doneC {w : World} {b : Nat} {s : Brk} (h : IsBrk w b s) (now : Nat) (ok : Bool) :
    Calls Tryz.prog 119 #[.pointer (some ⟨b, 0, none⟩), .int .u64 now, .bool ok] w fun e w' => (∃ r, e = .returned (.bool r)) ∧ IsBrk w' b (s.done now ok) ∧ Fr [b] w w' := by
  obtain ⟨c0, c1, c2, c3, f0, f1⟩ := h.cells
  have HO := Lib.hid (h.open now)
  have HS := Lib.hid h.state
  have HC := Lib.hid (h.set0 1)
  have HCF := Lib.hid (Fr.set0 w b 0 (.int .i64 1))
  have H := Lib.hid h
  clear h
  unfold Brk.done
  by_cases e1 : s.st = 3
  · rw [if_pos e1]
    rw [e1] at HS
    rw [e1] at c0
    clear e1
    cases ok with
    | true =>
      simp only [if_true]
      go_enter Tryz.func119, Tryz.ntmps119
      go_wp2_with fail
      refine HS.out.mono ?_
      rintro e w1 ⟨rfl, rfl⟩
      go_wp2_with fail
      go_ret
      exact ⟨⟨_, rfl⟩, HC.out, HCF.out⟩
    | false =>
      simp only [Bool.false_eq_true, if_false]
      go_enter Tryz.func119, Tryz.ntmps119
      go_wp2_with fail
      refine HS.out.mono ?_
      rintro e w1 ⟨rfl, rfl⟩
      go_wp2_with fail
      refine HO.out.mono ?_
      rintro e w2 ⟨rfl, B, F⟩
      have HB := Lib.hid B
      have HF := Lib.hid F
      clear B F
      go_wp2_with fail
      go_ret
      exact ⟨⟨_, rfl⟩, HB.out, HF.out⟩
  · rw [if_neg e1]
    have b2 : (s.st == 3) = false := by simpa using e1
    clear e1
    go_enter Tryz.func119, Tryz.ntmps119
    go_wp2_with fail
    refine HS.out.mono ?_
    rintro e w1 ⟨rfl, rfl⟩
    go_wp2_with fail
    go_ret
    exact ⟨⟨_, rfl⟩, H.out, Fr.refl _ _⟩
theorem IsBrk.backC {w : World} {b : Nat} {s : Brk} (h : IsBrk w b s) :
    Calls Tryz.prog 132 #[.pointer (some ⟨b, 0, none⟩)] w fun e w' => (∃ r, e = .returned (.bool r)) ∧ IsBrk w' b s.back ∧ Fr [b] w w' := by
  obtain ⟨c0, c1, c2, c3, f0, f1⟩ := h.cells
  have HS := Lib.hid h.state
  have HC := Lib.hid (h.set0 2)
  have HCF := Lib.hid (Fr.set0 w b 0 (.int .i64 2))
  have H := Lib.hid h
  clear h
  unfold Brk.back
  by_cases e1 : s.st = 3
  · rw [if_pos e1]
    rw [e1] at HS
    rw [e1] at c0
    clear e1
    go_enter Tryz.func132, Tryz.ntmps132
    go_wp2_with fail
    refine HS.out.mono ?_
    rintro e w1 ⟨rfl, rfl⟩
    go_wp2_with fail
    go_ret
    exact ⟨⟨_, rfl⟩, HC.out, HCF.out⟩
  · rw [if_neg e1]
    have b2 : (s.st == 3) = false := by simpa using e1
    clear e1
    go_enter Tryz.func132, Tryz.ntmps132
    go_wp2_with fail
    refine HS.out.mono ?_
    rintro e w1 ⟨rfl, rfl⟩
    go_wp2_with fail
    go_ret
    exact ⟨⟨_, rfl⟩, H.out, Fr.refl _ _⟩
theorem IsBrk.askC {w : World} {b : Nat} {s : Brk} (h : IsBrk w b s) (now : Nat) (hs : s.since < 18446744073709551616) :
    Calls Tryz.prog 130 #[.pointer (some ⟨b, 0, none⟩), .int .u64 now] w fun e w' => e = .returned (.int .i64 (s.ask now).2) ∧ IsBrk w' b (s.ask now).1 ∧ Fr [b] w w' := by
  obtain ⟨c0, c1, c2, c3, f0, f1⟩ := h.cells
  have HA := Lib.hid (fun w' => satadd_spec w' s.since s.sleep hs)
  have HC := Lib.hid (fun q => IsBrk.set0 (w := w.drewN q) (b := b) (s := s) h 3)
  have HCF := Lib.hid (fun q => ((Fr.of_drewN (S := [b]) w q).trans (Fr.set0 _ b 0 (.int .i64 3))))
  have H := Lib.hid h
  clear h hs
  unfold Brk.ask
  generalize sadd s.since s.sleep = due at *
  by_cases e1 : s.force = 1
  · rw [if_pos e1]
    rw [e1] at c3
    clear e1
    go_enter Tryz.func130, Tryz.ntmps130
    go_wp2_with fail
    go_ret
    exact ⟨rfl, H.out, Fr.refl _ _⟩
  rw [if_neg e1]
  have b1 : (s.force == 1) = false := by simpa using e1
  by_cases e2 : s.force = 2
  · rw [if_pos (.inl e2)]
    rw [e2] at c3
    clear e1 e2 b1
    go_enter Tryz.func130, Tryz.ntmps130
    go_wp2_with fail
    go_ret
    exact ⟨rfl, H.out, Fr.refl _ _⟩
  have b2 : (s.force == 2) = false := by simpa using e2
  by_cases e3 : s.st = 1
  · rw [if_pos (.inr e3)]
    rw [e3] at c0
    clear e1 e2 e3
    go_enter Tryz.func130, Tryz.ntmps130
    go_wp2_with fail
    go_ret
    exact ⟨rfl, H.out, Fr.refl _ _⟩
  have b3 : (s.st == 1) = false := by simpa using e3
  rw [if_neg (by rintro (h | h) <;> contradiction)]
  by_cases e4 : s.st = 2
  · rw [e4] at c0
    by_cases e5 : due ≤ now
    · rw [if_pos ⟨e4, e5⟩]
      clear e1 e2 e3 e4
      have b5 : decide (due ≤ now) = true := decide_eq_true e5
      go_enter Tryz.func130, Tryz.ntmps130
      go_wp2_with fail
      go_quiet ((go_at_call 109; exact Calls.quiet_of ((HA.out _).mono (fun e w' h => ⟨h.1, 0, by rw [h.2]; rfl⟩))))
      go_wp2_with fail
      go_ret
      exact ⟨rfl, HC.out _, HCF.out _⟩
    · rw [if_neg (fun h => e5 h.2)]
      clear e1 e2 e3 e4
      have b5 : decide (due ≤ now) = false := decide_eq_false e5
      go_enter Tryz.func130, Tryz.ntmps130
      go_wp2_with fail
      go_quiet ((go_at_call 109; exact Calls.quiet_of ((HA.out _).mono (fun e w' h => ⟨h.1, 0, by rw [h.2]; rfl⟩))))
      go_wp2_with fail
      go_ret
      exact ⟨rfl, H.out, Fr.of_drewN _ _⟩
  · rw [if_neg (fun h => e4 h.1)]
    have b4 : (s.st == 2) = false := by simpa using e4
    clear e1 e2 e3 e4
    go_enter Tryz.func130, Tryz.ntmps130
    go_wp2_with fail
    go_quiet (fail)
    go_wp2_with fail
    go_ret
    exact ⟨rfl, H.out, Fr.of_drewN _ _⟩
end Go.Proofs.YtcnkhjgpjchkeaaGreat

namespace Go.Proofs.YtcnkhjgpjchkeaaGreat
open Go.RowKit

/-- A call: how many arguments, its members (command, place), how far it is, which fallback, why it failed, since when. -/
structure CallM where
  nargs : Nat
  ms : List (Int × Int)
  st : Int
  step : Int
  cause : Int
  start : Nat
deriving DecidableEq
instance : Inhabited CallM := ⟨⟨0, [], 0, 0, 0, 0⟩⟩
def leadOf (ms : List (Int × Int)) : Int := (ms.head?.map (·.1)).getD 0
def CallM.lead (c : CallM) : Int := leadOf c.ms
def CallM.run (c : CallM) : CallM := if c.st = 1 then { c with st := 2 } else c
/-- .. falls back; whether there is one more. -/
def CallM.fail (c : CallM) (cause chain : Int) : CallM × Bool :=
  if 1 ≤ c.st ∧ c.st ≤ 3 then
    (if chain ≤ c.step then ({ c with cause := if c.st = 3 then c.cause else cause, st := 4 }, false)
     else ({ c with cause := if c.st = 3 then c.cause else cause, st := 3, step := c.step + 1 }, true))
  else (c, false)
def CallM.fin (c : CallM) : CallM := if 1 ≤ c.st ∧ c.st ≤ 3 then { c with st := 4 } else c

/-- v is a slice of members that reads as ms; its block is one of members. -/
def Mems (w : World) (v : Value) (ms : List (Int × Int)) : Prop :=
  ∃ ao cap, v = .slice ao ms.length cap ∧ ms.length ≤ cap ∧ ∀ i, i < ms.length → ∃ g o cs fr, ao = some ⟨g, o, none⟩ ∧ w.heap[g]? = some (.cells cs 191 fr) ∧
    cs[o + i * 2]? = some (.int .i64 (ms.getD i (0, 0)).1) ∧ cs[o + i * 2 + 1]? = some (.int .i64 (ms.getD i (0, 0)).2)
/-- No block of S is one of members. -/
def NoMem (w : World) (S : List Nat) : Prop := ∀ s ∈ S, ∀ cs fr, w.heap[s]? ≠ some (.cells cs 191 fr)
theorem NoMem.nil (w : World) : NoMem w [] := fun s h => by cases h
theorem NoMem.cons {w : World} {s : Nat} {S : List Nat} (h : NoMem w S) {o : Obj} (hb : w.heap[s]? = some o) (hne : ∀ cs fr, o ≠ .cells cs 191 fr) : NoMem w (s :: S) := by
  intro x hx cs fr e
  rcases List.mem_cons.1 hx with rfl | hx
  · rw [hb] at e; exact hne cs fr (Option.some.inj e)
  · exact h x hx cs fr e
theorem NoMem.app {w : World} {S T : List Nat} (h : NoMem w S) (k : NoMem w T) : NoMem w (S ++ T) := fun x hx cs fr => by
  rcases List.mem_append.1 hx with hx | hx
  · exact h x hx cs fr
  · exact k x hx cs fr
theorem Mems.fr {w w' : World} {v : Value} {ms : List (Int × Int)} (h : Mems w v ms) {S : List Nat} (k : Fr S w w') (hS : NoMem w S) : Mems w' v ms := by
  obtain ⟨ao, cap, h1, h2, h3⟩ := h
  refine ⟨ao, cap, h1, h2, fun i hi => ?_⟩
  obtain ⟨g, o, cs, fr, h4, h5, h6⟩ := h3 i hi
  exact ⟨g, o, cs, fr, h4, k.keep h5 (fun hg => hS g hg cs fr h5), h6⟩
theorem Mems.fr0 {w w' : World} {v : Value} {ms : List (Int × Int)} (h : Mems w v ms) (k : Fr [] w w') : Mems w' v ms := h.fr k (NoMem.nil w)
/-- v is a slice of so many arguments. -/
def ArgsV (v : Value) (n : Nat) : Prop := ∃ ao cap, v = .slice ao n cap
/-- v is the call c. -/
def CallV (w : World) (v : Value) (c : CallM) : Prop :=
  ∃ va vm, v = .agg #[va, vm, .int .i64 c.st, .int .i64 c.step, .int .i64 c.cause, .int .u64 c.start] ∧ ArgsV va c.nargs ∧ Mems w vm c.ms
theorem CallV.fr {w w' : World} {v : Value} {c : CallM} (h : CallV w v c) {S : List Nat} (k : Fr S w w') (hS : NoMem w S) : CallV w' v c := by
  obtain ⟨va, vm, h1, h2, h3⟩ := h
  exact ⟨va, vm, h1, h2, h3.fr k hS⟩
theorem CallV.fr0 {w w' : World} {v : Value} {c : CallM} (h : CallV w v c) (k : Fr [] w w') : CallV w' v c := h.fr k (NoMem.nil w)

theorem lead_spec {w : World} {a0 : Option Addr} {n0 c0 : Nat} {vm : Value} {ms : List (Int × Int)} (h : Mems w vm ms) (h63 : ms.length ≤ 9223372036854775807) :
    Calls Tryz.prog 70 #[.agg #[.slice a0 n0 c0, vm]] w fun e w' => e = .returned (.int .i64 (leadOf ms)) ∧ Fr [] w w' := by
  have HF := Lib.hid ((Fr.refl [] w).alloc (.cells #[.slice a0 n0 c0, vm] 91))
  obtain ⟨ao, cap, rfl, hc, h4⟩ := h
  cases ms with
  | nil =>
    clear h4
    go_enter Tryz.func70, Tryz.ntmps70
    go_wp2_with fail
    refine wp_loop_rounds 1 ?_
    rw [rounds_succ]
    go_wp2_with fail
    go_ret
    exact ⟨rfl, HF.out⟩
  | cons m ms =>
    obtain ⟨g, o, cs, fr, rfl, hb, m0, m1⟩ := h4 0 (by simp)
    have k0 := (HF.out.cell (p := ⟨g, o, none⟩) (lt_of_block hb) (by simp)).trans (show w.cell? ⟨g, o, none⟩ = some (.int .i64 m.1) by rw [cell_of_block hb]; simpa using m0)
    have k1 := (HF.out.cell (p := ⟨g, o + 1, none⟩) (lt_of_block hb) (by simp)).trans (show w.cell? ⟨g, o + 1, none⟩ = some (.int .i64 m.2) by rw [cell_of_block hb]; simpa using m1)
    have hl : 0 < (m :: ms).length := by simp
    have HL : Hid (leadOf (m :: ms) = m.1) := Lib.hid rfl
    rw [HL.out]
    clear h4 m0 m1
    generalize (m :: ms).length = n at *
    go_enter Tryz.func70, Tryz.ntmps70
    go_wp2_with fail
    refine wp_loop_rounds 1 ?_
    rw [rounds_succ]
    go_wp2_with fail
    go_ret
    exact ⟨rfl, HF.out.alloc _⟩
set_option maxHeartbeats 1000000 in
theorem begin_spec (w : World) (a0 : Option Addr) (n0 c0 : Nat) (a1 : Option Addr) (n1 c1 : Nat) (now : Nat) :
    Calls Tryz.prog 72 #[.agg #[.slice a0 n0 c0, .slice a1 n1 c1], .int .u64 now] w fun e w' => e = .returned (.agg #[.slice a0 n0 c0, .slice a1 n1 c1, .int .i64 1, .int .i64 0, .int .i64 0, .int .u64 now]) ∧ Fr [] w w' := by
  go_enter Tryz.func72, Tryz.ntmps72
  go_wp2_with fail
  refine bodyPost_ret (v := .agg #[.slice a0 n0 c0, .slice a1 n1 c1, .int .i64 1, .int .i64 0, .int .i64 0, .int .u64 now]) (by simp [results, Tryz.results72, go_sem]) rfl ?_
  exact ⟨rfl, ((Fr.refl [] w).alloc _).alloc _⟩
set_option maxHeartbeats 1000000 in
theorem run_spec (w : World) (a0 : Option Addr) (n0 c0 : Nat) (a1 : Option Addr) (n1 c1 : Nat) (st step cause : Int) (start : Nat) :
    Calls Tryz.prog 137 #[.agg #[.slice a0 n0 c0, .slice a1 n1 c1, .int .i64 st, .int .i64 step, .int .i64 cause, .int .u64 start]] w fun e w' =>
      e = .returned (.tuple #[.agg #[.slice a0 n0 c0, .slice a1 n1 c1, .int .i64 (if st = 1 then 2 else st), .int .i64 step, .int .i64 cause, .int .u64 start], .bool (decide (st = 1))]) ∧ Fr [] w w' := by
  by_cases e1 : st = 1
  · subst e1
    go_enter Tryz.func137, Tryz.ntmps137
    go_wp2_with fail
    refine bodyPost_ret (v := .tuple #[.agg #[.slice a0 n0 c0, .slice a1 n1 c1, .int .i64 2, .int .i64 step, .int .i64 cause, .int .u64 start], .bool true]) (by simp [results, Tryz.results137, go_sem]) rfl ?_
    exact ⟨rfl, ((Fr.refl _ _).alloc _).alloc _⟩
  · have b1 : (st == 1) = false := by simpa using e1
    rw [if_neg e1, decide_eq_false e1]
    go_enter Tryz.func137, Tryz.ntmps137
    go_wp2_with fail
    refine bodyPost_ret (v := .tuple #[.agg #[.slice a0 n0 c0, .slice a1 n1 c1, .int .i64 st, .int .i64 step, .int .i64 cause, .int .u64 start], .bool false]) (by simp [results, Tryz.results137, go_sem]) rfl ?_
    exact ⟨rfl, ((Fr.refl _ _).alloc _).alloc _⟩
set_option maxHeartbeats 1000000 in
theorem end_spec (w : World) (a0 : Option Addr) (n0 c0 : Nat) (a1 : Option Addr) (n1 c1 : Nat) (st step cause : Int) (start : Nat) :
    Calls Tryz.prog 127 #[.agg #[.slice a0 n0 c0, .slice a1 n1 c1, .int .i64 st, .int .i64 step, .int .i64 cause, .int .u64 start]] w fun e w' =>
      e = .returned (.tuple #[.agg #[.slice a0 n0 c0, .slice a1 n1 c1, .int .i64 (if 1 ≤ st ∧ st ≤ 3 then 4 else st), .int .i64 step, .int .i64 cause, .int .u64 start], .bool (decide (1 ≤ st ∧ st ≤ 3))]) ∧ Fr [] w w' := by
  by_cases e1 : 1 ≤ st ∧ st ≤ 3
  · rw [if_pos e1, decide_eq_true e1]
    have b1 : ¬ st < 1 := by omega
    have b2 : ¬ 3 < st := by omega
    clear e1
    go_enter Tryz.func127, Tryz.ntmps127
    go_wp2_with fail
    refine bodyPost_ret (v := .tuple #[.agg #[.slice a0 n0 c0, .slice a1 n1 c1, .int .i64 4, .int .i64 step, .int .i64 cause, .int .u64 start], .bool true]) (by simp [results, Tryz.results127, go_sem]) rfl ?_
    exact ⟨rfl, ((Fr.refl _ _).alloc _).alloc _⟩
  · rw [if_neg e1, decide_eq_false e1]
    by_cases b1 : st < 1
    all_goals (
      go_enter Tryz.func127, Tryz.ntmps127
      first
        | (have b2 : 3 < st := by omega)
        | skip
      go_wp2_with fail
      refine bodyPost_ret (v := .tuple #[.agg #[.slice a0 n0 c0, .slice a1 n1 c1, .int .i64 st, .int .i64 step, .int .i64 cause, .int .u64 start], .bool false]) (by simp [results, Tryz.results127, go_sem]) rfl ?_
      exact ⟨rfl, ((Fr.refl _ _).alloc _).alloc _⟩)
set_option maxHeartbeats 4000000 in
theorem fail_spec (w : World) (a0 : Option Addr) (n0 c0 : Nat) (a1 : Option Addr) (n1 c1 : Nat) (st step cause : Int) (start : Nat) (why chain : Int) (hb : step ≤ 1000000) (hb2 : -1000000 ≤ step) :
    Calls Tryz.prog 121 #[.agg #[.slice a0 n0 c0, .slice a1 n1 c1, .int .i64 st, .int .i64 step, .int .i64 cause, .int .u64 start], .int .i64 why, .int .i64 chain] w fun e w' =>
      e = .returned (.tuple #[.agg #[.slice a0 n0 c0, .slice a1 n1 c1, .int .i64 (if 1 ≤ st ∧ st ≤ 3 then (if chain ≤ step then 4 else 3) else st), .int .i64 (if 1 ≤ st ∧ st ≤ 3 ∧ ¬ chain ≤ step then step + 1 else step), .int .i64 (if st = 1 ∨ st = 2 then why else cause), .int .u64 start], .bool (decide (1 ≤ st ∧ st ≤ 3 ∧ ¬ chain ≤ step))]) ∧ Fr [] w w' := by
  by_cases e1 : st = 1
  · subst e1
    by_cases k : chain ≤ step
    · rw [if_pos (by decide), if_pos k, if_neg (by simp [k]), if_pos (by decide), decide_eq_false (by simp [k])]
      go_enter Tryz.func121, Tryz.ntmps121
      go_wp2_with fail
      refine bodyPost_ret (v := .tuple #[.agg #[.slice a0 n0 c0, .slice a1 n1 c1, .int .i64 4, .int .i64 step, .int .i64 why, .int .u64 start], .bool false]) (by simp [results, Tryz.results121, go_sem]) rfl ?_
      exact ⟨rfl, ((Fr.refl _ _).alloc _).alloc _⟩
    · rw [if_pos (by decide), if_neg k, if_pos ⟨by decide, by decide, k⟩, if_pos (by decide), decide_eq_true ⟨by decide, by decide, k⟩]
      go_enter Tryz.func121, Tryz.ntmps121
      go_wp2_with fail
      refine bodyPost_ret (v := .tuple #[.agg #[.slice a0 n0 c0, .slice a1 n1 c1, .int .i64 3, .int .i64 (step + 1), .int .i64 why, .int .u64 start], .bool true]) (by simp [results, Tryz.results121, go_sem]) rfl ?_
      exact ⟨rfl, ((Fr.refl _ _).alloc _).alloc _⟩
  by_cases e2 : st = 2
  · subst e2
    by_cases k : chain ≤ step
    · rw [if_pos (by decide), if_pos k, if_neg (by simp [k]), if_pos (by decide), decide_eq_false (by simp [k])]
      go_enter Tryz.func121, Tryz.ntmps121
      go_wp2_with fail
      refine bodyPost_ret (v := .tuple #[.agg #[.slice a0 n0 c0, .slice a1 n1 c1, .int .i64 4, .int .i64 step, .int .i64 why, .int .u64 start], .bool false]) (by simp [results, Tryz.results121, go_sem]) rfl ?_
      exact ⟨rfl, ((Fr.refl _ _).alloc _).alloc _⟩
    · rw [if_pos (by decide), if_neg k, if_pos ⟨by decide, by decide, k⟩, if_pos (by decide), decide_eq_true ⟨by decide, by decide, k⟩]
      go_enter Tryz.func121, Tryz.ntmps121
      go_wp2_with fail
      refine bodyPost_ret (v := .tuple #[.agg #[.slice a0 n0 c0, .slice a1 n1 c1, .int .i64 3, .int .i64 (step + 1), .int .i64 why, .int .u64 start], .bool true]) (by simp [results, Tryz.results121, go_sem]) rfl ?_
      exact ⟨rfl, ((Fr.refl _ _).alloc _).alloc _⟩
  by_cases e3 : st = 3
  · subst e3
    by_cases k : chain ≤ step
    · rw [if_pos (by decide), if_pos k, if_neg (by simp [k]), if_neg (by decide), decide_eq_false (by simp [k])]
      go_enter Tryz.func121, Tryz.ntmps121
      go_wp2_with fail
      refine bodyPost_ret (v := .tuple #[.agg #[.slice a0 n0 c0, .slice a1 n1 c1, .int .i64 4, .int .i64 step, .int .i64 cause, .int .u64 start], .bool false]) (by simp [results, Tryz.results121, go_sem]) rfl ?_
      exact ⟨rfl, ((Fr.refl _ _).alloc _).alloc _⟩
    · rw [if_pos (by decide), if_neg k, if_pos ⟨by decide, by decide, k⟩, if_neg (by decide), decide_eq_true ⟨by decide, by decide, k⟩]
      go_enter Tryz.func121, Tryz.ntmps121
      go_wp2_with fail
      refine bodyPost_ret (v := .tuple #[.agg #[.slice a0 n0 c0, .slice a1 n1 c1, .int .i64 3, .int .i64 (step + 1), .int .i64 cause, .int .u64 start], .bool true]) (by simp [results, Tryz.results121, go_sem]) rfl ?_
      exact ⟨rfl, ((Fr.refl _ _).alloc _).alloc _⟩
  have b1 : (st == 1) = false := by simpa using e1
  have b2 : (st == 2) = false := by simpa using e2
  have b3 : (st == 3) = false := by simpa using e3
  rw [if_neg (by omega), if_neg (by omega), if_neg (by omega), decide_eq_false (by omega)]
  clear e1 e2 e3
  go_enter Tryz.func121, Tryz.ntmps121
  go_wp2_with fail
  refine bodyPost_ret (v := .tuple #[.agg #[.slice a0 n0 c0, .slice a1 n1 c1, .int .i64 st, .int .i64 step, .int .i64 cause, .int .u64 start], .bool false]) (by simp [results, Tryz.results121, go_sem]) rfl ?_
  exact ⟨rfl, ((Fr.refl _ _).alloc _).alloc _⟩
end Go.Proofs.YtcnkhjgpjchkeaaGreat

namespace Go.Proofs.YtcnkhjgpjchkeaaGreat
open Go.RowKit

/-- An outcome, as its cells. -/
structure Ou where
  id : Int
  kind : Int
  cause : Int
  val : Int
  tm : Int
deriving DecidableEq
def Ou.cells (e : Ou) : List Value := [.int .i64 e.id, .int .i64 e.kind, .int .i64 e.cause, .int .i64 e.val, .int .u64 e.tm]
def Ou.vl (e : Ou) : Value := .agg #[.int .i64 e.id, .int .i64 e.kind, .int .i64 e.cause, .int .i64 e.val, .int .u64 e.tm]
def Ou.obj (e : Ou) : Obj := .cells #[.int .i64 e.id, .int .i64 e.kind, .int .i64 e.cause, .int .i64 e.val, .int .u64 e.tm] 87
instance : Inhabited Ou := ⟨⟨0, 0, 0, 0, 0⟩⟩

/-- The five cells from an address on. -/
def At5 (w : World) (b o : Nat) (e : Ou) : Prop :=
  w.cell? ⟨b, o, none⟩ = some (.int .i64 e.id) ∧ w.cell? ⟨b, o + 1, none⟩ = some (.int .i64 e.kind) ∧ w.cell? ⟨b, o + 2, none⟩ = some (.int .i64 e.cause) ∧ w.cell? ⟨b, o + 3, none⟩ = some (.int .i64 e.val) ∧
  w.cell? ⟨b, o + 4, none⟩ = some (.int .u64 e.tm)
theorem At5.fr {w w' : World} {b o : Nat} {e : Ou} (h : At5 w b o e) {S : List Nat} (k : Fr S w w') (hn : b ∉ S) : At5 w' b o e := by
  obtain ⟨h0, h1, h2, h3, h4⟩ := h
  have key : ∀ {i : Nat} {v : Value}, w.cell? ⟨b, i, none⟩ = some v → w'.cell? ⟨b, i, none⟩ = some v := fun h => (k.cell (World.block_lt_of_cell? _ _ h) hn).trans h
  exact ⟨key h0, key h1, key h2, key h3, key h4⟩
theorem At5.lt {w : World} {b o : Nat} {e : Ou} (h : At5 w b o e) : b < w.heap.size := World.block_lt_of_cell? _ _ h.1
/-- A box that holds an outcome. -/
theorem At5.box {w : World} {b : Nat} {e : Ou} (h : w.heap[b]? = some e.obj) : At5 w b 0 e :=
  ⟨by rw [cell_of_block h]; rfl, by rw [cell_of_block h]; rfl, by rw [cell_of_block h]; rfl, by rw [cell_of_block h]; rfl, by rw [cell_of_block h]; rfl⟩

/-- v is a slice of outcomes that reads as l, and lies in no block below base. -/
def Ous (w : World) (base : Nat) (v : Value) (l : List Ou) : Prop :=
  ∃ ao cap, v = .slice ao l.length cap ∧ l.length ≤ cap ∧ (ao = none → cap = 0) ∧ ∀ i, i < l.length → ∃ b o, ao = some ⟨b, o, none⟩ ∧ base ≤ b ∧ At5 w b (o + i * 5) (l.getD i default)
theorem Ous.fr {w w' : World} {base : Nat} {v : Value} {l : List Ou} (h : Ous w base v l) {S : List Nat} (k : Fr S w w') (hS : ∀ x ∈ S, x < base) : Ous w' base v l := by
  obtain ⟨ao, cap, h1, h2, h3, h4⟩ := h
  refine ⟨ao, cap, h1, h2, h3, fun i hi => ?_⟩
  obtain ⟨b, o, h5, h6, h7⟩ := h4 i hi
  exact ⟨b, o, h5, h6, h7.fr k (fun hb => by have := hS b hb; omega)⟩
theorem Ous.fr0 {w w' : World} {base : Nat} {v : Value} {l : List Ou} (h : Ous w base v l) (k : Fr [] w w') : Ous w' base v l := h.fr k (by simp)

theorem take_snoc_ou {l : List Ou} {i : Nat} (h : i < l.length) : l.take (i + 1) = l.take i ++ [l.getD i default] := by
  rw [List.take_succ_eq_append_getElem h]
  simp [List.getD, h]


theorem cellsO_len (e : Ou) : e.cells.length = 5 := rfl
theorem flatO_len (l : List Ou) : (l.flatMap Ou.cells).length = l.length * 5 := by
  induction l with
  | nil => rfl
  | cons x l ih => rw [List.flatMap_cons, List.length_append, ih, cellsO_len, List.length_cons]; omega
theorem flatO_get : ∀ (l : List Ou) (i k : Nat), i < l.length → k < 5 → (l.flatMap Ou.cells)[i * 5 + k]? = (l.getD i default).cells[k]?
  | [], i, k, hi, _ => by simp at hi
  | x :: l, 0, k, _, hk => by
    rw [List.flatMap_cons, List.getElem?_append_left (by rw [cellsO_len]; omega)]
    simp
  | x :: l, i + 1, k, hi, hk => by
    rw [List.flatMap_cons, List.getElem?_append_right (by rw [cellsO_len]; omega), cellsO_len, show (i + 1) * 5 + k - 5 = i * 5 + k by omega, flatO_get l i k (by simpa using hi) hk]
    simp
theorem At5.get {w : World} {b o : Nat} {e : Ou} (h : At5 w b o e) {k : Nat} {u : Value} (hu : e.cells[k]? = some u) : w.cell? ⟨b, o + k, none⟩ = some u := by
  obtain ⟨h0, h1, h2, h3, h4⟩ := h
  unfold Ou.cells at hu
  match k, hu with
  | 0, hu => simp at hu; subst hu; exact h0
  | 1, hu => simp at hu; subst hu; exact h1
  | 2, hu => simp at hu; subst hu; exact h2
  | 3, hu => simp at hu; subst hu; exact h3
  | 4, hu => simp at hu; subst hu; exact h4
  | k + 5, hu => simp at hu
theorem At5.mk {w : World} {b o : Nat} {e : Ou} (h : ∀ k u, e.cells[k]? = some u → w.cell? ⟨b, o + k, none⟩ = some u) : At5 w b o e :=
  ⟨h 0 _ rfl, h 1 _ rfl, h 2 _ rfl, h 3 _ rfl, h 4 _ rfl⟩
theorem cellsO_one {e : Ou} {u : Value} (h : u ∈ e.cells) : u.oneCell' = true := by
  unfold Ou.cells at h
  simp only [List.mem_cons, List.not_mem_nil, or_false] at h
  rcases h with h | h | h | h | h <;> subst h <;> rfl

/-- Events as what is appended. -/
theorem Ous.src {w : World} {base : Nat} {v : Value} {l : List Ou} (h : Ous w base v l) : Src w 5 v l.length (l.flatMap Ou.cells) := by
  obtain ⟨ao, cap, rfl, h2, h3, h4⟩ := h
  refine ⟨ao, cap, rfl, flatO_len l, h2, fun h => ⟨by have := h3 h; omega, h3 h⟩, fun u hu => ?_, fun j u hj => ?_⟩
  · obtain ⟨e, _, he⟩ := List.mem_flatMap.1 hu
    exact cellsO_one he
  · have hlt : j < l.length * 5 := by
      rw [← flatO_len]
      exact (List.getElem?_eq_some_iff.1 hj).1
    have hi : j / 5 < l.length := by omega
    have e : j = j / 5 * 5 + j % 5 := by omega
    rw [e, flatO_get l _ _ hi (by omega)] at hj
    obtain ⟨b, o, h5, _, h7⟩ := h4 _ hi
    refine ⟨b, o, h5, ?_⟩
    have := h7.get hj
    rw [Nat.add_assoc, ← e] at this
    exact this
/-- What the call owns reads so. -/
theorem Ous.of_owns {w : World} {base : Nat} {v : Value} {l : List Ou} (h : w.ownsRow base 87 5 v l.length (l.flatMap Ou.cells)) : Ous w base v l := by
  obtain ⟨h1, h2⟩ := h
  rcases h2 with ⟨rfl, hn⟩ | ⟨g, cap, cur, rfl, hg, hh, hc, hm, hs, ht⟩
  · obtain rfl := List.eq_nil_of_length_eq_zero hn
    exact ⟨none, 0, rfl, by simp, fun _ => rfl, fun i hi => by simp at hi⟩
  · refine ⟨some ⟨g, 0, none⟩, cap, rfl, hc, fun e => by simp at e, fun i hi => ⟨g, 0, rfl, hg, At5.mk fun k u hu => ?_⟩⟩
    have hk : k < 5 := by
      rw [← cellsO_len (l.getD i default)]
      exact (List.getElem?_eq_some_iff.1 hu).1
    rw [Nat.zero_add, cell_of_block hh]
    have : (cur.toList.take (l.length * 5))[i * 5 + k]? = some u := by rw [ht, flatO_get l i k hi hk, hu]
    rw [List.getElem?_take, if_pos (by omega)] at this
    simpa using this
theorem Tryz.info_ou : (Tryz.prog.info? 87).map (fun i => (i.zero, i.size, i.bytes)) = some (some (.agg #[.int .i64 0, .int .i64 0, .int .i64 0, .int .i64 0, .int .u64 0]), 5, 40) := by kernel_rfl
end Go.Proofs.YtcnkhjgpjchkeaaGreat

namespace Go.Proofs.YtcnkhjgpjchkeaaGreat
open Go.RowKit

/-- The number at a place of a list. -/
def el (l : List Int) (j : Nat) : Int := l.getD j 0

/-- The cells of a ring: its array, where the first one stands, how many there are, how many there may be. -/
def ringCells (l : List Int) (f n m : Nat) : Array Value := (l.map (Value.int .i64) ++ [Value.int .i64 f, Value.int .i64 n, Value.int .i64 m]).toArray

/-- Block b is a ring that holds the numbers xs, of m at most. -/
def IsRing (w : World) (b : Nat) (xs : List Int) (m : Nat) : Prop :=
  ∃ (l : List Int) (f : Nat), l.length = 8 ∧ f < 8 ∧ m ≤ 8 ∧ xs.length ≤ m ∧ (∀ i, i < xs.length → el l ((f + i) % 8) = el xs i) ∧
    w.heap[b]? = some (.cells (ringCells l f xs.length m) 253 (0, 0))

theorem IsRing.drewN {w : World} {b : Nat} {xs : List Int} {m : Nat} (h : IsRing w b xs m) (n : Nat) : IsRing (w.drewN n) b xs m := h
theorem IsRing.dr {w w' : World} {b : Nat} {xs : List Int} {m : Nat} (h : IsRing w b xs m) (k : ∃ q, w' = w.drewN q) : IsRing w' b xs m := by obtain ⟨q, rfl⟩ := k; exact h
theorem IsRing.fr {w w' : World} {b : Nat} {xs : List Int} {m : Nat} (h : IsRing w b xs m) {S : List Nat} (k : Fr S w w') (hb : b ∉ S) : IsRing w' b xs m := by
  obtain ⟨l, f, h1, h2, h3, h4, h5, h6⟩ := h
  exact ⟨l, f, h1, h2, h3, h4, h5, k.keep h6 hb⟩
theorem IsRing.lt {w : World} {b : Nat} {xs : List Int} {m : Nat} (h : IsRing w b xs m) : b < w.heap.size := by
  obtain ⟨l, f, h1, h2, h3, h4, h5, h6⟩ := h
  exact lt_of_block h6

section
variable {w : World} {b : Nat} {l : List Int} {f n m : Nat} (hl : l.length = 8) (h : w.heap[b]? = some (.cells (ringCells l f n m) 253 (0, 0)))
include hl h
theorem ring_at (j : Nat) (hj : j < 8) : w.cell? ⟨b, j, none⟩ = some (.int .i64 (el l j)) := by
  rw [cell_of_block h]; simp [ringCells, List.getElem?_append, hl, hj, el]
theorem ring_8 : w.cell? ⟨b, 8, none⟩ = some (.int .i64 f) := by rw [cell_of_block h]; simp [ringCells, hl]
theorem ring_9 : w.cell? ⟨b, 9, none⟩ = some (.int .i64 n) := by rw [cell_of_block h]; simp [ringCells, hl]
theorem ring_10 : w.cell? ⟨b, 10, none⟩ = some (.int .i64 m) := by rw [cell_of_block h]; simp [ringCells, hl]
end
theorem ring_set_at {l : List Int} {f n m : Nat} (hl : l.length = 8) (j : Nat) (hj : j < 8) (x : Int) : (ringCells l f n m).setIfInBounds j (.int .i64 x) = ringCells (l.set j x) f n m := by
  simp [ringCells, hl, hj, List.map_set]
theorem ring_set_8 {l : List Int} {f n m : Nat} (hl : l.length = 8) (x : Nat) : (ringCells l f n m).setIfInBounds 8 (.int .i64 x) = ringCells l x n m := by
  simp [ringCells, hl]
theorem ring_set_9 {l : List Int} {f n m : Nat} (hl : l.length = 8) (x : Nat) : (ringCells l f n m).setIfInBounds 9 (.int .i64 x) = ringCells l f x m := by
  simp [ringCells, hl]

/-- at: a number's place. -/
theorem at_spec (b f i : Nat) (w : World) (hf : f < 8) (hi : i < 100) (c8 : w.cell? ⟨b, 8, none⟩ = some (.int .i64 f)) :
    Calls Tryz.prog 150 #[.pointer (some ⟨b, 0, none⟩), .int .i64 i] w fun e w' => e = .returned (.pointer (some ⟨b, (f + i) % 8, none⟩)) ∧ ∃ q, w' = w.drewN q := by
  go_enter Tryz.func150, Tryz.ntmps150
  go_wp2
  go_quiet (fail)
  go_wp2
  go_ret
  exact ⟨rfl, _, rfl⟩

theorem at_spec' (b f i : Nat) (v : Int) (w : World) (hv : v = i) (hf : f < 8) (hi : i < 100) (c8 : w.cell? ⟨b, 8, none⟩ = some (.int .i64 f)) :
    Calls Tryz.prog 150 #[.pointer (some ⟨b, 0, none⟩), .int .i64 v] w fun e w' => e = .returned (.pointer (some ⟨b, (f + i) % 8, none⟩)) ∧ ∃ q, w' = w.drewN q := by
  subst hv
  exact at_spec b f i w hf hi c8

theorem len_nil (w : World) : Calls Tryz.prog 149 #[.pointer none] w fun e w' => e = .returned (.int .i64 0) ∧ w' = w := by
  go_enter Tryz.func149, Tryz.ntmps149
  go_wp2
  go_ret
  exact ⟨rfl, rfl⟩
theorem len_cell (b n : Nat) (w : World) (c9 : w.cell? ⟨b, 9, none⟩ = some (.int .i64 n)) :
    Calls Tryz.prog 149 #[.pointer (some ⟨b, 0, none⟩)] w fun e w' => e = .returned (.int .i64 n) ∧ w' = w := by
  go_enter Tryz.func149, Tryz.ntmps149
  go_wp2
  go_ret
  exact ⟨rfl, rfl⟩

theorem full_nil (w : World) : Calls Tryz.prog 164 #[.pointer none] w fun e w' => e = .returned (.bool true) ∧ ∃ q, w' = w.drewN q := by
  go_enter Tryz.func164, Tryz.ntmps164
  go_wp2
  go_quiet (fail)
  go_wp2
  go_ret
  exact ⟨rfl, _, rfl⟩
theorem full_cell (b n m : Nat) (w : World) (c9 : w.cell? ⟨b, 9, none⟩ = some (.int .i64 n)) (c10 : w.cell? ⟨b, 10, none⟩ = some (.int .i64 m)) :
    Calls Tryz.prog 164 #[.pointer (some ⟨b, 0, none⟩)] w fun e w' => e = .returned (.bool (decide (n = m))) ∧ ∃ q, w' = w.drewN q := by
  by_cases hnm : n = m
  · subst hnm
    go_enter Tryz.func164, Tryz.ntmps164
    go_wp2
    go_quiet (fail)
    go_wp2
    go_ret
    exact ⟨by simp, _, rfl⟩
  · have h1 : ((n : Int) == (m : Int)) = false := by simp; omega
    go_enter Tryz.func164, Tryz.ntmps164
    go_wp2
    go_quiet (fail)
    go_wp2
    go_ret
    exact ⟨by simp [hnm], _, rfl⟩

theorem IsRing.len {w : World} {b : Nat} {xs : List Int} {m : Nat} (h : IsRing w b xs m) :
    Calls Tryz.prog 149 #[.pointer (some ⟨b, 0, none⟩)] w fun e w' => e = .returned (.int .i64 xs.length) ∧ w' = w := by
  obtain ⟨l, f, h1, h2, h3, h4, h5, h6⟩ := h
  exact len_cell b _ w (ring_9 h1 h6)
theorem IsRing.full {w : World} {b : Nat} {xs : List Int} {m : Nat} (h : IsRing w b xs m) :
    Calls Tryz.prog 164 #[.pointer (some ⟨b, 0, none⟩)] w fun e w' => e = .returned (.bool (decide (xs.length = m))) ∧ ∃ q, w' = w.drewN q := by
  obtain ⟨l, f, h1, h2, h3, h4, h5, h6⟩ := h
  exact full_cell b _ _ w (ring_9 h1 h6) (ring_10 h1 h6)

theorem push_nil (x : Int) (w : World) : Calls Tryz.prog 160 #[.pointer none, .int .i64 x] w fun e w' => e = .returned (.bool false) ∧ ∃ q, w' = w.drewN q := by
  go_enter Tryz.func160, Tryz.ntmps160
  go_wp2_with (go_at_call 164; refine (full_nil _).mono ?_; rintro e w' ⟨rfl, q, rfl⟩)
  go_ret
  exact ⟨rfl, _, rfl⟩

theorem push_full {w : World} {b : Nat} {xs : List Int} {m : Nat} (h : IsRing w b xs m) (hm : xs.length = m) (x : Int) :
    Calls Tryz.prog 160 #[.pointer (some ⟨b, 0, none⟩), .int .i64 x] w fun e w' => e = .returned (.bool false) ∧ ∃ q, w' = w.drewN q := by
  have hc := h.full
  rw [decide_eq_true hm] at hc
  go_enter Tryz.func160, Tryz.ntmps160
  go_wp2_with (go_at_call 164; refine hc.mono ?_; rintro e w' ⟨rfl, q, rfl⟩)
  go_ret
  exact ⟨rfl, _, rfl⟩

theorem push_walk {w : World} {b f n m : Nat} {l : List Int} (hl : l.length = 8) (hf : f < 8) (hm : m ≤ 8) (hn : n < m) (x : Int)
    (h : w.heap[b]? = some (.cells (ringCells l f n m) 253 (0, 0))) :
    Calls Tryz.prog 160 #[.pointer (some ⟨b, 0, none⟩), .int .i64 x] w fun e w' => e = .returned (.bool true) ∧ ∃ q,
      w' = ((w.drewN q).setCell ⟨b, (f + n) % 8, none⟩ (.int .i64 x)).setCell ⟨b, 9, none⟩ (.int .i64 ((n + 1 : Nat) : Int)) := by
  have c8 := ring_8 hl h
  have c9 := ring_9 hl h
  have c10 := ring_10 hl h
  have ca := ring_at hl h ((f + n) % 8) (by omega)
  have fz := free_of_block h
  have hc := fun q => full_cell b n m (w.drewN q) c9 c10
  rw [decide_eq_false (by omega : ¬ n = m)] at hc
  have hc0 : Calls Tryz.prog 164 _ w _ := hc 0
  clear hc h
  have H0 := Lib.hid hc0
  clear hc0
  go_enter Tryz.func160, Tryz.ntmps160
  go_wp2_with (first
    | (go_at_call 164; refine H0.out.mono ?_; rintro e w' ⟨rfl, q, rfl⟩)
    | (go_at_call 150; refine (at_spec b f n _ hf (by omega) (by assumption)).mono ?_; rintro e w' ⟨rfl, q, rfl⟩))
  go_ret
  exact ⟨rfl, _, rfl⟩

theorem two_set {w : World} {b f n m g k : Nat} {l : List Int} (hl : l.length = 8) (h : w.heap[b]? = some (.cells (ringCells l f n m) 253 (0, 0))) (j : Nat) (hj : j < 8) (x : Int) (q : Nat) :
    (((w.drewN q).setCell ⟨b, j, none⟩ (.int .i64 x)).setCell ⟨b, 9, none⟩ (.int .i64 (k : Int))).heap[b]? = some (.cells (ringCells (l.set j x) f k m) 253 (0, 0)) ∧
    (((w.drewN q).setCell ⟨b, 8, none⟩ (.int .i64 (g : Int))).setCell ⟨b, 9, none⟩ (.int .i64 (k : Int))).heap[b]? = some (.cells (ringCells l g k m) 253 (0, 0)) := by
  have h0 : (w.drewN q).heap[b]? = some (.cells (ringCells l f n m) 253 (0, 0)) := h
  constructor
  · have h1 := block_setCell h0 j (.int .i64 x)
    rw [ring_set_at hl j hj] at h1
    have h2 := block_setCell h1 9 (.int .i64 (k : Int))
    rw [ring_set_9 (by simpa using hl)] at h2
    exact h2
  · have h1 := block_setCell h0 8 (.int .i64 (g : Int))
    rw [ring_set_8 hl] at h1
    have h2 := block_setCell h1 9 (.int .i64 (k : Int))
    rw [ring_set_9 hl] at h2
    exact h2

theorem IsRing.push {w : World} {b : Nat} {xs : List Int} {m : Nat} (h : IsRing w b xs m) (x : Int) :
    Calls Tryz.prog 160 #[.pointer (some ⟨b, 0, none⟩), .int .i64 x] w fun e w' => e = .returned (.bool (decide (xs.length < m))) ∧
      IsRing w' b (if xs.length < m then xs ++ [x] else xs) m ∧ Fr [b] w w' := by
  by_cases hm : xs.length = m
  · rw [decide_eq_false (by omega), if_neg (by omega)]
    exact (push_full h hm x).mono fun e w' ⟨he, q, hq⟩ => ⟨he, hq ▸ h.drewN q, hq ▸ Fr.of_drewN w q⟩
  · obtain ⟨l, f, h1, h2, h3, h4, h5, h6⟩ := h
    rw [decide_eq_true (by omega : xs.length < m), if_pos (by omega : xs.length < m)]
    refine (push_walk h1 h2 h3 (by omega) x h6).mono fun e w' ⟨he, q, hq⟩ => ⟨he, ?_, ?_⟩
    · subst hq
      refine ⟨l.set ((f + xs.length) % 8) x, f, by simpa using h1, h2, h3, by simp; omega, ?_, ?_⟩
      · intro i hi
        simp only [List.length_append, List.length_singleton] at hi
        by_cases hx : i = xs.length
        · subst hx
          simp [el, List.getD, h1, show (f + xs.length) % 8 < 8 by omega]
        · have := h5 i (by omega)
          simp only [el, List.getD, List.getElem?_set, h1] at this ⊢
          rw [if_neg (by omega), List.getElem?_append_left (by omega)]
          exact this
      · have := (two_set (g := 0) (k := xs.length + 1) h1 h6 ((f + xs.length) % 8) (by omega) x q).1
        simpa using this
    · subst hq
      exact ((Fr.of_drewN w q).setCell (.inl (by simp)) _).setCell (.inl (by simp)) _

theorem pop_nil (w : World) : Calls Tryz.prog 136 #[.pointer none] w fun e w' => e = .returned (.tuple #[.int .i64 0, .bool false]) ∧ ∃ q, w' = w.drewN q := by
  go_enter Tryz.func136, Tryz.ntmps136
  go_wp2_with (go_at_call 149; refine (len_nil _).mono ?_; rintro e w' ⟨rfl, rfl⟩)
  go_ret2
  exact ⟨rfl, 0, rfl⟩

theorem pop_none (w : World) (b : Nat) (c9 : w.cell? ⟨b, 9, none⟩ = some (.int .i64 0)) : Calls Tryz.prog 136 #[.pointer (some ⟨b, 0, none⟩)] w fun e w' => e = .returned (.tuple #[.int .i64 0, .bool false]) ∧ ∃ q, w' = w.drewN q := by
  have H0 := Lib.hid (len_cell b 0 w c9)
  go_enter Tryz.func136, Tryz.ntmps136
  go_wp2_with (go_at_call 149; refine (H0.out).mono ?_; rintro e w' ⟨rfl, rfl⟩)
  go_ret2
  exact ⟨rfl, 0, rfl⟩

theorem pop_walk {w : World} {b f n m : Nat} {l : List Int} (hl : l.length = 8) (hf : f < 8) (hm : m ≤ 8) (hn : n < m)
    (h : w.heap[b]? = some (.cells (ringCells l f (n + 1) m) 253 (0, 0))) :
    Calls Tryz.prog 136 #[.pointer (some ⟨b, 0, none⟩)] w fun e w' => e = .returned (.tuple #[.int .i64 (el l f), .bool true]) ∧ ∃ q,
      w' = ((w.drewN q).setCell ⟨b, 8, none⟩ (.int .i64 (((f + 1) % 8 : Nat) : Int))).setCell ⟨b, 9, none⟩ (.int .i64 (n : Int)) := by
  have c8 := ring_8 hl h
  have c9 := ring_9 hl h
  have ca := ring_at hl h f hf
  have fz := free_of_block h
  have H0 := Lib.hid (len_cell b (n + 1) w c9)
  have H1 := Lib.hid (at_spec b f 0 w hf (by omega) c8)
  have ht : ((((n + 1 : Nat) : Int)) == 0) = false := by simp; omega
  have ef : (f + 0) % 8 = f := by omega
  rw [ef] at H1
  clear h ef
  go_enter Tryz.func136, Tryz.ntmps136
  go_wp2_with (first
    | (go_at_call 149; refine H0.out.mono ?_; rintro e w' ⟨rfl, rfl⟩)
    | (go_at_call 150; refine H1.out.mono ?_; rintro e w' ⟨rfl, q, rfl⟩))
  go_ret2
  exact ⟨rfl, _, rfl⟩

theorem IsRing.pop {w : World} {b : Nat} {xs : List Int} {m : Nat} (h : IsRing w b xs m) :
    Calls Tryz.prog 136 #[.pointer (some ⟨b, 0, none⟩)] w fun e w' => e = .returned (.tuple #[.int .i64 (el xs 0), .bool (decide (0 < xs.length))]) ∧ IsRing w' b xs.tail m ∧ Fr [b] w w' := by
  obtain ⟨l, f, h1, h2, h3, h4, h5, h6⟩ := h
  cases xs with
  | nil =>
    refine (pop_none w b (ring_9 h1 h6)).mono fun e w' ⟨he, q, hq⟩ => ⟨he, ?_, hq ▸ Fr.of_drewN w q⟩
    subst hq
    exact ⟨l, f, h1, h2, h3, h4, h5, h6⟩
  | cons x xs =>
    refine (pop_walk h1 h2 h3 (by simp at h4; omega) h6).mono fun e w' ⟨he, q, hq⟩ => ⟨?_, ?_, ?_⟩
    · have := h5 0 (by simp)
      rw [show (f + 0) % 8 = f by omega] at this
      rw [he, this]; simp
    · subst hq
      refine ⟨l, (f + 1) % 8, h1, by omega, h3, by simp at h4 ⊢; omega, ?_, ?_⟩
      · intro i hi
        have := h5 (i + 1) (by simpa using hi)
        rw [show ((f + 1) % 8 + i) % 8 = (f + (i + 1)) % 8 by omega, this]
        simp [el]
      · exact (two_set (b := b) (g := (f + 1) % 8) (k := xs.length) h1 h6 0 (by omega) 0 q).2
    · subst hq
      exact ((Fr.of_drewN w q).setCell (.inl (by simp)) _).setCell (.inl (by simp)) _

theorem remove_nil (x : Int) (w : World) : Calls Tryz.prog 133 #[.pointer none, .int .i64 x] w fun e w' => e = .returned (.bool false) ∧ ∃ q, w' = w.drewN q := by
  go_enter Tryz.func133, Tryz.ntmps133
  go_wp2_with (go_at_call 149; refine (len_nil _).mono ?_; rintro e w' ⟨rfl, rfl⟩)
  refine wp_loop_rounds 1 ?_
  rw [rounds_succ]
  go_wp2
  go_ret
  exact ⟨rfl, 0, rfl⟩

theorem block_at_drew {w : World} {b : Nat} {o : Option Obj} (h : w.heap[b]? = o) (q : Nat) : (w.drewN q).heap[b]? = o := h

/-- What a ring's array holds while what stands behind place i is moved up, up to place k. -/
def Moved (xs : List Int) (f i k : Nat) (l : List Int) : Prop :=
  l.length = 8 ∧ ∀ j, j < xs.length → el l ((f + j) % 8) = if i ≤ j ∧ j < k then el xs (j + 1) else el xs j

theorem Moved.step {xs : List Int} {f i k : Nat} {l : List Int} (h : Moved xs f i k l) (hk : i ≤ k) (hlt : k + 1 < xs.length) (h8 : xs.length ≤ 8) :
    Moved xs f i (k + 1) (l.set ((f + k) % 8) (el l ((f + (k + 1)) % 8))) := by
  obtain ⟨h1, h2⟩ := h
  refine ⟨by simpa using h1, fun j hj => ?_⟩
  by_cases hjk : j = k
  · subst hjk
    rw [if_pos (by omega), h2 (j + 1) hlt, if_neg (by omega)]
    simp [el, List.getD, h1, show (f + j) % 8 < 8 by omega]
  · have := h2 j hj
    have hne : ¬ (f + k) % 8 = (f + j) % 8 := by omega
    simp only [el, List.getD, List.getElem?_set, h1] at this ⊢
    rw [if_neg hne, this]
    by_cases hc : i ≤ j ∧ j < k
    · rw [if_pos hc, if_pos (by omega)]
    · rw [if_neg hc, if_neg (by omega)]

set_option maxHeartbeats 1000000 in
theorem remove_walk {w : World} {b f m : Nat} {l xs : List Int} (hl : l.length = 8) (hf : f < 8) (hm : m ≤ 8) (hn : xs.length ≤ m) (hx : ∀ i, i < xs.length → el l ((f + i) % 8) = el xs i) (x : Int)
    (h : w.heap[b]? = some (.cells (ringCells l f xs.length m) 253 (0, 0))) :
    Calls Tryz.prog 133 #[.pointer (some ⟨b, 0, none⟩), .int .i64 x] w fun e w' =>
      (e = .returned (.bool false) ∧ (∀ j, j < xs.length → el xs j ≠ x) ∧ ∃ q, w' = w.drewN q) ∨
      ∃ i, i < xs.length ∧ el xs i = x ∧ (∀ j, j < i → el xs j ≠ x) ∧ e = .returned (.bool true) ∧ ∃ l', Moved xs f i (xs.length - 1) l' ∧ w'.heap[b]? = some (.cells (ringCells l' f (xs.length - 1) m) 253 (0, 0)) ∧ Fr [b] w w' := by
  have H0 := Lib.hid (len_cell b xs.length w (ring_9 hl h))
  have H := Lib.hid h
  have HX := Lib.hid hx
  clear h hx
  go_enter Tryz.func133, Tryz.ntmps133
  go_wp2_with (go_at_call 149; refine H0.out.mono ?_; rintro e w' ⟨rfl, rfl⟩)
  go_loopw [9] (fun v wr => ∃ i : Nat, i ≤ xs.length ∧ v = .int .i64 i ∧ Hid (∀ j, j < i → el xs j ≠ x) ∧ ∃ q, wr = w'.drewN q) (fun v _ => xs.length - (intOf v).toNat)
  case atStart => exact ⟨0, Nat.zero_le _, rfl, Lib.hid (fun j hj => by omega), 0, rfl⟩
  case round =>
    obtain ⟨i, hi, rfl, HN, q, rfl⟩ := hrel
    by_cases hlt : i < xs.length
    · have c8 := ring_8 hl H.out
      have ca := ring_at hl H.out ((f + i) % 8) (by omega)
      rw [HX.out i hlt] at ca
      by_cases he : el xs i = x
      · have hne : (el xs i != x) = false := by simpa using he
        go_wp2_with (first
          | (go_at_call 150; refine (at_spec b f i _ hf (by omega) (by assumption)).mono ?_; rintro e w1 ⟨rfl, q1, rfl⟩))
        clear c8 ca
        go_loopw [6] (fun v wr => ∃ k : Nat, i ≤ k ∧ k < xs.length ∧ v = .int .i64 k ∧ ∃ l' : List Int, Hid (Moved xs f i k l') ∧ Hid (wr.heap[b]? = some (.cells (ringCells l' f xs.length m) 253 (0, 0))) ∧ Hid (Fr [b] w' wr)) (fun v _ => xs.length - (intOf v).toNat)
        case atStart => exact ⟨i, Nat.le_refl _, hlt, rfl, l, Lib.hid ⟨hl, fun j hj => by rw [if_neg (by omega)]; exact HX.out j hj⟩, H, Lib.hid (Fr.of_drewN _ _)⟩
        case round =>
          obtain ⟨k, hik, hkn, rfl, l', HM, HB, HF⟩ := hrel
          have hl' := HM.out.1
          have c8 := ring_8 hl' HB.out
          have c9 := ring_9 hl' HB.out
          have fz := free_of_block HB.out
          have cb := ring_at hl' HB.out ((f + k) % 8) (by omega)
          have ca := ring_at hl' HB.out ((f + (k + 1)) % 8) (by omega)
          by_cases hk1 : k + 1 < xs.length
          · go_wp2_with fail
            refine (at_spec' b f k _ _ (by omega) hf (by omega) (by exact c8)).mono ?_
            rintro e w1 ⟨rfl, q1, rfl⟩
            go_wp2_with fail
            refine (at_spec' b f (k + 1) _ _ (by omega) hf (by omega) (by exact c8)).mono ?_
            rintro e w1 ⟨rfl, q2, rfl⟩
            go_wp2_with fail
            go_roundw
            case rel =>
              have hb := block_setCell (block_at_drew HB.out (q1 + q2)) ((f + k) % 8) (.int .i64 (el l' ((f + (k + 1)) % 8)))
              rw [ring_set_at hl' _ (by omega)] at hb
              exact ⟨k + 1, by omega, hk1, by go_num, _, Lib.hid (HM.out.step hik hk1 (by omega)), Lib.hid hb, Lib.hid ((HF.out.drewN _).setCell (.inl (by simp)) _)⟩
            case measure => simp [intOf]; omega
          · go_wp2_with fail
            go_ret
            refine Or.inr ⟨i, hlt, he, HN.out, rfl, l', ?_, ?_, ?_⟩
            · rw [show xs.length - 1 = k by omega]; exact HM.out
            · have hb := block_setCell HB.out 9 (.int .i64 ((xs.length - 1 : Nat) : Int))
              rw [ring_set_9 hl'] at hb
              rw [show ((xs.length - 1 : Nat) : Int) = (xs.length : Int) - 1 by omega] at hb
              exact hb
            · exact HF.out.setCell (.inl (by simp)) _
      · have hne : (el xs i != x) = true := by simpa using he
        go_wp2_with (first
          | (go_at_call 150; refine (at_spec b f i _ hf (by omega) (by assumption)).mono ?_; rintro e w' ⟨rfl, q, rfl⟩))
        go_roundw
        case rel => exact ⟨i + 1, by omega, by go_num, Lib.hid (fun j hj => by by_cases hji : j = i; (subst hji; exact he); exact HN.out j (by omega)), _, rfl⟩
        case measure => simp [intOf]; omega
    · go_wp2
      go_ret
      exact Or.inl ⟨rfl, fun j hj => HN.out j (by omega), _, rfl⟩

/-- A list without the first one that is x. -/
def rem (x : Int) : List Int → List Int
  | [] => []
  | y :: l => if y = x then l else y :: rem x l

theorem rem_none (x : Int) : ∀ xs : List Int, (∀ j, j < xs.length → el xs j ≠ x) → x ∉ xs ∧ rem x xs = xs
  | [], _ => ⟨by simp, rfl⟩
  | y :: l, h => by
    have h0 : y ≠ x := h 0 (by simp)
    have ih := rem_none x l (fun j hj => by have := h (j + 1) (by simpa using hj); simpa [el] using this)
    exact ⟨by simp [ih.1]; exact fun e => h0 e.symm, by simp [rem, h0, ih.2]⟩

theorem rem_some (x : Int) : ∀ (xs : List Int) (i : Nat), i < xs.length → el xs i = x → (∀ j, j < i → el xs j ≠ x) → x ∈ xs ∧ (rem x xs).length = xs.length - 1 ∧ ∀ j, el (rem x xs) j = if i ≤ j then el xs (j + 1) else el xs j
  | [], _, h, _, _ => by simp at h
  | y :: l, i, h, he, hn => by
    cases i with
    | zero =>
      have : y = x := he
      subst this
      exact ⟨by simp, by simp [rem], fun j => by simp [rem, el]⟩
    | succ i =>
      have h0 : y ≠ x := hn 0 (by omega)
      obtain ⟨h1, h2, h3⟩ := rem_some x l i (by simpa using h) (by simpa [el] using he) (fun j hj => by have := hn (j + 1) (by omega); simpa [el] using this)
      refine ⟨by simp [h1], by have : i < l.length := by simpa using h
                               simp [rem, h0, h2]; omega, fun j => ?_⟩
      cases j with
      | zero => simp [rem, h0, el]
      | succ j =>
        have := h3 j
        simp only [rem, h0, if_false]
        simpa [el] using this

theorem IsRing.remove {w : World} {b : Nat} {xs : List Int} {m : Nat} (h : IsRing w b xs m) (x : Int) :
    Calls Tryz.prog 133 #[.pointer (some ⟨b, 0, none⟩), .int .i64 x] w fun e w' => e = .returned (.bool (decide (x ∈ xs))) ∧ IsRing w' b (rem x xs) m ∧ Fr [b] w w' := by
  obtain ⟨l, f, h1, h2, h3, h4, h5, h6⟩ := h
  refine (remove_walk h1 h2 h3 h4 h5 x h6).mono fun e w' hp => ?_
  rcases hp with ⟨he, hno, q, hq⟩ | ⟨i, hi, hx, hno, he, l', hM, hB, hF⟩
  · obtain ⟨k1, k2⟩ := rem_none x xs hno
    subst hq
    rw [decide_eq_false k1, k2]
    exact ⟨he, ⟨l, f, h1, h2, h3, h4, h5, h6⟩, Fr.of_drewN _ _⟩
  · obtain ⟨k1, k2, k3⟩ := rem_some x xs i hi hx hno
    rw [decide_eq_true k1]
    refine ⟨he, ⟨l', f, hM.1, h2, h3, by omega, fun j hj => ?_, by rw [k2]; exact hB⟩, hF⟩
    rw [k2] at hj
    rw [hM.2 j (by omega), k3 j]
    by_cases hij : i ≤ j
    · rw [if_pos ⟨hij, hj⟩, if_pos hij]
    · rw [if_neg (by omega), if_neg hij]
end Go.Proofs.YtcnkhjgpjchkeaaGreat

namespace Go.Proofs.YtcnkhjgpjchkeaaGreat
open Go.RowKit

/-- v is a slice that reads as the numbers xs. -/
def RdInts (w : World) (v : Value) (xs : List Int) : Prop :=
  ∃ ao cap, v = .slice ao xs.length cap ∧ xs.length ≤ cap ∧ (ao = none → cap = 0) ∧ ∀ j, j < xs.length → ∃ b o, ao = some ⟨b, o, none⟩ ∧ w.cell? ⟨b, o + j, none⟩ = some (.int .i64 (el xs j))

/-- .. and lies in no block below base. -/
def Lst (w : World) (base : Nat) (v : Value) (xs : List Int) : Prop := RdInts w v xs ∧ ∀ g, v.ownBlock = some g → base ≤ g

theorem RdInts.fr {w w' : World} {v : Value} {xs : List Int} (h : RdInts w v xs) {S : List Nat} (k : Fr S w w') (hn : ∀ g, v.ownBlock = some g → g ∉ S) : RdInts w' v xs := by
  obtain ⟨ao, cap, rfl, h2, h3, h4⟩ := h
  refine ⟨ao, cap, rfl, h2, h3, fun j hj => ?_⟩
  obtain ⟨b, o, hb, hc⟩ := h4 j hj
  refine ⟨b, o, hb, ?_⟩
  rw [k.cell (World.block_lt_of_cell? _ _ hc) (hn b (by simp [Value.ownBlock, hb]))]
  exact hc
theorem Lst.fr {w w' : World} {base : Nat} {v : Value} {xs : List Int} (h : Lst w base v xs) {S : List Nat} (k : Fr S w w') (hS : ∀ x ∈ S, x < base) : Lst w' base v xs :=
  ⟨h.1.fr k (fun g hg hm => by have := h.2 g hg; have := hS g hm; omega), h.2⟩
theorem Lst.dr {w w' : World} {base : Nat} {v : Value} {xs : List Int} (h : Lst w base v xs) (k : ∃ q, w' = w.drewN q) : Lst w' base v xs := by obtain ⟨q, rfl⟩ := k; exact h
theorem Lst.mono {w : World} {base base' : Nat} {v : Value} {xs : List Int} (h : Lst w base v xs) (hb : base' ≤ base) : Lst w base' v xs :=
  ⟨h.1, fun g hg => Nat.le_trans hb (h.2 g hg)⟩
theorem Lst.nil (w : World) (base : Nat) : Lst w base (.slice none 0 0) [] := ⟨⟨none, 0, rfl, Nat.le_refl _, fun _ => rfl, fun j hj => by simp at hj⟩, fun g hg => by simp [Value.ownBlock] at hg⟩
/-- What the call owns reads so. -/
theorem Lst.of_owns {w : World} {base : Nat} {v : Value} {xs : List Int} (h : w.ownsRow base 3 1 v xs.length (xs.map (Value.int .i64))) : Lst w base v xs := by
  refine ⟨?_, fun g hg => (h.lt g hg).1⟩
  obtain ⟨h1, h2⟩ := h
  rcases h2 with ⟨rfl, hn⟩ | ⟨g, cap, cur, rfl, hg, hh, hc, hm, hs, ht⟩
  · obtain rfl := List.eq_nil_of_length_eq_zero hn
    exact (Lst.nil w base).1
  · refine ⟨some ⟨g, 0, none⟩, cap, rfl, hc, fun e => by simp at e, fun j hj => ⟨g, 0, rfl, ?_⟩⟩
    rw [Nat.zero_add, cell_of_block hh]
    have : (cur.toList.take (xs.length * 1))[j]? = some (.int .i64 (el xs j)) := by rw [ht]; simp [el, hj]
    rw [List.getElem?_take, if_pos (by omega)] at this
    simpa using this

theorem Tryz.info_int : (Tryz.prog.info? 3).map (fun i => (i.zero, i.size, i.bytes)) = some (some (.int .i64 0), 1, 8) := by kernel_rfl

theorem Fr.of_grown {S : List Nat} {a w w' : World} {row : Option Nat} (h : Fr S a w) (hg : w.grownBy w' row) (hr : ∀ k, row = some k → k ∈ S ∨ a.heap.size ≤ k) : Fr S a w' :=
  ⟨hg.os.trans h.os, hg.tape.trans h.tape, hg.output.trans h.output, Nat.le_trans h.size hg.size, fun i hi hn =>
    (hg.block i (Nat.lt_of_lt_of_le hi h.size) (fun e => by rcases hr i e.symm with h1 | h1; exact hn h1; omega)).trans (h.block i hi hn)⟩

theorem cell_one {w : World} {v : Value} {E : TypeId} {j : Nat} {u : Value} (q : Nat) (hj : [v][j]? = some u) : ((w.drewN q).alloc (.cells #[v] E)).cell? ((⟨w.heap.size, 0, none⟩ : Addr).add j) = some u := by
  match j, hj with
  | 0, hj =>
    simp at hj
    subst hj
    exact World.cell?_alloc_new (w.drewN q) #[v] E 0

theorem take_snoc_ints (xs : List Int) (k : Nat) (hk : k < xs.length) : List.take k (List.map (Value.int .i64) xs) ++ [Value.int .i64 (el xs k)] = List.map (Value.int .i64) (List.take (k + 1) xs) := by
  rw [List.map_take, List.take_succ_eq_append_getElem (l := xs.map (Value.int .i64)) (by simpa using hk)]; simp [el, hk]

theorem take_snoc_el (xs : List Int) (k : Nat) (hk : k < xs.length) : xs.take k ++ [el xs k] = xs.take (k + 1) := by
  rw [List.take_succ_eq_append_getElem hk]; simp [el, List.getD, hk]

set_option maxHeartbeats 1000000 in
theorem list_walk {w : World} {b f m : Nat} {l xs : List Int} (hl : l.length = 8) (hf : f < 8) (hm : m ≤ 8) (hn : xs.length ≤ m) (hx : ∀ i, i < xs.length → el l ((f + i) % 8) = el xs i)
    (h : w.heap[b]? = some (.cells (ringCells l f xs.length m) 253 (0, 0))) :
    Calls Tryz.prog 107 #[.pointer (some ⟨b, 0, none⟩)] w fun e w' => ∃ v, e = .returned v ∧ w'.ownsRow w.heap.size 3 1 v xs.length (xs.map (Value.int .i64)) ∧ Fr [] w w' := by
  have H0 := Lib.hid (len_cell b xs.length w (ring_9 hl h))
  have H := Lib.hid h
  have HX := Lib.hid hx
  have hb := lt_of_block h
  clear h hx
  obtain ⟨i0, hi, hz0, hz1, hz2⟩ := info_parts Tryz.info_int
  go_enter Tryz.func107, Tryz.ntmps107
  go_wp2_with (go_at_call 149; refine H0.out.mono ?_; rintro e w' ⟨rfl, rfl⟩)
  go_loopw [3, 7] (fun s v wr => ∃ i : Nat, i ≤ xs.length ∧ v = .int .i64 i ∧ Hid (wr.ownsRow w'.heap.size 3 1 s i ((xs.take i).map (Value.int .i64))) ∧ Hid (Fr [] w' wr)) (fun _ v _ => xs.length - (intOf v).toNat)
  case atStart => exact ⟨0, Nat.zero_le _, rfl, Lib.hid (by simpa using World.ownsRow_nil _ _ _ _), Lib.hid (Fr.refl _ _)⟩
  case round =>
    obtain ⟨i, hi', rfl, HO, HF⟩ := hrel
    by_cases hlt : i < xs.length
    · have hk := HF.out.keep H.out (by simp)
      have c8 := ring_8 hl hk
      have ca := ring_at hl hk ((f + i) % 8) (by omega)
      rw [HX.out i hlt] at ca
      have hsz := HF.out.size
      clear hk
      go_wp2_with (first
        | (go_at_call 150; refine (at_spec' b f i _ _ (by omega) hf (by omega) (by assumption)).mono ?_; rintro e w1 ⟨rfl, q, rfl⟩)
        | (at_builtin; refine wpList_append_own _ rfl _ _ 31 rfl w'.heap.size 3 i0 (.int .i64 0) 1 8 Tryz.underlying31 hi hz0 hz1 hz2 rfl (by decide) _ _ _ rfl (World.ownsRow.alloc (w := wr.drewN _) HO.out _) ⟨wr.heap.size, 0, none⟩ 1 1 [.int .i64 (el xs i)] rfl rfl ?c1 ?c2 ?c3 ?c4 ?c5 ?_))
      case c1 =>
        intro j u hj
        exact cell_one q hj
      case c2 => intro u hu; simp at hu; subst hu; rfl
      case c3 => unfold maxLen; omega
      case c4 => omega
      case c5 => simp; omega
      intro v' w1 hown' hgrow _
      have HO' := Lib.hid hown'
      have HF' := Lib.hid (Fr.of_grown (S := []) ((HF.out.drewN q).alloc _) hgrow (fun k hk => Or.inr (by have := World.ownsRow.lt HO.out k hk; omega)))
      clear hown' hgrow
      go_wp2
      go_roundw
      case rel => exact ⟨i + 1, by omega, by go_num, Lib.hid (by have := HO'.out; rw [take_snoc_ints xs i hlt] at this; exact this), HF'⟩
      case measure => simp [intOf]; omega
    · go_wp2
      go_ret
      have : i = xs.length := by omega
      subst this
      exact ⟨_, rfl, by simpa using HO.out, HF.out⟩

theorem IsRing.list {w : World} {b : Nat} {xs : List Int} {m : Nat} (h : IsRing w b xs m) :
    Calls Tryz.prog 107 #[.pointer (some ⟨b, 0, none⟩)] w fun e w' => ∃ v, e = .returned v ∧ w'.ownsRow w.heap.size 3 1 v xs.length (xs.map (Value.int .i64)) ∧ Fr [] w w' := by
  obtain ⟨l, f, h1, h2, h3, h4, h5, h6⟩ := h
  exact list_walk h1 h2 h3 h4 h5 h6

theorem list_nil (w : World) : Calls Tryz.prog 107 #[.pointer none] w fun e w' => e = .returned (.slice none 0 0) ∧ w' = w := by
  go_enter Tryz.func107, Tryz.ntmps107
  go_wp2_with (go_at_call 149; refine (len_nil _).mono ?_; rintro e w' ⟨rfl, rfl⟩)
  refine wp_loop_rounds 1 ?_
  rw [rounds_succ]
  go_wp2
  go_ret
  exact ⟨rfl, rfl⟩

theorem new_none (m : Int) (w : World) (h : m < 0 ∨ 8 < m) : Calls Tryz.prog 77 #[.int .i64 m] w fun e w' => e = .returned (.pointer none) ∧ w' = w := by
  rcases h with h | h
  · go_enter Tryz.func77, Tryz.ntmps77
    go_wp2
    go_ret
    exact ⟨rfl, rfl⟩
  · have h' : ¬ m < 0 := by omega
    go_enter Tryz.func77, Tryz.ntmps77
    go_wp2
    go_ret
    exact ⟨rfl, rfl⟩
theorem new_walk (m : Nat) (w : World) (h : m ≤ 8) : Calls Tryz.prog 77 #[.int .i64 m] w fun e w' => e = .returned (.pointer (some ⟨w.heap.size, 0, none⟩)) ∧ w' = w.alloc (.cells (ringCells (List.replicate 8 0) 0 0 m) 253) := by
  go_enter Tryz.func77, Tryz.ntmps77
  go_wp2
  go_ret
  exact ⟨rfl, rfl⟩
theorem new_ring (m : Nat) (w : World) (h : m ≤ 8) : Calls Tryz.prog 77 #[.int .i64 m] w fun e w' => e = .returned (.pointer (some ⟨w.heap.size, 0, none⟩)) ∧ IsRing w' w.heap.size [] m ∧ w'.heap.size = w.heap.size + 1 ∧ Fr [] w w' := by
  refine (new_walk m w h).mono fun e w' ⟨he, hw⟩ => ⟨he, ?_, ?_, ?_⟩
  · subst hw
    exact ⟨List.replicate 8 0, 0, by simp, by omega, h, by simp, fun i hi => by simp at hi, block_alloc_new _ _⟩
  · subst hw; simp
  · subst hw; exact (Fr.refl _ _).alloc _
end Go.Proofs.YtcnkhjgpjchkeaaGreat

namespace Go.Proofs.YtcnkhjgpjchkeaaGreat
open Go.RowKit

def CallM.out (c : CallM) (kind : Int) (id val : Int) (now : Nat) : Ou := ⟨id, kind, if kind = 1 then 0 else c.cause, val, now⟩
/-- The members' values; none, if they don't fit. -/
def splitM (nargs : Nat) (ms : List (Int × Int)) (vals : List Int) : List (Int × Int) :=
  if vals.length = nargs ∧ (∀ m ∈ ms, 0 ≤ m.2 ∧ m.2 < vals.length) then ms.map fun m => (m.1, vals.getD m.2.toNat 0) else []
/-- What came of a call's members. -/
def CallM.outs (c : CallM) (kind : Int) (vals : List Int) (now : Nat) : List Ou :=
  if kind = 4 then c.ms.map fun m => c.out 4 m.1 0 now
  else if kind = 1 ∨ kind = 3 then (splitM c.nargs c.ms vals).map fun p => c.out kind p.1 p.2 now else []

theorem six {w : World} {b : Nat} {E : TypeId} {fr : Nat × Nat} {v0 v1 v2 v3 v4 v5 : Value} (h : w.heap[b]? = some (.cells #[v0, v1, v2, v3, v4, v5] E fr)) :
    w.cell? ⟨b, 0, none⟩ = some v0 ∧ w.cell? ⟨b, 1, none⟩ = some v1 ∧ w.cell? ⟨b, 2, none⟩ = some v2 ∧ w.cell? ⟨b, 3, none⟩ = some v3 ∧ w.cell? ⟨b, 4, none⟩ = some v4 ∧ w.cell? ⟨b, 5, none⟩ = some v5 :=
  ⟨by rw [cell_of_block h]; rfl, by rw [cell_of_block h]; rfl, by rw [cell_of_block h]; rfl, by rw [cell_of_block h]; rfl, by rw [cell_of_block h]; rfl, by rw [cell_of_block h]; rfl⟩
theorem two {w : World} {b : Nat} {E : TypeId} {fr : Nat × Nat} {v0 v1 : Value} (h : w.heap[b]? = some (.cells #[v0, v1] E fr)) :
    w.cell? ⟨b, 0, none⟩ = some v0 ∧ w.cell? ⟨b, 1, none⟩ = some v1 :=
  ⟨by rw [cell_of_block h]; rfl, by rw [cell_of_block h]; rfl⟩
theorem Mems.at {w : World} {ao : Option Addr} {n cap : Nat} {ms : List (Int × Int)} (h : Mems w (.slice ao n cap) ms) {i : Nat} (hi : i < ms.length) :
    ∃ g o, ao = some ⟨g, o, none⟩ ∧ w.cell? ⟨g, o + i * 2, none⟩ = some (.int .i64 (ms.getD i (0, 0)).1) ∧ w.cell? ⟨g, o + i * 2 + 1, none⟩ = some (.int .i64 (ms.getD i (0, 0)).2) := by
  obtain ⟨a, c, h1, h2, h3⟩ := h
  obtain ⟨g, o, cs, fr, h4, h5, h6, h7⟩ := h3 i hi
  simp only [Value.slice.injEq] at h1
  exact ⟨g, o, h1.1.trans h4, by rw [cell_of_block h5]; exact h6, by rw [cell_of_block h5]; exact h7⟩

set_option maxHeartbeats 1000000 in
theorem out_spec (w : World) (a0 : Option Addr) (n0 c0 : Nat) (a1 : Option Addr) (n1 c1 : Nat) (st step cause : Int) (start : Nat) (id kind val : Int) (now : Nat) :
    Calls Tryz.prog 156 #[.agg #[.slice a0 n0 c0, .slice a1 n1 c1, .int .i64 st, .int .i64 step, .int .i64 cause, .int .u64 start], .int .i64 id, .int .i64 kind, .int .i64 val, .int .u64 now] w fun e w' =>
      e = .returned (.agg #[.int .i64 id, .int .i64 kind, .int .i64 (if kind = 1 then 0 else cause), .int .i64 val, .int .u64 now]) ∧ Fr [] w w' := by
  by_cases e1 : kind = 1
  · subst e1
    rw [if_pos rfl]
    go_enter Tryz.func156, Tryz.ntmps156
    go_wp2_with fail
    refine bodyPost_ret (v := .agg #[.int .i64 id, .int .i64 1, .int .i64 0, .int .i64 val, .int .u64 now]) (by simp [results, Tryz.results156, go_sem]) rfl ?_
    exact ⟨rfl, (((Fr.refl _ _).alloc _).alloc _).alloc _⟩
  · rw [if_neg e1]
    have b1 : (kind == 1) = false := by simpa using e1
    clear e1
    go_enter Tryz.func156, Tryz.ntmps156
    go_wp2_with fail
    refine bodyPost_ret (v := .agg #[.int .i64 id, .int .i64 kind, .int .i64 cause, .int .i64 val, .int .u64 now]) (by simp [results, Tryz.results156, go_sem]) rfl ?_
    exact ⟨rfl, (((Fr.refl _ _).alloc _).alloc _).alloc _⟩

theorem Tryz.info_pair : (Tryz.prog.info? 273).map (fun i => (i.zero, i.size, i.bytes)) = some (some (.agg #[.int .i64 0, .int .i64 0]), 2, 16) := by kernel_rfl
theorem info_partsD {P : Program} {t : TypeId} {z : Value} {a b : Nat} (h : (P.info? t).map (fun i => (i.zero, i.size, i.bytes)) = some (some z, a, b)) : ∃ i, P.info? t = some i ∧ i.zero = some z ∧ i.size = a ∧ i.bytes = b := by
  cases hi : P.info? t with
  | none => simp [hi] at h
  | some i => simp [hi] at h; exact ⟨i, rfl, h.1, h.2.1, h.2.2⟩
theorem ownsFormD {w : World} {base : Nat} {e : TypeId} {size : Nat} {v : Value} {n : Nat} {xs : List Value} (h : w.ownsRow base e size v n xs) : ∃ ao cap, v = .slice ao n cap := by
  rcases h.2 with ⟨h, h0⟩ | ⟨g, c, cur, h, _⟩
  · exact ⟨none, 0, by rw [h, h0]⟩
  · exact ⟨_, _, h⟩
theorem Fr.of_grownD {S : List Nat} {a w w' : World} {row : Option Nat} (h : Fr S a w) (hg : w.grownBy w' row) (hr : ∀ k, row = some k → k ∈ S ∨ a.heap.size ≤ k) : Fr S a w' :=
  ⟨hg.os.trans h.os, hg.tape.trans h.tape, hg.output.trans h.output, Nat.le_trans h.size hg.size, fun i hi hn =>
    (hg.block i (Nat.lt_of_lt_of_le hi h.size) (fun e => by rcases hr i e.symm with h1 | h1; exact hn h1; omega)).trans (h.block i hi hn)⟩
theorem grown_keepD {w w' : World} {row : Option Nat} (hg : w.grownBy w' row) {b : Nat} {o : Obj} (hb : w.heap[b]? = some o) (hne : ∀ k, row = some k → k ≠ b) : w'.heap[b]? = some o :=
  (hg.block b (lt_of_block hb) (fun e => hne b e.symm rfl)).trans hb
/-- What a row owns is no block of another type. -/
theorem owns_neD {w : World} {base : Nat} {e e' : TypeId} {size : Nat} {v : Value} {n : Nat} {xs : List Value} (h : w.ownsRow base e size v n xs) {g : Nat} {c : Array Value} {fr : Nat × Nat} (hg : w.heap[g]? = some (.cells c e' fr)) (hne : e ≠ e') : ∀ k, v.ownBlock = some k → k ≠ g := by
  rintro k hk rfl
  rcases h.2 with ⟨hv, _⟩ | ⟨g', cap, cur, hv, _, hh, _⟩
  · rw [hv] at hk; cases hk
  · rw [hv] at hk
    simp only [Value.ownBlock, Option.some.injEq] at hk
    subst hk
    rw [hh] at hg
    simp only [Option.some.injEq, Obj.cells.injEq] at hg
    exact hne hg.2.1
def pairCells (p : Int × Int) : List Value := [.int .i64 p.1, .int .i64 p.2]
theorem Src.pair (w : World) (p : Int × Int) (E : TypeId) (g : Nat) (hg : w.heap.size = g) : Src (w.alloc (.cells #[.int .i64 p.1, .int .i64 p.2] E)) 2 (.slice (some ⟨g, 0, none⟩) 1 1) 1 (pairCells p) := by
  subst hg
  refine ⟨_, _, rfl, rfl, Nat.le_refl _, (fun h => by cases h), (fun u hu => ?_), (fun j u hj => ⟨w.heap.size, 0, rfl, ?_⟩)⟩
  · unfold pairCells at hu
    simp only [List.mem_cons, List.not_mem_nil, or_false] at hu
    rcases hu with h | h <;> subst h <;> rfl
  · have hb := block_alloc_new w (.cells #[.int .i64 p.1, .int .i64 p.2] E)
    unfold pairCells at hj
    match j, hj with
    | 0, hj => simp at hj; subst hj; rw [cell_of_block hb]; rfl
    | 1, hj => simp at hj; subst hj; rw [cell_of_block hb]; rfl
    | j + 2, hj => simp at hj
theorem Src.one5D (w : World) (e : Ou) (g : Nat) (hg : w.heap.size = g) : Src (w.alloc e.obj) 5 (.slice (some ⟨g, 0, none⟩) 1 1) 1 e.cells := by
  subst hg
  exact ⟨_, _, rfl, rfl, Nat.le_refl _, (fun h => by cases h), (fun _ hu => cellsO_one hu), (fun j u hj => ⟨w.heap.size, 0, rfl, (At5.box (block_alloc_new w e.obj)).get hj⟩)⟩
theorem take_snocD {α : Type} [Inhabited α] {l : List α} {i : Nat} (d : α) (h : i < l.length) : l.take (i + 1) = l.take i ++ [l.getD i d] := by
  rw [List.take_succ_eq_append_getElem h]
  simp [List.getD, h]

/-- The pairs of the first members. -/
def pairsM (ms : List (Int × Int)) (vals : List Int) : List (Int × Int) := ms.map fun m => (m.1, vals.getD m.2.toNat 0)
theorem pairsM_snoc {ms : List (Int × Int)} {vals : List Int} {i : Nat} (h : i < ms.length) : pairsM (ms.take (i + 1)) vals = pairsM (ms.take i) vals ++ [((ms.getD i (0, 0)).1, vals.getD (ms.getD i (0, 0)).2.toNat 0)] := by
  rw [take_snocD (0, 0) h]; unfold pairsM; rw [List.map_append]; rfl
theorem split_len {n : Nat} {ms : List (Int × Int)} {vals : List Int} (h : vals.length ≠ n) : splitM n ms vals = [] := by unfold splitM; rw [if_neg (fun k => h k.1)]
theorem split_bad {n : Nat} {ms : List (Int × Int)} {vals : List Int} {i : Nat} (hi : i < ms.length) (h : ¬ (0 ≤ (ms.getD i (0, 0)).2 ∧ (ms.getD i (0, 0)).2 < vals.length)) : splitM n ms vals = [] := by
  unfold splitM
  rw [if_neg (fun k => h (k.2 _ (by simp [List.getD, hi])))]
theorem split_good {n : Nat} {ms : List (Int × Int)} {vals : List Int} (h : vals.length = n) (hg : ∀ i, i < ms.length → 0 ≤ (ms.getD i (0, 0)).2 ∧ (ms.getD i (0, 0)).2 < vals.length) : splitM n ms vals = pairsM ms vals := by
  unfold splitM pairsM
  rw [if_pos ⟨h, fun m hm => by
    obtain ⟨i, hi, rfl⟩ := List.getElem_of_mem hm
    have := hg i hi
    simpa [List.getD, hi] using this⟩]
theorem RdInts.get {w : World} {ao : Option Addr} {n cap : Nat} {xs : List Int} (h : RdInts w (.slice ao n cap) xs) {j : Nat} (hj : j < xs.length) : ∃ b o, ao = some ⟨b, o, none⟩ ∧ w.cell? ⟨b, o + j, none⟩ = some (.int .i64 (xs.getD j 0)) := by
  obtain ⟨a, c, h1, h2, h3, h4⟩ := h
  obtain ⟨b, o, h5, h6⟩ := h4 j hj
  simp only [Value.slice.injEq] at h1
  exact ⟨b, o, h1.1.trans h5, h6⟩
theorem RdInts.fr0 {w w' : World} {v : Value} {xs : List Int} (h : RdInts w v xs) (k : Fr [] w w') : RdInts w' v xs := h.fr k (fun _ _ => by simp)

/-- What Split tells. -/
def SplitR (w : World) (l : List (Int × Int)) (e : Ending) (w' : World) : Prop :=
  ∃ v b, e = .returned (.tuple #[v, .bool b]) ∧ w'.ownsRow w.heap.size 273 2 v l.length (l.flatMap pairCells) ∧ Fr [] w w'
theorem SplitR.mk {w w' : World} {l : List (Int × Int)} {e : Ending} (v : Value) (b : Bool) (he : e = .returned (.tuple #[v, .bool b])) (ho : w'.ownsRow w.heap.size 273 2 v l.length (l.flatMap pairCells)) (hF : Fr [] w w') : SplitR w l e w' := ⟨v, b, he, ho, hF⟩
set_option maxHeartbeats 4000000 in
set_option maxRecDepth 20000 in
theorem split_spec {w : World} {a0 : Option Addr} {n0 c0 : Nat} {vm vv : Value} {ms : List (Int × Int)} {vals : List Int} (h : Mems w vm ms) (hv : RdInts w vv vals) (hm : ms.length ≤ 1000000000) :
    Calls Tryz.prog 157 #[.agg #[.slice a0 n0 c0, vm], vv] w (SplitR w (splitM n0 ms vals)) := by
  have HF := Lib.hid ((Fr.refl [] w).alloc (.cells #[.slice a0 n0 c0, vm] 91))
  have HM := Lib.hid h
  have HV := Lib.hid hv
  obtain ⟨am, cm, rfl, -, -⟩ := h
  obtain ⟨av, cv, rfl, -, -, -⟩ := hv
  by_cases hn : vals.length = n0
  · subst hn
    obtain ⟨i0, hi, hz0, hz1, hz2⟩ := info_partsD Tryz.info_pair
    go_enter Tryz.func157, Tryz.ntmps157
    go_wp2_with fail
    go_loopw [6, 18] (fun rv x wr => ∃ i : Nat, i ≤ ms.length ∧ x = .int .i64 i ∧ Hid (∀ j, j < i → 0 ≤ (ms.getD j (0, 0)).2 ∧ (ms.getD j (0, 0)).2 < vals.length) ∧ Hid (wr.ownsRow w.heap.size 273 2 rv i ((pairsM (ms.take i) vals).flatMap pairCells)) ∧ Hid (Fr [] w wr)) (fun _ x _ => ms.length - (intOf x).toNat)
    case atStart => exact ⟨0, Nat.zero_le _, rfl, Lib.hid (fun j hj => by omega), Lib.hid (World.ownsRow_nil _ _ _ _), HF⟩
    case round =>
      obtain ⟨i, hi2, rfl, HG, HO, HF2⟩ := hrel
      obtain ⟨ao2, cap2, hrv⟩ := ownsFormD HO.out
      subst hrv
      by_cases hlt : i < ms.length
      · obtain ⟨g, o, rfl, m0, m1⟩ := (HM.out.fr0 HF2.out).at hlt
        have HPS := Lib.hid (pairsM_snoc (vals := vals) hlt)
        have HBAD := Lib.hid (fun h => split_bad (n := vals.length) (vals := vals) hlt h)
        have HGN : Hid (0 ≤ (ms.getD i (0, 0)).2 ∧ (ms.getD i (0, 0)).2 < vals.length → ∀ j, j < i + 1 → 0 ≤ (ms.getD j (0, 0)).2 ∧ (ms.getD j (0, 0)).2 < vals.length) := Lib.hid (fun h j hj => if e : j = i then e ▸ h else HG.out j (by omega))
        generalize ms.getD i (0, 0) = m at *
        obtain ⟨id, pl⟩ := m
        simp only at m0 m1
        by_cases hp : 0 ≤ pl ∧ pl < vals.length
        · obtain ⟨hp0, hp1⟩ := hp
          have HGN2 := Lib.hid (HGN.out ⟨hp0, hp1⟩)
          obtain ⟨j, rfl⟩ := Int.eq_ofNat_of_zero_le hp0
          have hj : j < vals.length := by omega
          obtain ⟨bv, ov, rfl, v0⟩ := (HV.out.fr0 (HF2.out.alloc (.cells #[.int .i64 id, .int .i64 (j : Int)] 191))).get hj
          have HPS2 : Hid (pairsM (ms.take (i + 1)) vals = pairsM (ms.take i) vals ++ [(id, vals.getD j 0)]) := HPS
          have HF3 := Lib.hid (HF2.out.alloc (.cells #[.int .i64 id, .int .i64 (j : Int)] 191))
          have hsz := HF2.out.size
          clear hp0 hp1 HBAD HPS HGN
          generalize vals.getD j 0 = x at *
          go_wp2_with fail
          go_region_law (go_must (refine step_app rfl (.tmp 32) (.tmp 41) 269 rfl w.heap.size 273 i0 _ 2 16 Tryz.underlying269 hi hz0 hz1 hz2 rfl (by decide) (.slice ao2 i cap2) i _ rfl (ownsRow_fr HO.out (show Fr [] wr _ from by repeat (first | exact Fr.refl _ _ | apply Fr.drew | apply Fr.alloc)) (by simp)) _ 1 _ rfl (Src.pair _ (id, x) _ _ (World.size_alloc _ _)).drew (by unfold maxLen; omega) (by omega) (by simp; omega) ?_; intro v8 w8 hown hg; (have HO8 := Lib.hid hown); (have HF8 := Lib.hid (Fr.of_grownD (HF3.out.alloc (.cells #[.int .i64 id, .int .i64 x] 273)).drew hg (fun q hq => .inr (World.ownsRow.lt HO.out q hq).1))); clear hown hg))
          all_goals (
            go_wp2_with fail
            go_roundw
            case rel => exact ⟨i + 1, by omega, by go_num, HGN2, Lib.hid (by rw [HPS2.out, List.flatMap_append]; simpa using HO8.out), HF8⟩
            case measure => simp [intOf]; omega)
        · have HS := Lib.hid (HBAD.out hp)
          have HF3 := Lib.hid (HF2.out.alloc (.cells #[.int .i64 id, .int .i64 pl] 191))
          clear HBAD HGN HPS
          by_cases hp0 : pl < 0
          · clear hp
            go_wp2_with fail
            go_ret2
            exact SplitR.mk _ _ rfl (by rw [HS.out]; exact World.ownsRow_nil _ _ _ _) HF3.out
          · have hp1 : ¬ pl < (vals.length : Int) := fun h => hp ⟨by omega, h⟩
            clear hp
            go_wp2_with fail
            go_ret2
            exact SplitR.mk _ _ rfl (by rw [HS.out]; exact World.ownsRow_nil _ _ _ _) HF3.out
      · obtain rfl : i = ms.length := by omega
        have HS := Lib.hid (split_good (vals := vals) (ms := ms) rfl HG.out)
        rw [List.take_length] at HO
        have HL : Hid ((pairsM ms vals).length = ms.length) := Lib.hid (by simp [pairsM])
        go_wp2_with fail
        go_ret2
        exact SplitR.mk _ _ rfl (by rw [HS.out, HL.out]; exact HO.out) HF2.out
  · have b1 : ((vals.length : Int) == (n0 : Int)) = false := by simp; omega
    have HS := Lib.hid (split_len (ms := ms) hn)
    go_enter Tryz.func157, Tryz.ntmps157
    go_wp2_with fail
    go_ret2
    exact SplitR.mk _ _ rfl (by rw [HS.out]; exact World.ownsRow_nil _ _ _ _) HF.out
end Go.Proofs.YtcnkhjgpjchkeaaGreat

namespace Go.Proofs.YtcnkhjgpjchkeaaGreat
open Go.RowKit

theorem outs_four (c : CallM) (vals : List Int) (now : Nat) : c.outs 4 vals now = c.ms.map fun m => c.out 4 m.1 0 now := by unfold CallM.outs; rw [if_pos rfl]
theorem outs_some (c : CallM) (kind : Int) (h : kind = 1 ∨ kind = 3) (vals : List Int) (now : Nat) : c.outs kind vals now = (splitM c.nargs c.ms vals).map fun p => c.out kind p.1 p.2 now := by
  unfold CallM.outs; rw [if_neg (by omega), if_pos h]
theorem map_take_snoc {α β : Type} [Inhabited α] (f : α → β) (d : α) {l : List α} {i : Nat} (h : i < l.length) : (l.take (i + 1)).map f = (l.take i).map f ++ [f (l.getD i d)] := by
  rw [take_snocD d h, List.map_append]; rfl
/-- What is told: a slice of outcomes, of the call's own. -/
def OutsR (w : World) (l : List Ou) (e : Ending) (w' : World) : Prop := ∃ v, e = .returned v ∧ w'.ownsRow w.heap.size 87 5 v l.length (l.flatMap Ou.cells) ∧ Fr [] w w'
theorem OutsR.mk {w w' : World} {l : List Ou} {e : Ending} (v : Value) (he : e = .returned v) (ho : w'.ownsRow w.heap.size 87 5 v l.length (l.flatMap Ou.cells)) (hF : Fr [] w w') : OutsR w l e w' := ⟨v, he, ho, hF⟩
theorem ownsRow_mem2 {w : World} {base : Nat} {E : TypeId} {v : Value} {n : Nat} {l : List (Int × Int)} (h : w.ownsRow base E 2 v n (l.flatMap pairCells)) (hn : n = l.length) {i : Nat} (hi : i < l.length) :
    ∃ g cap, v = .slice (some ⟨g, 0, none⟩) n cap ∧ w.cell? ⟨g, i * 2, none⟩ = some (.int .i64 (l.getD i (0, 0)).1) ∧ w.cell? ⟨g, i * 2 + 1, none⟩ = some (.int .i64 (l.getD i (0, 0)).2) := by
  subst hn
  rcases h.2 with ⟨_, h0⟩ | ⟨g, cap, cur, rfl, hg, hh, hc, hm, hs, ht⟩
  · omega
  · have hlen : ∀ l : List (Int × Int), (l.flatMap pairCells).length = l.length * 2 := by
      intro l; induction l with
      | nil => rfl
      | cons x l ih => rw [List.flatMap_cons, List.length_append, ih, List.length_cons]; simp [pairCells]; omega
    have hget : ∀ (l : List (Int × Int)) (i : Nat), i < l.length → (l.flatMap pairCells)[i * 2]? = some (.int .i64 (l.getD i (0, 0)).1) ∧ (l.flatMap pairCells)[i * 2 + 1]? = some (.int .i64 (l.getD i (0, 0)).2) := by
      intro l
      induction l with
      | nil => intro i hi; simp at hi
      | cons x l ih =>
        intro i hi
        cases i with
        | zero => exact ⟨rfl, rfl⟩
        | succ i =>
          have := ih i (by simpa using hi)
          rw [show (i + 1) * 2 = i * 2 + 1 + 1 by omega, show i * 2 + 1 + 1 + 1 = (i * 2 + 1) + 1 + 1 by omega]
          simp only [List.flatMap_cons, pairCells, List.cons_append, List.nil_append, List.getElem?_cons_succ, List.getD_cons_succ]
          exact this
    obtain ⟨g0, g1⟩ := hget l i hi
    refine ⟨g, cap, rfl, ?_, ?_⟩
    · rw [cell_of_block hh, ← Array.getElem?_toList]
      have : (cur.toList.take (l.length * 2))[i * 2]? = some (.int .i64 (l.getD i (0, 0)).1) := by rw [ht]; exact g0
      rw [List.getElem?_take, if_pos (by omega)] at this
      exact this
    · rw [cell_of_block hh, ← Array.getElem?_toList]
      have : (cur.toList.take (l.length * 2))[i * 2 + 1]? = some (.int .i64 (l.getD i (0, 0)).2) := by rw [ht]; exact g1
      rw [List.getElem?_take, if_pos (by omega)] at this
      exact this

set_option maxHeartbeats 4000000 in
set_option maxRecDepth 20000 in
theorem outs4_spec {w : World} {a0 : Option Addr} {c0 : Nat} {vm : Value} (c : CallM) (vv : Value) (h : Mems w vm c.ms) (hm : c.ms.length ≤ 1000000000) (now : Nat) (vals : List Int) :
    Calls Tryz.prog 124 #[.agg #[.slice a0 c.nargs c0, vm, .int .i64 c.st, .int .i64 c.step, .int .i64 c.cause, .int .u64 c.start], .int .i64 4, vv, .int .u64 now] w (OutsR w (c.outs 4 vals now)) := by
  have HM := Lib.hid h
  obtain ⟨am, cm, rfl, -, -⟩ := h
  have HP := Lib.hid (outs_four c vals now)
  obtain ⟨nargs, ms, st, step, cause, start⟩ := c
  simp only at HM hm
  simp only
  have HF := Lib.hid ((Fr.refl [] w).alloc (.cells #[.slice a0 nargs c0, .slice am ms.length cm, .int .i64 st, .int .i64 step, .int .i64 cause, .int .u64 start] 134))
  have HC := Lib.hid (block_alloc_new w (.cells #[.slice a0 nargs c0, .slice am ms.length cm, .int .i64 st, .int .i64 step, .int .i64 cause, .int .u64 start] 134))
  obtain ⟨i0, hi, hz0, hz1, hz2⟩ := info_partsD Tryz.info_ou
  go_enter Tryz.func124, Tryz.ntmps124
  go_wp2_with fail
  go_loopw [9, 23] (fun rv x wr => ∃ i : Nat, i ≤ ms.length ∧ x = .int .i64 i ∧ Hid (wr.ownsRow w.heap.size 87 5 rv i (((ms.take i).map fun m => CallM.out ⟨nargs, ms, st, step, cause, start⟩ 4 m.1 0 now).flatMap Ou.cells)) ∧ Hid (Fr [] w wr) ∧
    Hid (wr.heap[w.heap.size]? = some (.cells #[.slice a0 nargs c0, .slice am ms.length cm, .int .i64 st, .int .i64 step, .int .i64 cause, .int .u64 start] 134))) (fun _ x _ => ms.length - (intOf x).toNat)
  case atStart => exact ⟨0, Nat.zero_le _, rfl, Lib.hid (World.ownsRow_nil _ _ _ _), HF, HC⟩
  case round =>
    obtain ⟨i, hi2, rfl, HO, HF2, HC2⟩ := hrel
    obtain ⟨ao2, cap2, hrv⟩ := ownsFormD HO.out
    subst hrv
    by_cases hlt : i < ms.length
    · obtain ⟨g, o, rfl, m0, m1⟩ := (HM.out.fr0 HF2.out).at hlt
      have HPS := Lib.hid (map_take_snoc (fun m : Int × Int => CallM.out ⟨nargs, ms, st, step, cause, start⟩ 4 m.1 0 now) (0, 0) hlt)
      generalize hmd : ms.getD i (0, 0) = m at *
      clear hmd
      obtain ⟨id, pl⟩ := m
      simp only at m0 m1
      have HF3 := Lib.hid (HF2.out.alloc (.cells #[.int .i64 id, .int .i64 pl] 191))
      have HC3 := Lib.hid (block_alloc HC2.out (.cells #[.int .i64 id, .int .i64 pl] 191))
      have HO3 := Lib.hid (ownsRow_fr HO.out ((Fr.refl [] _).alloc (.cells #[.int .i64 id, .int .i64 pl] 191)) (by simp))
      have HOC := Lib.hid (fun w' => out_spec w' a0 nargs c0 (some ⟨g, o, none⟩) ms.length cm st step cause start id 4 0 now)
      obtain ⟨y0, y1, y2, y3, y4, y5⟩ := six HC3.out
      have hsz := HF2.out.size
      go_wp2_with fail
      refine (HOC.out _).mono ?_
      rintro e w2 ⟨rfl, F⟩
      have HF4 := Lib.hid (HF3.out.trans F)
      have HC4 := Lib.hid (F.keep HC3.out (by simp))
      have HO4 := Lib.hid (ownsRow_fr HO3.out F (by simp))
      have hsz2 := HF4.out.size
      clear F y0 y1 y2 y3 y4 y5 HO3 HO HC3 HC2
      rw [if_neg (by decide)]
      go_wp2_with (at_builtin; go_must (refine wpList_app rfl (.tmp 27) (.tmp 34) 43 rfl w.heap.size 87 i0 _ 5 40 Tryz.underlying43 hi hz0 hz1 hz2 rfl (by decide) (.slice ao2 i cap2) i _ rfl (ownsRow_fr HO4.out ((Fr.refl [] _).alloc _) (by simp)) _ 1 _ rfl (Src.one5D w2 ⟨id, 4, cause, 0, now⟩ _ rfl) (by unfold maxLen; omega) (by omega) (by simp; omega) ?_; intro v8 w8 hown hg; (have HO8 := Lib.hid hown); (have HF8 := Lib.hid (Fr.of_grownD (HF4.out.alloc (Ou.obj ⟨id, 4, cause, 0, now⟩)) hg (fun q hq => .inr (World.ownsRow.lt HO4.out q hq).1))); (have HC8 := Lib.hid (grown_keepD hg (block_alloc HC4.out (Ou.obj ⟨id, 4, cause, 0, now⟩)) (owns_neD HO4.out HC4.out (by decide)))); clear hown hg))
      go_roundw
      case rel => exact ⟨i + 1, by omega, by go_num, Lib.hid (by rw [HPS.out, List.flatMap_append]; simpa [CallM.out] using HO8.out), HF8, HC8⟩
      case measure => simp [intOf]; omega
    · obtain rfl : i = ms.length := by omega
      rw [List.take_length] at HO
      go_wp2_with fail
      go_ret
      exact OutsR.mk _ rfl (by rw [HP.out]; simpa using HO.out) HF2.out
/-- Two rows of different types lie apart. -/
theorem owns_apart {w w' : World} {base base' : Nat} {e e' : TypeId} {size size' : Nat} {v v' : Value} {n n' : Nat} {xs xs' : List Value} (h : w.ownsRow base e size v n xs) (k : w.ownsRow base' e' size' v' n' xs') (hne : e ≠ e')
    (hg : w.grownBy w' v'.ownBlock) : w'.ownsRow base e size v n xs := by
  refine h.kept hg ?_
  rcases h.2 with ⟨rfl, _⟩ | ⟨g, cap, cur, rfl, _, hh, _⟩
  · exact .inl rfl
  · exact .inr (fun e1 => (owns_neD k hh (Ne.symm hne) g e1.symm) rfl)
set_option maxHeartbeats 4000000 in
set_option maxRecDepth 20000 in
theorem outs1_spec {w : World} {a0 : Option Addr} {c0 : Nat} {vm vv : Value} (c : CallM) (h : Mems w vm c.ms) {vals : List Int} (hv : RdInts w vv vals) (hm : c.ms.length ≤ 1000000000) (now : Nat) :
    Calls Tryz.prog 124 #[.agg #[.slice a0 c.nargs c0, vm, .int .i64 c.st, .int .i64 c.step, .int .i64 c.cause, .int .u64 c.start], .int .i64 1, vv, .int .u64 now] w (OutsR w (c.outs 1 vals now)) := by
  have HP := Lib.hid (outs_some c 1 (by decide) vals now)
  have hlen : (splitM c.nargs c.ms vals).length ≤ c.ms.length := by unfold splitM; split <;> simp
  have HS0 := Lib.hid (fun (w' : World) (F : Fr [] w w') => split_spec (a0 := a0) (n0 := c.nargs) (c0 := c0) (h.fr0 F) (hv.fr0 F) hm)
  obtain ⟨am, cm, rfl, -, -⟩ := h
  obtain ⟨av, cv, rfl, -, -, -⟩ := hv
  obtain ⟨nargs, ms, st, step, cause, start⟩ := c
  simp only at hm HS0 hlen
  simp only at HP
  simp only
  generalize splitM nargs ms vals = ps at *
  have hpl : ps.length ≤ 1000000000 := by omega
  have HF := Lib.hid ((Fr.refl [] w).alloc (.cells #[.slice a0 nargs c0, .slice am ms.length cm, .int .i64 st, .int .i64 step, .int .i64 cause, .int .u64 start] 134))
  have HC := Lib.hid (block_alloc_new w (.cells #[.slice a0 nargs c0, .slice am ms.length cm, .int .i64 st, .int .i64 step, .int .i64 cause, .int .u64 start] 134))
  obtain ⟨i0, hi, hz0, hz1, hz2⟩ := info_partsD Tryz.info_ou
  clear hm hlen
  go_enter Tryz.func124, Tryz.ntmps124
  go_wp2_with fail
  refine (HS0.out _ HF.out).mono ?_
  rintro e w1 ⟨vp, bp, rfl, hown, F⟩
  have HF1 := Lib.hid (HF.out.trans F)
  have HC1 := Lib.hid (F.keep HC.out (by simp))
  have HR1 := Lib.hid hown
  obtain ⟨ap, cp, hvp⟩ := ownsFormD hown
  subst hvp
  clear F hown HF HC HS0
  go_wp2_with fail
  go_loopw [9, 49] (fun rv x wr => ∃ i : Nat, i ≤ ps.length ∧ x = .int .i64 i ∧ Hid (wr.ownsRow w.heap.size 87 5 rv i (((ps.take i).map fun p => CallM.out ⟨nargs, ms, st, step, cause, start⟩ 1 p.1 p.2 now).flatMap Ou.cells)) ∧ Hid (Fr [] w wr) ∧
    Hid (wr.heap[w.heap.size]? = some (.cells #[.slice a0 nargs c0, .slice am ms.length cm, .int .i64 st, .int .i64 step, .int .i64 cause, .int .u64 start] 134)) ∧ Hid (wr.ownsRow (w.alloc (.cells #[.slice a0 nargs c0, .slice am ms.length cm, .int .i64 st, .int .i64 step, .int .i64 cause, .int .u64 start] 134)).heap.size 273 2 (.slice ap ps.length cp) ps.length (ps.flatMap pairCells))) (fun _ x _ => ps.length - (intOf x).toNat)
  case atStart => exact ⟨0, Nat.zero_le _, rfl, Lib.hid (World.ownsRow_nil _ _ _ _), HF1, HC1, HR1⟩
  case round =>
    obtain ⟨i, hi2, rfl, HO, HF2, HC2, HR2⟩ := hrel
    obtain ⟨ao2, cap2, hrv⟩ := ownsFormD HO.out
    subst hrv
    by_cases hlt : i < ps.length
    · obtain ⟨g, cap9, hav, m0, m1⟩ := ownsRow_mem2 HR2.out rfl hlt
      simp only [Value.slice.injEq, true_and] at hav
      obtain ⟨rfl, rfl⟩ := hav
      have HPS := Lib.hid (map_take_snoc (fun p : Int × Int => CallM.out ⟨nargs, ms, st, step, cause, start⟩ 1 p.1 p.2 now) (0, 0) hlt)
      generalize hmd : ps.getD i (0, 0) = m at *
      clear hmd
      obtain ⟨id, x⟩ := m
      simp only at m0 m1
      have HF3 := Lib.hid (HF2.out.alloc (.cells #[.int .i64 id, .int .i64 x] 273))
      have HC3 := Lib.hid (block_alloc HC2.out (.cells #[.int .i64 id, .int .i64 x] 273))
      have HO3 := Lib.hid (ownsRow_fr HO.out ((Fr.refl [] _).alloc (.cells #[.int .i64 id, .int .i64 x] 273)) (by simp))
      have HR3 := Lib.hid (ownsRow_fr HR2.out ((Fr.refl [] _).alloc (.cells #[.int .i64 id, .int .i64 x] 273)) (by simp))
      have HOC := Lib.hid (fun w' => out_spec w' a0 nargs c0 am ms.length cm st step cause start id 1 x now)
      obtain ⟨y0, y1, y2, y3, y4, y5⟩ := six HC3.out
      have hsz := HF2.out.size
      go_wp2_with fail
      refine (HOC.out _).mono ?_
      rintro e w2 ⟨rfl, F⟩
      have HF4 := Lib.hid (HF3.out.trans F)
      have HC4 := Lib.hid (F.keep HC3.out (by simp))
      have HO4 := Lib.hid (ownsRow_fr HO3.out F (by simp))
      have HR4 := Lib.hid (ownsRow_fr (ownsRow_fr HR3.out F (by simp)) ((Fr.refl [] _).alloc (Ou.obj ⟨id, 1, 0, x, now⟩)) (by simp))
      have HO5 := Lib.hid (ownsRow_fr HO4.out ((Fr.refl [] _).alloc (Ou.obj ⟨id, 1, 0, x, now⟩)) (by simp))
      have hsz2 := HF4.out.size
      clear F y0 y1 y2 y3 y4 y5 HO3 HO HC3 HC2 HR3 HR2 m0 m1
      rw [if_pos trivial]
      go_wp2_with (at_builtin; go_must (refine wpList_app rfl (.tmp 53) (.tmp 62) 43 rfl w.heap.size 87 i0 _ 5 40 Tryz.underlying43 hi hz0 hz1 hz2 rfl (by decide) (.slice ao2 i cap2) i _ rfl HO5.out _ 1 _ rfl (Src.one5D w2 ⟨id, 1, 0, x, now⟩ _ rfl) (by unfold maxLen; omega) (by omega) (by simp; omega) ?_; intro v8 w8 hown hg; (have HO8 := Lib.hid hown); (have HF8 := Lib.hid (Fr.of_grownD (HF4.out.alloc (Ou.obj ⟨id, 1, 0, x, now⟩)) hg (fun q hq => .inr (World.ownsRow.lt HO4.out q hq).1))); (have HC8 := Lib.hid (grown_keepD hg (block_alloc HC4.out (Ou.obj ⟨id, 1, 0, x, now⟩)) (owns_neD HO4.out HC4.out (by decide)))); (have HR8 := Lib.hid (owns_apart HR4.out HO5.out (by decide) hg)); clear hown hg))
      go_roundw
      case rel => exact ⟨i + 1, by omega, by go_num, Lib.hid (by rw [HPS.out, List.flatMap_append]; simpa [CallM.out] using HO8.out), HF8, HC8, HR8⟩
      case measure => simp [intOf]; omega
    · obtain rfl : i = ps.length := by omega
      rw [List.take_length] at HO
      go_wp2_with fail
      go_ret
      exact OutsR.mk _ rfl (by rw [HP.out]; simpa using HO.out) HF2.out
set_option maxHeartbeats 4000000 in
set_option maxRecDepth 20000 in
theorem outs3_spec {w : World} {a0 : Option Addr} {c0 : Nat} {vm vv : Value} (c : CallM) (h : Mems w vm c.ms) {vals : List Int} (hv : RdInts w vv vals) (hm : c.ms.length ≤ 1000000000) (now : Nat) :
    Calls Tryz.prog 124 #[.agg #[.slice a0 c.nargs c0, vm, .int .i64 c.st, .int .i64 c.step, .int .i64 c.cause, .int .u64 c.start], .int .i64 3, vv, .int .u64 now] w (OutsR w (c.outs 3 vals now)) := by
  have HP := Lib.hid (outs_some c 3 (by decide) vals now)
  have hlen : (splitM c.nargs c.ms vals).length ≤ c.ms.length := by unfold splitM; split <;> simp
  have HS0 := Lib.hid (fun (w' : World) (F : Fr [] w w') => split_spec (a0 := a0) (n0 := c.nargs) (c0 := c0) (h.fr0 F) (hv.fr0 F) hm)
  obtain ⟨am, cm, rfl, -, -⟩ := h
  obtain ⟨av, cv, rfl, -, -, -⟩ := hv
  obtain ⟨nargs, ms, st, step, cause, start⟩ := c
  simp only at hm HS0 hlen
  simp only at HP
  simp only
  generalize splitM nargs ms vals = ps at *
  have hpl : ps.length ≤ 1000000000 := by omega
  have HF := Lib.hid ((Fr.refl [] w).alloc (.cells #[.slice a0 nargs c0, .slice am ms.length cm, .int .i64 st, .int .i64 step, .int .i64 cause, .int .u64 start] 134))
  have HC := Lib.hid (block_alloc_new w (.cells #[.slice a0 nargs c0, .slice am ms.length cm, .int .i64 st, .int .i64 step, .int .i64 cause, .int .u64 start] 134))
  obtain ⟨i0, hi, hz0, hz1, hz2⟩ := info_partsD Tryz.info_ou
  clear hm hlen
  go_enter Tryz.func124, Tryz.ntmps124
  go_wp2_with fail
  refine (HS0.out _ HF.out).mono ?_
  rintro e w1 ⟨vp, bp, rfl, hown, F⟩
  have HF1 := Lib.hid (HF.out.trans F)
  have HC1 := Lib.hid (F.keep HC.out (by simp))
  have HR1 := Lib.hid hown
  obtain ⟨ap, cp, hvp⟩ := ownsFormD hown
  subst hvp
  clear F hown HF HC HS0
  go_wp2_with fail
  go_loopw [9, 49] (fun rv x wr => ∃ i : Nat, i ≤ ps.length ∧ x = .int .i64 i ∧ Hid (wr.ownsRow w.heap.size 87 5 rv i (((ps.take i).map fun p => CallM.out ⟨nargs, ms, st, step, cause, start⟩ 3 p.1 p.2 now).flatMap Ou.cells)) ∧ Hid (Fr [] w wr) ∧
    Hid (wr.heap[w.heap.size]? = some (.cells #[.slice a0 nargs c0, .slice am ms.length cm, .int .i64 st, .int .i64 step, .int .i64 cause, .int .u64 start] 134)) ∧ Hid (wr.ownsRow (w.alloc (.cells #[.slice a0 nargs c0, .slice am ms.length cm, .int .i64 st, .int .i64 step, .int .i64 cause, .int .u64 start] 134)).heap.size 273 2 (.slice ap ps.length cp) ps.length (ps.flatMap pairCells))) (fun _ x _ => ps.length - (intOf x).toNat)
  case atStart => exact ⟨0, Nat.zero_le _, rfl, Lib.hid (World.ownsRow_nil _ _ _ _), HF1, HC1, HR1⟩
  case round =>
    obtain ⟨i, hi2, rfl, HO, HF2, HC2, HR2⟩ := hrel
    obtain ⟨ao2, cap2, hrv⟩ := ownsFormD HO.out
    subst hrv
    by_cases hlt : i < ps.length
    · obtain ⟨g, cap9, hav, m0, m1⟩ := ownsRow_mem2 HR2.out rfl hlt
      simp only [Value.slice.injEq, true_and] at hav
      obtain ⟨rfl, rfl⟩ := hav
      have HPS := Lib.hid (map_take_snoc (fun p : Int × Int => CallM.out ⟨nargs, ms, st, step, cause, start⟩ 3 p.1 p.2 now) (0, 0) hlt)
      generalize hmd : ps.getD i (0, 0) = m at *
      clear hmd
      obtain ⟨id, x⟩ := m
      simp only at m0 m1
      have HF3 := Lib.hid (HF2.out.alloc (.cells #[.int .i64 id, .int .i64 x] 273))
      have HC3 := Lib.hid (block_alloc HC2.out (.cells #[.int .i64 id, .int .i64 x] 273))
      have HO3 := Lib.hid (ownsRow_fr HO.out ((Fr.refl [] _).alloc (.cells #[.int .i64 id, .int .i64 x] 273)) (by simp))
      have HR3 := Lib.hid (ownsRow_fr HR2.out ((Fr.refl [] _).alloc (.cells #[.int .i64 id, .int .i64 x] 273)) (by simp))
      have HOC := Lib.hid (fun w' => out_spec w' a0 nargs c0 am ms.length cm st step cause start id 3 x now)
      obtain ⟨y0, y1, y2, y3, y4, y5⟩ := six HC3.out
      have hsz := HF2.out.size
      go_wp2_with fail
      refine (HOC.out _).mono ?_
      rintro e w2 ⟨rfl, F⟩
      have HF4 := Lib.hid (HF3.out.trans F)
      have HC4 := Lib.hid (F.keep HC3.out (by simp))
      have HO4 := Lib.hid (ownsRow_fr HO3.out F (by simp))
      have HR4 := Lib.hid (ownsRow_fr (ownsRow_fr HR3.out F (by simp)) ((Fr.refl [] _).alloc (Ou.obj ⟨id, 3, cause, x, now⟩)) (by simp))
      have HO5 := Lib.hid (ownsRow_fr HO4.out ((Fr.refl [] _).alloc (Ou.obj ⟨id, 3, cause, x, now⟩)) (by simp))
      have hsz2 := HF4.out.size
      clear F y0 y1 y2 y3 y4 y5 HO3 HO HC3 HC2 HR3 HR2 m0 m1
      rw [if_neg (by decide)]
      go_wp2_with (at_builtin; go_must (refine wpList_app rfl (.tmp 53) (.tmp 62) 43 rfl w.heap.size 87 i0 _ 5 40 Tryz.underlying43 hi hz0 hz1 hz2 rfl (by decide) (.slice ao2 i cap2) i _ rfl HO5.out _ 1 _ rfl (Src.one5D w2 ⟨id, 3, cause, x, now⟩ _ rfl) (by unfold maxLen; omega) (by omega) (by simp; omega) ?_; intro v8 w8 hown hg; (have HO8 := Lib.hid hown); (have HF8 := Lib.hid (Fr.of_grownD (HF4.out.alloc (Ou.obj ⟨id, 3, cause, x, now⟩)) hg (fun q hq => .inr (World.ownsRow.lt HO4.out q hq).1))); (have HC8 := Lib.hid (grown_keepD hg (block_alloc HC4.out (Ou.obj ⟨id, 3, cause, x, now⟩)) (owns_neD HO4.out HC4.out (by decide)))); (have HR8 := Lib.hid (owns_apart HR4.out HO5.out (by decide) hg)); clear hown hg))
      go_roundw
      case rel => exact ⟨i + 1, by omega, by go_num, Lib.hid (by rw [HPS.out, List.flatMap_append]; simpa [CallM.out] using HO8.out), HF8, HC8, HR8⟩
      case measure => simp [intOf]; omega
    · obtain rfl : i = ps.length := by omega
      rw [List.take_length] at HO
      go_wp2_with fail
      go_ret
      exact OutsR.mk _ rfl (by rw [HP.out]; simpa using HO.out) HF2.out
end Go.Proofs.YtcnkhjgpjchkeaaGreat

namespace Go.Proofs.YtcnkhjgpjchkeaaGreat
open Go.RowKit

section
variable {α : Type}

/-- The value at a key; the first one. -/
def look [DecidableEq α] (l : List (α × Value)) (a : α) : Option Value := (l.find? fun p => decide (p.1 = a)).map (·.2)
/-- With a value at a key: in the place of what is there, or as the last one. -/
def put [DecidableEq α] (l : List (α × Value)) (a : α) (v : Value) : List (α × Value) := if a ∈ l.map (·.1) then l.map fun p => if p.1 = a then (a, v) else p else l ++ [(a, v)]
/-- Without a key. -/
def del [DecidableEq α] (l : List (α × Value)) (a : α) : List (α × Value) := l.filter fun p => decide (p.1 ≠ a)

/-- Block r is a map that holds l: each key once. -/
def MapKV (enc : α → Value) (w : World) (r : Nat) (l : List (α × Value)) : Prop :=
  (l.map (·.1)).Nodup ∧ ∃ es clock, w.heap[r]? = some (.map es clock) ∧ es.toList.map (fun e => (e.key, e.val)) = l.map fun p => (enc p.1, p.2)

theorem MapKV.fr {enc : α → Value} {w w' : World} {r : Nat} {l : List (α × Value)} (h : MapKV enc w r l) {S : List Nat} (k : Fr S w w') (hr : r ∉ S) : MapKV enc w' r l := by
  obtain ⟨hn, es, c, h1, h2⟩ := h
  exact ⟨hn, es, c, k.keep h1 hr, h2⟩
theorem MapKV.drewN {enc : α → Value} {w : World} {r : Nat} {l : List (α × Value)} (h : MapKV enc w r l) (q : Nat) : MapKV enc (w.drewN q) r l := h
theorem MapKV.lt {enc : α → Value} {w : World} {r : Nat} {l : List (α × Value)} (h : MapKV enc w r l) : r < w.heap.size := by
  obtain ⟨_, es, c, h1, _⟩ := h
  exact lt_of_block h1
theorem MapKV.new (enc : α → Value) (w : World) : MapKV enc (w.alloc (.map #[] 0)) w.heap.size [] := ⟨by simp, #[], 0, block_alloc_new _ _, rfl⟩

/-- What the model's map asks of a key's type. -/
structure KeyOk [DecidableEq α] (P : Program) (k : TypeId) (enc : α → Value) : Prop where
  inj : ∀ a b, enc a = enc b → a = b
  check : ∀ (w : World) (em : Bool) (a : α), (Instr.checkKey em 10000 k (enc a)).run P w = .ok () w
  find : ∀ (w : World) (a : α) (es : List MapEntry) (ks : List α), es.map (·.key) = ks.map enc →
    (Instr.findKey k (enc a) es).run P w = .ok ((ks.findIdx? fun b => decide (b = a)).bind fun i => (es[i]?).map fun e => (i, e.val)) w
  stays : ∀ (w : World) (a : α), (Instr.keyThatStays (enc a) (enc a)).run P w = .ok (enc a) w

theorem keys_of {enc : α → Value} {es : List MapEntry} {l : List (α × Value)} (h : es.map (fun e => (e.key, e.val)) = l.map fun p => (enc p.1, p.2)) :
    es.map (·.key) = (l.map (·.1)).map enc := by
  have := congrArg (List.map Prod.fst) h
  simpa [Function.comp_def] using this

/-- What a look-up finds in the entries is what it finds in the list. -/
theorem found [DecidableEq α] {enc : α → Value} : ∀ {es : List MapEntry} {l : List (α × Value)} (_ : es.map (fun e => (e.key, e.val)) = l.map fun p => (enc p.1, p.2)) (a : α),
    ((((l.map (·.1)).findIdx? fun b => decide (b = a)).bind fun i => (es[i]?).map fun e => (i, e.val)).map (·.2)) = look l a
  | [], [], _, a => by simp [look]
  | [], p :: l, h, _ => by simp at h
  | e :: es, [], h, _ => by simp at h
  | e :: es, p :: l, h, a => by
    simp only [List.map_cons, List.cons.injEq, Prod.mk.injEq] at h
    obtain ⟨⟨h1, h2⟩, h3⟩ := h
    have ih := found h3 a
    simp only [List.map_cons, List.findIdx?_cons, look, List.find?_cons]
    by_cases hp : p.1 = a
    · simp [hp, h2]
    · simp only [hp, decide_false, Bool.false_eq_true, if_false]
      simp only [look] at ih
      rw [← ih]
      cases List.findIdx? (fun b => decide (b = a)) (l.map (·.1)) <;> simp [Function.comp_def]

theorem run_look [DecidableEq α] {P : Program} {k T : TypeId} {E : TypeId} {enc : α → Value} (K : KeyOk P k enc) (hT : P.underlying T = some (.map k E)) {z : Value} (hz : ∀ w : World, (zeroValue E).run P w = .ok z w)
    {w : World} {r : Nat} {l : List (α × Value)} (h : MapKV enc w r l) (a : α) (ok : Bool) :
    (Instr.lookup T (.map (some r)) (enc a) ok).run P w = .ok (if ok then .tuple #[(look l a).getD z, .bool (look l a).isSome] else (look l a).getD z) w := by
  obtain ⟨hn, es, c, h1, h2⟩ := h
  have hf := K.find w a es.toList (l.map (·.1)) (keys_of h2)
  have hg := found h2 a
  generalize hX : ((l.map (·.1)).findIdx? fun b => decide (b = a)).bind (fun i => (es.toList[i]?).map fun e => (i, e.val)) = X at hf hg
  have hck := K.check w es.isEmpty a
  cases X with
  | none =>
    simp only [Option.map_none] at hg
    simp only [← hg]
    simp [Instr.lookup, run_underlying hT, MapKept.run_getObj_map h1, hck, hf, hz, Result.andThen]
  | some p =>
    obtain ⟨i, v⟩ := p
    simp only [Option.map_some] at hg
    simp only [← hg]
    simp [Instr.lookup, run_underlying hT, MapKept.run_getObj_map h1, hck, hf, Result.andThen]


theorem map_eraseIdx {β γ : Type} (f : β → γ) : ∀ (l : List β) (i : Nat), (l.eraseIdx i).map f = (l.map f).eraseIdx i
  | [], i => by simp
  | x :: l, 0 => by simp
  | x :: l, i + 1 => by simp [map_eraseIdx f l i]

theorem block_set {w : World} {r : Nat} (h : r < w.heap.size) (o : Obj) : (w.heap.setIfInBounds r o)[r]? = some o := by simp [h]

theorem Fr.setBlock {S : List Nat} {a w : World} (h : Fr S a w) {r : Nat} (hr : r ∈ S ∨ a.heap.size ≤ r) (o : Obj) : Fr S a { w with heap := w.heap.setIfInBounds r o } :=
  ⟨h.os, h.tape, h.output, by simpa using h.size, fun k hk hn => by
    have hne : r ≠ k := fun e => by subst e; rcases hr with h1 | h1; exact hn h1; omega
    show (w.heap.setIfInBounds r o)[k]? = _
    rw [Array.getElem?_setIfInBounds_ne hne]
    exact h.block k hk hn⟩

theorem findIdx_none [DecidableEq α] {l : List (α × Value)} {a : α} (h : a ∉ l.map (·.1)) : ((l.map (·.1)).findIdx? fun b => decide (b = a)) = none := by
  rw [List.findIdx?_eq_none_iff]
  intro b hb
  exact decide_eq_false (fun e => h (e ▸ hb))
theorem findIdx_some [DecidableEq α] {l : List (α × Value)} {a : α} (h : a ∈ l.map (·.1)) : ∃ (i : Nat) (p : α × Value), ((l.map (·.1)).findIdx? fun b => decide (b = a)) = some i ∧ l[i]? = some p ∧ p.1 = a := by
  have hs : ((l.map (·.1)).findIdx? fun b => decide (b = a)).isSome := by
    rw [List.findIdx?_isSome, List.any_eq_true]
    exact ⟨a, h, by simp⟩
  obtain ⟨i, hi⟩ := Option.isSome_iff_exists.1 hs
  obtain ⟨hlt, he, _⟩ := List.findIdx?_eq_some_iff_getElem.1 hi
  simp only [List.length_map] at hlt
  exact ⟨i, l[i], hi, List.getElem?_eq_getElem hlt, by simpa using he⟩

theorem modify_put [DecidableEq α] {a : α} {v : Value} : ∀ {l : List (α × Value)} {i : Nat} {p : α × Value}, (l.map (·.1)).Nodup → l[i]? = some p → p.1 = a → (l.map fun p => if p.1 = a then (a, v) else p) = l.set i (a, v)
  | [], i, p, _, h, _ => by simp at h
  | q :: l, 0, p, hn, h, hp => by
    simp only [List.getElem?_cons_zero, Option.some.injEq] at h
    subst h
    simp only [List.map_cons, List.nodup_cons] at hn
    simp only [List.map_cons, hp, if_true, List.set_cons_zero, List.cons.injEq, true_and]
    apply List.ext_getElem (by simp)
    intro j h1 h2
    rw [List.getElem_map, if_neg]
    intro e
    exact hn.1 (by rw [hp, ← e]; exact List.mem_map_of_mem (List.getElem_mem _))
  | q :: l, i + 1, p, hn, h, hp => by
    simp only [List.map_cons, List.nodup_cons] at hn
    have hq : q.1 ≠ a := fun e => hn.1 (by
      rw [e, ← hp]
      exact List.mem_map_of_mem (List.mem_of_getElem? (by simpa using h)))
    simp only [List.map_cons, hq, if_false, List.set_cons_succ, List.cons.injEq, true_and]
    exact modify_put hn.2 (by simpa using h) hp

theorem erase_del [DecidableEq α] {a : α} : ∀ {l : List (α × Value)} {i : Nat} {p : α × Value}, (l.map (·.1)).Nodup → l[i]? = some p → p.1 = a → del l a = l.eraseIdx i
  | [], i, p, _, h, _ => by simp at h
  | q :: l, 0, p, hn, h, hp => by
    simp only [List.getElem?_cons_zero, Option.some.injEq] at h
    subst h
    simp only [List.map_cons, List.nodup_cons] at hn
    simp only [del, List.eraseIdx_cons_zero]
    rw [List.filter_cons_of_neg (by simp [hp]), List.filter_eq_self]
    intro x hx
    refine decide_eq_true fun e => hn.1 ?_
    rw [hp, ← e]
    exact List.mem_map_of_mem hx
  | q :: l, i + 1, p, hn, h, hp => by
    simp only [List.map_cons, List.nodup_cons] at hn
    have hq : q.1 ≠ a := fun e => hn.1 (by
      rw [e, ← hp]
      exact List.mem_map_of_mem (List.mem_of_getElem? (by simpa using h)))
    have ih := erase_del hn.2 (show l[i]? = some p by simpa using h) hp
    simp only [del] at ih ⊢
    rw [List.filter_cons_of_pos (by simp [hq]), ih, List.eraseIdx_cons_succ]

theorem keys_put [DecidableEq α] (l : List (α × Value)) (a : α) (v : Value) : (put l a v).map (·.1) = if a ∈ l.map (·.1) then l.map (·.1) else l.map (·.1) ++ [a] := by
  unfold put
  split
  · rw [List.map_map]
    apply List.map_congr_left
    intro p _
    simp only [Function.comp_def]
    split
    · rename_i h; exact h.symm
    · rfl
  · simp
theorem nodup_put [DecidableEq α] {l : List (α × Value)} (h : (l.map (·.1)).Nodup) (a : α) (v : Value) : ((put l a v).map (·.1)).Nodup := by
  rw [keys_put]
  split
  · exact h
  · rename_i hn
    rw [List.nodup_append]
    exact ⟨h, by simp, fun x hx y hy e => by simp at hy; subst hy; subst e; exact hn hx⟩
theorem nodup_del [DecidableEq α] {l : List (α × Value)} (h : (l.map (·.1)).Nodup) (a : α) : ((del l a).map (·.1)).Nodup :=
  h.sublist (List.filter_sublist.map _)

theorem run_put [DecidableEq α] {P : Program} {k T : TypeId} {E : TypeId} {enc : α → Value} (K : KeyOk P k enc) (hT : P.underlying T = some (.map k E)) {w : World} {r : Nat} {l : List (α × Value)} (h : MapKV enc w r l) (a : α) (v : Value) :
    ∃ o, (Instr.mapUpdate T (.map (some r)) (enc a) v).run P w = .ok () { w with heap := w.heap.setIfInBounds r o } ∧ MapKV enc { w with heap := w.heap.setIfInBounds r o } r (put l a v) := by
  obtain ⟨hn, es, c, h1, h2⟩ := h
  have hf := K.find w a es.toList (l.map (·.1)) (keys_of h2)
  have hck := K.check w false a
  have hlt := lt_of_block h1
  have hlen : es.toList.length = l.length := by have := congrArg List.length h2; simpa using this
  by_cases ha : a ∈ l.map (·.1)
  · obtain ⟨i, p, hi, hp, hpa⟩ := findIdx_some ha
    have hil : i < l.length := (List.getElem?_eq_some_iff.1 hp).1
    have hei : i < es.toList.length := by omega
    obtain ⟨e, he⟩ : ∃ e, es.toList[i]? = some e := ⟨_, List.getElem?_eq_getElem hei⟩
    have hke : e.key = enc a := by
      have := congrArg (fun x => x[i]?) h2
      simp only [List.getElem?_map, he, hp, Option.map_some, Option.some.injEq, Prod.mk.injEq] at this
      rw [this.1, hpa]
    have hke' : es[i]? = some e := by simpa using he
    rw [hi] at hf
    simp only [Option.bind_some, he, Option.map_some] at hf
    refine ⟨.map (es.modify i fun e => { e with key := enc a, val := v }) c, ?_, nodup_put hn a v, _, c, block_set hlt _, ?_⟩
    · have hs : (Instr.keyThatStays (((es[i]?).map (·.key)).getD (enc a)) (enc a)).run P w = .ok (enc a) w := by
        rw [hke']; simp only [Option.map_some, Option.getD_some, hke]; exact K.stays w a
      simp [Instr.mapUpdate, run_underlying hT, MapKept.run_getObj_map h1, hck, hf, hs, MapKept.run_setObj_map _ h1, Result.andThen]
    · rw [put, if_pos ha, modify_put hn hp hpa, List.map_set, ← h2]
      apply List.ext_getElem?
      intro j
      rw [List.getElem?_map, List.getElem?_set, List.getElem?_map]
      simp only [Array.getElem?_toList, Array.getElem?_modify]
      by_cases hij : i = j
      · subst hij
        simp [show i < es.size by simpa using hei]
      · simp [hij]
  · have hi := findIdx_none ha
    rw [hi] at hf
    simp only [Option.bind_none] at hf
    refine ⟨.map (es.push { key := enc a, val := v, born := c }) (c + 1), ?_, nodup_put hn a v, _, _, block_set hlt _, ?_⟩
    · simp [Instr.mapUpdate, run_underlying hT, MapKept.run_getObj_map h1, hck, hf, MapKept.run_setObj_map _ h1, Result.andThen]
    · rw [put, if_neg ha]
      simp [h2]

theorem run_del [DecidableEq α] {P : Program} {k T K' : TypeId} {E ty : TypeId} {enc : α → Value} (K : KeyOk P k enc) (hT : P.underlying T = some (.map k E)) {w : World} {r : Nat} {l : List (α × Value)} (h : MapKV enc w r l) (a : α) :
    ∃ o, (Builtin.delete_ #[T, K'] ty #[.map (some r), enc a]).run P w = .ok (.tuple #[]) { w with heap := w.heap.setIfInBounds r o } ∧ MapKV enc { w with heap := w.heap.setIfInBounds r o } r (del l a) := by
  obtain ⟨hn, es, c, h1, h2⟩ := h
  have hf := K.find w a es.toList (l.map (·.1)) (keys_of h2)
  have hck := K.check w es.isEmpty a
  have hlt := lt_of_block h1
  have hlen : es.toList.length = l.length := by have := congrArg List.length h2; simpa using this
  by_cases ha : a ∈ l.map (·.1)
  · obtain ⟨i, p, hi, hp, hpa⟩ := findIdx_some ha
    have hil : i < l.length := (List.getElem?_eq_some_iff.1 hp).1
    have hei : i < es.toList.length := by omega
    obtain ⟨e, he⟩ : ∃ e, es.toList[i]? = some e := ⟨_, List.getElem?_eq_getElem hei⟩
    rw [hi] at hf
    simp only [Option.bind_some, he, Option.map_some] at hf
    refine ⟨.map (es.eraseIdxIfInBounds i) c, ?_, nodup_del hn a, _, c, block_set hlt _, ?_⟩
    · simp [Builtin.delete_, run_underlying hT, MapKept.run_getObj_map h1, hck, hf, MapKept.run_setObj_map _ h1, Result.andThen]
    · rw [erase_del hn hp hpa, map_eraseIdx, ← h2, ← map_eraseIdx]
      congr 1
      simp
  · have hi := findIdx_none ha
    rw [hi] at hf
    simp only [Option.bind_none] at hf
    refine ⟨.map es c, ?_, nodup_del hn a, es, c, block_set hlt _, ?_⟩
    · simp [Builtin.delete_, run_underlying hT, MapKept.run_getObj_map h1, hck, hf, MapKept.run_setObj_map _ h1, Result.andThen]
    · rw [h2]
      congr 1
      unfold del
      rw [List.filter_eq_self.2]
      intro x hx
      exact decide_eq_true fun e => ha (e ▸ List.mem_map_of_mem hx)

theorem run_len_map {P : Program} {k T E ty : TypeId} {enc : α → Value} (hT : P.underlying T = some (.map k E)) {w : World} {r : Nat} {l : List (α × Value)} (h : MapKV enc w r l) :
    (Builtin.len_ #[T] ty #[.map (some r)]).run P w = .ok (.int .i64 l.length) w := by
  obtain ⟨hn, es, c, h1, h2⟩ := h
  have hlen : es.size = l.length := by have := congrArg List.length h2; simpa using this
  simp [Builtin.len_, run_underlying hT, MapKept.run_getObj_map h1, hlen, goInt, Result.andThen]

theorem put_run [DecidableEq α] {P : Program} {k T : TypeId} {E : TypeId} {enc : α → Value} (K : KeyOk P k enc) (hT : P.underlying T = some (.map k E)) {w : World} {r : Nat} {l : List (α × Value)} (h : MapKV enc w r l) (a : α) (v : Value) :
    ∃ w', (Instr.mapUpdate T (.map (some r)) (enc a) v).run P w = .ok () w' ∧ MapKV enc w' r (put l a v) ∧ Fr [r] w w' := by
  obtain ⟨o, h1, h2⟩ := run_put K hT h a v
  exact ⟨_, h1, h2, (Fr.refl _ _).setBlock (.inl (by simp)) o⟩
theorem del_run [DecidableEq α] {P : Program} {k T K' : TypeId} {E ty : TypeId} {enc : α → Value} (K : KeyOk P k enc) (hT : P.underlying T = some (.map k E)) {w : World} {r : Nat} {l : List (α × Value)} (h : MapKV enc w r l) (a : α) :
    ∃ w', (Builtin.delete_ #[T, K'] ty #[.map (some r), enc a]).run P w = .ok (.tuple #[]) w' ∧ MapKV enc w' r (del l a) ∧ Fr [r] w w' := by
  obtain ⟨o, h1, h2⟩ := run_del (K' := K') (ty := ty) K hT h a
  exact ⟨_, h1, h2, (Fr.refl _ _).setBlock (.inl (by simp)) o⟩
end
end Go.Proofs.YtcnkhjgpjchkeaaGreat

namespace Go.Proofs.YtcnkhjgpjchkeaaGreat
open Go.RowKit

def encI (a : Int) : Value := .int .i64 a
def enc2 (a : Int × Int) : Value := .agg #[.int .i64 a.1, .int .i64 a.2]
def enc3 (a : Int × Int × Int) : Value := .agg #[.int .i64 a.1, .int .i64 a.2.1, .int .i64 a.2.2]

theorem findNow_int (a : Int) : ∀ (es : List MapEntry) (ks : List Int) (n : Nat), es.map (·.key) = ks.map encI →
    Instr.findNow (.int .i64) (encI a) es n = some ((ks.findIdx? fun b => decide (b = a)).bind fun i => (es[i]?).map fun e => (n + i, e.val))
  | [], [], n, _ => by simp [Instr.findNow]
  | [], k :: ks, n, h => by simp at h
  | e :: es, [], n, h => by simp at h
  | e :: es, k :: ks, n, h => by
    simp only [List.map_cons, List.cons.injEq] at h
    have ih := findNow_int a es ks (n + 1) h.2
    simp only [Instr.findNow, h.1, encI, Instr.sameNow, if_true, List.findIdx?_cons]
    by_cases hk : k = a
    · subst hk; simp
    · have h1 : (a == k) = false := by simpa using fun e => hk e.symm
      simp only [encI] at ih
      rw [h1, ih]
      simp only [hk, decide_false, Bool.false_eq_true, if_false]
      have hn : ∀ i, n + 1 + i = n + (i + 1) := fun i => by omega
      cases List.findIdx? (fun b => decide (b = a)) ks <;> simp [hn]

theorem keyOk_int {P : Program} {k : TypeId} (hk : P.underlying k = some (.int .i64)) : KeyOk P k encI where
  inj a b h := by simpa [encI] using h
  check w em a := by
    show (Instr.checkKey em (9999 + 1) k (.int .i64 a)).run P w = _
    rw [Instr.checkKey]
    simp [run_underlying hk]
  find w a es ks h := by
    have := findNow_int a es ks 0 h
    simp only [Nat.zero_add] at this
    simp [Instr.findKey, run_underlying hk, this]
  stays w a := by simp [encI, Instr.keyThatStays, Instr.sameBits]

/-- For a struct's key: each entry is asked in turn. -/
theorem findAsking_run {α : Type} [DecidableEq α] {P : Program} {k : TypeId} {enc : α → Value} (heq : ∀ (w : World) (a b : α), (Op.equal k (enc a) (enc b)).run P w = .ok (decide (b = a)) w) (w : World) (a : α) :
    ∀ (es : List MapEntry) (ks : List α) (n : Nat), es.map (·.key) = ks.map enc →
    (Instr.findAsking k (enc a) es n).run P w = .ok ((ks.findIdx? fun b => decide (b = a)).bind fun i => (es[i]?).map fun e => (n + i, e.val)) w
  | [], [], n, _ => by simp [Instr.findAsking]
  | [], _ :: ks, n, h => by simp at h
  | e :: es, [], n, h => by simp at h
  | e :: es, k' :: ks, n, h => by
    simp only [List.map_cons, List.cons.injEq] at h
    have ih := findAsking_run heq w a es ks (n + 1) h.2
    simp only [Instr.findAsking, h.1, Sem.run_bind, heq, Result.andThen_ok, List.findIdx?_cons]
    by_cases hk : k' = a
    · subst hk; simp
    · simp only [hk, decide_false, Bool.false_eq_true, if_false]
      rw [ih]
      have hn : ∀ i, n + 1 + i = n + (i + 1) := fun i => by omega
      cases List.findIdx? (fun b => decide (b = a)) ks <;> simp [hn]

theorem findNow_struct {α : Type} {fs : Array Field} {enc : α → Value} (a : α) (e : MapEntry) (es : List MapEntry) : Instr.findNow (.struct fs) (enc a) (e :: es) 0 = none := by
  simp [Instr.findNow, Instr.sameNow]

theorem keyOk_struct {α : Type} [DecidableEq α] {P : Program} {k : TypeId} {fs : Array Field} {enc : α → Value} (hk : P.underlying k = some (.struct fs)) (hinj : ∀ a b, enc a = enc b → a = b)
    (hcheck : ∀ (w : World) (em : Bool) (a : α), (Instr.checkKey em 10000 k (enc a)).run P w = .ok () w)
    (heq : ∀ (w : World) (a b : α), (Op.equal k (enc a) (enc b)).run P w = .ok (decide (b = a)) w) (hst : ∀ a, Instr.sameBits 10000 (enc a) (enc a) = true) : KeyOk P k enc where
  inj := hinj
  check := hcheck
  find w a es ks h := by
    cases es with
    | nil =>
      cases ks with
      | nil => simp [Instr.findKey, run_underlying hk, Instr.findNow]
      | cons x ks => simp at h
    | cons e es =>
      have := findAsking_run heq w a (e :: es) ks 0 h
      simp only [Nat.zero_add] at this
      simp only [Instr.findKey, Sem.run_bind, run_underlying hk, Result.andThen_ok, findNow_struct]
      exact this
  stays w a := by simp [Instr.keyThatStays, hst]

section
variable {P : Program} {k i : TypeId} {f0 f1 : Field}
theorem keyOk_2 (hk : P.underlying k = some (.struct #[f0, f1])) (hi : P.underlying i = some (.int .i64)) (h0 : f0.type = i) (h1 : f1.type = i) (o0 : f0.offset = 0) (o1 : f1.offset = 1) (n0 : (f0.name = "_") = False) (n1 : (f1.name = "_") = False)
    (hp : P.stoodInHeld k = false) : KeyOk P k enc2 := by
  have hag : ∀ w : World, (isAgg i).run P w = .ok false w := fun w => by simp [isAgg, run_underlying hi]
  have hpart : ∀ (w : World) (cs : Array Value) (o : Nat) (v : Value), cs[o]? = some v → (part i cs o).run P w = .ok v w := fun w cs o v h => by simp [part, hag, h]
  refine keyOk_struct hk ?_ ?_ ?_ ?_
  · rintro ⟨a, b⟩ ⟨c, d⟩ h
    simp [enc2] at h
    simp [h.1, h.2]
  · intro w em a
    have hc : ∀ (w : World) (n : Nat) (x : Int), (Instr.checkKey em (n + 1) i (.int .i64 x)).run P w = .ok () w := fun w n x => by rw [Instr.checkKey]; simp [run_underlying hi]
    show (Instr.checkKey em (9999 + 1) k (enc2 a)).run P w = _
    rw [Instr.checkKey]
    have p0 := fun w => hpart w #[.int .i64 a.1, .int .i64 a.2] 0 (.int .i64 a.1) rfl
    have p1 := fun w => hpart w #[.int .i64 a.1, .int .i64 a.2] 1 (.int .i64 a.2) rfl
    have hc' : ∀ (w : World) (x : Int), (Instr.checkKey em 9999 i (.int .i64 x)).run P w = .ok () w := fun w x => hc w 9998 x
    simp only [enc2, Sem.run_bind, run_underlying hk, Result.andThen_ok]
    rw [← Array.forIn_toList]
    simp only [List.forIn_cons, List.forIn_nil, Sem.run_bind, n0, n1, ne_eq, not_false_eq_true, if_true, h0, h1, o0, o1, p0, p1, hc', Result.andThen_ok, Sem.run_pure]
  · intro w a b
    have hf : P.fieldsOf k = #[f0, f1] := by simp [Program.fieldsOf, hk]
    have he := run_equalIn_struct (P := P) w 9999 k #[.int .i64 a.1, .int .i64 a.2] #[.int .i64 b.1, .int .i64 b.2] (by rw [hf]; exact hk) hp
    show (Op.equalIn 10000 k _ _).run P w = _
    rw [enc2, enc2, he, hf]
    have e1 : ∀ (w : World) (x y : Int), (Op.equalIn 9999 i (.int .i64 x) (.int .i64 y)).run P w = .ok (x == y) w := fun w x y => run_equalIn_int (P := P) w 9998 i .i64 .i64 x y hi
    have p0 := fun w => hpart w #[.int .i64 a.1, .int .i64 a.2] 0 (.int .i64 a.1) rfl
    have p1 := fun w => hpart w #[.int .i64 a.1, .int .i64 a.2] 1 (.int .i64 a.2) rfl
    have q0 := fun w => hpart w #[.int .i64 b.1, .int .i64 b.2] 0 (.int .i64 b.1) rfl
    have q1 := fun w => hpart w #[.int .i64 b.1, .int .i64 b.2] 1 (.int .i64 b.2) rfl
    simp only [Op.eqFields, n0, n1, ne_eq, not_false_eq_true, if_true, h0, h1, o0, o1, Sem.run_bind, p0, p1, q0, q1, e1, Result.andThen_ok, Sem.run_ite, Sem.run_pure]
    obtain ⟨a1, a2⟩ := a
    obtain ⟨b1, b2⟩ := b
    by_cases x1 : a1 = b1
    · by_cases x2 : a2 = b2
      · simp [x1, x2]
      · have y2 : (a2 == b2) = false := by simpa using x2
        have z2 : ¬ b2 = a2 := fun e => x2 e.symm
        simp [x1, y2, z2]
    · have y1 : (a1 == b1) = false := by simpa using x1
      have z1 : ¬ b1 = a1 := fun e => x1 e.symm
      simp [y1, z1]
  · intro a
    show Instr.sameBits (9999 + 1) (enc2 a) (enc2 a) = true
    simp only [enc2, Instr.sameBits]
    simp [Instr.sameBits]
end
end Go.Proofs.YtcnkhjgpjchkeaaGreat

namespace Go.Proofs.YtcnkhjgpjchkeaaGreat
open Go.RowKit

theorem keyHolder : KeyOk Tryz.prog 196 enc2 :=
  keyOk_2 Tryz.underlying196 Tryz.underlying3 rfl rfl rfl rfl (by simp) (by simp) (by kernel_rfl)
theorem zeroBool (w : World) : (zeroValue 4).run Tryz.prog w = .ok (.bool false) w := by kernel_rfl

/-- A set as the entries of a map of bools. -/
def yes {α : Type} (hs : List α) : List (α × Value) := hs.map fun a => (a, .bool true)
theorem yes_keys {α : Type} (hs : List α) : (yes hs).map (·.1) = hs := by simp [yes, Function.comp_def]
theorem look_yes {α : Type} [DecidableEq α] (a : α) : ∀ hs : List α, (look (yes hs) a).getD (.bool false) = .bool (decide (a ∈ hs))
  | [] => by simp [look, yes]
  | b :: hs => by
    have ih := look_yes a hs
    simp only [look, yes, List.map_cons, List.find?_cons] at ih ⊢
    by_cases h : b = a
    · simp [h]
    · have h' : ¬ a = b := fun e => h e.symm
      simp only [h, decide_false, List.mem_cons, h', false_or]
      exact ih
theorem put_yes {α : Type} [DecidableEq α] {hs : List α} {a : α} (h : a ∉ hs) : put (yes hs) a (.bool true) = yes (hs ++ [a]) := by
  rw [put, if_neg (by rw [yes_keys]; exact h)]
  simp [yes]
theorem del_yes {α : Type} [DecidableEq α] (hs : List α) (a : α) : del (yes hs) a = yes (hs.filter fun b => decide (b ≠ a)) := by
  simp [del, yes, List.filter_map, Function.comp_def]

/-- Block s is a set of m permits, its map in block r, held by hs. -/
def IsSet (w : World) (s r : Nat) (hs : List (Int × Int)) (m : Nat) : Prop :=
  w.heap[s]? = some (.cells #[.int .i64 m, .map (some r)] 174 (0, 0)) ∧ MapKV enc2 w r (yes hs) ∧ hs.length ≤ m ∧ m ≤ 8

theorem IsSet.fr {w w' : World} {s r : Nat} {hs : List (Int × Int)} {m : Nat} (h : IsSet w s r hs m) {S : List Nat} (k : Fr S w w') (h1 : s ∉ S) (h2 : r ∉ S) : IsSet w' s r hs m :=
  ⟨k.keep h.1 h1, h.2.1.fr k h2, h.2.2⟩
theorem IsSet.dr {w w' : World} {s r : Nat} {hs : List (Int × Int)} {m : Nat} (h : IsSet w s r hs m) (k : ∃ q, w' = w.drewN q) : IsSet w' s r hs m := by obtain ⟨q, rfl⟩ := k; exact h
theorem IsSet.nodup {w : World} {s r : Nat} {hs : List (Int × Int)} {m : Nat} (h : IsSet w s r hs m) : hs.Nodup := by have := h.2.1.1; rwa [yes_keys] at this
theorem IsSet.lts {w : World} {s r : Nat} {hs : List (Int × Int)} {m : Nat} (h : IsSet w s r hs m) : s < w.heap.size := lt_of_block h.1
theorem IsSet.ltr {w : World} {s r : Nat} {hs : List (Int × Int)} {m : Nat} (h : IsSet w s r hs m) : r < w.heap.size := h.2.1.lt
theorem IsSet.ne {w : World} {s r : Nat} {hs : List (Int × Int)} {m : Nat} (h : IsSet w s r hs m) : s ≠ r := by
  intro e
  obtain ⟨_, _, _, h2, _⟩ := h.2.1
  have h1 := h.1
  rw [e, h2] at h1
  cases h1
theorem IsSet.c0 {w : World} {s r : Nat} {hs : List (Int × Int)} {m : Nat} (h : IsSet w s r hs m) : w.cell? ⟨s, 0, none⟩ = some (.int .i64 m) := by rw [cell_of_block h.1]; rfl
theorem IsSet.c1 {w : World} {s r : Nat} {hs : List (Int × Int)} {m : Nat} (h : IsSet w s r hs m) : w.cell? ⟨s, 1, none⟩ = some (.map (some r)) := by rw [cell_of_block h.1]; rfl
theorem IsSet.lookup {w : World} {s r : Nat} {hs : List (Int × Int)} {m : Nat} (h : IsSet w s r hs m) (a : Int × Int) :
    (Instr.lookup 172 (.map (some r)) (enc2 a) false).run Tryz.prog w = .ok (.bool (decide (a ∈ hs))) w := by
  rw [run_look keyHolder Tryz.underlying172 zeroBool h.2.1 a false]
  simp only [Bool.false_eq_true, if_false, look_yes]
  exact congrArg (fun x => Result.ok (Value.bool x) w) (decide_eq_decide.2 Iff.rfl)

theorem used_nil (w : World) : Calls Tryz.prog 53 #[.pointer none] w fun e w' => e = .returned (.int .i64 0) ∧ w' = w := by
  go_enter Tryz.func53, Tryz.ntmps53
  go_wp2
  go_ret
  exact ⟨rfl, rfl⟩
theorem IsSet.used {w : World} {s r : Nat} {hs : List (Int × Int)} {m : Nat} (h : IsSet w s r hs m) :
    Calls Tryz.prog 53 #[.pointer (some ⟨s, 0, none⟩)] w fun e w' => e = .returned (.int .i64 hs.length) ∧ w' = w := by
  have c1 := h.c1
  have hl := run_len_map (ty := 3) Tryz.underlying172 h.2.1
  rw [show (yes hs).length = hs.length by simp [yes]] at hl
  clear h
  go_enter Tryz.func53, Tryz.ntmps53
  go_wp2
  go_ret
  exact ⟨rfl, rfl⟩

theorem room_nil (w : World) : Calls Tryz.prog 135 #[.pointer none] w fun e w' => e = .returned (.bool false) ∧ ∃ q, w' = w.drewN q := by
  go_enter Tryz.func135, Tryz.ntmps135
  go_wp2
  go_quiet (fail)
  go_wp2
  go_ret
  exact ⟨rfl, _, rfl⟩
theorem IsSet.room {w : World} {s r : Nat} {hs : List (Int × Int)} {m : Nat} (h : IsSet w s r hs m) :
    Calls Tryz.prog 135 #[.pointer (some ⟨s, 0, none⟩)] w fun e w' => e = .returned (.bool (decide (hs.length < m))) ∧ ∃ q, w' = w.drewN q := by
  have c0 := h.c0
  have c1 := h.c1
  have hl : ∀ q, (Builtin.len_ #[172] 3 #[.map (some r)]).run Tryz.prog (w.drewN q) = .ok (.int .i64 hs.length) (w.drewN q) := by
    intro q
    have := run_len_map (P := Tryz.prog) (ty := 3) Tryz.underlying172 (h.2.1.drewN q)
    rwa [show (yes hs).length = hs.length by simp [yes]] at this
  clear h
  go_enter Tryz.func135, Tryz.ntmps135
  go_wp2
  go_quiet (fail)
  go_wp2
  go_ret
  exact ⟨ret_bool (by simp), _, rfl⟩

theorem holds_nil (w : World) (a b : Int) : Calls Tryz.prog 138 #[.pointer none, .agg #[.int .i64 a, .int .i64 b]] w fun e w' => e = .returned (.bool false) ∧ Fr [] w w' := by
  go_enter Tryz.func138, Tryz.ntmps138
  go_wp2
  go_quiet (fail)
  go_wp2
  go_ret
  exact ⟨rfl, ((Fr.refl _ _).alloc _).drewN _⟩
theorem IsSet.holds {w : World} {s r : Nat} {hs : List (Int × Int)} {m : Nat} (h : IsSet w s r hs m) (a b : Int) :
    Calls Tryz.prog 138 #[.pointer (some ⟨s, 0, none⟩), .agg #[.int .i64 a, .int .i64 b]] w fun e w' => e = .returned (.bool (decide ((a, b) ∈ hs))) ∧ Fr [] w w' := by
  have F : Fr [] w (w.alloc (.cells #[.int .i64 a, .int .i64 b] 196)) := (Fr.refl _ _).alloc _
  have h0 := h.fr F (by simp) (by simp)
  have hl : ∀ q, (Instr.lookup 172 (.map (some r)) (.agg #[.int .i64 a, .int .i64 b]) false).run Tryz.prog ((w.alloc (.cells #[.int .i64 a, .int .i64 b] 196)).drewN q) = .ok (.bool (decide ((a, b) ∈ hs))) ((w.alloc (.cells #[.int .i64 a, .int .i64 b] 196)).drewN q) :=
    fun q => (h0.dr ⟨q, rfl⟩).lookup (a, b)
  have c1 := h0.c1
  have k0 : (w.alloc (.cells #[.int .i64 a, .int .i64 b] 196)).cell? ⟨w.heap.size, 0, none⟩ = some (.int .i64 a) := by simp
  have k1 : (w.alloc (.cells #[.int .i64 a, .int .i64 b] 196)).cell? ⟨w.heap.size, 1, none⟩ = some (.int .i64 b) := by simp
  clear h h0 F
  go_enter Tryz.func138, Tryz.ntmps138
  go_wp2
  go_quiet (fail)
  go_wp2
  go_ret
  exact ⟨rfl, ((Fr.refl _ _).alloc _).drewN _⟩

theorem keepSet {w w' : World} {s r : Nat} {hs : List (Int × Int)} {m : Nat} (h : IsSet w s r hs m) (k : Fr [r] w w') {hs' : List (Int × Int)} (hm : MapKV enc2 w' r (yes hs')) (hl : hs'.length ≤ m) : IsSet w' s r hs' m :=
  ⟨k.keep h.1 (by simpa using h.ne), hm, hl, h.2.2.2⟩

theorem IsSet.take_no {w : World} {s r : Nat} {hs : List (Int × Int)} {m : Nat} (h : IsSet w s r hs m) (a b : Int) (hno : hs.length = m ∨ (a, b) ∈ hs) :
    Calls Tryz.prog 122 #[.pointer (some ⟨s, 0, none⟩), .agg #[.int .i64 a, .int .i64 b]] w fun e w' => e = .returned (.bool false) ∧ Fr [] w w' := by
  have F : Fr [] w (w.alloc (.cells #[.int .i64 a, .int .i64 b] 196)) := (Fr.refl _ _).alloc _
  have h0 := h.fr F (by simp) (by simp)
  have hl : ∀ q, (Instr.lookup 172 (.map (some r)) (.agg #[.int .i64 a, .int .i64 b]) false).run Tryz.prog ((w.alloc (.cells #[.int .i64 a, .int .i64 b] 196)).drewN q) = .ok (.bool (decide ((a, b) ∈ hs))) ((w.alloc (.cells #[.int .i64 a, .int .i64 b] 196)).drewN q) :=
    fun q => (h0.dr ⟨q, rfl⟩).lookup (a, b)
  have hR : ∀ q, Calls Tryz.prog 135 #[.pointer (some ⟨s, 0, none⟩)] ((w.alloc (.cells #[.int .i64 a, .int .i64 b] 196)).drewN q) fun e w' => e = .returned (.bool (decide (hs.length < m))) ∧ ∃ n, w' = ((w.alloc (.cells #[.int .i64 a, .int .i64 b] 196)).drewN q).drewN n :=
    fun q => (h0.dr ⟨q, rfl⟩).room
  have c1 := h0.c1
  have k0 : (w.alloc (.cells #[.int .i64 a, .int .i64 b] 196)).cell? ⟨w.heap.size, 0, none⟩ = some (.int .i64 a) := by simp
  have k1 : (w.alloc (.cells #[.int .i64 a, .int .i64 b] 196)).cell? ⟨w.heap.size, 1, none⟩ = some (.int .i64 b) := by simp
  by_cases hm : hs.length < m
  · have hin : (a, b) ∈ hs := by rcases hno with h1 | h1; omega; exact h1
    rw [decide_eq_true hm] at hR
    rw [decide_eq_true hin] at hl
    have HR := Lib.hid hR
    clear h h0 F hno hm hin hR
    go_enter Tryz.func122, Tryz.ntmps122
    go_wp2
    go_quiet ((go_at_call 135; exact Calls.quiet_of (HR.out _)))
    go_wp2
    go_ret
    exact ⟨rfl, ((Fr.refl _ _).alloc _).drewN _⟩
  · rw [decide_eq_false hm] at hR
    have HR := Lib.hid hR
    clear h h0 F hno hm hR
    go_enter Tryz.func122, Tryz.ntmps122
    go_wp2
    go_quiet ((go_at_call 135; exact Calls.quiet_of (HR.out _)))
    go_wp2
    go_ret
    exact ⟨rfl, ((Fr.refl _ _).alloc _).drewN _⟩

set_option maxHeartbeats 1000000 in
theorem IsSet.take_yes {w : World} {s r : Nat} {hs : List (Int × Int)} {m : Nat} (h : IsSet w s r hs m) (a b : Int) (hm : hs.length < m) (hin : (a, b) ∉ hs) :
    Calls Tryz.prog 122 #[.pointer (some ⟨s, 0, none⟩), .agg #[.int .i64 a, .int .i64 b]] w fun e w' => e = .returned (.bool true) ∧ IsSet w' s r (hs ++ [(a, b)]) m ∧ Fr [r] w w' := by
  have F : Fr [r] w (w.alloc (.cells #[.int .i64 a, .int .i64 b] 196)) := (Fr.refl _ _).alloc _
  have h0 := h.fr ((Fr.refl [] w).alloc (.cells #[.int .i64 a, .int .i64 b] 196)) (by simp) (by simp)
  have hl : ∀ q, (Instr.lookup 172 (.map (some r)) (.agg #[.int .i64 a, .int .i64 b]) false).run Tryz.prog ((w.alloc (.cells #[.int .i64 a, .int .i64 b] 196)).drewN q) = .ok (.bool (decide ((a, b) ∈ hs))) ((w.alloc (.cells #[.int .i64 a, .int .i64 b] 196)).drewN q) :=
    fun q => (h0.dr ⟨q, rfl⟩).lookup (a, b)
  have hR : ∀ q, Calls Tryz.prog 135 #[.pointer (some ⟨s, 0, none⟩)] ((w.alloc (.cells #[.int .i64 a, .int .i64 b] 196)).drewN q) fun e w' => e = .returned (.bool (decide (hs.length < m))) ∧ ∃ n, w' = ((w.alloc (.cells #[.int .i64 a, .int .i64 b] 196)).drewN q).drewN n :=
    fun q => (h0.dr ⟨q, rfl⟩).room
  have c1 := h0.c1
  have k0 : (w.alloc (.cells #[.int .i64 a, .int .i64 b] 196)).cell? ⟨w.heap.size, 0, none⟩ = some (.int .i64 a) := by simp
  have k1 : (w.alloc (.cells #[.int .i64 a, .int .i64 b] 196)).cell? ⟨w.heap.size, 1, none⟩ = some (.int .i64 b) := by simp
  rw [decide_eq_true hm] at hR
  rw [decide_eq_false hin] at hl
  have HR := Lib.hid hR
  have H0 := Lib.hid h0
  have HF := Lib.hid F
  have hI := Lib.hid hin
  clear h h0 F hR hin
  go_enter Tryz.func122, Tryz.ntmps122
  go_wp2
  go_quiet ((go_at_call 135; exact Calls.quiet_of (HR.out _)))
  go_wp2
  clear hl
  obtain ⟨w2, hu, hM, hF2⟩ := put_run keyHolder Tryz.underlying172 (H0.out.dr ⟨nq + 1, rfl⟩).2.1 (a, b) (.bool true)
  simp only [enc2] at hu
  have HM := Lib.hid hM
  clear hM
  go_region
  all_goals go_wp2
  all_goals go_ret
  all_goals (have e := put_yes hI.out; have hM := HM.out; rw [e] at hM)
  all_goals (have F2 : Fr [r] w w2 := (HF.out.drewN (nq + 1)).trans hF2)
  all_goals exact ⟨rfl, ⟨hF2.keep (H0.out.dr ⟨nq + 1, rfl⟩).1 (by simpa using H0.out.ne), hM, by simp; omega, H0.out.2.2.2⟩, F2⟩

theorem IsSet.free_no {w : World} {s r : Nat} {hs : List (Int × Int)} {m : Nat} (h : IsSet w s r hs m) (a b : Int) (hin : (a, b) ∉ hs) :
    Calls Tryz.prog 83 #[.pointer (some ⟨s, 0, none⟩), .agg #[.int .i64 a, .int .i64 b]] w fun e w' => e = .returned (.bool false) ∧ Fr [] w w' := by
  have h0 := h.fr ((Fr.refl [] w).alloc (.cells #[.int .i64 a, .int .i64 b] 196)) (by simp) (by simp)
  have k0 : (w.alloc (.cells #[.int .i64 a, .int .i64 b] 196)).cell? ⟨w.heap.size, 0, none⟩ = some (.int .i64 a) := by simp
  have k1 : (w.alloc (.cells #[.int .i64 a, .int .i64 b] 196)).cell? ⟨w.heap.size, 1, none⟩ = some (.int .i64 b) := by simp
  have HH := Lib.hid (h0.holds a b)
  rw [decide_eq_false hin] at HH
  have HF := Lib.hid ((Fr.refl [] w).alloc (.cells #[.int .i64 a, .int .i64 b] 196))
  clear h h0 hin
  go_enter Tryz.func83, Tryz.ntmps83
  go_wp2_with fail
  refine (HH.out).mono ?_
  rintro e w1 ⟨rfl, F⟩
  go_wp2_with fail
  go_ret
  exact ⟨rfl, HF.out.trans F⟩

set_option maxHeartbeats 1000000 in
theorem IsSet.free_yes {w : World} {s r : Nat} {hs : List (Int × Int)} {m : Nat} (h : IsSet w s r hs m) (a b : Int) (hin : (a, b) ∈ hs) :
    Calls Tryz.prog 83 #[.pointer (some ⟨s, 0, none⟩), .agg #[.int .i64 a, .int .i64 b]] w fun e w' => e = .returned (.bool true) ∧ IsSet w' s r (hs.filter fun x => decide (x ≠ (a, b))) m ∧ Fr [r] w w' := by
  have h0 := h.fr ((Fr.refl [] w).alloc (.cells #[.int .i64 a, .int .i64 b] 196)) (by simp) (by simp)
  have k0 : (w.alloc (.cells #[.int .i64 a, .int .i64 b] 196)).cell? ⟨w.heap.size, 0, none⟩ = some (.int .i64 a) := by simp
  have k1 : (w.alloc (.cells #[.int .i64 a, .int .i64 b] 196)).cell? ⟨w.heap.size, 1, none⟩ = some (.int .i64 b) := by simp
  have HH := Lib.hid (h0.holds a b)
  rw [decide_eq_true hin] at HH
  have HF := Lib.hid ((Fr.refl [r] w).alloc (.cells #[.int .i64 a, .int .i64 b] 196))
  have hrw := h.ltr
  clear h hin
  go_enter Tryz.func83, Tryz.ntmps83
  go_wp2_with fail
  refine (HH.out).mono ?_
  rintro e w1 ⟨rfl, F⟩
  have k0' := (F.cell (p := ⟨w.heap.size, 0, none⟩) (by simp) (by simp)).trans k0
  have k1' := (F.cell (p := ⟨w.heap.size, 1, none⟩) (by simp) (by simp)).trans k1
  have h1 := h0.fr F (by simp) (by simp)
  have c1 := h1.c1
  have HF1 := Lib.hid (HF.out.trans' F (fun x hx => by simp at hx))
  have H1 := Lib.hid h1
  clear h0 F k0 k1 h1
  go_wp2_with fail
  obtain ⟨w2, hu, hM, hF2⟩ := del_run (K' := 196) (ty := 0) keyHolder Tryz.underlying172 (H1.out.dr (w' := w1.drew) ⟨1, rfl⟩).2.1 (a, b)
  simp only [enc2] at hu
  have HM := Lib.hid hM
  clear hM
  go_region
  all_goals go_wp2
  all_goals go_ret
  all_goals (have hM := HM.out; rw [del_yes] at hM)
  all_goals (have F2 : Fr [r] w w2 := (HF1.out.drew).trans hF2)
  all_goals exact ⟨rfl, ⟨hF2.keep (w := w1.drew) H1.out.1 (by simpa using H1.out.ne), hM, Nat.le_trans (List.length_filter_le _ _) H1.out.2.2.1, H1.out.2.2.2⟩, F2⟩

theorem permit_new_none (m : Int) (w : World) (h : m < 0 ∨ 8 < m) : Calls Tryz.prog 32 #[.int .i64 m] w fun e w' => e = .returned (.pointer none) ∧ w' = w := by
  rcases h with h | h
  · go_enter Tryz.func32, Tryz.ntmps32
    go_wp2
    go_ret
    exact ⟨rfl, rfl⟩
  · have h' : ¬ m < 0 := by omega
    go_enter Tryz.func32, Tryz.ntmps32
    go_wp2
    go_ret
    exact ⟨rfl, rfl⟩
theorem permit_new (m : Nat) (w : World) (h : m ≤ 8) : Calls Tryz.prog 32 #[.int .i64 m] w fun e w' => e = .returned (.pointer (some ⟨w.heap.size + 1, 0, none⟩)) ∧ IsSet w' (w.heap.size + 1) w.heap.size [] m ∧ Fr [] w w' := by
  have hmm := @run_makeMap Tryz.prog
  go_enter Tryz.func32, Tryz.ntmps32
  go_wp2
  go_ret
  refine ⟨rfl, ⟨?_, ?_, by simp, h⟩, ((Fr.refl _ _).alloc _).alloc _⟩
  · have := block_alloc_new (w.alloc (.map #[] 0)) (.cells #[.int .i64 m, .map (some w.heap.size)] 174)
    simpa using this
  · exact (MapKV.new enc2 w).fr ((Fr.refl [] _).alloc _) (by simp)
end Go.Proofs.YtcnkhjgpjchkeaaGreat

namespace Go.Proofs.YtcnkhjgpjchkeaaGreat
open Go.RowKit

/-- The cell of a number of a slice. -/
theorem RdInts.form {w : World} {v : Value} {xs : List Int} (h : RdInts w v xs) : ∃ ao cap, v = .slice ao xs.length cap ∧ xs.length ≤ cap ∧ (ao = none → cap = 0) ∧
    ∀ j, j < xs.length → ∃ b o, ao = some ⟨b, o, none⟩ ∧ w.cell? ⟨b, o + j, none⟩ = some (.int .i64 (el xs j)) := h

theorem RdInts.src {w : World} {v : Value} {xs : List Int} (h : RdInts w v xs) : Src w 1 v xs.length (xs.map (Value.int .i64)) := by
  obtain ⟨ao, cap, rfl, h2, h3, h4⟩ := h
  refine ⟨ao, cap, rfl, by simp, h2, (fun e => by have := h3 e; omega), (fun u hu => ?_), (fun j u hj => ?_)⟩
  · simp only [List.mem_map] at hu; obtain ⟨_, _, rfl⟩ := hu; rfl
  · have hlt : j < xs.length := by have := (List.getElem?_eq_some_iff.1 hj).1; simpa using this
    obtain ⟨b, o, hb, hc⟩ := h4 j hlt
    refine ⟨b, o, hb, ?_⟩
    rw [hc, ← hj]; simp [el, hlt]

theorem RdInts.drewN {w : World} {v : Value} {xs : List Int} (h : RdInts w v xs) (q : Nat) : RdInts (w.drewN q) v xs := h

/-- Same: are two lists the same? -/
def same (xs ys : List Int) : Bool := decide (xs = ys)

theorem el_ext {xs ys : List Int} (h : xs.length = ys.length) (k : ∀ j, j < xs.length → el xs j = el ys j) : xs = ys := by
  apply List.ext_getElem h
  intro i h1 h2
  have := k i h1
  simpa [el, List.getD, h1, h2] using this

theorem Lst.of_owns' {w : World} {base n : Nat} {v : Value} {xs : List Int} {cs : List Value} (h : w.ownsRow base 3 1 v n cs) (hn : n = xs.length) (hc : cs = xs.map (Value.int .i64)) : Lst w base v xs := by
  subst hn; subst hc; exact Lst.of_owns h

set_option maxHeartbeats 1000000 in
theorem Lst.slice1 {w : World} {base n cap : Nat} {ad : Addr} {x : Int} {xs : List Int} (ha : Lst w base (.slice (some ad) n cap) (x :: xs)) :
    n = xs.length + 1 ∧ n ≤ cap ∧ ad.spot = none ∧ w.cell? ad = some (.int .i64 x) ∧ Src w 1 (.slice (some (if cap = 1 then ad else ad.add 1)) (n - 1) (cap - 1)) xs.length (xs.map (Value.int .i64)) := by
  obtain ⟨ao, cap', e, h2, h3, h4⟩ := ha.1
  simp only [Value.slice.injEq] at e
  obtain ⟨rfl, rfl, rfl⟩ := e
  obtain ⟨b, o, hb, hc⟩ := h4 0 (by simp)
  simp only [Option.some.injEq] at hb
  subst hb
  refine ⟨by simp, h2, rfl, by simpa [el] using hc, _, _, rfl, by simp, ?_, fun e => by simp at e, fun u hu => ?_, fun j u hj => ?_⟩
  · simp at h2 ⊢; omega
  · simp only [List.mem_map] at hu; obtain ⟨_, _, rfl⟩ := hu; rfl
  · have hlt : j < xs.length := by have := (List.getElem?_eq_some_iff.1 hj).1; simpa using this
    obtain ⟨b', o', hb', hc'⟩ := h4 (j + 1) (by simpa using hlt)
    simp only [Option.some.injEq, Addr.mk.injEq, and_true] at hb'
    obtain ⟨rfl, rfl⟩ := hb'
    simp only [List.length_cons] at h2
    rw [if_neg (by omega)]
    refine ⟨b, o + 1, by rw [Addr.add_lit], ?_⟩
    rw [Nat.add_assoc, Nat.add_comm 1 j, hc', ← hj]
    simp [el, hlt]

theorem rem_of_not {x : Int} : ∀ {ys : List Int}, x ∉ ys → rem x ys = ys
  | [], _ => rfl
  | y :: ys, h => by
    simp only [List.mem_cons, not_or] at h
    rw [rem, if_neg (fun e => h.1 e.symm), rem_of_not h.2]
theorem rem_snoc_in {x y : Int} : ∀ {ys : List Int}, x ∈ ys → rem x (ys ++ [y]) = rem x ys ++ [y]
  | [], h => by simp at h
  | z :: ys, h => by
    by_cases hz : z = x
    · simp [rem, hz]
    · have : x ∈ ys := by
        rcases List.mem_cons.1 h with h | h
        · exact absurd h.symm hz
        · exact h
      simp [rem, hz, rem_snoc_in this]
theorem rem_snoc_hit {x : Int} {ys : List Int} (h : x ∉ ys) : rem x (ys ++ [x]) = ys := by
  induction ys with
  | nil => simp [rem]
  | cons z ys ih =>
    simp only [List.mem_cons, not_or] at h
    have hz : z ≠ x := fun e => h.1 e.symm
    simp [rem, hz, ih h.2]
theorem rem_snoc_miss {x y : Int} {ys : List Int} (h : x ∉ ys) (hy : y ≠ x) : rem x (ys ++ [y]) = ys ++ [y] :=
  rem_of_not (by simp [h]; exact fun e => hy e.symm)
theorem rem_len (x : Int) : ∀ ys : List Int, (rem x ys).length ≤ ys.length
  | [] => Nat.le_refl _
  | y :: ys => by by_cases h : y = x <;> simp [rem, h]; exact rem_len x ys

theorem take_succ_el (xs : List Int) (k : Nat) (hk : k < xs.length) : xs.take (k + 1) = xs.take k ++ [el xs k] := (take_snoc_el xs k hk).symm

end Go.Proofs.YtcnkhjgpjchkeaaGreat
