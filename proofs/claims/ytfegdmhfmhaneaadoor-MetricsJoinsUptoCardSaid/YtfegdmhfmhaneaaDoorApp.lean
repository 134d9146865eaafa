/-
  append onto a slice that the call owns, from whatever slice: one law for a walk, one for a region that draws its order.
-/
import Derived.Test.YtfegdmhfmhaneaaDoorBase
import Derived.Laws.AppendOwnNone
import Derived.Deep.RegionLaw
namespace Go.Proofs.YtfegdmhfmhaneaaDoor
open Go.RowKit

/-- v is a slice of m elements, each of 'size' cells, that reads as the cells 'news'. -/
def Src (w : World) (size : Nat) (v : Value) (m : Nat) (news : List Value) : Prop :=
  ∃ ao c, v = .slice ao m c ∧ news.length = m * size ∧ m ≤ c ∧ (ao = none → m = 0 ∧ c = 0) ∧ (∀ u ∈ news, u.oneCell' = true) ∧ ∀ j u, news[j]? = some u → ∃ b o, ao = some ⟨b, o, none⟩ ∧ w.cell? ⟨b, o + j, none⟩ = some u

theorem Src.fr {w w' : World} {size m : Nat} {v : Value} {news : List Value} (h : Src w size v m news) {S : List Nat} (k : Fr S w w') (hn : ∀ g, v.ownBlock = some g → g ∉ S) : Src w' size v m news := by
  obtain ⟨ao, c, rfl, h2, h3, h4, h5, h6⟩ := h
  refine ⟨ao, c, rfl, h2, h3, h4, h5, fun j u hj => ?_⟩
  obtain ⟨b, o, hb, hc⟩ := h6 j u hj
  exact ⟨b, o, hb, by rw [k.cell (World.block_lt_of_cell? _ _ hc) (hn b (by simp [Value.ownBlock, hb]))]; exact hc⟩
theorem Src.alloc {w : World} {size m : Nat} {v : Value} {news : List Value} (h : Src w size v m news) (o : Obj) : Src (w.alloc o) size v m news :=
  h.fr (S := []) ((Fr.refl _ _).alloc o) (fun _ _ => by simp)
theorem Src.drew {w : World} {size m : Nat} {v : Value} {news : List Value} (h : Src w size v m news) : Src w.drew size v m news := h
theorem Src.drewN {w : World} {size m : Nat} {v : Value} {news : List Value} (h : Src w size v m news) (q : Nat) : Src (w.drewN q) size v m news := h

theorem run_app {P : Program} (w : World) (base : Nat) (t ty e : TypeId) (i : TypeInfo) (z : Value) (size bytes : Nat) (ht : P.underlying t = some (.slice e)) (hi : P.info? e = some i) (hz : i.zero = some z)
    (hsize : i.size = size) (hby : i.bytes = bytes) (hzs : z.cells.size = size) (hsz : 0 < size)
    (v : Value) (n : Nat) (xs : List Value) (hown : w.ownsRow base e size v n xs) (x : Value) (m : Nat) (news : List Value) (hx : Src w size x m news)
    (h63 : n + m ≤ maxLen) (hbytes : (n + m) * bytes ≤ 140737488355328) (hbase : base ≤ w.heap.size) :
    ∃ v' w', (Builtin.append_ #[t, t] ty #[v, x]).run P w = .ok v' w' ∧ w'.ownsRow base e size v' (n + m) (xs ++ news) ∧ w.grownBy w' v.ownBlock := by
  obtain ⟨ao, c, rfl, h2, h3, h4, h5, h6⟩ := hx
  cases ao with
  | some ad =>
    have hc : ∀ j u, news[j]? = some u → w.cell? (ad.add j) = some u := by
      intro j u hj
      obtain ⟨b, o, hb, hc⟩ := h6 j u hj
      simp only [Option.some.injEq] at hb
      subst hb
      rw [Addr.add_lit]
      exact hc
    obtain ⟨v', w', h1, h2, h3, _⟩ := run_append_own (P := P) w base t ty e i z size bytes ht hi hz hsize hby hzs hsz v n xs hown ad m c news h2 hc h5 h63 hbytes hbase
    exact ⟨v', w', h1, h2, h3⟩
  | none =>
    obtain ⟨rfl, rfl⟩ := h4 rfl
    have hnews : news = [] := List.eq_nil_of_length_eq_zero (by simpa using h2)
    subst hnews
    exact ⟨v, w, run_append_owned_none (P := P) (w := w) base t ty e i size ht hi v n xs hown, by simpa using hown, World.grownBy.refl _ _⟩

theorem oper_app {P : Program} {o : Oper} {a : Act} {w : World} {K : Act → World → Prop} {Q : Exit → Act → World → Prop}
    (s x : Operand) (t : TypeId) (hop : o.op = Op.call { callee := Callee.builtin Builtin.append, args := #[s, x], argTypes := #[t, t] })
    (base : Nat) (e : TypeId) (i : TypeInfo) (z : Value) (size bytes : Nat) (ht : P.underlying t = some (.slice e)) (hi : P.info? e = some i) (hz : i.zero = some z)
    (hsize : i.size = size) (hby : i.bytes = bytes) (hzs : z.cells.size = size) (hsz : 0 < size)
    (v : Value) (n : Nat) (xs : List Value) (hs : a.eval s = v) (hown : w.ownsRow base e size v n xs) (y : Value) (m : Nat) (news : List Value) (hy : a.eval x = y) (hx : Src w size y m news)
    (h63 : n + m ≤ maxLen) (hbytes : (n + m) * bytes ≤ 140737488355328) (hbase : base ≤ w.heap.size)
    (hK : ∀ v' w', w'.ownsRow base e size v' (n + m) (xs ++ news) → w.grownBy w' v.ownBlock → K (a.put o.dst v') w') : o.wp P a w K Q := by
  subst hy
  obtain ⟨v', w', hr, h2, h3⟩ := run_app (P := P) w base t o.type e i z size bytes ht hi hz hsize hby hzs hsz v n xs hown _ m news hx h63 hbytes hbase
  unfold Oper.wp execOp
  simp only [hop, resolve, invoke, builtin, Sem.run_bind, Sem.run_pure, Result.andThen_ok, List.map_toArray, List.map_cons, List.map_nil, hs, hr]
  exact hK v' w' h2 h3

/-- The law for a walk. -/
theorem wpList_app {P : Program} {w : World} {ops : Array Oper} {rest : List Oper} {o : Oper} {a : Act} {Q : Exit → Act → World → Prop} (hg : o.guard = none)
    (s x : Operand) (t : TypeId) (hop : o.op = Op.call { callee := Callee.builtin Builtin.append, args := #[s, x], argTypes := #[t, t] })
    (base : Nat) (e : TypeId) (i : TypeInfo) (z : Value) (size bytes : Nat) (ht : P.underlying t = some (.slice e)) (hi : P.info? e = some i) (hz : i.zero = some z)
    (hsize : i.size = size) (hby : i.bytes = bytes) (hzs : z.cells.size = size) (hsz : 0 < size)
    (v : Value) (n : Nat) (xs : List Value) (hs : a.eval s = v) (hown : w.ownsRow base e size v n xs) (y : Value) (m : Nat) (news : List Value) (hy : a.eval x = y) (hx : Src w size y m news)
    (h63 : n + m ≤ maxLen) (hbytes : (n + m) * bytes ≤ 140737488355328) (hbase : base ≤ w.heap.size)
    (hK : ∀ v' w', w'.ownsRow base e size v' (n + m) (xs ++ news) → w.grownBy w' v.ownBlock → wpList P ops Q rest (a.put o.dst v') w') : wpList P ops Q (o :: rest) a w :=
  wpList_plain hg fun _ hK' => oper_app s x t hop base e i z size bytes ht hi hz hsize hby hzs hsz v n xs hs hown y m news hy hx h63 hbytes hbase fun v' w' h2 h3 => hK' _ _ (hK v' w' h2 h3)

/-- The law for a region that draws its order. -/
theorem step_app {P : Program} {ops : Array Oper} {o : Oper} {a : Act} {w : World} {K : Act → World → Prop} {Q : Exit → Act → World → Prop} {E : Prop} (hg : o.guard = none)
    (s x : Operand) (t : TypeId) (hop : o.op = Op.call { callee := Callee.builtin Builtin.append, args := #[s, x], argTypes := #[t, t] })
    (base : Nat) (e : TypeId) (i : TypeInfo) (z : Value) (size bytes : Nat) (ht : P.underlying t = some (.slice e)) (hi : P.info? e = some i) (hz : i.zero = some z)
    (hsize : i.size = size) (hby : i.bytes = bytes) (hzs : z.cells.size = size) (hsz : 0 < size)
    (v : Value) (n : Nat) (xs : List Value) (hs : a.eval s = v) (hown : w.ownsRow base e size v n xs) (y : Value) (m : Nat) (news : List Value) (hy : a.eval x = y) (hx : Src w size y m news)
    (h63 : n + m ≤ maxLen) (hbytes : (n + m) * bytes ≤ 140737488355328) (hbase : base ≤ w.heap.size)
    (hK : ∀ v' w', w'.ownsRow base e size v' (n + m) (xs ++ news) → w.grownBy w' v.ownBlock → K (a.put o.dst v') w') :
    if Region.wanted o (yielded ops a.tmps) = true then Oper.wp P o a w K Q else E := by
  have hw : Region.wanted o (yielded ops a.tmps) = true := by simp [Region.wanted, hg]
  rw [if_pos hw]
  exact oper_app s x t hop base e i z size bytes ht hi hz hsize hby hzs hsz v n xs hs hown y m news hy hx h63 hbytes hbase hK

/-- The empty slice that has just been made. -/
theorem owns_empty (w : World) (base : Nat) (E : TypeId) (size : Nat) (h : base ≤ w.heap.size) : (w.alloc (.cells #[] E)).ownsRow base E size (.slice (some ⟨w.heap.size, 0, none⟩) 0 0) 0 [] :=
  ⟨by simp, .inr ⟨w.heap.size, 0, #[], rfl, h, block_alloc_new _ _, Nat.le_refl _, by simp [maxLen], by simp, by simp⟩⟩
/-- One element that has just been boxed. -/
theorem Src.one (w : World) (E : TypeId) (v : Value) (hv : v.oneCell' = true) : Src (w.alloc (.cells #[v] E)) 1 (.slice (some ⟨w.heap.size, 0, none⟩) 1 1) 1 [v] :=
  ⟨_, _, rfl, rfl, Nat.le_refl _, (fun h => by cases h), (fun u hu => by simp at hu; subst hu; exact hv), (fun j u hj => ⟨w.heap.size, 0, rfl, by
    match j, hj with
    | 0, hj => simp at hj; subst hj; exact World.cell?_alloc_new w #[v] E 0⟩)⟩
theorem ownsRow_fr {w w' : World} {base : Nat} {e : TypeId} {size : Nat} {v : Value} {n : Nat} {xs : List Value} (h : w.ownsRow base e size v n xs) {S : List Nat} (k : Fr S w w') (hn : ∀ g, v.ownBlock = some g → g ∉ S) : w'.ownsRow base e size v n xs := by
  obtain ⟨h1, h2⟩ := h
  refine ⟨h1, ?_⟩
  rcases h2 with h2 | ⟨g, cap, cur, hv, hg, hh, r⟩
  · exact .inl h2
  · exact .inr ⟨g, cap, cur, hv, hg, k.keep hh (hn g (by simp [hv, Value.ownBlock])), r⟩
end Go.Proofs.YtfegdmhfmhaneaaDoor
