/-
  IndexFunc and DeleteFunc on a row of entries, by lift's closure.
-/
import Derived.Test.YtibnhfnidgfenaaWheel4
import Derived.Lib.SliceRun
import Derived.LaidEqlPtr
namespace Go.Proofs.Ytibnhfnidgfenaa
open Go.RowKit

theorem Fr.on {S : List Nat} {w w' : World} (h : Fr S w w') {p : Addr} {v : Value} (hc : w.cell? p = some v) (hn : p.block ∉ S) : w'.cell? p = some v := (h.cell (World.block_lt_of_cell? _ _ hc) hn).trans hc
/-- Block g holds pointers to these blocks, from its beginning on. -/
def PBlk (w : World) (g : Nat) (cur : List Nat) : Prop := (∀ t, t < cur.length → w.cell? ⟨g, t, none⟩ = some (.pointer (some ⟨cur.getD t 0, 0, none⟩))) ∧ ∀ i, w.frozen? ⟨g, i, none⟩ = false
theorem Fr.setCells1 {S : List Nat} {a : World} {g : Nat} (hg : g ∈ S ∨ a.heap.size ≤ g) : ∀ (vs : List Value) (o : Nat) {w : World}, Fr S a w → Fr S a (w.setCells g o vs)
  | [], _, _, h => h
  | v :: vs, o, _, h => Fr.setCells1 hg vs (o + 1) (h.setCell hg v)
theorem PBlk.fr {w w' : World} {g : Nat} {cur : List Nat} (h : PBlk w g cur) (hg : g < w.heap.size) {S : List Nat} (k : Fr S w w') (hn : g ∉ S) : PBlk w' g cur :=
  ⟨fun t ht => k.on (h.1 t ht) hn, fun i => (k.frozen (p := ⟨g, i, none⟩) hg hn).trans (h.2 i)⟩
/-- Block g is of N cells. -/
def Shape (w : World) (g N : Nat) : Prop := ∃ arr, w.heap[g]? = some (.cells arr 82 (0, 0)) ∧ arr.size = N
theorem Shape.fr {w w' : World} {g N : Nat} (h : Shape w g N) {S : List Nat} (k : Fr S w w') (hn : g ∉ S) : Shape w' g N := by
  obtain ⟨arr, h1, h2⟩ := h
  exact ⟨arr, k.keep h1 hn, h2⟩
theorem Shape.setCell {w : World} {g N : Nat} (h : Shape w g N) (i : Nat) (v : Value) : Shape (w.setCell ⟨g, i, none⟩ v) g N := by
  obtain ⟨arr, h1, h2⟩ := h
  exact ⟨_, block_setCell h1 i v, by simpa using h2⟩
theorem Shape.setCells {g N : Nat} : ∀ (vs : List Value) (o : Nat) {w : World}, Shape w g N → Shape (w.setCells g o vs) g N
  | [], _, _, h => h
  | v :: vs, o, _, h => Shape.setCells vs (o + 1) (h.setCell o v)
theorem PBlk.lay {w : World} {g : Nat} {cur : List Nat} (h : PBlk w g cur) {i : Nat} (hi : i < cur.length) (x : Nat) : PBlk (w.setCell ⟨g, i, none⟩ (.pointer (some ⟨x, 0, none⟩))) g (cur.set i x) := by
  refine ⟨fun t ht => ?_, fun j => by rw [World.frozen?_setCell]; exact h.2 j⟩
  rw [List.length_set] at ht
  by_cases hti : t = i
  · subst hti
    have : (cur.set t x).getD t 0 = x := by simp [List.getD, hi]
    rw [this]
    exact World.cell?_setCell_same _ _ _ (h.1 t ht)
  · have : (cur.set i x).getD t 0 = cur.getD t 0 := by simp [List.getD, List.getElem?_set_ne (Ne.symm hti)]
    rw [this, World.cell?_setCell_other _ _ _ _ (by intro e; cases e; exact hti rfl)]
    exact h.1 t ht

theorem Try.info_entry : ∃ j, Try.prog.info? 84 = some j ∧ j.size ≠ 0 := by
  have h : (Try.prog.info? 84).map (fun i => decide (i.size ≠ 0)) = some true := by kernel_rfl
  cases hi : Try.prog.info? 84 with
  | none => rw [hi] at h; cases h
  | some i =>
    rw [hi] at h
    simp only [Option.map_some, Option.some.injEq] at h
    exact ⟨i, rfl, of_decide_eq_true h⟩
/-- A block of cells. -/
def IsBlk (w : World) (x : Nat) : Prop := ∃ c T, w.heap[x]? = some (.cells c T (0, 0))
theorem IsBlk.fr {w w' : World} {x : Nat} (h : IsBlk w x) {S : List Nat} (k : Fr S w w') (hn : x ∉ S) : IsBlk w' x := by
  obtain ⟨c, T, h1⟩ := h
  exact ⟨c, T, k.keep h1 hn⟩
set_option maxRecDepth 20000 in
theorem lifts_spec {w : World} {pb x y : Nat} (hc : w.cell? ⟨pb, 0, none⟩ = some (.pointer (some ⟨y, 0, none⟩))) (hx : IsBlk w x) (hy : IsBlk w y) :
    Calls Try.prog 56 #[.pointer (some ⟨x, 0, none⟩), .pointer (some ⟨pb, 0, none⟩)] w fun r w' => r = .returned (.bool (decide (x = y))) ∧ w' = w := by
  obtain ⟨j, hj, hsz⟩ := Try.info_entry
  by_cases h : x = y
  · subst h
    have he := run_eql_ptr_same (P := Try.prog) w ⟨x, 0, none⟩ Try.underlying82 hj
    go_enter Try.func56, Try.ntmps56
    go_wp2_with fail
    go_ret
    exact ⟨ret_bool (by simp), rfl⟩
  · obtain ⟨c1, T1, h1⟩ := hx
    obtain ⟨c2, T2, h2⟩ := hy
    have he := run_eql_ptr_other (P := Try.prog) w (a := ⟨x, 0, none⟩) (b := ⟨y, 0, none⟩) Try.underlying82 hj hsz (by intro e; cases e; exact h rfl) h1 h2
    clear h1 h2
    have hf : decide (x = y) = false := decide_eq_false h
    rw [hf]
    clear hf
    go_enter Try.func56, Try.ntmps56
    go_wp2_with fail
    go_ret
    exact ⟨rfl, rfl⟩

theorem getD_mem {l : List Nat} {i : Nat} (h : i < l.length) : l.getD i 0 ∈ l := by
  have : l.getD i 0 = l[i] := by simp [List.getD, h]
  rw [this]
  exact List.getElem_mem h
def FirstP (y : Nat) (l : List Nat) (r : Int) : Prop :=
  (r = -1 ∧ ∀ t, t < l.length → l.getD t 0 ≠ y) ∨ ∃ k : Nat, k < l.length ∧ r = k ∧ l.getD k 0 = y ∧ ∀ t, t < k → l.getD t 0 ≠ y

set_option maxHeartbeats 4000000 in
theorem index_p {w : World} {g cap pb y : Nat} {l : List Nat} (hb : PBlk w g l) (hc : w.cell? ⟨pb, 0, none⟩ = some (.pointer (some ⟨y, 0, none⟩))) (hE : ∀ x ∈ y :: l, IsBlk w x) (hn : l.length ≤ 60000) :
    Calls Try.prog 62 #[.slice (some ⟨g, 0, none⟩) l.length cap, .func (.func 56) #[] #[.pointer (some ⟨pb, 0, none⟩)]] w fun e w' => (∃ r, e = .returned (.int .i64 r) ∧ FirstP y l r) ∧ w' = w := by
  have HB := Lib.hid hb.1
  have HC := Lib.hid (fun (t : Nat) (ht : t < l.length) => lifts_spec (x := l.getD t 0) hc (hE _ (List.mem_cons_of_mem _ (getD_mem ht))) (hE y (by simp)))
  clear hb hc hE
  go_enter Try.func62, Try.ntmps62
  go_wp2_with fail
  go_loopw [8] (fun x wr => ∃ i : Nat, i ≤ l.length ∧ x = .int .i64 i ∧ Hid (∀ t, t < i → l.getD t 0 ≠ y) ∧ w = wr) (fun x _ => l.length - (intOf x).toNat)
  case atStart => exact ⟨0, Nat.zero_le _, rfl, Lib.hid (fun t ht => by omega), by trivial⟩
  case round =>
    obtain ⟨i, hi, rfl, HI, rfl⟩ := hrel
    by_cases hlt : i < l.length
    · have k0 := HB.out i hlt
      have HS := Lib.hid (fun (h : l.getD i 0 ≠ y) => (fun t (ht : t < i + 1) => if e : t = i then e ▸ h else HI.out t (by omega) : ∀ t, t < i + 1 → l.getD t 0 ≠ y))
      have HE := Lib.hid (fun (h : l.getD i 0 = y) => (show FirstP y l i from .inr ⟨i, hlt, rfl, h, HI.out⟩))
      have HCx := Lib.hid (HC.out i hlt)
      generalize l.getD i 0 = x at *
      by_cases hp : x = y
      · rw [decide_eq_true hp] at HCx
        have HE := Lib.hid (HE.out hp)
        clear hp HS
        go_wp2_with fail
        refine HCx.out.mono ?_
        rintro e w1 ⟨rfl, rfl⟩
        go_wp2_with fail
        go_ret
        exact ⟨⟨_, rfl, HE.out⟩, by trivial⟩
      · rw [decide_eq_false hp] at HCx
        have HS := Lib.hid (HS.out hp)
        clear hp HE
        go_wp2_with fail
        refine HCx.out.mono ?_
        rintro e w1 ⟨rfl, rfl⟩
        go_wp2_with fail
        go_roundw
        case rel => exact ⟨i + 1, by omega, by go_num, HS, by trivial⟩
        case measure => simp [intOf]; omega
    · obtain rfl : i = l.length := by omega
      go_wp2_with fail
      go_ret
      exact ⟨⟨_, rfl, .inl ⟨rfl, HI.out⟩⟩, by trivial⟩

/-- What is kept. -/
def keptP (y : Nat) (l : List Nat) : List Nat := l.filter (fun x => decide (x ≠ y))
theorem take_snoc_p {l : List Nat} {i : Nat} (h : i < l.length) : l.take (i + 1) = l.take i ++ [l.getD i 0] := by
  rw [List.take_succ_eq_append_getElem h]
  simp [List.getD, h]
theorem keptP_snoc {y : Nat} {l : List Nat} {j : Nat} (h : j < l.length) : keptP y (l.take (j + 1)) = keptP y (l.take j) ++ (if l.getD j 0 = y then [] else [l.getD j 0]) := by
  unfold keptP
  rw [take_snoc_p h, List.filter_append]
  congr 1
  generalize l.getD j 0 = e
  by_cases hp : e = y <;> simp [hp]
theorem keptP_all {y : Nat} {l : List Nat} {k : Nat} (hk : k ≤ l.length) (h : ∀ t, t < k → l.getD t 0 ≠ y) : keptP y (l.take k) = l.take k := by
  unfold keptP
  rw [List.filter_eq_self]
  intro x hx
  obtain ⟨t, ht, rfl⟩ := List.getElem_of_mem hx
  rw [List.length_take] at ht
  have := h t (by omega)
  rw [List.getElem_take]
  refine decide_eq_true ?_
  simpa [List.getD, show t < l.length by omega] using this
/-- The row while it is cut: i kept, j looked at. -/
def CutP (y : Nat) (l cur : List Nat) (i j : Nat) : Prop :=
  cur.length = l.length ∧ cur.take i = keptP y (l.take j) ∧ i < j ∧ j ≤ l.length ∧ ∀ t, j ≤ t → cur.getD t 0 = l.getD t 0
theorem CutP.start {y : Nat} {l : List Nat} {k : Nat} (hk : k < l.length) (h : ∀ t, t < k → l.getD t 0 ≠ y) (hno : l.getD k 0 = y) : CutP y l l k (k + 1) :=
  ⟨rfl, by rw [keptP_snoc hk, if_pos hno, keptP_all (by omega) h]; simp, by omega, by omega, fun _ _ => rfl⟩
theorem CutP.skip {y : Nat} {l cur : List Nat} {i j : Nat} (h : CutP y l cur i j) (hj : j < l.length) (hno : l.getD j 0 = y) : CutP y l cur i (j + 1) :=
  ⟨h.1, by rw [keptP_snoc hj, if_pos hno, h.2.1]; simp, by have := h.2.2.1; omega, by omega, fun t ht => h.2.2.2.2 t (by omega)⟩
theorem CutP.keep {y : Nat} {l cur : List Nat} {i j : Nat} (h : CutP y l cur i j) (hj : j < l.length) (hy : l.getD j 0 ≠ y) : CutP y l (cur.set i (l.getD j 0)) (i + 1) (j + 1) := by
  obtain ⟨h1, h2, h3, h4, h5⟩ := h
  refine ⟨by rw [List.length_set, h1], ?_, by omega, by omega, fun t ht => ?_⟩
  · rw [keptP_snoc hj, if_neg hy, ← h2, List.take_succ_eq_append_getElem (by rw [List.length_set]; omega), List.take_set_of_le (Nat.le_refl _)]
    simp
  · rw [← h5 t (by omega)]
    simp [List.getD, List.getElem?_set_ne (show i ≠ t by omega)]
theorem CutP.len {y : Nat} {l cur : List Nat} {i : Nat} (h : CutP y l cur i l.length) : keptP y l = cur.take i ∧ (keptP y l).length = i := by
  obtain ⟨h1, h2, h3, h4, h5⟩ := h
  rw [List.take_of_length_le (Nat.le_refl l.length)] at h2
  exact ⟨h2.symm, by rw [← h2, List.length_take]; omega⟩

/-- What DeleteFunc tells. -/
def DeletedP (w : World) (g cap N : Nat) (r : List Nat) (e : Ending) (w' : World) : Prop :=
  e = .returned (.slice (some ⟨g, 0, none⟩) r.length cap) ∧ (∀ t, t < r.length → w'.cell? ⟨g, t, none⟩ = some (.pointer (some ⟨r.getD t 0, 0, none⟩))) ∧ Fr [g] w w' ∧ Shape w' g N

set_option maxHeartbeats 4000000 in
theorem delete_p {w : World} {g cap pb y N : Nat} {l : List Nat} (hb : PBlk w g l) (hsh : Shape w g N) (hg : g < w.heap.size) (hc : w.cell? ⟨pb, 0, none⟩ = some (.pointer (some ⟨y, 0, none⟩))) (hpg : pb ≠ g) (hE : ∀ x ∈ y :: l, IsBlk w x ∧ x ≠ g) (hn : l.length ≤ 60000) (hcap : l.length ≤ cap) :
    Calls Try.prog 55 #[.slice (some ⟨g, 0, none⟩) l.length cap, .func (.func 56) #[] #[.pointer (some ⟨pb, 0, none⟩)]] w (DeletedP w g cap N (keptP y l)) := by
  have HX := Lib.hid (index_p (cap := cap) hb hc (fun x hx => (hE x hx).1) hn)
  have HB := Lib.hid hb
  have HD := Lib.hid (fun (wx : World) (F : Fr [g] w wx) (t : Nat) (ht : t < l.length) => lifts_spec (x := l.getD t 0) (F.on hc (by simpa using hpg)) ((hE _ (List.mem_cons_of_mem _ (getD_mem ht))).1.fr F (by simpa using (hE _ (List.mem_cons_of_mem _ (getD_mem ht))).2)) ((hE y (by simp)).1.fr F (by simpa using (hE y (by simp)).2)))
  have HSH := Lib.hid hsh
  clear hb hc hE hsh
  go_enter Try.func55, Try.ntmps55
  go_wp2_with fail
  refine HX.out.mono ?_
  rintro e w1 ⟨⟨r, rfl, hr⟩, hw1⟩
  subst hw1
  rcases hr with ⟨rfl, hall⟩ | ⟨k, hk, rfl, hno, hall⟩
  · have HL := Lib.hid (show keptP y l = l by
      have := keptP_all (y := y) (k := l.length) (l := l) (Nat.le_refl _) hall
      rwa [List.take_of_length_le (Nat.le_refl _)] at this)
    clear hall
    go_wp2_with fail
    go_ret
    rw [HL.out]
    exact ⟨rfl, HB.out.1, Fr.refl _ _, HSH.out⟩
  · have HC := Lib.hid (CutP.start hk hall hno)
    have hk1 : ((k : Int) == -1) = false := beq_eq_false_iff_ne.2 (by omega)
    clear hall hno
    go_wp2_with fail
    go_loopw [5, 6] (fun x y' wr => ∃ (i j : Nat) (cur : List Nat), x = .int .i64 i ∧ y' = .int .i64 j ∧ i < j ∧ j ≤ l.length ∧ cur.length = l.length ∧ Hid (CutP y l cur i j) ∧ Hid (PBlk wr g cur) ∧ Hid (Fr [g] w1 wr) ∧ g < wr.heap.size ∧ Hid (Shape wr g N)) (fun _ y' _ => l.length - (intOf y').toNat)
    case atStart => exact ⟨k, k + 1, l, rfl, by go_num, by omega, by omega, rfl, HC, HB, Lib.hid (Fr.refl _ _), hg, HSH⟩
    case round =>
      obtain ⟨i, j, cur, rfl, rfl, hij, hj, hlen, HCi, HBi, HFi, hgi, HSi⟩ := hrel
      by_cases hlt : j < l.length
      · have k0 := HBi.out.1 j (by omega)
        rw [HCi.out.2.2.2.2 j (Nat.le_refl _)] at k0
        have HCS := Lib.hid (HCi.out.skip hlt)
        have HCK := Lib.hid (HCi.out.keep hlt)
        have HCA := Lib.hid (HD.out wr HFi.out j hlt)
        generalize l.getD j 0 = x at *
        by_cases hp : x = y
        · rw [decide_eq_true hp] at HCA
          have HCS := Lib.hid (HCS.out hp)
          clear hp HCK
          go_wp2_with fail
          refine HCA.out.mono ?_
          rintro e w2 ⟨rfl, hw2⟩
          subst hw2
          go_wp2_with fail
          go_roundw
          case rel => exact ⟨i, j + 1, cur, rfl, by go_num, by omega, by omega, hlen, HCS, HBi, HFi, hgi, HSi⟩
          case measure => simp [intOf]; omega
        · rw [decide_eq_false hp] at HCA
          have HCK := Lib.hid (HCK.out hp)
          have y0 := HBi.out.1 i (by omega)
          have hfz := HBi.out.2
          have HB3 := Lib.hid (HBi.out.lay (i := i) (by omega) x)
          clear hp HCS
          go_wp2_with fail
          refine HCA.out.mono ?_
          rintro e w2 ⟨rfl, hw2⟩
          subst hw2
          have HF3 := Lib.hid (HFi.out.setCell (p := ⟨g, i, none⟩) (.inl (by simp)) (.pointer (some ⟨x, 0, none⟩)))
          go_wp2_with fail
          go_roundw
          case rel => exact ⟨i + 1, j + 1, cur.set i x, by go_num, by go_num, by omega, by omega, by rw [List.length_set]; exact hlen, HCK, HB3, HF3, by simpa using hgi, Lib.hid (HSi.out.setCell i _)⟩
          case measure => simp [intOf]; omega
      · obtain rfl : j = l.length := by omega
        have hlc := HCi.out.len
        have hz := Lib.run_clear_slice (P := Try.prog) wr 105 82 0 (.pointer none) Try.underlying105 (fun w => by kernel_rfl) rfl rfl g i (l.length - i) (cap - i) (by omega)
          (fun q hq => by rw [HBi.out.1 (i + q) (by omega)]; rfl) (fun q _ => HBi.out.2 _)
        generalize List.replicate (l.length - i) (Value.pointer none) = zs at hz
        go_wp2_with fail
        go_ret
        refine ⟨by rw [hlc.2]; rfl, fun t ht => ?_, HFi.out.trans ?_, HSi.out.setCells _ _⟩
        · rw [hlc.2] at ht
          rw [hlc.1]
          have e : (cur.take i).getD t 0 = cur.getD t 0 := by simp [List.getD, ht]
          rw [e, World.cell?_setCells_out _ _ _ _ _ (fun _ _ => by simp; omega)]
          exact HBi.out.1 t (by omega)
        · exact Fr.setCells1 (.inl (by simp)) _ _ (Fr.refl _ _)
end Go.Proofs.Ytibnhfnidgfenaa
