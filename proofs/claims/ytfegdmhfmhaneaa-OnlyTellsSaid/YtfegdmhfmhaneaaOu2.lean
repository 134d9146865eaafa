/-
  Copies of slices of outcomes; IndexFunc and DeleteFunc on them (printed by gen_ou.py from the events' texts).
-/
import Derived.Test.YtfegdmhfmhaneaaOu
namespace Go.Proofs.Ytfegdmhfmhaneaa
open Go.RowKit

theorem cellsO_len (e : Ou) : e.cells.length = 5 := rfl
theorem flatO_len (l : List Ou) : (l.flatMap Ou.cells).length = l.length * 5 := by
  induction l with
  | nil => rfl
  | cons x l ih => rw [List.flatMap_cons, List.length_append, ih, cellsO_len, List.length_cons]; omega
theorem flatO_get : ∀ (l : List Ou) (i k : Nat), i < l.length → k < 5 → (l.flatMap Ou.cells)[i * 5 + k]? = (l.getD i default).cells[k]?
  | [], i, k, hi, _ => by simp at hi
  | x :: l, 0, k, _, hk => by
    rw [List.flatMap_cons, List.getElem?_append_left (by rw [cellsO_len]; omega)]
    simp
  | x :: l, i + 1, k, hi, hk => by
    rw [List.flatMap_cons, List.getElem?_append_right (by rw [cellsO_len]; omega), cellsO_len, show (i + 1) * 5 + k - 5 = i * 5 + k by omega, flatO_get l i k (by simpa using hi) hk]
    simp
theorem At5.get {w : World} {b o : Nat} {e : Ou} (h : At5 w b o e) {k : Nat} {u : Value} (hu : e.cells[k]? = some u) : w.cell? ⟨b, o + k, none⟩ = some u := by
  obtain ⟨h0, h1, h2, h3, h4⟩ := h
  unfold Ou.cells at hu
  match k, hu with
  | 0, hu => simp at hu; subst hu; exact h0
  | 1, hu => simp at hu; subst hu; exact h1
  | 2, hu => simp at hu; subst hu; exact h2
  | 3, hu => simp at hu; subst hu; exact h3
  | 4, hu => simp at hu; subst hu; exact h4
  | k + 5, hu => simp at hu
theorem At5.mk {w : World} {b o : Nat} {e : Ou} (h : ∀ k u, e.cells[k]? = some u → w.cell? ⟨b, o + k, none⟩ = some u) : At5 w b o e :=
  ⟨h 0 _ rfl, h 1 _ rfl, h 2 _ rfl, h 3 _ rfl, h 4 _ rfl⟩
theorem cellsO_one {e : Ou} {u : Value} (h : u ∈ e.cells) : u.oneCell' = true := by
  unfold Ou.cells at h
  simp only [List.mem_cons, List.not_mem_nil, or_false] at h
  rcases h with h | h | h | h | h <;> subst h <;> rfl

/-- Events as what is appended. -/
theorem Ous.src {w : World} {base : Nat} {v : Value} {l : List Ou} (h : Ous w base v l) : Src w 5 v l.length (l.flatMap Ou.cells) := by
  obtain ⟨ao, cap, rfl, h2, h3, h4⟩ := h
  refine ⟨ao, cap, rfl, flatO_len l, h2, fun h => ⟨by have := h3 h; omega, h3 h⟩, fun u hu => ?_, fun j u hj => ?_⟩
  · obtain ⟨e, _, he⟩ := List.mem_flatMap.1 hu
    exact cellsO_one he
  · have hlt : j < l.length * 5 := by
      rw [← flatO_len]
      exact (List.getElem?_eq_some_iff.1 hj).1
    have hi : j / 5 < l.length := by omega
    have e : j = j / 5 * 5 + j % 5 := by omega
    rw [e, flatO_get l _ _ hi (by omega)] at hj
    obtain ⟨b, o, h5, _, h7⟩ := h4 _ hi
    refine ⟨b, o, h5, ?_⟩
    have := h7.get hj
    rw [Nat.add_assoc, ← e] at this
    exact this
/-- What the call owns reads so. -/
theorem Ous.of_owns {w : World} {base : Nat} {v : Value} {l : List Ou} (h : w.ownsRow base 41 5 v l.length (l.flatMap Ou.cells)) : Ous w base v l := by
  obtain ⟨h1, h2⟩ := h
  rcases h2 with ⟨rfl, hn⟩ | ⟨g, cap, cur, rfl, hg, hh, hc, hm, hs, ht⟩
  · obtain rfl := List.eq_nil_of_length_eq_zero hn
    exact ⟨none, 0, rfl, by simp, fun _ => rfl, fun i hi => by simp at hi⟩
  · refine ⟨some ⟨g, 0, none⟩, cap, rfl, hc, fun e => by simp at e, fun i hi => ⟨g, 0, rfl, hg, At5.mk fun k u hu => ?_⟩⟩
    have hk : k < 5 := by
      rw [← cellsO_len (l.getD i default)]
      exact (List.getElem?_eq_some_iff.1 hu).1
    rw [Nat.zero_add, cell_of_block hh]
    have : (cur.toList.take (l.length * 5))[i * 5 + k]? = some u := by rw [ht, flatO_get l i k hi hk, hu]
    rw [List.getElem?_take, if_pos (by omega)] at this
    simpa using this
theorem Try.info_ou : (Try.prog.info? 41).map (fun i => (i.zero, i.size, i.bytes)) = some (some (.agg #[.int .i64 0, .int .i64 0, .int .i64 0, .int .i64 0, .int .u64 0]), 5, 40) := by kernel_rfl
set_option maxHeartbeats 2000000 in
theorem clone_ou {w : World} {base : Nat} {v : Value} {l : List Ou} (hl : Ous w base v l) (hn : l.length ≤ 1000) :
    Calls Try.prog 25 #[v] w fun e w' => ∃ v', e = .returned v' ∧ w'.ownsRow w.heap.size 41 5 v' l.length (l.flatMap Ou.cells) ∧ Fr [] w w' := by
  obtain ⟨i0, hi, hz0, hz1, hz2⟩ := info_parts9 Try.info_ou
  have HS := Lib.hid hl.src
  obtain ⟨ao, cap, rfl, hc, hnone, -⟩ := hl
  cases ao with
  | none =>
    have : cap = 0 := hnone rfl
    have hl0 : l = [] := List.eq_nil_of_length_eq_zero (by omega)
    subst hl0
    subst this
    simp only [List.length_nil]
    have hq := Lib.run_eql_slice_nil (P := Try.prog) w 24 41 none 0 0 0 0 Try.underlying24
    go_enter Try.func25, Try.ntmps25
    go_wp2_with fail
    go_ret
    exact ⟨_, rfl, World.ownsRow_nil _ _ _ _, Fr.refl _ _⟩
  | some ad =>
    clear hnone
    have hq := Lib.run_eql_slice_nil (P := Try.prog) w 24 41 (some ad) l.length cap 0 0 Try.underlying24
    go_enter Try.func25, Try.ntmps25
    go_wp2_with (at_builtin; refine wpList_app rfl (.tmp 5) (.tmp 6) 24 rfl w.heap.size 41 i0 _ 5 40 Try.underlying24 hi hz0 hz1 hz2 rfl (by decide) (.slice (some ⟨w.heap.size, 0, none⟩) 0 0) 0 _ rfl (owns_empty w _ _ _ (Nat.le_refl _)) _ _ _ rfl (HS.out.alloc _) (by unfold maxLen; omega) (by omega) (by simp) ?_; intro v8 w8 hown hg)
    go_wp2_with fail
    go_ret
    refine ⟨_, rfl, by simpa using hown, Fr.of_grown9 ((Fr.refl _ _).alloc _) hg (fun k hk => .inr ?_)⟩
    have : w.heap.size = k := by simpa [Value.ownBlock] using hk
    omega

/-- Block g holds the events cur, nine cells each, from its beginning on. -/
def OuBlk (w : World) (g : Nat) (cur : List Ou) : Prop := (∀ t, t < cur.length → At5 w g (t * 5) (cur.getD t default)) ∧ ∀ i, w.frozen? ⟨g, i, none⟩ = false
theorem OuBlk.fr {w w' : World} {g : Nat} {cur : List Ou} (h : OuBlk w g cur) (hg : g < w.heap.size) {S : List Nat} (k : Fr S w w') (hn : g ∉ S) : OuBlk w' g cur :=
  ⟨fun t ht => (h.1 t ht).fr k hn, fun i => (k.frozen (p := ⟨g, i, none⟩) hg hn).trans (h.2 i)⟩
/-- The predicate, in whatever world that has come of w by writing into g alone. -/
def DropsOu (w : World) (g : Nat) (p5 p7 : Nat) (l : List Ev) (deps d : Int) : Prop :=
  ∀ wx, Fr [g] w wx → ∀ e : Ou, Calls Try.prog 26 #[e.vl, .pointer (some ⟨p5, 0, none⟩), .pointer (some ⟨p7, 0, none⟩)] wx fun x w' => x = .returned (.bool (!mineB l deps d e)) ∧ Fr [] wx w'
theorem DropsOu.step {w w1 : World} {g p5 p7 : Nat} {l : List Ev} {deps d : Int} (h : DropsOu w g p5 p7 l deps d) (F : Fr [g] w w1) : DropsOu w1 g p5 p7 l deps d := fun wx Fx => h wx (F.trans Fx)

def FirstDropO (l0 : List Ev) (deps d : Int) (l : List Ou) (r : Int) : Prop :=
  (r = -1 ∧ ∀ t, t < l.length → mineB l0 deps d (l.getD t default) = true) ∨ ∃ k : Nat, k < l.length ∧ r = k ∧ mineB l0 deps d (l.getD k default) = false ∧ ∀ t, t < k → mineB l0 deps d (l.getD t default) = true

set_option maxHeartbeats 4000000 in
theorem index_ou {w : World} {g cap p5 p7 : Nat} {l : List Ou} {l0 : List Ev} {deps d : Int} (hb : OuBlk w g l) (hd : DropsOu w g p5 p7 l0 deps d) (hn : l.length ≤ 1000) :
    Calls Try.prog 29 #[.slice (some ⟨g, 0, none⟩) l.length cap, .func (.func 26) #[] #[.pointer (some ⟨p5, 0, none⟩), .pointer (some ⟨p7, 0, none⟩)]] w fun e w' => (∃ r, e = .returned (.int .i64 r) ∧ FirstDropO l0 deps d l r) ∧ Fr [] w w' := by
  have HB := Lib.hid hb.1
  have HD := Lib.hid hd
  clear hb hd
  go_enter Try.func29, Try.ntmps29
  go_wp2_with fail
  go_loopw [8] (fun x wr => ∃ i : Nat, i ≤ l.length ∧ x = .int .i64 i ∧ Hid (∀ t, t < i → mineB l0 deps d (l.getD t default) = true) ∧ Hid (Fr [] w wr)) (fun x _ => l.length - (intOf x).toNat)
  case atStart => exact ⟨0, Nat.zero_le _, rfl, Lib.hid (fun t ht => by omega), Lib.hid (Fr.refl _ _)⟩
  case round =>
    obtain ⟨i, hi, rfl, HI, HF⟩ := hrel
    by_cases hlt : i < l.length
    · obtain ⟨k0, k1, k2, k3, k4⟩ := (HB.out i hlt).fr HF.out (by simp)
      have HS := Lib.hid (fun (h : mineB l0 deps d (l.getD i default) = true) => (fun t (ht : t < i + 1) => if e : t = i then e ▸ h else HI.out t (by omega) : ∀ t, t < i + 1 → mineB l0 deps d (l.getD t default) = true))
      have HE := Lib.hid (fun (h : mineB l0 deps d (l.getD i default) = false) => (show FirstDropO l0 deps d l i from .inr ⟨i, hlt, rfl, h, HI.out⟩))
      have HC := Lib.hid (HD.out wr (HF.out.mono (by simp)) (l.getD i default))
      generalize hev : l.getD i default = ev at *
      clear hev
      obtain ⟨eid, kind, cause, val, tm⟩ := ev
      simp only [Ou.vl] at *
      cases hp : mineB l0 deps d ⟨eid, kind, cause, val, tm⟩ with
      | true =>
        rw [hp] at HC
        have HS := Lib.hid (HS.out hp)
        clear hp HE
        go_wp2_with fail
        refine HC.out.mono ?_
        rintro e w1 ⟨rfl, F⟩
        have HF1 := Lib.hid (HF.out.trans F)
        clear F
        go_wp2_with fail
        go_roundw
        case rel => exact ⟨i + 1, by omega, by go_num, HS, HF1⟩
        case measure => simp [intOf]; omega
      | false =>
        rw [hp] at HC
        have HE := Lib.hid (HE.out hp)
        clear hp HS
        go_wp2_with fail
        refine HC.out.mono ?_
        rintro e w1 ⟨rfl, F⟩
        have HF1 := Lib.hid (HF.out.trans F)
        clear F
        go_wp2_with fail
        go_ret
        exact ⟨⟨_, rfl, HE.out⟩, HF1.out⟩
    · obtain rfl : i = l.length := by omega
      go_wp2_with fail
      go_ret
      exact ⟨⟨_, rfl, .inl ⟨rfl, HI.out⟩⟩, HF.out⟩

/-- Nine cells laid. -/
def lay5 (w : World) (g o : Nat) (e : Ou) : World :=
  ((((w.setCell ⟨g, o, none⟩ (.int .i64 e.id)).setCell ⟨g, o + 1, none⟩ (.int .i64 e.kind)).setCell ⟨g, o + 2, none⟩ (.int .i64 e.cause)).setCell ⟨g, o + 3, none⟩ (.int .i64 e.val)).setCell ⟨g, o + 4, none⟩ (.int .u64 e.tm)
theorem lay5_eq (w : World) (g o : Nat) (e : Ou) : lay5 w g o e = w.setCells g o e.cells := rfl
theorem lay5_fr (w : World) (g o : Nat) (e : Ou) : Fr [g] w (lay5 w g o e) := Fr.setCells (.inl (by simp)) e.cells o (Fr.refl _ _)
theorem At5.out {w : World} {b o o2 : Nat} {e : Ou} (h : At5 w b o e) (vs : List Value) (ho : o + 5 ≤ o2 ∨ o2 + vs.length ≤ o) : At5 (w.setCells b o2 vs) b o e :=
  At5.mk fun k u hu => by
    have hk : k < 5 := by
      rw [← cellsO_len e]
      exact (List.getElem?_eq_some_iff.1 hu).1
    rw [World.cell?_setCells_out _ _ _ _ _ (fun _ _ => by simp; omega)]
    exact h.get hu
theorem At5.lay {w : World} {b o : Nat} {e0 : Ou} (h : At5 w b o e0) (e : Ou) : At5 (lay5 w b o e) b o e := by
  rw [lay5_eq]
  refine At5.mk fun k u hu => ?_
  obtain ⟨hk, rfl⟩ := List.getElem?_eq_some_iff.1 hu
  refine World.cell?_setCells_in b e.cells o w (fun j hj => ?_) k hk
  have hj' : j < e0.cells.length := by simpa [cellsO_len] using hj
  rw [h.get (List.getElem?_eq_getElem hj')]
  rfl
/-- An event laid into the block. -/
theorem OuBlk.lay {w : World} {g : Nat} {cur : List Ou} (h : OuBlk w g cur) {i : Nat} (hi : i < cur.length) (e : Ou) : OuBlk (lay5 w g (i * 5) e) g (cur.set i e) := by
  refine ⟨fun t ht => ?_, fun j => by rw [lay5_eq, frozen_setCells]; exact h.2 j⟩
  rw [List.length_set] at ht
  by_cases hti : t = i
  · subst hti
    have : (cur.set t e).getD t default = e := by simp [List.getD, hi]
    rw [this]
    exact (h.1 t ht).lay e
  · have : (cur.set i e).getD t default = cur.getD t default := by simp [List.getD, List.getElem?_set_ne (Ne.symm hti)]
    rw [this, lay5_eq]
    exact (h.1 t ht).out _ (by rw [cellsO_len]; omega)

/-- What the predicate keeps. -/
def keptOu (l0 : List Ev) (deps d : Int) (l : List Ou) : List Ou := l.filter (mineB l0 deps d)
theorem keptOu_snoc {l0 : List Ev} {l : List Ou} {deps d : Int} {j : Nat} (h : j < l.length) : keptOu l0 deps d (l.take (j + 1)) = keptOu l0 deps d (l.take j) ++ (if mineB l0 deps d (l.getD j default) then [l.getD j default] else []) := by
  unfold keptOu
  rw [take_snoc_ou h, List.filter_append]
  congr 1
  generalize l.getD j default = e
  cases hp : mineB l0 deps d e <;> simp [hp]
theorem keptOu_all {l0 : List Ev} {l : List Ou} {deps d : Int} {k : Nat} (hk : k ≤ l.length) (h : ∀ t, t < k → mineB l0 deps d (l.getD t default) = true) : keptOu l0 deps d (l.take k) = l.take k := by
  unfold keptOu
  rw [List.filter_eq_self]
  intro x hx
  obtain ⟨t, ht, rfl⟩ := List.getElem_of_mem hx
  rw [List.length_take] at ht
  have := h t (by omega)
  rw [List.getElem_take]
  simpa [List.getD, show t < l.length by omega] using this

/-- The row while it is cut: i kept, j looked at. -/
def CutO (l0 : List Ev) (deps d : Int) (l cur : List Ou) (i j : Nat) : Prop :=
  cur.length = l.length ∧ cur.take i = keptOu l0 deps d (l.take j) ∧ i < j ∧ j ≤ l.length ∧ ∀ t, j ≤ t → cur.getD t default = l.getD t default
theorem CutO.start {l0 : List Ev} {l : List Ou} {deps d : Int} {k : Nat} (hk : k < l.length) (h : ∀ t, t < k → mineB l0 deps d (l.getD t default) = true) (hno : mineB l0 deps d (l.getD k default) = false) : CutO l0 deps d l l k (k + 1) :=
  ⟨rfl, by rw [keptOu_snoc hk, hno, keptOu_all (by omega) h]; simp, by omega, by omega, fun _ _ => rfl⟩
theorem CutO.skip {l0 : List Ev} {l cur : List Ou} {deps d : Int} {i j : Nat} (h : CutO l0 deps d l cur i j) (hj : j < l.length) (hno : mineB l0 deps d (l.getD j default) = false) : CutO l0 deps d l cur i (j + 1) :=
  ⟨h.1, by rw [keptOu_snoc hj, hno, h.2.1]; simp, by have := h.2.2.1; omega, by omega, fun t ht => h.2.2.2.2 t (by omega)⟩
theorem CutO.keep {l0 : List Ev} {l cur : List Ou} {deps d : Int} {i j : Nat} (h : CutO l0 deps d l cur i j) (hj : j < l.length) (hy : mineB l0 deps d (l.getD j default) = true) : CutO l0 deps d l (cur.set i (l.getD j default)) (i + 1) (j + 1) := by
  obtain ⟨h1, h2, h3, h4, h5⟩ := h
  refine ⟨by rw [List.length_set, h1], ?_, by omega, by omega, fun t ht => ?_⟩
  · rw [keptOu_snoc hj, hy, ← h2, if_pos rfl, List.take_succ_eq_append_getElem (by rw [List.length_set]; omega), List.take_set_of_le (Nat.le_refl _)]
    simp
  · rw [← h5 t (by omega)]
    simp [List.getD, List.getElem?_set_ne (show i ≠ t by omega)]
theorem CutO.len {l0 : List Ev} {l cur : List Ou} {deps d : Int} {i : Nat} (h : CutO l0 deps d l cur i l.length) : keptOu l0 deps d l = cur.take i ∧ (keptOu l0 deps d l).length = i := by
  obtain ⟨h1, h2, h3, h4, h5⟩ := h
  rw [List.take_of_length_le (Nat.le_refl l.length)] at h2
  exact ⟨h2.symm, by rw [← h2, List.length_take]; omega⟩

def zeroOu : Value := .agg #[.int .i64 0, .int .i64 0, .int .i64 0, .int .i64 0, .int .u64 0]
theorem zeroOu_len (n : Nat) : (Builtin.zeroCells zeroOu.cells n).toList.length = n * 5 := by
  simp [Builtin.zeroCells, zeroOu, Value.cells]
theorem zeroOu_one {n : Nat} : ∀ v ∈ (Builtin.zeroCells zeroOu.cells n).toList, v.oneCell' = true := by
  intro v hv
  simp only [Builtin.zeroCells, zeroOu, Value.cells] at hv
  simp at hv
  obtain ⟨q, _, rfl⟩ := hv
  have : q % 5 < 5 := Nat.mod_lt _ (by decide)
  generalize q % 5 = r at *
  match r, this with
  | 0, _ => rfl
  | 1, _ => rfl
  | 2, _ => rfl
  | 3, _ => rfl
  | 4, _ => rfl

/-- What DeleteFunc tells. -/
def DeletedO (w : World) (g cap : Nat) (r : List Ou) (e : Ending) (w' : World) : Prop :=
  e = .returned (.slice (some ⟨g, 0, none⟩) r.length cap) ∧ (∀ t, t < r.length → At5 w' g (t * 5) (r.getD t default)) ∧ Fr [g] w w'

set_option maxHeartbeats 4000000 in
theorem delete_ou {w : World} {g cap p5 p7 : Nat} {l : List Ou} {l0 : List Ev} {deps d : Int} (hb : OuBlk w g l) (hg : g < w.heap.size) (hd : DropsOu w g p5 p7 l0 deps d) (hn : l.length ≤ 1000) (hcap : l.length ≤ cap) :
    Calls Try.prog 24 #[.slice (some ⟨g, 0, none⟩) l.length cap, .func (.func 26) #[] #[.pointer (some ⟨p5, 0, none⟩), .pointer (some ⟨p7, 0, none⟩)]] w (DeletedO w g cap (keptOu l0 deps d l)) := by
  have HX := Lib.hid (index_ou (cap := cap) hb hd hn)
  have HB := Lib.hid hb
  have HD := Lib.hid hd
  clear hb hd
  go_enter Try.func24, Try.ntmps24
  go_wp2_with fail
  refine HX.out.mono ?_
  rintro e w1 ⟨⟨r, rfl, hr⟩, F⟩
  have HF := Lib.hid (F.mono (S' := [g]) (by simp))
  have HB := Lib.hid (HB.out.fr hg F (by simp))
  have hg1 : g < w1.heap.size := by have := F.size; omega
  clear F
  rcases hr with ⟨rfl, hall⟩ | ⟨k, hk, rfl, hno, hall⟩
  · have HL := Lib.hid (show keptOu l0 deps d l = l by
      have := keptOu_all (l0 := l0) (deps := deps) (d := d) (k := l.length) (l := l) (Nat.le_refl _) hall
      rwa [List.take_of_length_le (Nat.le_refl _)] at this)
    clear hall
    go_wp2_with fail
    go_ret
    rw [HL.out]
    exact ⟨rfl, HB.out.1, HF.out⟩
  · have HC := Lib.hid (CutO.start hk hall hno)
    have hk1 : ((k : Int) == -1) = false := beq_eq_false_iff_ne.2 (by omega)
    clear hall hno
    go_wp2_with fail
    go_loopw [5, 6] (fun x y wr => ∃ (i j : Nat) (cur : List Ou), x = .int .i64 i ∧ y = .int .i64 j ∧ i < j ∧ j ≤ l.length ∧ cur.length = l.length ∧ Hid (CutO l0 deps d l cur i j) ∧ Hid (OuBlk wr g cur) ∧ Hid (Fr [g] w wr) ∧ g < wr.heap.size) (fun _ y _ => l.length - (intOf y).toNat)
    case atStart => exact ⟨k, k + 1, l, rfl, by go_num, by omega, by omega, rfl, HC, HB, HF, hg1⟩
    case round =>
      obtain ⟨i, j, cur, rfl, rfl, hij, hj, hlen, HCi, HBi, HFi, hgi⟩ := hrel
      by_cases hlt : j < l.length
      · have h9 := HBi.out.1 j (by omega)
        rw [HCi.out.2.2.2.2 j (Nat.le_refl _)] at h9
        have HCS := Lib.hid (HCi.out.skip hlt)
        have HCK := Lib.hid (HCi.out.keep hlt)
        have HCL := Lib.hid (fun w2 => HD.out w2)
        generalize hev : l.getD j default = ev at *
        clear hev
        obtain ⟨eid, kind, cause, val, tm⟩ := ev
        obtain ⟨k0, k1, k2, k3, k4⟩ := h9
        have HCA := Lib.hid (HD.out (wr.alloc (.cells #[.int .i64 eid, .int .i64 kind, .int .i64 cause, .int .i64 val, .int .u64 tm] 41)) (HFi.out.alloc _) ⟨eid, kind, cause, val, tm⟩)
        simp only [Ou.vl] at *
        cases hp : mineB l0 deps d ⟨eid, kind, cause, val, tm⟩ with
        | true =>
          rw [hp] at HCA
          have HCK := Lib.hid (HCK.out hp)
          clear hp HCS HCL
          go_wp2_with fail
          refine HCA.out.mono ?_
          rintro e w2 ⟨rfl, F⟩
          obtain ⟨x0, x1, x2, x3, x4⟩ := At5.box (e := ⟨eid, kind, cause, val, tm⟩) (F.keep (block_alloc_new _ _) (by simp))
          have HF2 := Lib.hid ((HFi.out.alloc (.cells #[.int .i64 eid, .int .i64 kind, .int .i64 cause, .int .i64 val, .int .u64 tm] 41)).trans (F.mono (by simp)))
          have HB2 := Lib.hid ((HBi.out.fr hgi ((Fr.refl [] _).alloc (.cells #[.int .i64 eid, .int .i64 kind, .int .i64 cause, .int .i64 val, .int .u64 tm] 41)) (by simp)).fr (by simp; omega) F (by simp))
          have hg2 : g < w2.heap.size := by have := F.size; simp at this; omega
          obtain ⟨y0, y1, y2, y3, y4⟩ := HB2.out.1 i (by omega)
          have hfz := HB2.out.2
          have HB3 := Lib.hid (HB2.out.lay (i := i) (by omega) ⟨eid, kind, cause, val, tm⟩)
          have HF3 := Lib.hid (HF2.out.trans (lay5_fr w2 g (i * 5) ⟨eid, kind, cause, val, tm⟩))
          simp only [lay5] at HB3 HF3
          clear F k0 k1 k2 k3 k4
          go_wp2_with fail
          go_roundw
          case rel => exact ⟨i + 1, j + 1, cur.set i ⟨eid, kind, cause, val, tm⟩, by go_num, by go_num, by omega, by omega, by rw [List.length_set]; exact hlen, HCK, HB3, HF3, by simpa using hg2⟩
          case measure => simp [intOf]; omega
        | false =>
          rw [hp] at HCA
          have HCS := Lib.hid (HCS.out hp)
          clear hp HCK HCL
          go_wp2_with fail
          refine HCA.out.mono ?_
          rintro e w2 ⟨rfl, F⟩
          have HF2 := Lib.hid ((HFi.out.alloc (.cells #[.int .i64 eid, .int .i64 kind, .int .i64 cause, .int .i64 val, .int .u64 tm] 41)).trans (F.mono (by simp)))
          have HB2 := Lib.hid ((HBi.out.fr hgi ((Fr.refl [] _).alloc (.cells #[.int .i64 eid, .int .i64 kind, .int .i64 cause, .int .i64 val, .int .u64 tm] 41)) (by simp)).fr (by simp; omega) F (by simp))
          have hg2 : g < w2.heap.size := by have := F.size; simp at this; omega
          clear F
          go_wp2_with fail
          go_roundw
          case rel => exact ⟨i, j + 1, cur, rfl, by go_num, by omega, by omega, hlen, HCS, HB2, HF2, hg2⟩
          case measure => simp [intOf]; omega
      · obtain rfl : j = l.length := by omega
        have hlc := HCi.out.len
        have HZ : Hid ((Builtin.clear_ #[24] 0 #[.slice (some ⟨g, i * 5, none⟩) (l.length - i) (cap - i)]).run Try.prog wr = .ok (.tuple #[]) (wr.setCells g (i * 5) (Builtin.zeroCells zeroOu.cells (l.length - i)).toList)) := Lib.hid (clear_any (z := zeroOu) wr Try.underlying24 (fun w => by kernel_rfl) g (i * 5) (l.length - i) (cap - i) (by omega) zeroOu_one
          (fun q hq => by
            rw [zeroOu_len] at hq
            have := (HBi.out.1 (i + q / 5) (by omega)).get (k := q % 5) (List.getElem?_eq_getElem (by rw [cellsO_len]; omega))
            rw [show i * 5 + q = (i + q / 5) * 5 + q % 5 by omega, this]; rfl) (fun q _ => HBi.out.2 _))
        have hz := HZ.out
        clear HZ
        generalize (Builtin.zeroCells zeroOu.cells (l.length - i)).toList = zs at hz
        go_wp2_with fail
        go_ret
        refine ⟨by rw [hlc.2]; rfl, fun t ht => ?_, HFi.out.trans (Fr.setCells (.inl (by simp)) _ _ (Fr.refl _ _))⟩
        rw [hlc.2] at ht
        have := HBi.out.1 t (by omega)
        rw [hlc.1]
        have e : (cur.take i).getD t default = cur.getD t default := by simp [List.getD, ht]
        rw [e]
        exact this.out _ (.inl (by omega))
end Go.Proofs.Ytfegdmhfmhaneaa
