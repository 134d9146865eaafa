/-
  DeleteFunc on a row of events.
-/
import Derived.Test.YtfegdmhfmhaneaaEv5
namespace Go.Proofs.Ytfegdmhfmhaneaa
open Go.RowKit

theorem clear_any {P : Program} {t e ty : TypeId} {z : Value} (w : World) (ht : P.underlying t = some (.slice e)) (hv : ∀ w : World, (zeroValue e).run P w = .ok z w) (b o n c : Nat) (hn : 0 < n)
    (hone : ∀ v ∈ (Builtin.zeroCells z.cells n).toList, v.oneCell' = true)
    (hc : ∀ j, j < (Builtin.zeroCells z.cells n).toList.length → (w.cell? ⟨b, o + j, none⟩).isSome = true) (hf : ∀ j, j < (Builtin.zeroCells z.cells n).toList.length → w.frozen? ⟨b, o + j, none⟩ = false) :
    (Builtin.clear_ #[t] ty #[.slice (some ⟨b, o, none⟩) n c]).run P w = .ok (.tuple #[]) (w.setCells b o (Builtin.zeroCells z.cells n).toList) := by
  have hst := run_storeCells_cells (P := P) b o (Builtin.zeroCells z.cells n).toList 0 w (by simpa using hc) (by simpa using hf) hone
  simp only [Nat.add_zero] at hst
  obtain ⟨m, rfl⟩ : ∃ m, n = m + 1 := ⟨n - 1, by omega⟩
  simp [Builtin.clear_, run_underlying ht, hv, hst]

/-- What the predicate keeps. -/
def keptOf (l0 : List Ev) (deps d : Int) (l : List Ev) : List Ev := l.filter (playsB l0 deps d)
theorem keptOf_snoc {l0 l : List Ev} {deps d : Int} {j : Nat} (h : j < l.length) : keptOf l0 deps d (l.take (j + 1)) = keptOf l0 deps d (l.take j) ++ (if playsB l0 deps d (l.getD j default) then [l.getD j default] else []) := by
  unfold keptOf
  rw [take_snoc_ev h, List.filter_append]
  congr 1
  generalize l.getD j default = e
  cases hp : playsB l0 deps d e <;> simp [hp]
theorem keptOf_all {l0 l : List Ev} {deps d : Int} {k : Nat} (hk : k ≤ l.length) (h : ∀ t, t < k → playsB l0 deps d (l.getD t default) = true) : keptOf l0 deps d (l.take k) = l.take k := by
  unfold keptOf
  rw [List.filter_eq_self]
  intro x hx
  obtain ⟨t, ht, rfl⟩ := List.getElem_of_mem hx
  rw [List.length_take] at ht
  have := h t (by omega)
  rw [List.getElem_take]
  simpa [List.getD, show t < l.length by omega] using this

/-- The row while it is cut: i kept, j looked at. -/
def Cut (l0 : List Ev) (deps d : Int) (l cur : List Ev) (i j : Nat) : Prop :=
  cur.length = l.length ∧ cur.take i = keptOf l0 deps d (l.take j) ∧ i < j ∧ j ≤ l.length ∧ ∀ t, j ≤ t → cur.getD t default = l.getD t default
theorem Cut.start {l0 l : List Ev} {deps d : Int} {k : Nat} (hk : k < l.length) (h : ∀ t, t < k → playsB l0 deps d (l.getD t default) = true) (hno : playsB l0 deps d (l.getD k default) = false) : Cut l0 deps d l l k (k + 1) :=
  ⟨rfl, by rw [keptOf_snoc hk, hno, keptOf_all (by omega) h]; simp, by omega, by omega, fun _ _ => rfl⟩
theorem Cut.skip {l0 l cur : List Ev} {deps d : Int} {i j : Nat} (h : Cut l0 deps d l cur i j) (hj : j < l.length) (hno : playsB l0 deps d (l.getD j default) = false) : Cut l0 deps d l cur i (j + 1) :=
  ⟨h.1, by rw [keptOf_snoc hj, hno, h.2.1]; simp, by have := h.2.2.1; omega, by omega, fun t ht => h.2.2.2.2 t (by omega)⟩
theorem Cut.keep {l0 l cur : List Ev} {deps d : Int} {i j : Nat} (h : Cut l0 deps d l cur i j) (hj : j < l.length) (hy : playsB l0 deps d (l.getD j default) = true) : Cut l0 deps d l (cur.set i (l.getD j default)) (i + 1) (j + 1) := by
  obtain ⟨h1, h2, h3, h4, h5⟩ := h
  refine ⟨by rw [List.length_set, h1], ?_, by omega, by omega, fun t ht => ?_⟩
  · rw [keptOf_snoc hj, hy, ← h2, if_pos rfl, List.take_succ_eq_append_getElem (by rw [List.length_set]; omega), List.take_set_of_le (Nat.le_refl _)]
    simp
  · rw [← h5 t (by omega)]
    simp [List.getD, List.getElem?_set_ne (show i ≠ t by omega)]
theorem Cut.len {l0 l cur : List Ev} {deps d : Int} {i : Nat} (h : Cut l0 deps d l cur i l.length) : keptOf l0 deps d l = cur.take i ∧ (keptOf l0 deps d l).length = i := by
  obtain ⟨h1, h2, h3, h4, h5⟩ := h
  rw [List.take_of_length_le (Nat.le_refl l.length)] at h2
  exact ⟨h2.symm, by rw [← h2, List.length_take]; omega⟩

def zeroEv : Value := .agg #[.int .i64 0, .int .i64 0, .int .i64 0, .int .i64 0, .int .i64 0, .int .i64 0, .int .u64 0, .bool false, .slice none 0 0]
theorem zeroEv_len (n : Nat) : (Builtin.zeroCells zeroEv.cells n).toList.length = n * 9 := by
  simp [Builtin.zeroCells, zeroEv, Value.cells]
theorem zeroEv_one {n : Nat} : ∀ v ∈ (Builtin.zeroCells zeroEv.cells n).toList, v.oneCell' = true := by
  intro v hv
  simp only [Builtin.zeroCells, zeroEv, Value.cells] at hv
  simp at hv
  obtain ⟨q, _, rfl⟩ := hv
  have : q % 9 < 9 := Nat.mod_lt _ (by decide)
  generalize q % 9 = r at *
  match r, this with
  | 0, _ => rfl
  | 1, _ => rfl
  | 2, _ => rfl
  | 3, _ => rfl
  | 4, _ => rfl
  | 5, _ => rfl
  | 6, _ => rfl
  | 7, _ => rfl
  | 8, _ => rfl

/-- What DeleteFunc tells. -/
def Deleted (w : World) (g cap : Nat) (r : List Ev) (e : Ending) (w' : World) : Prop :=
  e = .returned (.slice (some ⟨g, 0, none⟩) r.length cap) ∧ (∀ t, t < r.length → At9 w' g (t * 9) (r.getD t default)) ∧ Fr [g] w w'

set_option maxHeartbeats 4000000 in
theorem delete_ev {w : World} {g cap p5 p7 : Nat} {l l0 : List Ev} {deps d : Int} (hb : EvBlk w g l) (hg : g < w.heap.size) (hd : DropsIn w g p5 p7 l0 deps d) (hn : l.length ≤ 1000) (hcap : l.length ≤ cap) :
    Calls Try.prog 20 #[.slice (some ⟨g, 0, none⟩) l.length cap, .func (.func 22) #[] #[.pointer (some ⟨p5, 0, none⟩), .pointer (some ⟨p7, 0, none⟩)]] w (Deleted w g cap (keptOf l0 deps d l)) := by
  have HX := Lib.hid (index_ev (cap := cap) hb hd hn)
  have HB := Lib.hid hb
  have HD := Lib.hid hd
  clear hb hd
  go_enter Try.func20, Try.ntmps20
  go_wp2_with fail
  refine HX.out.mono ?_
  rintro e w1 ⟨⟨r, rfl, hr⟩, F⟩
  have HF := Lib.hid (F.mono (S' := [g]) (by simp))
  have HB := Lib.hid (HB.out.fr hg F (by simp))
  have hg1 : g < w1.heap.size := by have := F.size; omega
  clear F
  rcases hr with ⟨rfl, hall⟩ | ⟨k, hk, rfl, hno, hall⟩
  · have HL := Lib.hid (show keptOf l0 deps d l = l by
      have := keptOf_all (l0 := l0) (deps := deps) (d := d) (k := l.length) (l := l) (Nat.le_refl _) hall
      rwa [List.take_of_length_le (Nat.le_refl _)] at this)
    clear hall
    go_wp2_with fail
    go_ret
    rw [HL.out]
    exact ⟨rfl, HB.out.1, HF.out⟩
  · have HC := Lib.hid (Cut.start hk hall hno)
    have hk1 : ((k : Int) == -1) = false := beq_eq_false_iff_ne.2 (by omega)
    clear hall hno
    go_wp2_with fail
    go_loopw [5, 6] (fun x y wr => ∃ (i j : Nat) (cur : List Ev), x = .int .i64 i ∧ y = .int .i64 j ∧ i < j ∧ j ≤ l.length ∧ cur.length = l.length ∧ Hid (Cut l0 deps d l cur i j) ∧ Hid (EvBlk wr g cur) ∧ Hid (Fr [g] w wr) ∧ g < wr.heap.size) (fun _ y _ => l.length - (intOf y).toNat)
    case atStart => exact ⟨k, k + 1, l, rfl, by go_num, by omega, by omega, rfl, HC, HB, HF, hg1⟩
    case round =>
      obtain ⟨i, j, cur, rfl, rfl, hij, hj, hlen, HCi, HBi, HFi, hgi⟩ := hrel
      by_cases hlt : j < l.length
      · have h9 := HBi.out.1 j (by omega)
        rw [HCi.out.2.2.2.2 j (Nat.le_refl _)] at h9
        have HCS := Lib.hid (HCi.out.skip hlt)
        have HCK := Lib.hid (HCi.out.keep hlt)
        have HCL := Lib.hid (fun w2 => HD.out w2)
        generalize hev : l.getD j default = ev at *
        clear hev
        obtain ⟨kind, eid, dep, scope, arg, step, n, ok, va, vn, vc⟩ := ev
        obtain ⟨k0, k1, k2, k3, k4, k5, k6, k7, k8⟩ := h9
        have HCA := Lib.hid (HD.out (wr.alloc (.cells #[.int .i64 kind, .int .i64 eid, .int .i64 dep, .int .i64 scope, .int .i64 arg, .int .i64 step, .int .u64 n, .bool ok, .slice va vn vc] 36)) (HFi.out.alloc _) ⟨kind, eid, dep, scope, arg, step, n, ok, va, vn, vc⟩)
        simp only [Ev.val] at *
        cases hp : playsB l0 deps d ⟨kind, eid, dep, scope, arg, step, n, ok, va, vn, vc⟩ with
        | true =>
          rw [hp] at HCA
          have HCK := Lib.hid (HCK.out hp)
          clear hp HCS HCL
          go_wp2_with fail
          refine HCA.out.mono ?_
          rintro e w2 ⟨rfl, F⟩
          obtain ⟨x0, x1, x2, x3, x4, x5, x6, x7, x8⟩ := At9.box (e := ⟨kind, eid, dep, scope, arg, step, n, ok, va, vn, vc⟩) (F.keep (block_alloc_new _ _) (by simp))
          have HF2 := Lib.hid ((HFi.out.alloc (.cells #[.int .i64 kind, .int .i64 eid, .int .i64 dep, .int .i64 scope, .int .i64 arg, .int .i64 step, .int .u64 n, .bool ok, .slice va vn vc] 36)).trans (F.mono (by simp)))
          have HB2 := Lib.hid ((HBi.out.fr hgi ((Fr.refl [] _).alloc (.cells #[.int .i64 kind, .int .i64 eid, .int .i64 dep, .int .i64 scope, .int .i64 arg, .int .i64 step, .int .u64 n, .bool ok, .slice va vn vc] 36)) (by simp)).fr (by simp; omega) F (by simp))
          have hg2 : g < w2.heap.size := by have := F.size; simp at this; omega
          obtain ⟨y0, y1, y2, y3, y4, y5, y6, y7, y8⟩ := HB2.out.1 i (by omega)
          have hfz := HB2.out.2
          have HB3 := Lib.hid (HB2.out.lay (i := i) (by omega) ⟨kind, eid, dep, scope, arg, step, n, ok, va, vn, vc⟩)
          have HF3 := Lib.hid (HF2.out.trans (lay9_fr w2 g (i * 9) ⟨kind, eid, dep, scope, arg, step, n, ok, va, vn, vc⟩))
          simp only [lay9] at HB3 HF3
          clear F k0 k1 k2 k3 k4 k5 k6 k7 k8
          go_wp2_with fail
          go_roundw
          case rel => exact ⟨i + 1, j + 1, cur.set i ⟨kind, eid, dep, scope, arg, step, n, ok, va, vn, vc⟩, by go_num, by go_num, by omega, by omega, by rw [List.length_set]; exact hlen, HCK, HB3, HF3, by simpa using hg2⟩
          case measure => simp [intOf]; omega
        | false =>
          rw [hp] at HCA
          have HCS := Lib.hid (HCS.out hp)
          clear hp HCK HCL
          go_wp2_with fail
          refine HCA.out.mono ?_
          rintro e w2 ⟨rfl, F⟩
          have HF2 := Lib.hid ((HFi.out.alloc (.cells #[.int .i64 kind, .int .i64 eid, .int .i64 dep, .int .i64 scope, .int .i64 arg, .int .i64 step, .int .u64 n, .bool ok, .slice va vn vc] 36)).trans (F.mono (by simp)))
          have HB2 := Lib.hid ((HBi.out.fr hgi ((Fr.refl [] _).alloc (.cells #[.int .i64 kind, .int .i64 eid, .int .i64 dep, .int .i64 scope, .int .i64 arg, .int .i64 step, .int .u64 n, .bool ok, .slice va vn vc] 36)) (by simp)).fr (by simp; omega) F (by simp))
          have hg2 : g < w2.heap.size := by have := F.size; simp at this; omega
          clear F
          go_wp2_with fail
          go_roundw
          case rel => exact ⟨i, j + 1, cur, rfl, by go_num, by omega, by omega, hlen, HCS, HB2, HF2, hg2⟩
          case measure => simp [intOf]; omega
      · obtain rfl : j = l.length := by omega
        have hlc := HCi.out.len
        have HZ : Hid ((Builtin.clear_ #[22] 0 #[.slice (some ⟨g, i * 9, none⟩) (l.length - i) (cap - i)]).run Try.prog wr = .ok (.tuple #[]) (wr.setCells g (i * 9) (Builtin.zeroCells zeroEv.cells (l.length - i)).toList)) := Lib.hid (clear_any (z := zeroEv) wr Try.underlying22 (fun w => by kernel_rfl) g (i * 9) (l.length - i) (cap - i) (by omega) zeroEv_one
          (fun q hq => by
            rw [zeroEv_len] at hq
            have := (HBi.out.1 (i + q / 9) (by omega)).get (k := q % 9) (List.getElem?_eq_getElem (by rw [cells_len]; omega))
            rw [show i * 9 + q = (i + q / 9) * 9 + q % 9 by omega, this]; rfl) (fun q _ => HBi.out.2 _))
        have hz := HZ.out
        clear HZ
        generalize (Builtin.zeroCells zeroEv.cells (l.length - i)).toList = zs at hz
        go_wp2_with fail
        go_ret
        refine ⟨by rw [hlc.2]; rfl, fun t ht => ?_, HFi.out.trans (Fr.setCells (.inl (by simp)) _ _ (Fr.refl _ _))⟩
        rw [hlc.2] at ht
        have := HBi.out.1 t (by omega)
        rw [hlc.1]
        have e : (cur.take i).getD t default = cur.getD t default := by simp [List.getD, ht]
        rw [e]
        exact this.out _ (.inl (by omega))
end Go.Proofs.Ytfegdmhfmhaneaa
