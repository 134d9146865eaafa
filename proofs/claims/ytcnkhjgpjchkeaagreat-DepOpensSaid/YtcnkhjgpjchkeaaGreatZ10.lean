/-
  Words, and contracts of functions of the program and of the document, for this seat's claims: each is a lemma on the way; conditions stand in each lemma.
-/
import Derived.Test.YtcnkhjgpjchkeaaGreatZ9
namespace Go.Proofs.YtcnkhjgpjchkeaaGreat
open Go.RowKit

/-- How a dependency stands: what is told, and how it stands then. -/
def DepM.seen (M : DepM) (now : Nat) : DepM := { M with win := M.win.to now, took := M.took.to now }
def DepM.snapV (M : DepM) (now : Nat) : Array Value :=
  #[.int .i64 M.run.length, .int .i64 M.wait.length, .int .i64 M.falls.length, .int .i64 M.calls.length, .int .i64 M.br.st,
    .int .u64 (M.win.to now).cn.a, .int .u64 (M.win.to now).cn.b, .int .u64 (M.win.to now).cn.c, .int .u64 (M.win.to now).cn.d, .int .u64 (M.win.to now).cn.e, .int .u64 ((M.took.to now).pct 50 : Nat), .int .u64 ((M.took.to now).pct 100 : Nat)]
theorem snap_nilD (w : World) (now : Nat) : Calls Tryz.prog 19 #[.pointer none, .int .u64 now] w fun e w' => e = .returned (.agg #[.int .i64 0, .int .i64 0, .int .i64 0, .int .i64 0, .int .i64 0, .int .u64 0, .int .u64 0, .int .u64 0, .int .u64 0, .int .u64 0, .int .u64 0, .int .u64 0]) ∧ Fr [] w w' := by
  go_enter Tryz.func19, Tryz.ntmps19
  go_wp2
  refine bodyPost_ret (v := .agg #[.int .i64 0, .int .i64 0, .int .i64 0, .int .i64 0, .int .i64 0, .int .u64 0, .int .u64 0, .int .u64 0, .int .u64 0, .int .u64 0, .int .u64 0, .int .u64 0]) (by simp [results, Tryz.results19, go_sem]) rfl ?_
  exact ⟨rfl, (Fr.refl _ _).alloc _⟩
def SnapR (w : World) (A : DepA) (M : DepM) (now : Nat) (e : Ending) (w' : World) : Prop := e = .returned (.agg (M.snapV now)) ∧ IsDep w' A (M.seen now) ∧ Fr A.list w w'
/-- What holds while it is looked at. -/
def SnapS (A : DepA) (M : DepM) (w : World) : Prop := ∃ s, IsDep w A { M with win := s }
theorem SnapS.cells {A : DepA} {M : DepM} {w : World} (h : SnapS A M w) : w.cell? ⟨A.d, 0, none⟩ = some (.pointer (some ⟨A.brk, 0, none⟩)) ∧ w.cell? ⟨A.d, 1, none⟩ = some (.pointer (some ⟨A.blk, 0, none⟩)) ∧ w.cell? ⟨A.d, 18, none⟩ = some (.pointer (some ⟨A.fs, 0, none⟩)) ∧ w.cell? ⟨A.d, 19, none⟩ = some (.pointer (some ⟨A.wi, 0, none⟩)) ∧ w.cell? ⟨A.d, 21, none⟩ = some (.map (some A.cm)) := by
  obtain ⟨s, h⟩ := h
  obtain ⟨h0, h1, h2, h3, -, h5, -⟩ := h.cells
  exact ⟨h0, h1, h2, h3, h5⟩
theorem SnapS.len {A : DepA} {M : DepM} {w : World} (h : SnapS A M w) : (Builtin.len_ #[108] 3 #[.map (some A.cm)]).run Tryz.prog w = .ok (.int .i64 M.calls.length) w := by
  obtain ⟨s, h⟩ := h
  obtain ⟨vs, h1, h2⟩ := h.calls
  have := run_len_map (ty := 3) Tryz.underlying108 h1
  rw [h2.len] at this
  exact this
theorem IsDep.low {w : World} {A : DepA} {M : DepM} (h : IsDep w A M) : ∀ a ∈ A.list, a < w.heap.size := (DeedV.start h (Fr.refl [] w) (hb := []) (by intro p hp; cases hp) 0).low
theorem snap_keep {w W W' : World} {A : DepA} {M : DepM} (HD : IsDep W A M) (HF : Fr A.list w W) (hl : ∀ a ∈ A.list, a < w.heap.size) {Y : Nat} {cs : Array Value} (hb : W.heap[Y]? = some (.cells cs 75 (0, 0))) (hY : w.heap.size ≤ Y) (k : Fr [Y] W W') : IsDep W' A M ∧ Fr A.list w W' :=
  ⟨HD.fr k (fun a ha hs => by simp at hs; have := hl a ha; omega) (NoMem.cons (NoMem.nil W) hb (by intro _ _ e; simp only [Obj.cells.injEq] at e; exact absurd e.2.1 (by decide))), HF.trans' k (fun x hx => .inr (by simp at hx; subst hx; exact hY))⟩
theorem block12 {w : World} {y : Nat} {u0 u1 u2 u3 u4 u5 u6 u7 u8 u9 u10 u11 : Value} {E : TypeId} (h : w.heap[y]? = some (.cells #[u0, u1, u2, u3, u4, u5, u6, u7, u8, u9, u10, u11] E (0, 0))) (v0 v1 v2 v3 v4 v5 v6 v7 v8 v9 v10 v11 : Value) :
    ((((((((((((w.setCell ⟨y, 0, none⟩ v0).setCell ⟨y, 1, none⟩ v1).setCell ⟨y, 2, none⟩ v2).setCell ⟨y, 3, none⟩ v3).setCell ⟨y, 4, none⟩ v4).setCell ⟨y, 5, none⟩ v5).setCell ⟨y, 6, none⟩ v6).setCell ⟨y, 7, none⟩ v7).setCell ⟨y, 8, none⟩ v8).setCell ⟨y, 9, none⟩ v9).setCell ⟨y, 10, none⟩ v10).setCell ⟨y, 11, none⟩ v11).heap[y]? = some (.cells #[v0, v1, v2, v3, v4, v5, v6, v7, v8, v9, v10, v11] E (0, 0)) := by
  have h := block_setCell h 0 v0
  simp only [List.setIfInBounds_toArray, List.set_cons_zero] at h
  have h := block_setCell h 1 v1
  simp only [List.setIfInBounds_toArray, List.set_cons_zero, List.set_cons_succ] at h
  have h := block_setCell h 2 v2
  simp only [List.setIfInBounds_toArray, List.set_cons_zero, List.set_cons_succ] at h
  have h := block_setCell h 3 v3
  simp only [List.setIfInBounds_toArray, List.set_cons_zero, List.set_cons_succ] at h
  have h := block_setCell h 4 v4
  simp only [List.setIfInBounds_toArray, List.set_cons_zero, List.set_cons_succ] at h
  have h := block_setCell h 5 v5
  simp only [List.setIfInBounds_toArray, List.set_cons_zero, List.set_cons_succ] at h
  have h := block_setCell h 6 v6
  simp only [List.setIfInBounds_toArray, List.set_cons_zero, List.set_cons_succ] at h
  have h := block_setCell h 7 v7
  simp only [List.setIfInBounds_toArray, List.set_cons_zero, List.set_cons_succ] at h
  have h := block_setCell h 8 v8
  simp only [List.setIfInBounds_toArray, List.set_cons_zero, List.set_cons_succ] at h
  have h := block_setCell h 9 v9
  simp only [List.setIfInBounds_toArray, List.set_cons_zero, List.set_cons_succ] at h
  have h := block_setCell h 10 v10
  simp only [List.setIfInBounds_toArray, List.set_cons_zero, List.set_cons_succ] at h
  have h := block_setCell h 11 v11
  simp only [List.setIfInBounds_toArray, List.set_cons_zero, List.set_cons_succ] at h
  exact h
theorem fr12 (w : World) (y : Nat) (v0 v1 v2 v3 v4 v5 v6 v7 v8 v9 v10 v11 : Value) : Fr [y] w ((((((((((((w.setCell ⟨y, 0, none⟩ v0).setCell ⟨y, 1, none⟩ v1).setCell ⟨y, 2, none⟩ v2).setCell ⟨y, 3, none⟩ v3).setCell ⟨y, 4, none⟩ v4).setCell ⟨y, 5, none⟩ v5).setCell ⟨y, 6, none⟩ v6).setCell ⟨y, 7, none⟩ v7).setCell ⟨y, 8, none⟩ v8).setCell ⟨y, 9, none⟩ v9).setCell ⟨y, 10, none⟩ v10).setCell ⟨y, 11, none⟩ v11) := by
  iterate 12 (refine Fr.setCell ?_ (.inl (by simp)) _)
  exact Fr.refl _ _
theorem cells12 {w : World} {y : Nat} {u0 u1 u2 u3 u4 u5 u6 u7 u8 u9 u10 u11 : Value} {E : TypeId} (h : w.heap[y]? = some (.cells #[u0, u1, u2, u3, u4, u5, u6, u7, u8, u9, u10, u11] E (0, 0))) :
    w.cell? ⟨y, 0, none⟩ = some u0 ∧ w.cell? ⟨y, 1, none⟩ = some u1 ∧ w.cell? ⟨y, 2, none⟩ = some u2 ∧ w.cell? ⟨y, 3, none⟩ = some u3 ∧ w.cell? ⟨y, 4, none⟩ = some u4 ∧ w.cell? ⟨y, 5, none⟩ = some u5 ∧ w.cell? ⟨y, 6, none⟩ = some u6 ∧ w.cell? ⟨y, 7, none⟩ = some u7 ∧ w.cell? ⟨y, 8, none⟩ = some u8 ∧ w.cell? ⟨y, 9, none⟩ = some u9 ∧ w.cell? ⟨y, 10, none⟩ = some u10 ∧ w.cell? ⟨y, 11, none⟩ = some u11 := by
  refine ⟨?_, ?_, ?_, ?_, ?_, ?_, ?_, ?_, ?_, ?_, ?_, ?_⟩
  all_goals (rw [cell_of_block h]; rfl)
theorem free12 {w : World} {y : Nat} {cs : Array Value} {E : TypeId} (h : w.heap[y]? = some (.cells cs E (0, 0))) :
    w.frozen? ⟨y, 0, none⟩ = false ∧ w.frozen? ⟨y, 1, none⟩ = false ∧ w.frozen? ⟨y, 2, none⟩ = false ∧ w.frozen? ⟨y, 3, none⟩ = false ∧ w.frozen? ⟨y, 4, none⟩ = false ∧ w.frozen? ⟨y, 5, none⟩ = false ∧ w.frozen? ⟨y, 6, none⟩ = false ∧ w.frozen? ⟨y, 7, none⟩ = false ∧ w.frozen? ⟨y, 8, none⟩ = false ∧ w.frozen? ⟨y, 9, none⟩ = false ∧ w.frozen? ⟨y, 10, none⟩ = false ∧ w.frozen? ⟨y, 11, none⟩ = false :=
  ⟨free_of_block h 0, free_of_block h 1, free_of_block h 2, free_of_block h 3, free_of_block h 4, free_of_block h 5, free_of_block h 6, free_of_block h 7, free_of_block h 8, free_of_block h 9, free_of_block h 10, free_of_block h 11⟩
theorem WinM.to_to (s : WinM) (now : Nat) : (s.to now).to now = s.to now := by
  unfold WinM.to
  simp only [WinM.mk.injEq, true_and, and_true]
  omega
set_option maxHeartbeats 8000000 in
set_option maxRecDepth 20000 in
theorem snapD_spec {w : World} {A : DepA} {M : DepM} (h : IsDep w A M) (now : Nat) (hnow : now < 18446744073709551616) :
    Calls Tryz.prog 19 #[.pointer (some ⟨A.d, 0, none⟩), .int .u64 now] w (SnapR w A M now) := by
  have hwi : A.wi < w.heap.size := by
    obtain ⟨_, _, hw⟩ := h.win
    obtain ⟨cw, hw1, _⟩ := hw
    exact lt_of_block hw1
  have hhi : A.hi < w.heap.size := by
    obtain ⟨_, _, hw⟩ := h.took
    obtain ⟨cw, hw1, _⟩ := hw
    exact lt_of_block hw1
  have HR0 := block_alloc_new w (.cells #[.int .i64 0, .int .i64 0, .int .i64 0, .int .i64 0, .int .i64 0, .int .u64 0, .int .u64 0, .int .u64 0, .int .u64 0, .int .u64 0, .int .u64 0, .int .u64 0] 75)
  have H1 := Lib.hid (h.fr0 ((Fr.refl [] w).alloc (.cells #[.int .i64 0, .int .i64 0, .int .i64 0, .int .i64 0, .int .i64 0, .int .u64 0, .int .u64 0, .int .u64 0, .int .u64 0, .int .u64 0, .int .u64 0, .int .u64 0] 75)))
  have HF1 := Lib.hid ((Fr.refl A.list w).alloc (.cells #[.int .i64 0, .int .i64 0, .int .i64 0, .int .i64 0, .int .i64 0, .int .u64 0, .int .u64 0, .int .u64 0, .int .u64 0, .int .u64 0, .int .u64 0, .int .u64 0] 75))
  have hz : (zeroValue 75).run Tryz.prog w = .ok (.agg #[.int .i64 0, .int .i64 0, .int .i64 0, .int .i64 0, .int .i64 0, .int .u64 0, .int .u64 0, .int .u64 0, .int .u64 0, .int .u64 0, .int .u64 0, .int .u64 0]) w := by kernel_rfl
  have HZ := Lib.hid (fun (w' : World) => (by kernel_rfl : (zeroValue 75).run Tryz.prog w' = .ok (.agg #[.int .i64 0, .int .i64 0, .int .i64 0, .int .i64 0, .int .i64 0, .int .u64 0, .int .u64 0, .int .u64 0, .int .u64 0, .int .u64 0, .int .u64 0, .int .u64 0]) w'))
  have HBZ := Lib.hid (fun (w' : World) (cn : Cn) => (by kernel_rfl : (Instr.build 75 #[(0, .int .i64 M.run.length), (1, .int .i64 M.wait.length), (2, .int .i64 M.falls.length), (3, .int .i64 M.calls.length), (4, .int .i64 M.br.st), (5, .agg #[.int .u64 cn.a, .int .u64 cn.b, .int .u64 cn.c, .int .u64 cn.d, .int .u64 cn.e])]).run Tryz.prog w' = .ok (.agg #[.int .i64 M.run.length, .int .i64 M.wait.length, .int .i64 M.falls.length, .int .i64 M.calls.length, .int .i64 M.br.st, .int .u64 cn.a, .int .u64 cn.b, .int .u64 cn.c, .int .u64 cn.d, .int .u64 cn.e, .int .u64 0, .int .u64 0]) w'))
  have HRB := Lib.hid HR0
  have HLOW := Lib.hid h.low
  clear h HR0
  go_enter Tryz.func19, Tryz.ntmps19
  go_wp2_with fail
  generalize hw0 : (w.alloc (.cells #[.int .i64 0, .int .i64 0, .int .i64 0, .int .i64 0, .int .i64 0, .int .u64 0, .int .u64 0, .int .u64 0, .int .u64 0, .int .u64 0, .int .u64 0, .int .u64 0] 75)).drew = w0
  have HD0 : Hid (IsDep w0 A M) := Lib.hid (by rw [← hw0]; exact H1.out.fr0 (Fr.refl [] _).drew)
  have HF0 : Hid (Fr A.list w w0) := Lib.hid (by rw [← hw0]; exact HF1.out.drew)
  have HRB0 : Hid (w0.heap[w.heap.size]? = some (.cells #[.int .i64 0, .int .i64 0, .int .i64 0, .int .i64 0, .int .i64 0, .int .u64 0, .int .u64 0, .int .u64 0, .int .u64 0, .int .u64 0, .int .u64 0, .int .u64 0] 75)) := Lib.hid (by rw [← hw0]; exact HRB.out)
  have hsz0 : w.heap.size < w0.heap.size := lt_of_block HRB0.out
  have hS0 : SnapS A M w0 := ⟨M.win, HD0.out⟩
  have hSd : SnapS A M ((w.alloc (.cells #[.int .i64 0, .int .i64 0, .int .i64 0, .int .i64 0, .int .i64 0, .int .u64 0, .int .u64 0, .int .u64 0, .int .u64 0, .int .u64 0, .int .u64 0, .int .u64 0] 75)).drew) := by rw [hw0]; exact hS0
  refine wp_region_held_drew (S := SnapS A M) (by kernel_rfl) hSd (fun hHeld => ?_)
  rw [hw0] at hHeld ⊢
  clear hw0 H1 HF1 HRB hz hSd hS0
  have hR : Array.replicate 35 false = #[false, false, false, false, false, false, false, false, false, false, false, false, false, false, false, false, false, false, false, false, false, false, false, false, false, false, false, false, false, false, false, false, false, false, false] := rfl
  refine (?_ : wpAnyH _ _ _ _ _ 35 (Array.replicate 35 false) _ _)
  rw [hR]
  refine wpAnyH_hide (fun _ _ d _ _ h => by cases d <;> exact h) (fun ops Q hops hQ hQn => ?_)
  clear hR
  have e0 := congrArg (fun x : Array Oper => x[0]?) hops.out
  simp only [List.getElem?_toArray, List.getElem?_cons_zero] at e0
  have e1 := congrArg (fun x : Array Oper => x[1]?) hops.out
  simp only [List.getElem?_toArray, List.getElem?_cons_zero, List.getElem?_cons_succ] at e1
  have e2 := congrArg (fun x : Array Oper => x[2]?) hops.out
  simp only [List.getElem?_toArray, List.getElem?_cons_zero, List.getElem?_cons_succ] at e2
  have e3 := congrArg (fun x : Array Oper => x[3]?) hops.out
  simp only [List.getElem?_toArray, List.getElem?_cons_zero, List.getElem?_cons_succ] at e3
  have e4 := congrArg (fun x : Array Oper => x[4]?) hops.out
  simp only [List.getElem?_toArray, List.getElem?_cons_zero, List.getElem?_cons_succ] at e4
  have e5 := congrArg (fun x : Array Oper => x[5]?) hops.out
  simp only [List.getElem?_toArray, List.getElem?_cons_zero, List.getElem?_cons_succ] at e5
  have e6 := congrArg (fun x : Array Oper => x[6]?) hops.out
  simp only [List.getElem?_toArray, List.getElem?_cons_zero, List.getElem?_cons_succ] at e6
  have e7 := congrArg (fun x : Array Oper => x[7]?) hops.out
  simp only [List.getElem?_toArray, List.getElem?_cons_zero, List.getElem?_cons_succ] at e7
  have e8 := congrArg (fun x : Array Oper => x[8]?) hops.out
  simp only [List.getElem?_toArray, List.getElem?_cons_zero, List.getElem?_cons_succ] at e8
  have e9 := congrArg (fun x : Array Oper => x[9]?) hops.out
  simp only [List.getElem?_toArray, List.getElem?_cons_zero, List.getElem?_cons_succ] at e9
  have e10 := congrArg (fun x : Array Oper => x[10]?) hops.out
  simp only [List.getElem?_toArray, List.getElem?_cons_zero, List.getElem?_cons_succ] at e10
  have e11 := congrArg (fun x : Array Oper => x[11]?) hops.out
  simp only [List.getElem?_toArray, List.getElem?_cons_zero, List.getElem?_cons_succ] at e11
  have e12 := congrArg (fun x : Array Oper => x[12]?) hops.out
  simp only [List.getElem?_toArray, List.getElem?_cons_zero, List.getElem?_cons_succ] at e12
  have e13 := congrArg (fun x : Array Oper => x[13]?) hops.out
  simp only [List.getElem?_toArray, List.getElem?_cons_zero, List.getElem?_cons_succ] at e13
  have e14 := congrArg (fun x : Array Oper => x[14]?) hops.out
  simp only [List.getElem?_toArray, List.getElem?_cons_zero, List.getElem?_cons_succ] at e14
  have e15 := congrArg (fun x : Array Oper => x[15]?) hops.out
  simp only [List.getElem?_toArray, List.getElem?_cons_zero, List.getElem?_cons_succ] at e15
  have e16 := congrArg (fun x : Array Oper => x[16]?) hops.out
  simp only [List.getElem?_toArray, List.getElem?_cons_zero, List.getElem?_cons_succ] at e16
  have e17 := congrArg (fun x : Array Oper => x[17]?) hops.out
  simp only [List.getElem?_toArray, List.getElem?_cons_zero, List.getElem?_cons_succ] at e17
  have e18 := congrArg (fun x : Array Oper => x[18]?) hops.out
  simp only [List.getElem?_toArray, List.getElem?_cons_zero, List.getElem?_cons_succ] at e18
  have e19 := congrArg (fun x : Array Oper => x[19]?) hops.out
  simp only [List.getElem?_toArray, List.getElem?_cons_zero, List.getElem?_cons_succ] at e19
  have e20 := congrArg (fun x : Array Oper => x[20]?) hops.out
  simp only [List.getElem?_toArray, List.getElem?_cons_zero, List.getElem?_cons_succ] at e20
  have e21 := congrArg (fun x : Array Oper => x[21]?) hops.out
  simp only [List.getElem?_toArray, List.getElem?_cons_zero, List.getElem?_cons_succ] at e21
  have e22 := congrArg (fun x : Array Oper => x[22]?) hops.out
  simp only [List.getElem?_toArray, List.getElem?_cons_zero, List.getElem?_cons_succ] at e22
  have e23 := congrArg (fun x : Array Oper => x[23]?) hops.out
  simp only [List.getElem?_toArray, List.getElem?_cons_zero, List.getElem?_cons_succ] at e23
  have e24 := congrArg (fun x : Array Oper => x[24]?) hops.out
  simp only [List.getElem?_toArray, List.getElem?_cons_zero, List.getElem?_cons_succ] at e24
  have e25 := congrArg (fun x : Array Oper => x[25]?) hops.out
  simp only [List.getElem?_toArray, List.getElem?_cons_zero, List.getElem?_cons_succ] at e25
  have e26 := congrArg (fun x : Array Oper => x[26]?) hops.out
  simp only [List.getElem?_toArray, List.getElem?_cons_zero, List.getElem?_cons_succ] at e26
  have e27 := congrArg (fun x : Array Oper => x[27]?) hops.out
  simp only [List.getElem?_toArray, List.getElem?_cons_zero, List.getElem?_cons_succ] at e27
  have e28 := congrArg (fun x : Array Oper => x[28]?) hops.out
  simp only [List.getElem?_toArray, List.getElem?_cons_zero, List.getElem?_cons_succ] at e28
  have e29 := congrArg (fun x : Array Oper => x[29]?) hops.out
  simp only [List.getElem?_toArray, List.getElem?_cons_zero, List.getElem?_cons_succ] at e29
  have e30 := congrArg (fun x : Array Oper => x[30]?) hops.out
  simp only [List.getElem?_toArray, List.getElem?_cons_zero, List.getElem?_cons_succ] at e30
  have e31 := congrArg (fun x : Array Oper => x[31]?) hops.out
  simp only [List.getElem?_toArray, List.getElem?_cons_zero, List.getElem?_cons_succ] at e31
  have e32 := congrArg (fun x : Array Oper => x[32]?) hops.out
  simp only [List.getElem?_toArray, List.getElem?_cons_zero, List.getElem?_cons_succ] at e32
  have e33 := congrArg (fun x : Array Oper => x[33]?) hops.out
  simp only [List.getElem?_toArray, List.getElem?_cons_zero, List.getElem?_cons_succ] at e33
  have e34 := congrArg (fun x : Array Oper => x[34]?) hops.out
  simp only [List.getElem?_toArray, List.getElem?_cons_zero, List.getElem?_cons_succ] at e34
  refine wpAnyH_take (i := 0) (v := .pointer (some ⟨A.d, 0, none⟩)) e0 (by rw [hops.out]; kernel_rfl) (by rw [hops.out]; kernel_rfl) (by rw [hops.out]; kernel_rfl) (fun c a w h => hQ c a _ _ w h) (Or.inl ⟨rfl, fun w' _ => by go_simp⟩) hHeld ?_
  (try simp only [Act.put, List.setIfInBounds_toArray, List.set_cons_zero, List.set_cons_succ])
  refine wpAnyH_take (i := 1) (v := .pointer (some ⟨A.d, 0, none⟩)) e1 (by rw [hops.out]; kernel_rfl) (by rw [hops.out]; kernel_rfl) (by rw [hops.out]; kernel_rfl) (fun c a w h => hQ c a _ _ w h) (Or.inl ⟨rfl, fun w' _ => by go_simp⟩) hHeld ?_
  (try simp only [Act.put, List.setIfInBounds_toArray, List.set_cons_zero, List.set_cons_succ])
  refine wpAnyH_take (i := 2) (v := .pointer (some ⟨A.d, 1, none⟩)) e2 (by rw [hops.out]; kernel_rfl) (by rw [hops.out]; kernel_rfl) (by rw [hops.out]; kernel_rfl) (fun c a w h => hQ c a _ _ w h) (Or.inl ⟨rfl, fun w' _ => by go_simp⟩) hHeld ?_
  (try simp only [Act.put, List.setIfInBounds_toArray, List.set_cons_zero, List.set_cons_succ])
  refine wpAnyH_take (i := 3) (v := .pointer (some ⟨A.blk, 0, none⟩)) e3 (by rw [hops.out]; kernel_rfl) (by rw [hops.out]; kernel_rfl) (by rw [hops.out]; kernel_rfl) (fun c a w h => hQ c a _ _ w h) (Or.inl ⟨rfl, fun w' hS => by have q := hS.cells.2.1; go_simp⟩) hHeld ?_
  (try simp only [Act.put, List.setIfInBounds_toArray, List.set_cons_zero, List.set_cons_succ])
  refine wpAnyH_take (i := 5) (v := .pointer (some ⟨A.d, 0, none⟩)) e5 (by rw [hops.out]; kernel_rfl) (by rw [hops.out]; kernel_rfl) (by rw [hops.out]; kernel_rfl) (fun c a w h => hQ c a _ _ w h) (Or.inl ⟨rfl, fun w' _ => by go_simp⟩) hHeld ?_
  (try simp only [Act.put, List.setIfInBounds_toArray, List.set_cons_zero, List.set_cons_succ])
  refine wpAnyH_take (i := 6) (v := .pointer (some ⟨A.d, 0, none⟩)) e6 (by rw [hops.out]; kernel_rfl) (by rw [hops.out]; kernel_rfl) (by rw [hops.out]; kernel_rfl) (fun c a w h => hQ c a _ _ w h) (Or.inl ⟨rfl, fun w' _ => by go_simp⟩) hHeld ?_
  (try simp only [Act.put, List.setIfInBounds_toArray, List.set_cons_zero, List.set_cons_succ])
  refine wpAnyH_take (i := 7) (v := .pointer (some ⟨A.d, 1, none⟩)) e7 (by rw [hops.out]; kernel_rfl) (by rw [hops.out]; kernel_rfl) (by rw [hops.out]; kernel_rfl) (fun c a w h => hQ c a _ _ w h) (Or.inl ⟨rfl, fun w' _ => by go_simp⟩) hHeld ?_
  (try simp only [Act.put, List.setIfInBounds_toArray, List.set_cons_zero, List.set_cons_succ])
  refine wpAnyH_take (i := 8) (v := .pointer (some ⟨A.blk, 0, none⟩)) e8 (by rw [hops.out]; kernel_rfl) (by rw [hops.out]; kernel_rfl) (by rw [hops.out]; kernel_rfl) (fun c a w h => hQ c a _ _ w h) (Or.inl ⟨rfl, fun w' hS => by have q := hS.cells.2.1; go_simp⟩) hHeld ?_
  (try simp only [Act.put, List.setIfInBounds_toArray, List.set_cons_zero, List.set_cons_succ])
  refine wpAnyH_take (i := 11) (v := .pointer (some ⟨A.d, 0, none⟩)) e11 (by rw [hops.out]; kernel_rfl) (by rw [hops.out]; kernel_rfl) (by rw [hops.out]; kernel_rfl) (fun c a w h => hQ c a _ _ w h) (Or.inl ⟨rfl, fun w' _ => by go_simp⟩) hHeld ?_
  (try simp only [Act.put, List.setIfInBounds_toArray, List.set_cons_zero, List.set_cons_succ])
  refine wpAnyH_take (i := 12) (v := .pointer (some ⟨A.d, 0, none⟩)) e12 (by rw [hops.out]; kernel_rfl) (by rw [hops.out]; kernel_rfl) (by rw [hops.out]; kernel_rfl) (fun c a w h => hQ c a _ _ w h) (Or.inl ⟨rfl, fun w' _ => by go_simp⟩) hHeld ?_
  (try simp only [Act.put, List.setIfInBounds_toArray, List.set_cons_zero, List.set_cons_succ])
  refine wpAnyH_take (i := 13) (v := .pointer (some ⟨A.d, 18, none⟩)) e13 (by rw [hops.out]; kernel_rfl) (by rw [hops.out]; kernel_rfl) (by rw [hops.out]; kernel_rfl) (fun c a w h => hQ c a _ _ w h) (Or.inl ⟨rfl, fun w' _ => by go_simp⟩) hHeld ?_
  (try simp only [Act.put, List.setIfInBounds_toArray, List.set_cons_zero, List.set_cons_succ])
  refine wpAnyH_take (i := 14) (v := .pointer (some ⟨A.fs, 0, none⟩)) e14 (by rw [hops.out]; kernel_rfl) (by rw [hops.out]; kernel_rfl) (by rw [hops.out]; kernel_rfl) (fun c a w h => hQ c a _ _ w h) (Or.inl ⟨rfl, fun w' hS => by have q := hS.cells.2.2.1; go_simp⟩) hHeld ?_
  (try simp only [Act.put, List.setIfInBounds_toArray, List.set_cons_zero, List.set_cons_succ])
  refine wpAnyH_take (i := 16) (v := .pointer (some ⟨A.d, 0, none⟩)) e16 (by rw [hops.out]; kernel_rfl) (by rw [hops.out]; kernel_rfl) (by rw [hops.out]; kernel_rfl) (fun c a w h => hQ c a _ _ w h) (Or.inl ⟨rfl, fun w' _ => by go_simp⟩) hHeld ?_
  (try simp only [Act.put, List.setIfInBounds_toArray, List.set_cons_zero, List.set_cons_succ])
  refine wpAnyH_take (i := 17) (v := .pointer (some ⟨A.d, 0, none⟩)) e17 (by rw [hops.out]; kernel_rfl) (by rw [hops.out]; kernel_rfl) (by rw [hops.out]; kernel_rfl) (fun c a w h => hQ c a _ _ w h) (Or.inl ⟨rfl, fun w' _ => by go_simp⟩) hHeld ?_
  (try simp only [Act.put, List.setIfInBounds_toArray, List.set_cons_zero, List.set_cons_succ])
  refine wpAnyH_take (i := 18) (v := .pointer (some ⟨A.d, 21, none⟩)) e18 (by rw [hops.out]; kernel_rfl) (by rw [hops.out]; kernel_rfl) (by rw [hops.out]; kernel_rfl) (fun c a w h => hQ c a _ _ w h) (Or.inl ⟨rfl, fun w' _ => by go_simp⟩) hHeld ?_
  (try simp only [Act.put, List.setIfInBounds_toArray, List.set_cons_zero, List.set_cons_succ])
  refine wpAnyH_take (i := 19) (v := .map (some A.cm)) e19 (by rw [hops.out]; kernel_rfl) (by rw [hops.out]; kernel_rfl) (by rw [hops.out]; kernel_rfl) (fun c a w h => hQ c a _ _ w h) (Or.inl ⟨rfl, fun w' hS => by have q := hS.cells.2.2.2.2; go_simp⟩) hHeld ?_
  (try simp only [Act.put, List.setIfInBounds_toArray, List.set_cons_zero, List.set_cons_succ])
  refine wpAnyH_take (i := 21) (v := .pointer (some ⟨A.d, 0, none⟩)) e21 (by rw [hops.out]; kernel_rfl) (by rw [hops.out]; kernel_rfl) (by rw [hops.out]; kernel_rfl) (fun c a w h => hQ c a _ _ w h) (Or.inl ⟨rfl, fun w' _ => by go_simp⟩) hHeld ?_
  (try simp only [Act.put, List.setIfInBounds_toArray, List.set_cons_zero, List.set_cons_succ])
  refine wpAnyH_take (i := 22) (v := .pointer (some ⟨A.d, 0, none⟩)) e22 (by rw [hops.out]; kernel_rfl) (by rw [hops.out]; kernel_rfl) (by rw [hops.out]; kernel_rfl) (fun c a w h => hQ c a _ _ w h) (Or.inl ⟨rfl, fun w' _ => by go_simp⟩) hHeld ?_
  (try simp only [Act.put, List.setIfInBounds_toArray, List.set_cons_zero, List.set_cons_succ])
  refine wpAnyH_take (i := 23) (v := .pointer (some ⟨A.d, 0, none⟩)) e23 (by rw [hops.out]; kernel_rfl) (by rw [hops.out]; kernel_rfl) (by rw [hops.out]; kernel_rfl) (fun c a w h => hQ c a _ _ w h) (Or.inl ⟨rfl, fun w' _ => by go_simp⟩) hHeld ?_
  (try simp only [Act.put, List.setIfInBounds_toArray, List.set_cons_zero, List.set_cons_succ])
  refine wpAnyH_take (i := 24) (v := .pointer (some ⟨A.brk, 0, none⟩)) e24 (by rw [hops.out]; kernel_rfl) (by rw [hops.out]; kernel_rfl) (by rw [hops.out]; kernel_rfl) (fun c a w h => hQ c a _ _ w h) (Or.inl ⟨rfl, fun w' hS => by have q := hS.cells.1; go_simp⟩) hHeld ?_
  (try simp only [Act.put, List.setIfInBounds_toArray, List.set_cons_zero, List.set_cons_succ])
  refine wpAnyH_take (i := 26) (v := .pointer (some ⟨A.d, 0, none⟩)) e26 (by rw [hops.out]; kernel_rfl) (by rw [hops.out]; kernel_rfl) (by rw [hops.out]; kernel_rfl) (fun c a w h => hQ c a _ _ w h) (Or.inl ⟨rfl, fun w' _ => by go_simp⟩) hHeld ?_
  (try simp only [Act.put, List.setIfInBounds_toArray, List.set_cons_zero, List.set_cons_succ])
  refine wpAnyH_take (i := 27) (v := .pointer (some ⟨A.d, 0, none⟩)) e27 (by rw [hops.out]; kernel_rfl) (by rw [hops.out]; kernel_rfl) (by rw [hops.out]; kernel_rfl) (fun c a w h => hQ c a _ _ w h) (Or.inl ⟨rfl, fun w' _ => by go_simp⟩) hHeld ?_
  (try simp only [Act.put, List.setIfInBounds_toArray, List.set_cons_zero, List.set_cons_succ])
  refine wpAnyH_take (i := 28) (v := .pointer (some ⟨A.d, 19, none⟩)) e28 (by rw [hops.out]; kernel_rfl) (by rw [hops.out]; kernel_rfl) (by rw [hops.out]; kernel_rfl) (fun c a w h => hQ c a _ _ w h) (Or.inl ⟨rfl, fun w' _ => by go_simp⟩) hHeld ?_
  (try simp only [Act.put, List.setIfInBounds_toArray, List.set_cons_zero, List.set_cons_succ])
  refine wpAnyH_take (i := 29) (v := .pointer (some ⟨A.wi, 0, none⟩)) e29 (by rw [hops.out]; kernel_rfl) (by rw [hops.out]; kernel_rfl) (by rw [hops.out]; kernel_rfl) (fun c a w h => hQ c a _ _ w h) (Or.inl ⟨rfl, fun w' hS => by have q := hS.cells.2.2.2.1; go_simp⟩) hHeld ?_
  (try simp only [Act.put, List.setIfInBounds_toArray, List.set_cons_zero, List.set_cons_succ])
  refine wpAnyH_take (i := 30) (v := .int .u64 now) e30 (by rw [hops.out]; kernel_rfl) (by rw [hops.out]; kernel_rfl) (by rw [hops.out]; kernel_rfl) (fun c a w h => hQ c a _ _ w h) (Or.inl ⟨rfl, fun w' _ => by go_simp⟩) hHeld ?_
  (try simp only [Act.put, List.setIfInBounds_toArray, List.set_cons_zero, List.set_cons_succ])
  refine wpAnyH_ready (rs := [4, 33]) (by rw [hops.out]; kernel_rfl) (by simp) ?_
  refine AllReadyH.cons e4 (fun K hK => ?_) ?_
  · have HC := Lib.hid (HD0.out.bulk.busy)
    go_simp
    refine HC.out.mono ?_
    rintro e v1 ⟨rfl, hv⟩
    obtain rfl : w0 = v1 := hv.symm
    clear hv
    go_wp2_with fail
    refine hK.out _ _ hHeld (fun hHeld => ?_)
    clear hK K HC
    (try simp only [List.setIfInBounds_toArray, List.set_cons_zero, List.set_cons_succ])
    refine wpAnyH_ready (rs := [9, 33]) (by rw [hops.out]; kernel_rfl) (by simp) ?_
    refine AllReadyH.cons e9 (fun K hK => ?_) ?_
    · have HC := Lib.hid (HD0.out.bulk.waiting)
      go_simp
      refine HC.out.mono ?_
      rintro e v2 ⟨vl, rfl, L9, F9⟩
      obtain ⟨⟨ao9, cap9, hv9, -⟩, -⟩ := L9
      subst hv9
      have HD2 := Lib.hid (HD0.out.fr0 F9)
      have HF2 := Lib.hid (HF0.out.trans (F9.mono (S' := A.list) (by simp)))
      have HR2 := Lib.hid (F9.keep HRB0.out (by simp))
      have hs2 := F9.size
      skip
      go_wp2_with fail
      refine hK.out _ _ ⟨_, HD2.out⟩ (fun hHeld => ?_)
      clear hK K HC F9
      (try simp only [List.setIfInBounds_toArray, List.set_cons_zero, List.set_cons_succ])
      refine wpAnyH_take (i := 10) (v := .int .i64 M.wait.length) e10 (by rw [hops.out]; kernel_rfl) (by rw [hops.out]; kernel_rfl) (by rw [hops.out]; kernel_rfl) (fun c a w h => hQ c a _ _ w h) (Or.inl ⟨rfl, fun w' _ => by go_simp⟩) hHeld ?_
      (try simp only [Act.put, List.setIfInBounds_toArray, List.set_cons_zero, List.set_cons_succ])
      refine wpAnyH_ready (rs := [15, 33]) (by rw [hops.out]; kernel_rfl) (by simp) ?_
      refine AllReadyH.cons e15 (fun K hK => ?_) ?_
      · have HC := Lib.hid (HD2.out.falls.used)
        go_simp
        refine HC.out.mono ?_
        rintro e v3 ⟨rfl, hv⟩
        obtain rfl : v2 = v3 := hv.symm
        clear hv
        go_wp2_with fail
        refine hK.out _ _ hHeld (fun hHeld => ?_)
        clear hK K HC
        (try simp only [List.setIfInBounds_toArray, List.set_cons_zero, List.set_cons_succ])
        refine wpAnyH_take (i := 20) (v := .int .i64 M.calls.length) e20 (by rw [hops.out]; kernel_rfl) (by rw [hops.out]; kernel_rfl) (by rw [hops.out]; kernel_rfl) (fun c a w h => hQ c a _ _ w h) (Or.inl ⟨rfl, fun w' hS => by have q := hS.len; go_simp⟩) hHeld ?_
        (try simp only [Act.put, List.setIfInBounds_toArray, List.set_cons_zero, List.set_cons_succ])
        refine wpAnyH_ready (rs := [25, 33]) (by rw [hops.out]; kernel_rfl) (by simp) ?_
        refine AllReadyH.cons e25 (fun K hK => ?_) ?_
        · have HC := Lib.hid (HD2.out.brk.state)
          go_simp
          refine HC.out.mono ?_
          rintro e v4 ⟨rfl, hv⟩
          obtain rfl : v2 = v4 := hv.symm
          clear hv
          go_wp2_with fail
          refine hK.out _ _ hHeld (fun hHeld => ?_)
          clear hK K HC
          (try simp only [List.setIfInBounds_toArray, List.set_cons_zero, List.set_cons_succ])
          refine wpAnyH_ready (rs := [31, 33]) (by rw [hops.out]; kernel_rfl) (by simp) ?_
          refine AllReadyH.cons e31 (fun K hK => ?_) ?_
          · have HC := Lib.hid (winCounts_spec HD2.out.win now hnow)
            go_simp
            refine HC.out.mono ?_
            rintro e v5 ⟨rfl, W9, F9⟩
            have HD5 := Lib.hid (HD2.out.setWin F9 W9)
            have HF5 := Lib.hid (HF2.out.trans (F9.mono (S' := A.list) (by simp [DepA.list])))
            have HR5 := Lib.hid (F9.keep HR2.out (by simp; omega))
            have hs5 := F9.size
            skip
            have hcn : Hid ((M.win.to now).cn = (M.win.to now).cn) := Lib.hid rfl
            generalize hcn2 : (M.win.to now).cn = cn at *
            have HCN := Lib.hid hcn2
            clear hcn2 hcn
            unfold Cn.vals
            go_wp2_with fail
            refine hK.out _ _ ⟨_, HD5.out⟩ (fun hHeld => ?_)
            clear hK K HC F9 W9
            (try simp only [List.setIfInBounds_toArray, List.set_cons_zero, List.set_cons_succ])
            refine wpAnyH_take (i := 32) (v := .agg #[.int .i64 M.run.length, .int .i64 M.wait.length, .int .i64 M.falls.length, .int .i64 M.calls.length, .int .i64 M.br.st, .int .u64 cn.a, .int .u64 cn.b, .int .u64 cn.c, .int .u64 cn.d, .int .u64 cn.e, .int .u64 0, .int .u64 0]) e32 (by rw [hops.out]; kernel_rfl) (by rw [hops.out]; kernel_rfl) (by rw [hops.out]; kernel_rfl) (fun c a w h => hQ c a _ _ w h) (yieldsIf_build rfl _ _ rfl _ (by simp only [List.map_toArray, List.map_cons, List.map_nil]; rfl) _ (fun w' _ => HBZ.out w' cn)) hHeld ?_
            (try simp only [Act.put, List.setIfInBounds_toArray, List.set_cons_zero, List.set_cons_succ])
            refine wpAnyH_ready (rs := [33]) (by rw [hops.out]; kernel_rfl) (by simp) ?_
            refine AllReadyH.cons e33 (fun K hK => ?_) ?_
            · have hz := HZ.out v5
              go_simp
              have hbn := block_alloc_new v5 (.cells #[.int .i64 0, .int .i64 0, .int .i64 0, .int .i64 0, .int .i64 0, .int .u64 0, .int .u64 0, .int .u64 0, .int .u64 0, .int .u64 0, .int .u64 0, .int .u64 0] 75)
              have HBn6 := Lib.hid hbn
              have HD6 := Lib.hid (HD5.out.fr0 ((Fr.refl [] v5).alloc (.cells #[.int .i64 0, .int .i64 0, .int .i64 0, .int .i64 0, .int .i64 0, .int .u64 0, .int .u64 0, .int .u64 0, .int .u64 0, .int .u64 0, .int .u64 0, .int .u64 0] 75)))
              have HF6 := Lib.hid (HF5.out.alloc (.cells #[.int .i64 0, .int .i64 0, .int .i64 0, .int .i64 0, .int .i64 0, .int .u64 0, .int .u64 0, .int .u64 0, .int .u64 0, .int .u64 0, .int .u64 0, .int .u64 0] 75))
              have HR6 := Lib.hid (block_alloc HR5.out (.cells #[.int .i64 0, .int .i64 0, .int .i64 0, .int .i64 0, .int .i64 0, .int .u64 0, .int .u64 0, .int .u64 0, .int .u64 0, .int .u64 0, .int .u64 0, .int .u64 0] 75))
              have hb6 : v5.heap.size < (v5.alloc (.cells #[.int .i64 0, .int .i64 0, .int .i64 0, .int .i64 0, .int .i64 0, .int .u64 0, .int .u64 0, .int .u64 0, .int .u64 0, .int .u64 0, .int .u64 0, .int .u64 0] 75)).heap.size := by simp
              refine hK.out _ _ ⟨_, HD6.out⟩ (fun hHeld => ?_)
              clear hK K hbn hz
              generalize (v5.alloc (.cells #[.int .i64 0, .int .i64 0, .int .i64 0, .int .i64 0, .int .i64 0, .int .u64 0, .int .u64 0, .int .u64 0, .int .u64 0, .int .u64 0, .int .u64 0, .int .u64 0] 75)) = v6 at *
              (try simp only [List.setIfInBounds_toArray, List.set_cons_zero, List.set_cons_succ])
              refine wpAnyH_ready (rs := [34]) (by rw [hops.out]; kernel_rfl) (by simp) ?_
              refine AllReadyH.cons e34 (fun K hK => ?_) AllReadyH.nil
              have hyq : v5.heap.size ≠ A.hi ∧ w.heap.size ≠ A.hi ∧ w.heap.size ≠ v5.heap.size ∧ w.heap.size ≤ v5.heap.size := by omega
              have HBq := Lib.hid (block12 HBn6.out (.int .i64 M.run.length) (.int .i64 M.wait.length) (.int .i64 M.falls.length) (.int .i64 M.calls.length) (.int .i64 M.br.st) (.int .u64 cn.a) (.int .u64 cn.b) (.int .u64 cn.c) (.int .u64 cn.d) (.int .u64 cn.e) (.int .u64 0) (.int .u64 0))
              have hkq := snap_keep HD6.out HF6.out HLOW.out HBn6.out hyq.2.2.2 (fr12 v6 (v5.heap.size) (.int .i64 M.run.length) (.int .i64 M.wait.length) (.int .i64 M.falls.length) (.int .i64 M.calls.length) (.int .i64 M.br.st) (.int .u64 cn.a) (.int .u64 cn.b) (.int .u64 cn.c) (.int .u64 cn.d) (.int .u64 cn.e) (.int .u64 0) (.int .u64 0))
              have HDq := Lib.hid hkq.1
              have HFq := Lib.hid hkq.2
              have HRq := Lib.hid ((fr12 v6 (v5.heap.size) (.int .i64 M.run.length) (.int .i64 M.wait.length) (.int .i64 M.falls.length) (.int .i64 M.calls.length) (.int .i64 M.br.st) (.int .u64 cn.a) (.int .u64 cn.b) (.int .u64 cn.c) (.int .u64 cn.d) (.int .u64 cn.e) (.int .u64 0) (.int .u64 0)).keep HR6.out (by simp; exact hyq.2.2.1))
              have hSq : SnapS A M ((((((((((((v6.setCell ⟨v5.heap.size, 0, none⟩ (.int .i64 M.run.length)).setCell ⟨v5.heap.size, 1, none⟩ (.int .i64 M.wait.length)).setCell ⟨v5.heap.size, 2, none⟩ (.int .i64 M.falls.length)).setCell ⟨v5.heap.size, 3, none⟩ (.int .i64 M.calls.length)).setCell ⟨v5.heap.size, 4, none⟩ (.int .i64 M.br.st)).setCell ⟨v5.heap.size, 5, none⟩ (.int .u64 cn.a)).setCell ⟨v5.heap.size, 6, none⟩ (.int .u64 cn.b)).setCell ⟨v5.heap.size, 7, none⟩ (.int .u64 cn.c)).setCell ⟨v5.heap.size, 8, none⟩ (.int .u64 cn.d)).setCell ⟨v5.heap.size, 9, none⟩ (.int .u64 cn.e)).setCell ⟨v5.heap.size, 10, none⟩ (.int .u64 0)).setCell ⟨v5.heap.size, 11, none⟩ (.int .u64 0)) := ⟨_, hkq.1⟩
              clear hkq
              obtain ⟨c0, c1, c2, c3, c4, c5, c6, c7, c8, c9, ca, cb⟩ := cells12 HBn6.out
              obtain ⟨f0, f1, f2, f3, f4, f5, f6, f7, f8, f9, fa, fb⟩ := free12 HBn6.out
              go_simp
              refine hK.out _ _ hSq (fun hHeld => ?_)
              clear hK K hSq c0 c1 c2 c3 c4 c5 c6 c7 c8 c9 ca cb f0 f1 f2 f3 f4 f5 f6 f7 f8 f9 fa fb
              (try simp only [List.setIfInBounds_toArray, List.set_cons_zero, List.set_cons_succ])
              refine wpAnyH_done (by rw [hops.out]; kernel_rfl) (hQn.out _ _ ?_) _
              clear hQn hQ hops hHeld e0 e1 e2 e3 e4 e5 e6 e7 e8 e9 e10 e11 e12 e13 e14 e15 e16 e17 e18 e19 e20 e21 e22 e23 e24 e25 e26 e27 e28 e29 e30 e31 e32 e33 e34
              generalize ((((((((((((v6.setCell ⟨v5.heap.size, 0, none⟩ (.int .i64 M.run.length)).setCell ⟨v5.heap.size, 1, none⟩ (.int .i64 M.wait.length)).setCell ⟨v5.heap.size, 2, none⟩ (.int .i64 M.falls.length)).setCell ⟨v5.heap.size, 3, none⟩ (.int .i64 M.calls.length)).setCell ⟨v5.heap.size, 4, none⟩ (.int .i64 M.br.st)).setCell ⟨v5.heap.size, 5, none⟩ (.int .u64 cn.a)).setCell ⟨v5.heap.size, 6, none⟩ (.int .u64 cn.b)).setCell ⟨v5.heap.size, 7, none⟩ (.int .u64 cn.c)).setCell ⟨v5.heap.size, 8, none⟩ (.int .u64 cn.d)).setCell ⟨v5.heap.size, 9, none⟩ (.int .u64 cn.e)).setCell ⟨v5.heap.size, 10, none⟩ (.int .u64 0)).setCell ⟨v5.heap.size, 11, none⟩ (.int .u64 0)) = wq at *
              have kd := HDq.out.cells.2.2.2.2.1
              have HP1 := Lib.hid (hisPct_spec HDq.out.took now hnow 50 (by decide) (by decide))
              go_wp2_with fail
              refine HP1.out.mono ?_
              rintro e wr ⟨bb, rfl, B4, F4⟩
              have HDr := HDq.out.setTook F4 B4
              have HFr := HFq.out.trans (F4.mono (S' := A.list) (by simp [DepA.list]))
              have HBr := F4.keep HBq.out (by simp; exact hyq.1)
              have HRr := F4.keep HRq.out (by simp; exact hyq.2.1)
              obtain ⟨c0, c1, c2, c3, c4, c5, c6, c7, c8, c9, ca, cb⟩ := cells12 HBr
              obtain ⟨f0, f1, f2, f3, f4, f5, f6, f7, f8, f9, fa, fb⟩ := free12 HBr
              have HBs := Lib.hid (block_setCell HBr 10 (.int .u64 ((M.took.to now).pct 50 : Nat)))
              have kz : Fr [v5.heap.size] wr (wr.setCell ⟨v5.heap.size, 10, none⟩ (.int .u64 ((M.took.to now).pct 50 : Nat))) := (Fr.refl _ _).setCell (.inl (by simp)) _
              have hks := snap_keep HDr HFr HLOW.out HBr hyq.2.2.2 kz
              have HDs := Lib.hid hks.1
              have HFs := Lib.hid hks.2
              have HRs := Lib.hid (kz.keep HRr (by simp; exact hyq.2.2.1))
              simp only [List.setIfInBounds_toArray, List.set_cons_zero, List.set_cons_succ] at HBs
              have kd2 := hks.1.cells.2.2.2.2.1
              have HP2 := Lib.hid (hisPct_spec hks.1.took now hnow 100 (by decide) (by decide))
              clear hks kz HBr HDr HFr HRr B4 F4 HP1 HBq HDq HFq HRq kd
              go_wp2_with fail
              generalize (wr.setCell ⟨v5.heap.size, 10, none⟩ (.int .u64 ((M.took.to now).pct 50 : Nat))) = ws at *
              clear c0 c1 c2 c3 c4 c5 c6 c7 c8 c9 ca cb f0 f1 f2 f3 f4 f5 f6 f7 f8 f9 fa fb
              refine HP2.out.mono ?_
              rintro e wt ⟨bb2, rfl, B5, F5⟩
              have HDt := HDs.out.setTook F5 B5
              have HFt := HFs.out.trans (F5.mono (S' := A.list) (by simp [DepA.list]))
              have HBt := F5.keep HBs.out (by simp; exact hyq.1)
              have HRt := F5.keep HRs.out (by simp; exact hyq.2.1)
              simp only [WinM.to_to] at HDt ⊢
              obtain ⟨c0, c1, c2, c3, c4, c5, c6, c7, c8, c9, ca, cb⟩ := cells12 HBt
              obtain ⟨f0, f1, f2, f3, f4, f5, f6, f7, f8, f9, fa, fb⟩ := free12 HBt
              have HBu := block_setCell HBt 11 (.int .u64 ((M.took.to now).pct 100 : Nat))
              have kz : Fr [v5.heap.size] wt (wt.setCell ⟨v5.heap.size, 11, none⟩ (.int .u64 ((M.took.to now).pct 100 : Nat))) := (Fr.refl _ _).setCell (.inl (by simp)) _
              have hku := snap_keep HDt HFt HLOW.out HBt hyq.2.2.2 kz
              have HRu := kz.keep HRt (by simp; exact hyq.2.2.1)
              simp only [List.setIfInBounds_toArray, List.set_cons_zero, List.set_cons_succ] at HBu
              have HDu := Lib.hid hku.1
              have HFu := Lib.hid hku.2
              have HRu2 := Lib.hid HRu
              have HBu2 := Lib.hid HBu
              clear hku kz HDt HFt HBt HRt B5 F5 HP2 HBs HDs HFs HRs kd2
              have hx11 := lt_of_block HBu
              obtain ⟨d0, d1, d2, d3, d4, d5, d6, d7, d8, d9, da, db⟩ := cells12 HBu
              obtain ⟨s0, s1, s2, s3, s4, s5, s6, s7, s8, s9, sa, sb⟩ := cells12 HRu
              obtain ⟨g0, g1, g2, g3, g4, g5, g6, g7, g8, g9, ga, gb⟩ := free12 HRu
              clear HBu HRu
              go_wp2_with fail
              refine bodyPost_ret (v := .agg #[.int .i64 M.run.length, .int .i64 M.wait.length, .int .i64 M.falls.length, .int .i64 M.calls.length, .int .i64 M.br.st, .int .u64 cn.a, .int .u64 cn.b, .int .u64 cn.c, .int .u64 cn.d, .int .u64 cn.e, .int .u64 ((M.took.to now).pct 50 : Nat), .int .u64 ((M.took.to now).pct 100 : Nat)]) (by simp [results, Tryz.results19, go_sem, s0, s1, s2, s3, s4, s5, s6, s7, s8, s9, sa, sb]) rfl ?_
              have hfin := snap_keep HDu.out HFu.out HLOW.out HRu2.out (Nat.le_refl _) (fr12 _ w.heap.size (.int .i64 M.run.length) (.int .i64 M.wait.length) (.int .i64 M.falls.length) (.int .i64 M.calls.length) (.int .i64 M.br.st) (.int .u64 cn.a) (.int .u64 cn.b) (.int .u64 cn.c) (.int .u64 cn.d) (.int .u64 cn.e) (.int .u64 ((M.took.to now).pct 50 : Nat)) (.int .u64 ((M.took.to now).pct 100 : Nat)))
              exact ⟨by unfold DepM.snapV; rw [HCN.out], hfin.1, hfin.2⟩
            exact AllReadyH.nil
          refine AllReadyH.cons e33 (fun K hK => ?_) ?_
          · have hz := HZ.out v2
            go_simp
            have hbn := block_alloc_new v2 (.cells #[.int .i64 0, .int .i64 0, .int .i64 0, .int .i64 0, .int .i64 0, .int .u64 0, .int .u64 0, .int .u64 0, .int .u64 0, .int .u64 0, .int .u64 0, .int .u64 0] 75)
            have HBn7 := Lib.hid hbn
            have HD7 := Lib.hid (HD2.out.fr0 ((Fr.refl [] v2).alloc (.cells #[.int .i64 0, .int .i64 0, .int .i64 0, .int .i64 0, .int .i64 0, .int .u64 0, .int .u64 0, .int .u64 0, .int .u64 0, .int .u64 0, .int .u64 0, .int .u64 0] 75)))
            have HF7 := Lib.hid (HF2.out.alloc (.cells #[.int .i64 0, .int .i64 0, .int .i64 0, .int .i64 0, .int .i64 0, .int .u64 0, .int .u64 0, .int .u64 0, .int .u64 0, .int .u64 0, .int .u64 0, .int .u64 0] 75))
            have HR7 := Lib.hid (block_alloc HR2.out (.cells #[.int .i64 0, .int .i64 0, .int .i64 0, .int .i64 0, .int .i64 0, .int .u64 0, .int .u64 0, .int .u64 0, .int .u64 0, .int .u64 0, .int .u64 0, .int .u64 0] 75))
            have hb7 : v2.heap.size < (v2.alloc (.cells #[.int .i64 0, .int .i64 0, .int .i64 0, .int .i64 0, .int .i64 0, .int .u64 0, .int .u64 0, .int .u64 0, .int .u64 0, .int .u64 0, .int .u64 0, .int .u64 0] 75)).heap.size := by simp
            refine hK.out _ _ ⟨_, HD7.out⟩ (fun hHeld => ?_)
            clear hK K hbn hz
            generalize (v2.alloc (.cells #[.int .i64 0, .int .i64 0, .int .i64 0, .int .i64 0, .int .i64 0, .int .u64 0, .int .u64 0, .int .u64 0, .int .u64 0, .int .u64 0, .int .u64 0, .int .u64 0] 75)) = v7 at *
            (try simp only [List.setIfInBounds_toArray, List.set_cons_zero, List.set_cons_succ])
            refine wpAnyH_ready (rs := [31]) (by rw [hops.out]; kernel_rfl) (by simp) ?_
            refine AllReadyH.cons e31 (fun K hK => ?_) ?_
            · have HC := Lib.hid (winCounts_spec HD7.out.win now hnow)
              go_simp
              refine HC.out.mono ?_
              rintro e v8 ⟨rfl, W9, F9⟩
              have HD8 := Lib.hid (HD7.out.setWin F9 W9)
              have HF8 := Lib.hid (HF7.out.trans (F9.mono (S' := A.list) (by simp [DepA.list])))
              have HR8 := Lib.hid (F9.keep HR7.out (by simp; omega))
              have hs8 := F9.size
              have HBn8 := Lib.hid (F9.keep HBn7.out (by simp; omega))
              have hcn : Hid ((M.win.to now).cn = (M.win.to now).cn) := Lib.hid rfl
              generalize hcn2 : (M.win.to now).cn = cn at *
              have HCN := Lib.hid hcn2
              clear hcn2 hcn
              unfold Cn.vals
              go_wp2_with fail
              refine hK.out _ _ ⟨_, HD8.out⟩ (fun hHeld => ?_)
              clear hK K HC F9 W9
              (try simp only [List.setIfInBounds_toArray, List.set_cons_zero, List.set_cons_succ])
              refine wpAnyH_take (i := 32) (v := .agg #[.int .i64 M.run.length, .int .i64 M.wait.length, .int .i64 M.falls.length, .int .i64 M.calls.length, .int .i64 M.br.st, .int .u64 cn.a, .int .u64 cn.b, .int .u64 cn.c, .int .u64 cn.d, .int .u64 cn.e, .int .u64 0, .int .u64 0]) e32 (by rw [hops.out]; kernel_rfl) (by rw [hops.out]; kernel_rfl) (by rw [hops.out]; kernel_rfl) (fun c a w h => hQ c a _ _ w h) (yieldsIf_build rfl _ _ rfl _ (by simp only [List.map_toArray, List.map_cons, List.map_nil]; rfl) _ (fun w' _ => HBZ.out w' cn)) hHeld ?_
              (try simp only [Act.put, List.setIfInBounds_toArray, List.set_cons_zero, List.set_cons_succ])
              refine wpAnyH_ready (rs := [34]) (by rw [hops.out]; kernel_rfl) (by simp) ?_
              refine AllReadyH.cons e34 (fun K hK => ?_) AllReadyH.nil
              have hyq : v2.heap.size ≠ A.hi ∧ w.heap.size ≠ A.hi ∧ w.heap.size ≠ v2.heap.size ∧ w.heap.size ≤ v2.heap.size := by omega
              have HBq := Lib.hid (block12 HBn8.out (.int .i64 M.run.length) (.int .i64 M.wait.length) (.int .i64 M.falls.length) (.int .i64 M.calls.length) (.int .i64 M.br.st) (.int .u64 cn.a) (.int .u64 cn.b) (.int .u64 cn.c) (.int .u64 cn.d) (.int .u64 cn.e) (.int .u64 0) (.int .u64 0))
              have hkq := snap_keep HD8.out HF8.out HLOW.out HBn8.out hyq.2.2.2 (fr12 v8 (v2.heap.size) (.int .i64 M.run.length) (.int .i64 M.wait.length) (.int .i64 M.falls.length) (.int .i64 M.calls.length) (.int .i64 M.br.st) (.int .u64 cn.a) (.int .u64 cn.b) (.int .u64 cn.c) (.int .u64 cn.d) (.int .u64 cn.e) (.int .u64 0) (.int .u64 0))
              have HDq := Lib.hid hkq.1
              have HFq := Lib.hid hkq.2
              have HRq := Lib.hid ((fr12 v8 (v2.heap.size) (.int .i64 M.run.length) (.int .i64 M.wait.length) (.int .i64 M.falls.length) (.int .i64 M.calls.length) (.int .i64 M.br.st) (.int .u64 cn.a) (.int .u64 cn.b) (.int .u64 cn.c) (.int .u64 cn.d) (.int .u64 cn.e) (.int .u64 0) (.int .u64 0)).keep HR8.out (by simp; exact hyq.2.2.1))
              have hSq : SnapS A M ((((((((((((v8.setCell ⟨v2.heap.size, 0, none⟩ (.int .i64 M.run.length)).setCell ⟨v2.heap.size, 1, none⟩ (.int .i64 M.wait.length)).setCell ⟨v2.heap.size, 2, none⟩ (.int .i64 M.falls.length)).setCell ⟨v2.heap.size, 3, none⟩ (.int .i64 M.calls.length)).setCell ⟨v2.heap.size, 4, none⟩ (.int .i64 M.br.st)).setCell ⟨v2.heap.size, 5, none⟩ (.int .u64 cn.a)).setCell ⟨v2.heap.size, 6, none⟩ (.int .u64 cn.b)).setCell ⟨v2.heap.size, 7, none⟩ (.int .u64 cn.c)).setCell ⟨v2.heap.size, 8, none⟩ (.int .u64 cn.d)).setCell ⟨v2.heap.size, 9, none⟩ (.int .u64 cn.e)).setCell ⟨v2.heap.size, 10, none⟩ (.int .u64 0)).setCell ⟨v2.heap.size, 11, none⟩ (.int .u64 0)) := ⟨_, hkq.1⟩
              clear hkq
              obtain ⟨c0, c1, c2, c3, c4, c5, c6, c7, c8, c9, ca, cb⟩ := cells12 HBn8.out
              obtain ⟨f0, f1, f2, f3, f4, f5, f6, f7, f8, f9, fa, fb⟩ := free12 HBn8.out
              go_simp
              refine hK.out _ _ hSq (fun hHeld => ?_)
              clear hK K hSq c0 c1 c2 c3 c4 c5 c6 c7 c8 c9 ca cb f0 f1 f2 f3 f4 f5 f6 f7 f8 f9 fa fb
              (try simp only [List.setIfInBounds_toArray, List.set_cons_zero, List.set_cons_succ])
              refine wpAnyH_done (by rw [hops.out]; kernel_rfl) (hQn.out _ _ ?_) _
              clear hQn hQ hops hHeld e0 e1 e2 e3 e4 e5 e6 e7 e8 e9 e10 e11 e12 e13 e14 e15 e16 e17 e18 e19 e20 e21 e22 e23 e24 e25 e26 e27 e28 e29 e30 e31 e32 e33 e34
              generalize ((((((((((((v8.setCell ⟨v2.heap.size, 0, none⟩ (.int .i64 M.run.length)).setCell ⟨v2.heap.size, 1, none⟩ (.int .i64 M.wait.length)).setCell ⟨v2.heap.size, 2, none⟩ (.int .i64 M.falls.length)).setCell ⟨v2.heap.size, 3, none⟩ (.int .i64 M.calls.length)).setCell ⟨v2.heap.size, 4, none⟩ (.int .i64 M.br.st)).setCell ⟨v2.heap.size, 5, none⟩ (.int .u64 cn.a)).setCell ⟨v2.heap.size, 6, none⟩ (.int .u64 cn.b)).setCell ⟨v2.heap.size, 7, none⟩ (.int .u64 cn.c)).setCell ⟨v2.heap.size, 8, none⟩ (.int .u64 cn.d)).setCell ⟨v2.heap.size, 9, none⟩ (.int .u64 cn.e)).setCell ⟨v2.heap.size, 10, none⟩ (.int .u64 0)).setCell ⟨v2.heap.size, 11, none⟩ (.int .u64 0)) = wq at *
              have kd := HDq.out.cells.2.2.2.2.1
              have HP1 := Lib.hid (hisPct_spec HDq.out.took now hnow 50 (by decide) (by decide))
              go_wp2_with fail
              refine HP1.out.mono ?_
              rintro e wr ⟨bb, rfl, B4, F4⟩
              have HDr := HDq.out.setTook F4 B4
              have HFr := HFq.out.trans (F4.mono (S' := A.list) (by simp [DepA.list]))
              have HBr := F4.keep HBq.out (by simp; exact hyq.1)
              have HRr := F4.keep HRq.out (by simp; exact hyq.2.1)
              obtain ⟨c0, c1, c2, c3, c4, c5, c6, c7, c8, c9, ca, cb⟩ := cells12 HBr
              obtain ⟨f0, f1, f2, f3, f4, f5, f6, f7, f8, f9, fa, fb⟩ := free12 HBr
              have HBs := Lib.hid (block_setCell HBr 10 (.int .u64 ((M.took.to now).pct 50 : Nat)))
              have kz : Fr [v2.heap.size] wr (wr.setCell ⟨v2.heap.size, 10, none⟩ (.int .u64 ((M.took.to now).pct 50 : Nat))) := (Fr.refl _ _).setCell (.inl (by simp)) _
              have hks := snap_keep HDr HFr HLOW.out HBr hyq.2.2.2 kz
              have HDs := Lib.hid hks.1
              have HFs := Lib.hid hks.2
              have HRs := Lib.hid (kz.keep HRr (by simp; exact hyq.2.2.1))
              simp only [List.setIfInBounds_toArray, List.set_cons_zero, List.set_cons_succ] at HBs
              have kd2 := hks.1.cells.2.2.2.2.1
              have HP2 := Lib.hid (hisPct_spec hks.1.took now hnow 100 (by decide) (by decide))
              clear hks kz HBr HDr HFr HRr B4 F4 HP1 HBq HDq HFq HRq kd
              go_wp2_with fail
              generalize (wr.setCell ⟨v2.heap.size, 10, none⟩ (.int .u64 ((M.took.to now).pct 50 : Nat))) = ws at *
              clear c0 c1 c2 c3 c4 c5 c6 c7 c8 c9 ca cb f0 f1 f2 f3 f4 f5 f6 f7 f8 f9 fa fb
              refine HP2.out.mono ?_
              rintro e wt ⟨bb2, rfl, B5, F5⟩
              have HDt := HDs.out.setTook F5 B5
              have HFt := HFs.out.trans (F5.mono (S' := A.list) (by simp [DepA.list]))
              have HBt := F5.keep HBs.out (by simp; exact hyq.1)
              have HRt := F5.keep HRs.out (by simp; exact hyq.2.1)
              simp only [WinM.to_to] at HDt ⊢
              obtain ⟨c0, c1, c2, c3, c4, c5, c6, c7, c8, c9, ca, cb⟩ := cells12 HBt
              obtain ⟨f0, f1, f2, f3, f4, f5, f6, f7, f8, f9, fa, fb⟩ := free12 HBt
              have HBu := block_setCell HBt 11 (.int .u64 ((M.took.to now).pct 100 : Nat))
              have kz : Fr [v2.heap.size] wt (wt.setCell ⟨v2.heap.size, 11, none⟩ (.int .u64 ((M.took.to now).pct 100 : Nat))) := (Fr.refl _ _).setCell (.inl (by simp)) _
              have hku := snap_keep HDt HFt HLOW.out HBt hyq.2.2.2 kz
              have HRu := kz.keep HRt (by simp; exact hyq.2.2.1)
              simp only [List.setIfInBounds_toArray, List.set_cons_zero, List.set_cons_succ] at HBu
              have HDu := Lib.hid hku.1
              have HFu := Lib.hid hku.2
              have HRu2 := Lib.hid HRu
              have HBu2 := Lib.hid HBu
              clear hku kz HDt HFt HBt HRt B5 F5 HP2 HBs HDs HFs HRs kd2
              have hx11 := lt_of_block HBu
              obtain ⟨d0, d1, d2, d3, d4, d5, d6, d7, d8, d9, da, db⟩ := cells12 HBu
              obtain ⟨s0, s1, s2, s3, s4, s5, s6, s7, s8, s9, sa, sb⟩ := cells12 HRu
              obtain ⟨g0, g1, g2, g3, g4, g5, g6, g7, g8, g9, ga, gb⟩ := free12 HRu
              clear HBu HRu
              go_wp2_with fail
              refine bodyPost_ret (v := .agg #[.int .i64 M.run.length, .int .i64 M.wait.length, .int .i64 M.falls.length, .int .i64 M.calls.length, .int .i64 M.br.st, .int .u64 cn.a, .int .u64 cn.b, .int .u64 cn.c, .int .u64 cn.d, .int .u64 cn.e, .int .u64 ((M.took.to now).pct 50 : Nat), .int .u64 ((M.took.to now).pct 100 : Nat)]) (by simp [results, Tryz.results19, go_sem, s0, s1, s2, s3, s4, s5, s6, s7, s8, s9, sa, sb]) rfl ?_
              have hfin := snap_keep HDu.out HFu.out HLOW.out HRu2.out (Nat.le_refl _) (fr12 _ w.heap.size (.int .i64 M.run.length) (.int .i64 M.wait.length) (.int .i64 M.falls.length) (.int .i64 M.calls.length) (.int .i64 M.br.st) (.int .u64 cn.a) (.int .u64 cn.b) (.int .u64 cn.c) (.int .u64 cn.d) (.int .u64 cn.e) (.int .u64 ((M.took.to now).pct 50 : Nat)) (.int .u64 ((M.took.to now).pct 100 : Nat)))
              exact ⟨by unfold DepM.snapV; rw [HCN.out], hfin.1, hfin.2⟩
            exact AllReadyH.nil
          exact AllReadyH.nil
        refine AllReadyH.cons e33 (fun K hK => ?_) ?_
        · have hz := HZ.out v2
          go_simp
          have hbn := block_alloc_new v2 (.cells #[.int .i64 0, .int .i64 0, .int .i64 0, .int .i64 0, .int .i64 0, .int .u64 0, .int .u64 0, .int .u64 0, .int .u64 0, .int .u64 0, .int .u64 0, .int .u64 0] 75)
          have HBn9 := Lib.hid hbn
          have HD9 := Lib.hid (HD2.out.fr0 ((Fr.refl [] v2).alloc (.cells #[.int .i64 0, .int .i64 0, .int .i64 0, .int .i64 0, .int .i64 0, .int .u64 0, .int .u64 0, .int .u64 0, .int .u64 0, .int .u64 0, .int .u64 0, .int .u64 0] 75)))
          have HF9 := Lib.hid (HF2.out.alloc (.cells #[.int .i64 0, .int .i64 0, .int .i64 0, .int .i64 0, .int .i64 0, .int .u64 0, .int .u64 0, .int .u64 0, .int .u64 0, .int .u64 0, .int .u64 0, .int .u64 0] 75))
          have HR9 := Lib.hid (block_alloc HR2.out (.cells #[.int .i64 0, .int .i64 0, .int .i64 0, .int .i64 0, .int .i64 0, .int .u64 0, .int .u64 0, .int .u64 0, .int .u64 0, .int .u64 0, .int .u64 0, .int .u64 0] 75))
          have hb9 : v2.heap.size < (v2.alloc (.cells #[.int .i64 0, .int .i64 0, .int .i64 0, .int .i64 0, .int .i64 0, .int .u64 0, .int .u64 0, .int .u64 0, .int .u64 0, .int .u64 0, .int .u64 0, .int .u64 0] 75)).heap.size := by simp
          refine hK.out _ _ ⟨_, HD9.out⟩ (fun hHeld => ?_)
          clear hK K hbn hz
          generalize (v2.alloc (.cells #[.int .i64 0, .int .i64 0, .int .i64 0, .int .i64 0, .int .i64 0, .int .u64 0, .int .u64 0, .int .u64 0, .int .u64 0, .int .u64 0, .int .u64 0, .int .u64 0] 75)) = v9 at *
          (try simp only [List.setIfInBounds_toArray, List.set_cons_zero, List.set_cons_succ])
          refine wpAnyH_ready (rs := [25]) (by rw [hops.out]; kernel_rfl) (by simp) ?_
          refine AllReadyH.cons e25 (fun K hK => ?_) ?_
          · have HC := Lib.hid (HD9.out.brk.state)
            go_simp
            refine HC.out.mono ?_
            rintro e v10 ⟨rfl, hv⟩
            obtain rfl : v9 = v10 := hv.symm
            clear hv
            go_wp2_with fail
            refine hK.out _ _ hHeld (fun hHeld => ?_)
            clear hK K HC
            (try simp only [List.setIfInBounds_toArray, List.set_cons_zero, List.set_cons_succ])
            refine wpAnyH_ready (rs := [31]) (by rw [hops.out]; kernel_rfl) (by simp) ?_
            refine AllReadyH.cons e31 (fun K hK => ?_) ?_
            · have HC := Lib.hid (winCounts_spec HD9.out.win now hnow)
              go_simp
              refine HC.out.mono ?_
              rintro e v11 ⟨rfl, W9, F9⟩
              have HD11 := Lib.hid (HD9.out.setWin F9 W9)
              have HF11 := Lib.hid (HF9.out.trans (F9.mono (S' := A.list) (by simp [DepA.list])))
              have HR11 := Lib.hid (F9.keep HR9.out (by simp; omega))
              have hs11 := F9.size
              have HBn11 := Lib.hid (F9.keep HBn9.out (by simp; omega))
              have hcn : Hid ((M.win.to now).cn = (M.win.to now).cn) := Lib.hid rfl
              generalize hcn2 : (M.win.to now).cn = cn at *
              have HCN := Lib.hid hcn2
              clear hcn2 hcn
              unfold Cn.vals
              go_wp2_with fail
              refine hK.out _ _ ⟨_, HD11.out⟩ (fun hHeld => ?_)
              clear hK K HC F9 W9
              (try simp only [List.setIfInBounds_toArray, List.set_cons_zero, List.set_cons_succ])
              refine wpAnyH_take (i := 32) (v := .agg #[.int .i64 M.run.length, .int .i64 M.wait.length, .int .i64 M.falls.length, .int .i64 M.calls.length, .int .i64 M.br.st, .int .u64 cn.a, .int .u64 cn.b, .int .u64 cn.c, .int .u64 cn.d, .int .u64 cn.e, .int .u64 0, .int .u64 0]) e32 (by rw [hops.out]; kernel_rfl) (by rw [hops.out]; kernel_rfl) (by rw [hops.out]; kernel_rfl) (fun c a w h => hQ c a _ _ w h) (yieldsIf_build rfl _ _ rfl _ (by simp only [List.map_toArray, List.map_cons, List.map_nil]; rfl) _ (fun w' _ => HBZ.out w' cn)) hHeld ?_
              (try simp only [Act.put, List.setIfInBounds_toArray, List.set_cons_zero, List.set_cons_succ])
              refine wpAnyH_ready (rs := [34]) (by rw [hops.out]; kernel_rfl) (by simp) ?_
              refine AllReadyH.cons e34 (fun K hK => ?_) AllReadyH.nil
              have hyq : v2.heap.size ≠ A.hi ∧ w.heap.size ≠ A.hi ∧ w.heap.size ≠ v2.heap.size ∧ w.heap.size ≤ v2.heap.size := by omega
              have HBq := Lib.hid (block12 HBn11.out (.int .i64 M.run.length) (.int .i64 M.wait.length) (.int .i64 M.falls.length) (.int .i64 M.calls.length) (.int .i64 M.br.st) (.int .u64 cn.a) (.int .u64 cn.b) (.int .u64 cn.c) (.int .u64 cn.d) (.int .u64 cn.e) (.int .u64 0) (.int .u64 0))
              have hkq := snap_keep HD11.out HF11.out HLOW.out HBn11.out hyq.2.2.2 (fr12 v11 (v2.heap.size) (.int .i64 M.run.length) (.int .i64 M.wait.length) (.int .i64 M.falls.length) (.int .i64 M.calls.length) (.int .i64 M.br.st) (.int .u64 cn.a) (.int .u64 cn.b) (.int .u64 cn.c) (.int .u64 cn.d) (.int .u64 cn.e) (.int .u64 0) (.int .u64 0))
              have HDq := Lib.hid hkq.1
              have HFq := Lib.hid hkq.2
              have HRq := Lib.hid ((fr12 v11 (v2.heap.size) (.int .i64 M.run.length) (.int .i64 M.wait.length) (.int .i64 M.falls.length) (.int .i64 M.calls.length) (.int .i64 M.br.st) (.int .u64 cn.a) (.int .u64 cn.b) (.int .u64 cn.c) (.int .u64 cn.d) (.int .u64 cn.e) (.int .u64 0) (.int .u64 0)).keep HR11.out (by simp; exact hyq.2.2.1))
              have hSq : SnapS A M ((((((((((((v11.setCell ⟨v2.heap.size, 0, none⟩ (.int .i64 M.run.length)).setCell ⟨v2.heap.size, 1, none⟩ (.int .i64 M.wait.length)).setCell ⟨v2.heap.size, 2, none⟩ (.int .i64 M.falls.length)).setCell ⟨v2.heap.size, 3, none⟩ (.int .i64 M.calls.length)).setCell ⟨v2.heap.size, 4, none⟩ (.int .i64 M.br.st)).setCell ⟨v2.heap.size, 5, none⟩ (.int .u64 cn.a)).setCell ⟨v2.heap.size, 6, none⟩ (.int .u64 cn.b)).setCell ⟨v2.heap.size, 7, none⟩ (.int .u64 cn.c)).setCell ⟨v2.heap.size, 8, none⟩ (.int .u64 cn.d)).setCell ⟨v2.heap.size, 9, none⟩ (.int .u64 cn.e)).setCell ⟨v2.heap.size, 10, none⟩ (.int .u64 0)).setCell ⟨v2.heap.size, 11, none⟩ (.int .u64 0)) := ⟨_, hkq.1⟩
              clear hkq
              obtain ⟨c0, c1, c2, c3, c4, c5, c6, c7, c8, c9, ca, cb⟩ := cells12 HBn11.out
              obtain ⟨f0, f1, f2, f3, f4, f5, f6, f7, f8, f9, fa, fb⟩ := free12 HBn11.out
              go_simp
              refine hK.out _ _ hSq (fun hHeld => ?_)
              clear hK K hSq c0 c1 c2 c3 c4 c5 c6 c7 c8 c9 ca cb f0 f1 f2 f3 f4 f5 f6 f7 f8 f9 fa fb
              (try simp only [List.setIfInBounds_toArray, List.set_cons_zero, List.set_cons_succ])
              refine wpAnyH_done (by rw [hops.out]; kernel_rfl) (hQn.out _ _ ?_) _
              clear hQn hQ hops hHeld e0 e1 e2 e3 e4 e5 e6 e7 e8 e9 e10 e11 e12 e13 e14 e15 e16 e17 e18 e19 e20 e21 e22 e23 e24 e25 e26 e27 e28 e29 e30 e31 e32 e33 e34
              generalize ((((((((((((v11.setCell ⟨v2.heap.size, 0, none⟩ (.int .i64 M.run.length)).setCell ⟨v2.heap.size, 1, none⟩ (.int .i64 M.wait.length)).setCell ⟨v2.heap.size, 2, none⟩ (.int .i64 M.falls.length)).setCell ⟨v2.heap.size, 3, none⟩ (.int .i64 M.calls.length)).setCell ⟨v2.heap.size, 4, none⟩ (.int .i64 M.br.st)).setCell ⟨v2.heap.size, 5, none⟩ (.int .u64 cn.a)).setCell ⟨v2.heap.size, 6, none⟩ (.int .u64 cn.b)).setCell ⟨v2.heap.size, 7, none⟩ (.int .u64 cn.c)).setCell ⟨v2.heap.size, 8, none⟩ (.int .u64 cn.d)).setCell ⟨v2.heap.size, 9, none⟩ (.int .u64 cn.e)).setCell ⟨v2.heap.size, 10, none⟩ (.int .u64 0)).setCell ⟨v2.heap.size, 11, none⟩ (.int .u64 0)) = wq at *
              have kd := HDq.out.cells.2.2.2.2.1
              have HP1 := Lib.hid (hisPct_spec HDq.out.took now hnow 50 (by decide) (by decide))
              go_wp2_with fail
              refine HP1.out.mono ?_
              rintro e wr ⟨bb, rfl, B4, F4⟩
              have HDr := HDq.out.setTook F4 B4
              have HFr := HFq.out.trans (F4.mono (S' := A.list) (by simp [DepA.list]))
              have HBr := F4.keep HBq.out (by simp; exact hyq.1)
              have HRr := F4.keep HRq.out (by simp; exact hyq.2.1)
              obtain ⟨c0, c1, c2, c3, c4, c5, c6, c7, c8, c9, ca, cb⟩ := cells12 HBr
              obtain ⟨f0, f1, f2, f3, f4, f5, f6, f7, f8, f9, fa, fb⟩ := free12 HBr
              have HBs := Lib.hid (block_setCell HBr 10 (.int .u64 ((M.took.to now).pct 50 : Nat)))
              have kz : Fr [v2.heap.size] wr (wr.setCell ⟨v2.heap.size, 10, none⟩ (.int .u64 ((M.took.to now).pct 50 : Nat))) := (Fr.refl _ _).setCell (.inl (by simp)) _
              have hks := snap_keep HDr HFr HLOW.out HBr hyq.2.2.2 kz
              have HDs := Lib.hid hks.1
              have HFs := Lib.hid hks.2
              have HRs := Lib.hid (kz.keep HRr (by simp; exact hyq.2.2.1))
              simp only [List.setIfInBounds_toArray, List.set_cons_zero, List.set_cons_succ] at HBs
              have kd2 := hks.1.cells.2.2.2.2.1
              have HP2 := Lib.hid (hisPct_spec hks.1.took now hnow 100 (by decide) (by decide))
              clear hks kz HBr HDr HFr HRr B4 F4 HP1 HBq HDq HFq HRq kd
              go_wp2_with fail
              generalize (wr.setCell ⟨v2.heap.size, 10, none⟩ (.int .u64 ((M.took.to now).pct 50 : Nat))) = ws at *
              clear c0 c1 c2 c3 c4 c5 c6 c7 c8 c9 ca cb f0 f1 f2 f3 f4 f5 f6 f7 f8 f9 fa fb
              refine HP2.out.mono ?_
              rintro e wt ⟨bb2, rfl, B5, F5⟩
              have HDt := HDs.out.setTook F5 B5
              have HFt := HFs.out.trans (F5.mono (S' := A.list) (by simp [DepA.list]))
              have HBt := F5.keep HBs.out (by simp; exact hyq.1)
              have HRt := F5.keep HRs.out (by simp; exact hyq.2.1)
              simp only [WinM.to_to] at HDt ⊢
              obtain ⟨c0, c1, c2, c3, c4, c5, c6, c7, c8, c9, ca, cb⟩ := cells12 HBt
              obtain ⟨f0, f1, f2, f3, f4, f5, f6, f7, f8, f9, fa, fb⟩ := free12 HBt
              have HBu := block_setCell HBt 11 (.int .u64 ((M.took.to now).pct 100 : Nat))
              have kz : Fr [v2.heap.size] wt (wt.setCell ⟨v2.heap.size, 11, none⟩ (.int .u64 ((M.took.to now).pct 100 : Nat))) := (Fr.refl _ _).setCell (.inl (by simp)) _
              have hku := snap_keep HDt HFt HLOW.out HBt hyq.2.2.2 kz
              have HRu := kz.keep HRt (by simp; exact hyq.2.2.1)
              simp only [List.setIfInBounds_toArray, List.set_cons_zero, List.set_cons_succ] at HBu
              have HDu := Lib.hid hku.1
              have HFu := Lib.hid hku.2
              have HRu2 := Lib.hid HRu
              have HBu2 := Lib.hid HBu
              clear hku kz HDt HFt HBt HRt B5 F5 HP2 HBs HDs HFs HRs kd2
              have hx11 := lt_of_block HBu
              obtain ⟨d0, d1, d2, d3, d4, d5, d6, d7, d8, d9, da, db⟩ := cells12 HBu
              obtain ⟨s0, s1, s2, s3, s4, s5, s6, s7, s8, s9, sa, sb⟩ := cells12 HRu
              obtain ⟨g0, g1, g2, g3, g4, g5, g6, g7, g8, g9, ga, gb⟩ := free12 HRu
              clear HBu HRu
              go_wp2_with fail
              refine bodyPost_ret (v := .agg #[.int .i64 M.run.length, .int .i64 M.wait.length, .int .i64 M.falls.length, .int .i64 M.calls.length, .int .i64 M.br.st, .int .u64 cn.a, .int .u64 cn.b, .int .u64 cn.c, .int .u64 cn.d, .int .u64 cn.e, .int .u64 ((M.took.to now).pct 50 : Nat), .int .u64 ((M.took.to now).pct 100 : Nat)]) (by simp [results, Tryz.results19, go_sem, s0, s1, s2, s3, s4, s5, s6, s7, s8, s9, sa, sb]) rfl ?_
              have hfin := snap_keep HDu.out HFu.out HLOW.out HRu2.out (Nat.le_refl _) (fr12 _ w.heap.size (.int .i64 M.run.length) (.int .i64 M.wait.length) (.int .i64 M.falls.length) (.int .i64 M.calls.length) (.int .i64 M.br.st) (.int .u64 cn.a) (.int .u64 cn.b) (.int .u64 cn.c) (.int .u64 cn.d) (.int .u64 cn.e) (.int .u64 ((M.took.to now).pct 50 : Nat)) (.int .u64 ((M.took.to now).pct 100 : Nat)))
              exact ⟨by unfold DepM.snapV; rw [HCN.out], hfin.1, hfin.2⟩
            exact AllReadyH.nil
          exact AllReadyH.nil
        exact AllReadyH.nil
      refine AllReadyH.cons e33 (fun K hK => ?_) ?_
      · have hz := HZ.out v2
        go_simp
        have hbn := block_alloc_new v2 (.cells #[.int .i64 0, .int .i64 0, .int .i64 0, .int .i64 0, .int .i64 0, .int .u64 0, .int .u64 0, .int .u64 0, .int .u64 0, .int .u64 0, .int .u64 0, .int .u64 0] 75)
        have HBn12 := Lib.hid hbn
        have HD12 := Lib.hid (HD2.out.fr0 ((Fr.refl [] v2).alloc (.cells #[.int .i64 0, .int .i64 0, .int .i64 0, .int .i64 0, .int .i64 0, .int .u64 0, .int .u64 0, .int .u64 0, .int .u64 0, .int .u64 0, .int .u64 0, .int .u64 0] 75)))
        have HF12 := Lib.hid (HF2.out.alloc (.cells #[.int .i64 0, .int .i64 0, .int .i64 0, .int .i64 0, .int .i64 0, .int .u64 0, .int .u64 0, .int .u64 0, .int .u64 0, .int .u64 0, .int .u64 0, .int .u64 0] 75))
        have HR12 := Lib.hid (block_alloc HR2.out (.cells #[.int .i64 0, .int .i64 0, .int .i64 0, .int .i64 0, .int .i64 0, .int .u64 0, .int .u64 0, .int .u64 0, .int .u64 0, .int .u64 0, .int .u64 0, .int .u64 0] 75))
        have hb12 : v2.heap.size < (v2.alloc (.cells #[.int .i64 0, .int .i64 0, .int .i64 0, .int .i64 0, .int .i64 0, .int .u64 0, .int .u64 0, .int .u64 0, .int .u64 0, .int .u64 0, .int .u64 0, .int .u64 0] 75)).heap.size := by simp
        refine hK.out _ _ ⟨_, HD12.out⟩ (fun hHeld => ?_)
        clear hK K hbn hz
        generalize (v2.alloc (.cells #[.int .i64 0, .int .i64 0, .int .i64 0, .int .i64 0, .int .i64 0, .int .u64 0, .int .u64 0, .int .u64 0, .int .u64 0, .int .u64 0, .int .u64 0, .int .u64 0] 75)) = v12 at *
        (try simp only [List.setIfInBounds_toArray, List.set_cons_zero, List.set_cons_succ])
        refine wpAnyH_ready (rs := [15]) (by rw [hops.out]; kernel_rfl) (by simp) ?_
        refine AllReadyH.cons e15 (fun K hK => ?_) ?_
        · have HC := Lib.hid (HD12.out.falls.used)
          go_simp
          refine HC.out.mono ?_
          rintro e v13 ⟨rfl, hv⟩
          obtain rfl : v12 = v13 := hv.symm
          clear hv
          go_wp2_with fail
          refine hK.out _ _ hHeld (fun hHeld => ?_)
          clear hK K HC
          (try simp only [List.setIfInBounds_toArray, List.set_cons_zero, List.set_cons_succ])
          refine wpAnyH_take (i := 20) (v := .int .i64 M.calls.length) e20 (by rw [hops.out]; kernel_rfl) (by rw [hops.out]; kernel_rfl) (by rw [hops.out]; kernel_rfl) (fun c a w h => hQ c a _ _ w h) (Or.inl ⟨rfl, fun w' hS => by have q := hS.len; go_simp⟩) hHeld ?_
          (try simp only [Act.put, List.setIfInBounds_toArray, List.set_cons_zero, List.set_cons_succ])
          refine wpAnyH_ready (rs := [25]) (by rw [hops.out]; kernel_rfl) (by simp) ?_
          refine AllReadyH.cons e25 (fun K hK => ?_) ?_
          · have HC := Lib.hid (HD12.out.brk.state)
            go_simp
            refine HC.out.mono ?_
            rintro e v14 ⟨rfl, hv⟩
            obtain rfl : v12 = v14 := hv.symm
            clear hv
            go_wp2_with fail
            refine hK.out _ _ hHeld (fun hHeld => ?_)
            clear hK K HC
            (try simp only [List.setIfInBounds_toArray, List.set_cons_zero, List.set_cons_succ])
            refine wpAnyH_ready (rs := [31]) (by rw [hops.out]; kernel_rfl) (by simp) ?_
            refine AllReadyH.cons e31 (fun K hK => ?_) ?_
            · have HC := Lib.hid (winCounts_spec HD12.out.win now hnow)
              go_simp
              refine HC.out.mono ?_
              rintro e v15 ⟨rfl, W9, F9⟩
              have HD15 := Lib.hid (HD12.out.setWin F9 W9)
              have HF15 := Lib.hid (HF12.out.trans (F9.mono (S' := A.list) (by simp [DepA.list])))
              have HR15 := Lib.hid (F9.keep HR12.out (by simp; omega))
              have hs15 := F9.size
              have HBn15 := Lib.hid (F9.keep HBn12.out (by simp; omega))
              have hcn : Hid ((M.win.to now).cn = (M.win.to now).cn) := Lib.hid rfl
              generalize hcn2 : (M.win.to now).cn = cn at *
              have HCN := Lib.hid hcn2
              clear hcn2 hcn
              unfold Cn.vals
              go_wp2_with fail
              refine hK.out _ _ ⟨_, HD15.out⟩ (fun hHeld => ?_)
              clear hK K HC F9 W9
              (try simp only [List.setIfInBounds_toArray, List.set_cons_zero, List.set_cons_succ])
              refine wpAnyH_take (i := 32) (v := .agg #[.int .i64 M.run.length, .int .i64 M.wait.length, .int .i64 M.falls.length, .int .i64 M.calls.length, .int .i64 M.br.st, .int .u64 cn.a, .int .u64 cn.b, .int .u64 cn.c, .int .u64 cn.d, .int .u64 cn.e, .int .u64 0, .int .u64 0]) e32 (by rw [hops.out]; kernel_rfl) (by rw [hops.out]; kernel_rfl) (by rw [hops.out]; kernel_rfl) (fun c a w h => hQ c a _ _ w h) (yieldsIf_build rfl _ _ rfl _ (by simp only [List.map_toArray, List.map_cons, List.map_nil]; rfl) _ (fun w' _ => HBZ.out w' cn)) hHeld ?_
              (try simp only [Act.put, List.setIfInBounds_toArray, List.set_cons_zero, List.set_cons_succ])
              refine wpAnyH_ready (rs := [34]) (by rw [hops.out]; kernel_rfl) (by simp) ?_
              refine AllReadyH.cons e34 (fun K hK => ?_) AllReadyH.nil
              have hyq : v2.heap.size ≠ A.hi ∧ w.heap.size ≠ A.hi ∧ w.heap.size ≠ v2.heap.size ∧ w.heap.size ≤ v2.heap.size := by omega
              have HBq := Lib.hid (block12 HBn15.out (.int .i64 M.run.length) (.int .i64 M.wait.length) (.int .i64 M.falls.length) (.int .i64 M.calls.length) (.int .i64 M.br.st) (.int .u64 cn.a) (.int .u64 cn.b) (.int .u64 cn.c) (.int .u64 cn.d) (.int .u64 cn.e) (.int .u64 0) (.int .u64 0))
              have hkq := snap_keep HD15.out HF15.out HLOW.out HBn15.out hyq.2.2.2 (fr12 v15 (v2.heap.size) (.int .i64 M.run.length) (.int .i64 M.wait.length) (.int .i64 M.falls.length) (.int .i64 M.calls.length) (.int .i64 M.br.st) (.int .u64 cn.a) (.int .u64 cn.b) (.int .u64 cn.c) (.int .u64 cn.d) (.int .u64 cn.e) (.int .u64 0) (.int .u64 0))
              have HDq := Lib.hid hkq.1
              have HFq := Lib.hid hkq.2
              have HRq := Lib.hid ((fr12 v15 (v2.heap.size) (.int .i64 M.run.length) (.int .i64 M.wait.length) (.int .i64 M.falls.length) (.int .i64 M.calls.length) (.int .i64 M.br.st) (.int .u64 cn.a) (.int .u64 cn.b) (.int .u64 cn.c) (.int .u64 cn.d) (.int .u64 cn.e) (.int .u64 0) (.int .u64 0)).keep HR15.out (by simp; exact hyq.2.2.1))
              have hSq : SnapS A M ((((((((((((v15.setCell ⟨v2.heap.size, 0, none⟩ (.int .i64 M.run.length)).setCell ⟨v2.heap.size, 1, none⟩ (.int .i64 M.wait.length)).setCell ⟨v2.heap.size, 2, none⟩ (.int .i64 M.falls.length)).setCell ⟨v2.heap.size, 3, none⟩ (.int .i64 M.calls.length)).setCell ⟨v2.heap.size, 4, none⟩ (.int .i64 M.br.st)).setCell ⟨v2.heap.size, 5, none⟩ (.int .u64 cn.a)).setCell ⟨v2.heap.size, 6, none⟩ (.int .u64 cn.b)).setCell ⟨v2.heap.size, 7, none⟩ (.int .u64 cn.c)).setCell ⟨v2.heap.size, 8, none⟩ (.int .u64 cn.d)).setCell ⟨v2.heap.size, 9, none⟩ (.int .u64 cn.e)).setCell ⟨v2.heap.size, 10, none⟩ (.int .u64 0)).setCell ⟨v2.heap.size, 11, none⟩ (.int .u64 0)) := ⟨_, hkq.1⟩
              clear hkq
              obtain ⟨c0, c1, c2, c3, c4, c5, c6, c7, c8, c9, ca, cb⟩ := cells12 HBn15.out
              obtain ⟨f0, f1, f2, f3, f4, f5, f6, f7, f8, f9, fa, fb⟩ := free12 HBn15.out
              go_simp
              refine hK.out _ _ hSq (fun hHeld => ?_)
              clear hK K hSq c0 c1 c2 c3 c4 c5 c6 c7 c8 c9 ca cb f0 f1 f2 f3 f4 f5 f6 f7 f8 f9 fa fb
              (try simp only [List.setIfInBounds_toArray, List.set_cons_zero, List.set_cons_succ])
              refine wpAnyH_done (by rw [hops.out]; kernel_rfl) (hQn.out _ _ ?_) _
              clear hQn hQ hops hHeld e0 e1 e2 e3 e4 e5 e6 e7 e8 e9 e10 e11 e12 e13 e14 e15 e16 e17 e18 e19 e20 e21 e22 e23 e24 e25 e26 e27 e28 e29 e30 e31 e32 e33 e34
              generalize ((((((((((((v15.setCell ⟨v2.heap.size, 0, none⟩ (.int .i64 M.run.length)).setCell ⟨v2.heap.size, 1, none⟩ (.int .i64 M.wait.length)).setCell ⟨v2.heap.size, 2, none⟩ (.int .i64 M.falls.length)).setCell ⟨v2.heap.size, 3, none⟩ (.int .i64 M.calls.length)).setCell ⟨v2.heap.size, 4, none⟩ (.int .i64 M.br.st)).setCell ⟨v2.heap.size, 5, none⟩ (.int .u64 cn.a)).setCell ⟨v2.heap.size, 6, none⟩ (.int .u64 cn.b)).setCell ⟨v2.heap.size, 7, none⟩ (.int .u64 cn.c)).setCell ⟨v2.heap.size, 8, none⟩ (.int .u64 cn.d)).setCell ⟨v2.heap.size, 9, none⟩ (.int .u64 cn.e)).setCell ⟨v2.heap.size, 10, none⟩ (.int .u64 0)).setCell ⟨v2.heap.size, 11, none⟩ (.int .u64 0)) = wq at *
              have kd := HDq.out.cells.2.2.2.2.1
              have HP1 := Lib.hid (hisPct_spec HDq.out.took now hnow 50 (by decide) (by decide))
              go_wp2_with fail
              refine HP1.out.mono ?_
              rintro e wr ⟨bb, rfl, B4, F4⟩
              have HDr := HDq.out.setTook F4 B4
              have HFr := HFq.out.trans (F4.mono (S' := A.list) (by simp [DepA.list]))
              have HBr := F4.keep HBq.out (by simp; exact hyq.1)
              have HRr := F4.keep HRq.out (by simp; exact hyq.2.1)
              obtain ⟨c0, c1, c2, c3, c4, c5, c6, c7, c8, c9, ca, cb⟩ := cells12 HBr
              obtain ⟨f0, f1, f2, f3, f4, f5, f6, f7, f8, f9, fa, fb⟩ := free12 HBr
              have HBs := Lib.hid (block_setCell HBr 10 (.int .u64 ((M.took.to now).pct 50 : Nat)))
              have kz : Fr [v2.heap.size] wr (wr.setCell ⟨v2.heap.size, 10, none⟩ (.int .u64 ((M.took.to now).pct 50 : Nat))) := (Fr.refl _ _).setCell (.inl (by simp)) _
              have hks := snap_keep HDr HFr HLOW.out HBr hyq.2.2.2 kz
              have HDs := Lib.hid hks.1
              have HFs := Lib.hid hks.2
              have HRs := Lib.hid (kz.keep HRr (by simp; exact hyq.2.2.1))
              simp only [List.setIfInBounds_toArray, List.set_cons_zero, List.set_cons_succ] at HBs
              have kd2 := hks.1.cells.2.2.2.2.1
              have HP2 := Lib.hid (hisPct_spec hks.1.took now hnow 100 (by decide) (by decide))
              clear hks kz HBr HDr HFr HRr B4 F4 HP1 HBq HDq HFq HRq kd
              go_wp2_with fail
              generalize (wr.setCell ⟨v2.heap.size, 10, none⟩ (.int .u64 ((M.took.to now).pct 50 : Nat))) = ws at *
              clear c0 c1 c2 c3 c4 c5 c6 c7 c8 c9 ca cb f0 f1 f2 f3 f4 f5 f6 f7 f8 f9 fa fb
              refine HP2.out.mono ?_
              rintro e wt ⟨bb2, rfl, B5, F5⟩
              have HDt := HDs.out.setTook F5 B5
              have HFt := HFs.out.trans (F5.mono (S' := A.list) (by simp [DepA.list]))
              have HBt := F5.keep HBs.out (by simp; exact hyq.1)
              have HRt := F5.keep HRs.out (by simp; exact hyq.2.1)
              simp only [WinM.to_to] at HDt ⊢
              obtain ⟨c0, c1, c2, c3, c4, c5, c6, c7, c8, c9, ca, cb⟩ := cells12 HBt
              obtain ⟨f0, f1, f2, f3, f4, f5, f6, f7, f8, f9, fa, fb⟩ := free12 HBt
              have HBu := block_setCell HBt 11 (.int .u64 ((M.took.to now).pct 100 : Nat))
              have kz : Fr [v2.heap.size] wt (wt.setCell ⟨v2.heap.size, 11, none⟩ (.int .u64 ((M.took.to now).pct 100 : Nat))) := (Fr.refl _ _).setCell (.inl (by simp)) _
              have hku := snap_keep HDt HFt HLOW.out HBt hyq.2.2.2 kz
              have HRu := kz.keep HRt (by simp; exact hyq.2.2.1)
              simp only [List.setIfInBounds_toArray, List.set_cons_zero, List.set_cons_succ] at HBu
              have HDu := Lib.hid hku.1
              have HFu := Lib.hid hku.2
              have HRu2 := Lib.hid HRu
              have HBu2 := Lib.hid HBu
              clear hku kz HDt HFt HBt HRt B5 F5 HP2 HBs HDs HFs HRs kd2
              have hx11 := lt_of_block HBu
              obtain ⟨d0, d1, d2, d3, d4, d5, d6, d7, d8, d9, da, db⟩ := cells12 HBu
              obtain ⟨s0, s1, s2, s3, s4, s5, s6, s7, s8, s9, sa, sb⟩ := cells12 HRu
              obtain ⟨g0, g1, g2, g3, g4, g5, g6, g7, g8, g9, ga, gb⟩ := free12 HRu
              clear HBu HRu
              go_wp2_with fail
              refine bodyPost_ret (v := .agg #[.int .i64 M.run.length, .int .i64 M.wait.length, .int .i64 M.falls.length, .int .i64 M.calls.length, .int .i64 M.br.st, .int .u64 cn.a, .int .u64 cn.b, .int .u64 cn.c, .int .u64 cn.d, .int .u64 cn.e, .int .u64 ((M.took.to now).pct 50 : Nat), .int .u64 ((M.took.to now).pct 100 : Nat)]) (by simp [results, Tryz.results19, go_sem, s0, s1, s2, s3, s4, s5, s6, s7, s8, s9, sa, sb]) rfl ?_
              have hfin := snap_keep HDu.out HFu.out HLOW.out HRu2.out (Nat.le_refl _) (fr12 _ w.heap.size (.int .i64 M.run.length) (.int .i64 M.wait.length) (.int .i64 M.falls.length) (.int .i64 M.calls.length) (.int .i64 M.br.st) (.int .u64 cn.a) (.int .u64 cn.b) (.int .u64 cn.c) (.int .u64 cn.d) (.int .u64 cn.e) (.int .u64 ((M.took.to now).pct 50 : Nat)) (.int .u64 ((M.took.to now).pct 100 : Nat)))
              exact ⟨by unfold DepM.snapV; rw [HCN.out], hfin.1, hfin.2⟩
            exact AllReadyH.nil
          exact AllReadyH.nil
        exact AllReadyH.nil
      exact AllReadyH.nil
    refine AllReadyH.cons e33 (fun K hK => ?_) ?_
    · have hz := HZ.out w0
      go_simp
      have hbn := block_alloc_new w0 (.cells #[.int .i64 0, .int .i64 0, .int .i64 0, .int .i64 0, .int .i64 0, .int .u64 0, .int .u64 0, .int .u64 0, .int .u64 0, .int .u64 0, .int .u64 0, .int .u64 0] 75)
      have HBn16 := Lib.hid hbn
      have HD16 := Lib.hid (HD0.out.fr0 ((Fr.refl [] w0).alloc (.cells #[.int .i64 0, .int .i64 0, .int .i64 0, .int .i64 0, .int .i64 0, .int .u64 0, .int .u64 0, .int .u64 0, .int .u64 0, .int .u64 0, .int .u64 0, .int .u64 0] 75)))
      have HF16 := Lib.hid (HF0.out.alloc (.cells #[.int .i64 0, .int .i64 0, .int .i64 0, .int .i64 0, .int .i64 0, .int .u64 0, .int .u64 0, .int .u64 0, .int .u64 0, .int .u64 0, .int .u64 0, .int .u64 0] 75))
      have HR16 := Lib.hid (block_alloc HRB0.out (.cells #[.int .i64 0, .int .i64 0, .int .i64 0, .int .i64 0, .int .i64 0, .int .u64 0, .int .u64 0, .int .u64 0, .int .u64 0, .int .u64 0, .int .u64 0, .int .u64 0] 75))
      have hb16 : w0.heap.size < (w0.alloc (.cells #[.int .i64 0, .int .i64 0, .int .i64 0, .int .i64 0, .int .i64 0, .int .u64 0, .int .u64 0, .int .u64 0, .int .u64 0, .int .u64 0, .int .u64 0, .int .u64 0] 75)).heap.size := by simp
      refine hK.out _ _ ⟨_, HD16.out⟩ (fun hHeld => ?_)
      clear hK K hbn hz
      generalize (w0.alloc (.cells #[.int .i64 0, .int .i64 0, .int .i64 0, .int .i64 0, .int .i64 0, .int .u64 0, .int .u64 0, .int .u64 0, .int .u64 0, .int .u64 0, .int .u64 0, .int .u64 0] 75)) = v16 at *
      (try simp only [List.setIfInBounds_toArray, List.set_cons_zero, List.set_cons_succ])
      refine wpAnyH_ready (rs := [9]) (by rw [hops.out]; kernel_rfl) (by simp) ?_
      refine AllReadyH.cons e9 (fun K hK => ?_) ?_
      · have HC := Lib.hid (HD16.out.bulk.waiting)
        go_simp
        refine HC.out.mono ?_
        rintro e v17 ⟨vl, rfl, L9, F9⟩
        obtain ⟨⟨ao9, cap9, hv9, -⟩, -⟩ := L9
        subst hv9
        have HD17 := Lib.hid (HD16.out.fr0 F9)
        have HF17 := Lib.hid (HF16.out.trans (F9.mono (S' := A.list) (by simp)))
        have HR17 := Lib.hid (F9.keep HR16.out (by simp))
        have hs17 := F9.size
        have HBn17 := Lib.hid (F9.keep HBn16.out (by simp))
        go_wp2_with fail
        refine hK.out _ _ ⟨_, HD17.out⟩ (fun hHeld => ?_)
        clear hK K HC F9
        (try simp only [List.setIfInBounds_toArray, List.set_cons_zero, List.set_cons_succ])
        refine wpAnyH_take (i := 10) (v := .int .i64 M.wait.length) e10 (by rw [hops.out]; kernel_rfl) (by rw [hops.out]; kernel_rfl) (by rw [hops.out]; kernel_rfl) (fun c a w h => hQ c a _ _ w h) (Or.inl ⟨rfl, fun w' _ => by go_simp⟩) hHeld ?_
        (try simp only [Act.put, List.setIfInBounds_toArray, List.set_cons_zero, List.set_cons_succ])
        refine wpAnyH_ready (rs := [15]) (by rw [hops.out]; kernel_rfl) (by simp) ?_
        refine AllReadyH.cons e15 (fun K hK => ?_) ?_
        · have HC := Lib.hid (HD17.out.falls.used)
          go_simp
          refine HC.out.mono ?_
          rintro e v18 ⟨rfl, hv⟩
          obtain rfl : v17 = v18 := hv.symm
          clear hv
          go_wp2_with fail
          refine hK.out _ _ hHeld (fun hHeld => ?_)
          clear hK K HC
          (try simp only [List.setIfInBounds_toArray, List.set_cons_zero, List.set_cons_succ])
          refine wpAnyH_take (i := 20) (v := .int .i64 M.calls.length) e20 (by rw [hops.out]; kernel_rfl) (by rw [hops.out]; kernel_rfl) (by rw [hops.out]; kernel_rfl) (fun c a w h => hQ c a _ _ w h) (Or.inl ⟨rfl, fun w' hS => by have q := hS.len; go_simp⟩) hHeld ?_
          (try simp only [Act.put, List.setIfInBounds_toArray, List.set_cons_zero, List.set_cons_succ])
          refine wpAnyH_ready (rs := [25]) (by rw [hops.out]; kernel_rfl) (by simp) ?_
          refine AllReadyH.cons e25 (fun K hK => ?_) ?_
          · have HC := Lib.hid (HD17.out.brk.state)
            go_simp
            refine HC.out.mono ?_
            rintro e v19 ⟨rfl, hv⟩
            obtain rfl : v17 = v19 := hv.symm
            clear hv
            go_wp2_with fail
            refine hK.out _ _ hHeld (fun hHeld => ?_)
            clear hK K HC
            (try simp only [List.setIfInBounds_toArray, List.set_cons_zero, List.set_cons_succ])
            refine wpAnyH_ready (rs := [31]) (by rw [hops.out]; kernel_rfl) (by simp) ?_
            refine AllReadyH.cons e31 (fun K hK => ?_) ?_
            · have HC := Lib.hid (winCounts_spec HD17.out.win now hnow)
              go_simp
              refine HC.out.mono ?_
              rintro e v20 ⟨rfl, W9, F9⟩
              have HD20 := Lib.hid (HD17.out.setWin F9 W9)
              have HF20 := Lib.hid (HF17.out.trans (F9.mono (S' := A.list) (by simp [DepA.list])))
              have HR20 := Lib.hid (F9.keep HR17.out (by simp; omega))
              have hs20 := F9.size
              have HBn20 := Lib.hid (F9.keep HBn17.out (by simp; omega))
              have hcn : Hid ((M.win.to now).cn = (M.win.to now).cn) := Lib.hid rfl
              generalize hcn2 : (M.win.to now).cn = cn at *
              have HCN := Lib.hid hcn2
              clear hcn2 hcn
              unfold Cn.vals
              go_wp2_with fail
              refine hK.out _ _ ⟨_, HD20.out⟩ (fun hHeld => ?_)
              clear hK K HC F9 W9
              (try simp only [List.setIfInBounds_toArray, List.set_cons_zero, List.set_cons_succ])
              refine wpAnyH_take (i := 32) (v := .agg #[.int .i64 M.run.length, .int .i64 M.wait.length, .int .i64 M.falls.length, .int .i64 M.calls.length, .int .i64 M.br.st, .int .u64 cn.a, .int .u64 cn.b, .int .u64 cn.c, .int .u64 cn.d, .int .u64 cn.e, .int .u64 0, .int .u64 0]) e32 (by rw [hops.out]; kernel_rfl) (by rw [hops.out]; kernel_rfl) (by rw [hops.out]; kernel_rfl) (fun c a w h => hQ c a _ _ w h) (yieldsIf_build rfl _ _ rfl _ (by simp only [List.map_toArray, List.map_cons, List.map_nil]; rfl) _ (fun w' _ => HBZ.out w' cn)) hHeld ?_
              (try simp only [Act.put, List.setIfInBounds_toArray, List.set_cons_zero, List.set_cons_succ])
              refine wpAnyH_ready (rs := [34]) (by rw [hops.out]; kernel_rfl) (by simp) ?_
              refine AllReadyH.cons e34 (fun K hK => ?_) AllReadyH.nil
              have hyq : w0.heap.size ≠ A.hi ∧ w.heap.size ≠ A.hi ∧ w.heap.size ≠ w0.heap.size ∧ w.heap.size ≤ w0.heap.size := by omega
              have HBq := Lib.hid (block12 HBn20.out (.int .i64 M.run.length) (.int .i64 M.wait.length) (.int .i64 M.falls.length) (.int .i64 M.calls.length) (.int .i64 M.br.st) (.int .u64 cn.a) (.int .u64 cn.b) (.int .u64 cn.c) (.int .u64 cn.d) (.int .u64 cn.e) (.int .u64 0) (.int .u64 0))
              have hkq := snap_keep HD20.out HF20.out HLOW.out HBn20.out hyq.2.2.2 (fr12 v20 (w0.heap.size) (.int .i64 M.run.length) (.int .i64 M.wait.length) (.int .i64 M.falls.length) (.int .i64 M.calls.length) (.int .i64 M.br.st) (.int .u64 cn.a) (.int .u64 cn.b) (.int .u64 cn.c) (.int .u64 cn.d) (.int .u64 cn.e) (.int .u64 0) (.int .u64 0))
              have HDq := Lib.hid hkq.1
              have HFq := Lib.hid hkq.2
              have HRq := Lib.hid ((fr12 v20 (w0.heap.size) (.int .i64 M.run.length) (.int .i64 M.wait.length) (.int .i64 M.falls.length) (.int .i64 M.calls.length) (.int .i64 M.br.st) (.int .u64 cn.a) (.int .u64 cn.b) (.int .u64 cn.c) (.int .u64 cn.d) (.int .u64 cn.e) (.int .u64 0) (.int .u64 0)).keep HR20.out (by simp; exact hyq.2.2.1))
              have hSq : SnapS A M ((((((((((((v20.setCell ⟨w0.heap.size, 0, none⟩ (.int .i64 M.run.length)).setCell ⟨w0.heap.size, 1, none⟩ (.int .i64 M.wait.length)).setCell ⟨w0.heap.size, 2, none⟩ (.int .i64 M.falls.length)).setCell ⟨w0.heap.size, 3, none⟩ (.int .i64 M.calls.length)).setCell ⟨w0.heap.size, 4, none⟩ (.int .i64 M.br.st)).setCell ⟨w0.heap.size, 5, none⟩ (.int .u64 cn.a)).setCell ⟨w0.heap.size, 6, none⟩ (.int .u64 cn.b)).setCell ⟨w0.heap.size, 7, none⟩ (.int .u64 cn.c)).setCell ⟨w0.heap.size, 8, none⟩ (.int .u64 cn.d)).setCell ⟨w0.heap.size, 9, none⟩ (.int .u64 cn.e)).setCell ⟨w0.heap.size, 10, none⟩ (.int .u64 0)).setCell ⟨w0.heap.size, 11, none⟩ (.int .u64 0)) := ⟨_, hkq.1⟩
              clear hkq
              obtain ⟨c0, c1, c2, c3, c4, c5, c6, c7, c8, c9, ca, cb⟩ := cells12 HBn20.out
              obtain ⟨f0, f1, f2, f3, f4, f5, f6, f7, f8, f9, fa, fb⟩ := free12 HBn20.out
              go_simp
              refine hK.out _ _ hSq (fun hHeld => ?_)
              clear hK K hSq c0 c1 c2 c3 c4 c5 c6 c7 c8 c9 ca cb f0 f1 f2 f3 f4 f5 f6 f7 f8 f9 fa fb
              (try simp only [List.setIfInBounds_toArray, List.set_cons_zero, List.set_cons_succ])
              refine wpAnyH_done (by rw [hops.out]; kernel_rfl) (hQn.out _ _ ?_) _
              clear hQn hQ hops hHeld e0 e1 e2 e3 e4 e5 e6 e7 e8 e9 e10 e11 e12 e13 e14 e15 e16 e17 e18 e19 e20 e21 e22 e23 e24 e25 e26 e27 e28 e29 e30 e31 e32 e33 e34
              generalize ((((((((((((v20.setCell ⟨w0.heap.size, 0, none⟩ (.int .i64 M.run.length)).setCell ⟨w0.heap.size, 1, none⟩ (.int .i64 M.wait.length)).setCell ⟨w0.heap.size, 2, none⟩ (.int .i64 M.falls.length)).setCell ⟨w0.heap.size, 3, none⟩ (.int .i64 M.calls.length)).setCell ⟨w0.heap.size, 4, none⟩ (.int .i64 M.br.st)).setCell ⟨w0.heap.size, 5, none⟩ (.int .u64 cn.a)).setCell ⟨w0.heap.size, 6, none⟩ (.int .u64 cn.b)).setCell ⟨w0.heap.size, 7, none⟩ (.int .u64 cn.c)).setCell ⟨w0.heap.size, 8, none⟩ (.int .u64 cn.d)).setCell ⟨w0.heap.size, 9, none⟩ (.int .u64 cn.e)).setCell ⟨w0.heap.size, 10, none⟩ (.int .u64 0)).setCell ⟨w0.heap.size, 11, none⟩ (.int .u64 0)) = wq at *
              have kd := HDq.out.cells.2.2.2.2.1
              have HP1 := Lib.hid (hisPct_spec HDq.out.took now hnow 50 (by decide) (by decide))
              go_wp2_with fail
              refine HP1.out.mono ?_
              rintro e wr ⟨bb, rfl, B4, F4⟩
              have HDr := HDq.out.setTook F4 B4
              have HFr := HFq.out.trans (F4.mono (S' := A.list) (by simp [DepA.list]))
              have HBr := F4.keep HBq.out (by simp; exact hyq.1)
              have HRr := F4.keep HRq.out (by simp; exact hyq.2.1)
              obtain ⟨c0, c1, c2, c3, c4, c5, c6, c7, c8, c9, ca, cb⟩ := cells12 HBr
              obtain ⟨f0, f1, f2, f3, f4, f5, f6, f7, f8, f9, fa, fb⟩ := free12 HBr
              have HBs := Lib.hid (block_setCell HBr 10 (.int .u64 ((M.took.to now).pct 50 : Nat)))
              have kz : Fr [w0.heap.size] wr (wr.setCell ⟨w0.heap.size, 10, none⟩ (.int .u64 ((M.took.to now).pct 50 : Nat))) := (Fr.refl _ _).setCell (.inl (by simp)) _
              have hks := snap_keep HDr HFr HLOW.out HBr hyq.2.2.2 kz
              have HDs := Lib.hid hks.1
              have HFs := Lib.hid hks.2
              have HRs := Lib.hid (kz.keep HRr (by simp; exact hyq.2.2.1))
              simp only [List.setIfInBounds_toArray, List.set_cons_zero, List.set_cons_succ] at HBs
              have kd2 := hks.1.cells.2.2.2.2.1
              have HP2 := Lib.hid (hisPct_spec hks.1.took now hnow 100 (by decide) (by decide))
              clear hks kz HBr HDr HFr HRr B4 F4 HP1 HBq HDq HFq HRq kd
              go_wp2_with fail
              generalize (wr.setCell ⟨w0.heap.size, 10, none⟩ (.int .u64 ((M.took.to now).pct 50 : Nat))) = ws at *
              clear c0 c1 c2 c3 c4 c5 c6 c7 c8 c9 ca cb f0 f1 f2 f3 f4 f5 f6 f7 f8 f9 fa fb
              refine HP2.out.mono ?_
              rintro e wt ⟨bb2, rfl, B5, F5⟩
              have HDt := HDs.out.setTook F5 B5
              have HFt := HFs.out.trans (F5.mono (S' := A.list) (by simp [DepA.list]))
              have HBt := F5.keep HBs.out (by simp; exact hyq.1)
              have HRt := F5.keep HRs.out (by simp; exact hyq.2.1)
              simp only [WinM.to_to] at HDt ⊢
              obtain ⟨c0, c1, c2, c3, c4, c5, c6, c7, c8, c9, ca, cb⟩ := cells12 HBt
              obtain ⟨f0, f1, f2, f3, f4, f5, f6, f7, f8, f9, fa, fb⟩ := free12 HBt
              have HBu := block_setCell HBt 11 (.int .u64 ((M.took.to now).pct 100 : Nat))
              have kz : Fr [w0.heap.size] wt (wt.setCell ⟨w0.heap.size, 11, none⟩ (.int .u64 ((M.took.to now).pct 100 : Nat))) := (Fr.refl _ _).setCell (.inl (by simp)) _
              have hku := snap_keep HDt HFt HLOW.out HBt hyq.2.2.2 kz
              have HRu := kz.keep HRt (by simp; exact hyq.2.2.1)
              simp only [List.setIfInBounds_toArray, List.set_cons_zero, List.set_cons_succ] at HBu
              have HDu := Lib.hid hku.1
              have HFu := Lib.hid hku.2
              have HRu2 := Lib.hid HRu
              have HBu2 := Lib.hid HBu
              clear hku kz HDt HFt HBt HRt B5 F5 HP2 HBs HDs HFs HRs kd2
              have hx11 := lt_of_block HBu
              obtain ⟨d0, d1, d2, d3, d4, d5, d6, d7, d8, d9, da, db⟩ := cells12 HBu
              obtain ⟨s0, s1, s2, s3, s4, s5, s6, s7, s8, s9, sa, sb⟩ := cells12 HRu
              obtain ⟨g0, g1, g2, g3, g4, g5, g6, g7, g8, g9, ga, gb⟩ := free12 HRu
              clear HBu HRu
              go_wp2_with fail
              refine bodyPost_ret (v := .agg #[.int .i64 M.run.length, .int .i64 M.wait.length, .int .i64 M.falls.length, .int .i64 M.calls.length, .int .i64 M.br.st, .int .u64 cn.a, .int .u64 cn.b, .int .u64 cn.c, .int .u64 cn.d, .int .u64 cn.e, .int .u64 ((M.took.to now).pct 50 : Nat), .int .u64 ((M.took.to now).pct 100 : Nat)]) (by simp [results, Tryz.results19, go_sem, s0, s1, s2, s3, s4, s5, s6, s7, s8, s9, sa, sb]) rfl ?_
              have hfin := snap_keep HDu.out HFu.out HLOW.out HRu2.out (Nat.le_refl _) (fr12 _ w.heap.size (.int .i64 M.run.length) (.int .i64 M.wait.length) (.int .i64 M.falls.length) (.int .i64 M.calls.length) (.int .i64 M.br.st) (.int .u64 cn.a) (.int .u64 cn.b) (.int .u64 cn.c) (.int .u64 cn.d) (.int .u64 cn.e) (.int .u64 ((M.took.to now).pct 50 : Nat)) (.int .u64 ((M.took.to now).pct 100 : Nat)))
              exact ⟨by unfold DepM.snapV; rw [HCN.out], hfin.1, hfin.2⟩
            exact AllReadyH.nil
          exact AllReadyH.nil
        exact AllReadyH.nil
      exact AllReadyH.nil
    exact AllReadyH.nil
  refine AllReadyH.cons e33 (fun K hK => ?_) ?_
  · have hz := HZ.out w0
    go_simp
    have hbn := block_alloc_new w0 (.cells #[.int .i64 0, .int .i64 0, .int .i64 0, .int .i64 0, .int .i64 0, .int .u64 0, .int .u64 0, .int .u64 0, .int .u64 0, .int .u64 0, .int .u64 0, .int .u64 0] 75)
    have HBn21 := Lib.hid hbn
    have HD21 := Lib.hid (HD0.out.fr0 ((Fr.refl [] w0).alloc (.cells #[.int .i64 0, .int .i64 0, .int .i64 0, .int .i64 0, .int .i64 0, .int .u64 0, .int .u64 0, .int .u64 0, .int .u64 0, .int .u64 0, .int .u64 0, .int .u64 0] 75)))
    have HF21 := Lib.hid (HF0.out.alloc (.cells #[.int .i64 0, .int .i64 0, .int .i64 0, .int .i64 0, .int .i64 0, .int .u64 0, .int .u64 0, .int .u64 0, .int .u64 0, .int .u64 0, .int .u64 0, .int .u64 0] 75))
    have HR21 := Lib.hid (block_alloc HRB0.out (.cells #[.int .i64 0, .int .i64 0, .int .i64 0, .int .i64 0, .int .i64 0, .int .u64 0, .int .u64 0, .int .u64 0, .int .u64 0, .int .u64 0, .int .u64 0, .int .u64 0] 75))
    have hb21 : w0.heap.size < (w0.alloc (.cells #[.int .i64 0, .int .i64 0, .int .i64 0, .int .i64 0, .int .i64 0, .int .u64 0, .int .u64 0, .int .u64 0, .int .u64 0, .int .u64 0, .int .u64 0, .int .u64 0] 75)).heap.size := by simp
    refine hK.out _ _ ⟨_, HD21.out⟩ (fun hHeld => ?_)
    clear hK K hbn hz
    generalize (w0.alloc (.cells #[.int .i64 0, .int .i64 0, .int .i64 0, .int .i64 0, .int .i64 0, .int .u64 0, .int .u64 0, .int .u64 0, .int .u64 0, .int .u64 0, .int .u64 0, .int .u64 0] 75)) = v21 at *
    (try simp only [List.setIfInBounds_toArray, List.set_cons_zero, List.set_cons_succ])
    refine wpAnyH_ready (rs := [4]) (by rw [hops.out]; kernel_rfl) (by simp) ?_
    refine AllReadyH.cons e4 (fun K hK => ?_) ?_
    · have HC := Lib.hid (HD21.out.bulk.busy)
      go_simp
      refine HC.out.mono ?_
      rintro e v22 ⟨rfl, hv⟩
      obtain rfl : v21 = v22 := hv.symm
      clear hv
      go_wp2_with fail
      refine hK.out _ _ hHeld (fun hHeld => ?_)
      clear hK K HC
      (try simp only [List.setIfInBounds_toArray, List.set_cons_zero, List.set_cons_succ])
      refine wpAnyH_ready (rs := [9]) (by rw [hops.out]; kernel_rfl) (by simp) ?_
      refine AllReadyH.cons e9 (fun K hK => ?_) ?_
      · have HC := Lib.hid (HD21.out.bulk.waiting)
        go_simp
        refine HC.out.mono ?_
        rintro e v23 ⟨vl, rfl, L9, F9⟩
        obtain ⟨⟨ao9, cap9, hv9, -⟩, -⟩ := L9
        subst hv9
        have HD23 := Lib.hid (HD21.out.fr0 F9)
        have HF23 := Lib.hid (HF21.out.trans (F9.mono (S' := A.list) (by simp)))
        have HR23 := Lib.hid (F9.keep HR21.out (by simp))
        have hs23 := F9.size
        have HBn23 := Lib.hid (F9.keep HBn21.out (by simp))
        go_wp2_with fail
        refine hK.out _ _ ⟨_, HD23.out⟩ (fun hHeld => ?_)
        clear hK K HC F9
        (try simp only [List.setIfInBounds_toArray, List.set_cons_zero, List.set_cons_succ])
        refine wpAnyH_take (i := 10) (v := .int .i64 M.wait.length) e10 (by rw [hops.out]; kernel_rfl) (by rw [hops.out]; kernel_rfl) (by rw [hops.out]; kernel_rfl) (fun c a w h => hQ c a _ _ w h) (Or.inl ⟨rfl, fun w' _ => by go_simp⟩) hHeld ?_
        (try simp only [Act.put, List.setIfInBounds_toArray, List.set_cons_zero, List.set_cons_succ])
        refine wpAnyH_ready (rs := [15]) (by rw [hops.out]; kernel_rfl) (by simp) ?_
        refine AllReadyH.cons e15 (fun K hK => ?_) ?_
        · have HC := Lib.hid (HD23.out.falls.used)
          go_simp
          refine HC.out.mono ?_
          rintro e v24 ⟨rfl, hv⟩
          obtain rfl : v23 = v24 := hv.symm
          clear hv
          go_wp2_with fail
          refine hK.out _ _ hHeld (fun hHeld => ?_)
          clear hK K HC
          (try simp only [List.setIfInBounds_toArray, List.set_cons_zero, List.set_cons_succ])
          refine wpAnyH_take (i := 20) (v := .int .i64 M.calls.length) e20 (by rw [hops.out]; kernel_rfl) (by rw [hops.out]; kernel_rfl) (by rw [hops.out]; kernel_rfl) (fun c a w h => hQ c a _ _ w h) (Or.inl ⟨rfl, fun w' hS => by have q := hS.len; go_simp⟩) hHeld ?_
          (try simp only [Act.put, List.setIfInBounds_toArray, List.set_cons_zero, List.set_cons_succ])
          refine wpAnyH_ready (rs := [25]) (by rw [hops.out]; kernel_rfl) (by simp) ?_
          refine AllReadyH.cons e25 (fun K hK => ?_) ?_
          · have HC := Lib.hid (HD23.out.brk.state)
            go_simp
            refine HC.out.mono ?_
            rintro e v25 ⟨rfl, hv⟩
            obtain rfl : v23 = v25 := hv.symm
            clear hv
            go_wp2_with fail
            refine hK.out _ _ hHeld (fun hHeld => ?_)
            clear hK K HC
            (try simp only [List.setIfInBounds_toArray, List.set_cons_zero, List.set_cons_succ])
            refine wpAnyH_ready (rs := [31]) (by rw [hops.out]; kernel_rfl) (by simp) ?_
            refine AllReadyH.cons e31 (fun K hK => ?_) ?_
            · have HC := Lib.hid (winCounts_spec HD23.out.win now hnow)
              go_simp
              refine HC.out.mono ?_
              rintro e v26 ⟨rfl, W9, F9⟩
              have HD26 := Lib.hid (HD23.out.setWin F9 W9)
              have HF26 := Lib.hid (HF23.out.trans (F9.mono (S' := A.list) (by simp [DepA.list])))
              have HR26 := Lib.hid (F9.keep HR23.out (by simp; omega))
              have hs26 := F9.size
              have HBn26 := Lib.hid (F9.keep HBn23.out (by simp; omega))
              have hcn : Hid ((M.win.to now).cn = (M.win.to now).cn) := Lib.hid rfl
              generalize hcn2 : (M.win.to now).cn = cn at *
              have HCN := Lib.hid hcn2
              clear hcn2 hcn
              unfold Cn.vals
              go_wp2_with fail
              refine hK.out _ _ ⟨_, HD26.out⟩ (fun hHeld => ?_)
              clear hK K HC F9 W9
              (try simp only [List.setIfInBounds_toArray, List.set_cons_zero, List.set_cons_succ])
              refine wpAnyH_take (i := 32) (v := .agg #[.int .i64 M.run.length, .int .i64 M.wait.length, .int .i64 M.falls.length, .int .i64 M.calls.length, .int .i64 M.br.st, .int .u64 cn.a, .int .u64 cn.b, .int .u64 cn.c, .int .u64 cn.d, .int .u64 cn.e, .int .u64 0, .int .u64 0]) e32 (by rw [hops.out]; kernel_rfl) (by rw [hops.out]; kernel_rfl) (by rw [hops.out]; kernel_rfl) (fun c a w h => hQ c a _ _ w h) (yieldsIf_build rfl _ _ rfl _ (by simp only [List.map_toArray, List.map_cons, List.map_nil]; rfl) _ (fun w' _ => HBZ.out w' cn)) hHeld ?_
              (try simp only [Act.put, List.setIfInBounds_toArray, List.set_cons_zero, List.set_cons_succ])
              refine wpAnyH_ready (rs := [34]) (by rw [hops.out]; kernel_rfl) (by simp) ?_
              refine AllReadyH.cons e34 (fun K hK => ?_) AllReadyH.nil
              have hyq : w0.heap.size ≠ A.hi ∧ w.heap.size ≠ A.hi ∧ w.heap.size ≠ w0.heap.size ∧ w.heap.size ≤ w0.heap.size := by omega
              have HBq := Lib.hid (block12 HBn26.out (.int .i64 M.run.length) (.int .i64 M.wait.length) (.int .i64 M.falls.length) (.int .i64 M.calls.length) (.int .i64 M.br.st) (.int .u64 cn.a) (.int .u64 cn.b) (.int .u64 cn.c) (.int .u64 cn.d) (.int .u64 cn.e) (.int .u64 0) (.int .u64 0))
              have hkq := snap_keep HD26.out HF26.out HLOW.out HBn26.out hyq.2.2.2 (fr12 v26 (w0.heap.size) (.int .i64 M.run.length) (.int .i64 M.wait.length) (.int .i64 M.falls.length) (.int .i64 M.calls.length) (.int .i64 M.br.st) (.int .u64 cn.a) (.int .u64 cn.b) (.int .u64 cn.c) (.int .u64 cn.d) (.int .u64 cn.e) (.int .u64 0) (.int .u64 0))
              have HDq := Lib.hid hkq.1
              have HFq := Lib.hid hkq.2
              have HRq := Lib.hid ((fr12 v26 (w0.heap.size) (.int .i64 M.run.length) (.int .i64 M.wait.length) (.int .i64 M.falls.length) (.int .i64 M.calls.length) (.int .i64 M.br.st) (.int .u64 cn.a) (.int .u64 cn.b) (.int .u64 cn.c) (.int .u64 cn.d) (.int .u64 cn.e) (.int .u64 0) (.int .u64 0)).keep HR26.out (by simp; exact hyq.2.2.1))
              have hSq : SnapS A M ((((((((((((v26.setCell ⟨w0.heap.size, 0, none⟩ (.int .i64 M.run.length)).setCell ⟨w0.heap.size, 1, none⟩ (.int .i64 M.wait.length)).setCell ⟨w0.heap.size, 2, none⟩ (.int .i64 M.falls.length)).setCell ⟨w0.heap.size, 3, none⟩ (.int .i64 M.calls.length)).setCell ⟨w0.heap.size, 4, none⟩ (.int .i64 M.br.st)).setCell ⟨w0.heap.size, 5, none⟩ (.int .u64 cn.a)).setCell ⟨w0.heap.size, 6, none⟩ (.int .u64 cn.b)).setCell ⟨w0.heap.size, 7, none⟩ (.int .u64 cn.c)).setCell ⟨w0.heap.size, 8, none⟩ (.int .u64 cn.d)).setCell ⟨w0.heap.size, 9, none⟩ (.int .u64 cn.e)).setCell ⟨w0.heap.size, 10, none⟩ (.int .u64 0)).setCell ⟨w0.heap.size, 11, none⟩ (.int .u64 0)) := ⟨_, hkq.1⟩
              clear hkq
              obtain ⟨c0, c1, c2, c3, c4, c5, c6, c7, c8, c9, ca, cb⟩ := cells12 HBn26.out
              obtain ⟨f0, f1, f2, f3, f4, f5, f6, f7, f8, f9, fa, fb⟩ := free12 HBn26.out
              go_simp
              refine hK.out _ _ hSq (fun hHeld => ?_)
              clear hK K hSq c0 c1 c2 c3 c4 c5 c6 c7 c8 c9 ca cb f0 f1 f2 f3 f4 f5 f6 f7 f8 f9 fa fb
              (try simp only [List.setIfInBounds_toArray, List.set_cons_zero, List.set_cons_succ])
              refine wpAnyH_done (by rw [hops.out]; kernel_rfl) (hQn.out _ _ ?_) _
              clear hQn hQ hops hHeld e0 e1 e2 e3 e4 e5 e6 e7 e8 e9 e10 e11 e12 e13 e14 e15 e16 e17 e18 e19 e20 e21 e22 e23 e24 e25 e26 e27 e28 e29 e30 e31 e32 e33 e34
              generalize ((((((((((((v26.setCell ⟨w0.heap.size, 0, none⟩ (.int .i64 M.run.length)).setCell ⟨w0.heap.size, 1, none⟩ (.int .i64 M.wait.length)).setCell ⟨w0.heap.size, 2, none⟩ (.int .i64 M.falls.length)).setCell ⟨w0.heap.size, 3, none⟩ (.int .i64 M.calls.length)).setCell ⟨w0.heap.size, 4, none⟩ (.int .i64 M.br.st)).setCell ⟨w0.heap.size, 5, none⟩ (.int .u64 cn.a)).setCell ⟨w0.heap.size, 6, none⟩ (.int .u64 cn.b)).setCell ⟨w0.heap.size, 7, none⟩ (.int .u64 cn.c)).setCell ⟨w0.heap.size, 8, none⟩ (.int .u64 cn.d)).setCell ⟨w0.heap.size, 9, none⟩ (.int .u64 cn.e)).setCell ⟨w0.heap.size, 10, none⟩ (.int .u64 0)).setCell ⟨w0.heap.size, 11, none⟩ (.int .u64 0)) = wq at *
              have kd := HDq.out.cells.2.2.2.2.1
              have HP1 := Lib.hid (hisPct_spec HDq.out.took now hnow 50 (by decide) (by decide))
              go_wp2_with fail
              refine HP1.out.mono ?_
              rintro e wr ⟨bb, rfl, B4, F4⟩
              have HDr := HDq.out.setTook F4 B4
              have HFr := HFq.out.trans (F4.mono (S' := A.list) (by simp [DepA.list]))
              have HBr := F4.keep HBq.out (by simp; exact hyq.1)
              have HRr := F4.keep HRq.out (by simp; exact hyq.2.1)
              obtain ⟨c0, c1, c2, c3, c4, c5, c6, c7, c8, c9, ca, cb⟩ := cells12 HBr
              obtain ⟨f0, f1, f2, f3, f4, f5, f6, f7, f8, f9, fa, fb⟩ := free12 HBr
              have HBs := Lib.hid (block_setCell HBr 10 (.int .u64 ((M.took.to now).pct 50 : Nat)))
              have kz : Fr [w0.heap.size] wr (wr.setCell ⟨w0.heap.size, 10, none⟩ (.int .u64 ((M.took.to now).pct 50 : Nat))) := (Fr.refl _ _).setCell (.inl (by simp)) _
              have hks := snap_keep HDr HFr HLOW.out HBr hyq.2.2.2 kz
              have HDs := Lib.hid hks.1
              have HFs := Lib.hid hks.2
              have HRs := Lib.hid (kz.keep HRr (by simp; exact hyq.2.2.1))
              simp only [List.setIfInBounds_toArray, List.set_cons_zero, List.set_cons_succ] at HBs
              have kd2 := hks.1.cells.2.2.2.2.1
              have HP2 := Lib.hid (hisPct_spec hks.1.took now hnow 100 (by decide) (by decide))
              clear hks kz HBr HDr HFr HRr B4 F4 HP1 HBq HDq HFq HRq kd
              go_wp2_with fail
              generalize (wr.setCell ⟨w0.heap.size, 10, none⟩ (.int .u64 ((M.took.to now).pct 50 : Nat))) = ws at *
              clear c0 c1 c2 c3 c4 c5 c6 c7 c8 c9 ca cb f0 f1 f2 f3 f4 f5 f6 f7 f8 f9 fa fb
              refine HP2.out.mono ?_
              rintro e wt ⟨bb2, rfl, B5, F5⟩
              have HDt := HDs.out.setTook F5 B5
              have HFt := HFs.out.trans (F5.mono (S' := A.list) (by simp [DepA.list]))
              have HBt := F5.keep HBs.out (by simp; exact hyq.1)
              have HRt := F5.keep HRs.out (by simp; exact hyq.2.1)
              simp only [WinM.to_to] at HDt ⊢
              obtain ⟨c0, c1, c2, c3, c4, c5, c6, c7, c8, c9, ca, cb⟩ := cells12 HBt
              obtain ⟨f0, f1, f2, f3, f4, f5, f6, f7, f8, f9, fa, fb⟩ := free12 HBt
              have HBu := block_setCell HBt 11 (.int .u64 ((M.took.to now).pct 100 : Nat))
              have kz : Fr [w0.heap.size] wt (wt.setCell ⟨w0.heap.size, 11, none⟩ (.int .u64 ((M.took.to now).pct 100 : Nat))) := (Fr.refl _ _).setCell (.inl (by simp)) _
              have hku := snap_keep HDt HFt HLOW.out HBt hyq.2.2.2 kz
              have HRu := kz.keep HRt (by simp; exact hyq.2.2.1)
              simp only [List.setIfInBounds_toArray, List.set_cons_zero, List.set_cons_succ] at HBu
              have HDu := Lib.hid hku.1
              have HFu := Lib.hid hku.2
              have HRu2 := Lib.hid HRu
              have HBu2 := Lib.hid HBu
              clear hku kz HDt HFt HBt HRt B5 F5 HP2 HBs HDs HFs HRs kd2
              have hx11 := lt_of_block HBu
              obtain ⟨d0, d1, d2, d3, d4, d5, d6, d7, d8, d9, da, db⟩ := cells12 HBu
              obtain ⟨s0, s1, s2, s3, s4, s5, s6, s7, s8, s9, sa, sb⟩ := cells12 HRu
              obtain ⟨g0, g1, g2, g3, g4, g5, g6, g7, g8, g9, ga, gb⟩ := free12 HRu
              clear HBu HRu
              go_wp2_with fail
              refine bodyPost_ret (v := .agg #[.int .i64 M.run.length, .int .i64 M.wait.length, .int .i64 M.falls.length, .int .i64 M.calls.length, .int .i64 M.br.st, .int .u64 cn.a, .int .u64 cn.b, .int .u64 cn.c, .int .u64 cn.d, .int .u64 cn.e, .int .u64 ((M.took.to now).pct 50 : Nat), .int .u64 ((M.took.to now).pct 100 : Nat)]) (by simp [results, Tryz.results19, go_sem, s0, s1, s2, s3, s4, s5, s6, s7, s8, s9, sa, sb]) rfl ?_
              have hfin := snap_keep HDu.out HFu.out HLOW.out HRu2.out (Nat.le_refl _) (fr12 _ w.heap.size (.int .i64 M.run.length) (.int .i64 M.wait.length) (.int .i64 M.falls.length) (.int .i64 M.calls.length) (.int .i64 M.br.st) (.int .u64 cn.a) (.int .u64 cn.b) (.int .u64 cn.c) (.int .u64 cn.d) (.int .u64 cn.e) (.int .u64 ((M.took.to now).pct 50 : Nat)) (.int .u64 ((M.took.to now).pct 100 : Nat)))
              exact ⟨by unfold DepM.snapV; rw [HCN.out], hfin.1, hfin.2⟩
            exact AllReadyH.nil
          exact AllReadyH.nil
        exact AllReadyH.nil
      exact AllReadyH.nil
    exact AllReadyH.nil
  exact AllReadyH.nil
end Go.Proofs.YtcnkhjgpjchkeaaGreat

namespace Go.Proofs.YtcnkhjgpjchkeaaGreat
open Go.RowKit

theorem alook_aput {β : Type} {l : List (Int × β)} (a : Int) (v : β) (y : Int) : alook (aput l a v) y = if y = a then some v else alook l y := by
  unfold aput
  split
  · rename_i h
    induction l with
    | nil => simp at h
    | cons p l ih =>
      by_cases hp : p.1 = a
      · by_cases hy : y = a
        · subst hy; simp [alook, hp]
        · have hpy : ¬ p.1 = y := fun e => hy (e.symm.trans hp)
          have hay : ¬ a = y := fun e => hy e.symm
          rw [if_neg hy]
          simp only [alook, List.map_cons, hp, if_true, List.find?_cons, hay, decide_false]
          by_cases hin : a ∈ l.map (·.1)
          · have := ih hin; rw [if_neg hy] at this; simpa [alook, hp, hay] using this
          · have e : (l.map fun p => if p.1 = a then (a, v) else p) = l := by
              conv => rhs; rw [← List.map_id l]
              apply List.map_congr_left
              intro q hq
              have : q.1 ≠ a := fun e => hin (List.mem_map.2 ⟨q, hq, e⟩)
              simp [this]
            rw [e]
      · have hin : a ∈ l.map (·.1) := by
          rcases List.mem_cons.1 h with e | h
          · exact absurd e.symm hp
          · exact h
        have := ih hin
        by_cases hpy : p.1 = y
        · have hy : ¬ y = a := fun e => hp (hpy.trans e)
          simp [alook, hpy, hy]
        · simp only [alook, List.map_cons, hp, if_false, List.find?_cons, hpy, decide_false] at this ⊢
          exact this
  · rename_i h
    by_cases hy : y = a
    · subst hy
      have hn : l.find? (fun p => decide (p.1 = y)) = none := by
        rw [List.find?_eq_none]
        intro q hq
        have : q.1 ≠ y := fun e => h (List.mem_map.2 ⟨q, hq, e⟩)
        simpa using this
      simp [alook, List.find?_append, hn]
    · have hay : ¬ a = y := fun e => hy e.symm
      rw [if_neg hy]
      simp [alook, List.find?_append, hay]
theorem alook_adel {β : Type} {l : List (Int × β)} (a : Int) (y : Int) : alook (adel l a) y = if y = a then none else alook l y := by
  unfold adel
  induction l with
  | nil => simp [alook]
  | cons p l ih =>
    by_cases hp : p.1 = a
    · rw [List.filter_cons_of_neg (by simp [hp]), ih]
      by_cases hy : y = a
      · simp [hy]
      · have hpy : ¬ p.1 = y := fun e => hy (e.symm.trans hp)
        rw [if_neg hy, if_neg hy]
        simp [alook, hpy]
    · rw [List.filter_cons_of_pos (by simp [hp])]
      by_cases hpy : p.1 = y
      · have hy : ¬ y = a := fun e => hp (hpy.trans e)
        simp [alook, hpy, hy]
      · simp only [alook, List.find?_cons, hpy, decide_false] at ih ⊢
        exact ih
theorem keys_aput {β : Type} {l : List (Int × β)} {a : Int} {v : β} (h : (l.map (·.1)).Nodup) : ((aput l a v).map (·.1)).Nodup := by
  unfold aput
  split
  · have e : ((l.map fun p => if p.1 = a then (a, v) else p).map (·.1)) = l.map (·.1) := by
      rw [List.map_map]
      apply List.map_congr_left
      intro q _
      by_cases hq : q.1 = a <;> simp [hq]
    rw [e]; exact h
  · rename_i hn
    rw [List.map_append, List.nodup_append]
    refine ⟨h, by simp, ?_⟩
    intro x hx y hy e
    simp at hy
    subst hy
    exact hn (e ▸ hx)
theorem keys_adel {β : Type} {l : List (Int × β)} {a : Int} (h : (l.map (·.1)).Nodup) : ((adel l a).map (·.1)).Nodup :=
  h.sublist ((List.filter_sublist).map _)
theorem alook_some_of_mem {β : Type} {l : List (Int × β)} (hn : (l.map (·.1)).Nodup) {p : Int × β} (hp : p ∈ l) : alook l p.1 = some p.2 := by
  induction l with
  | nil => cases hp
  | cons q l ih =>
    rw [List.map_cons, List.nodup_cons] at hn
    rcases List.mem_cons.1 hp with rfl | hp
    · simp [alook]
    · have hne : ¬ q.1 = p.1 := fun e => hn.1 (e ▸ List.mem_map.2 ⟨p, hp, rfl⟩)
      have := ih hn.2 hp
      simp only [alook, List.find?_cons, hne, decide_false] at this ⊢
      exact this
theorem alook_key {β : Type} {l : List (Int × β)} {a : Int} {v : β} (h : alook l a = some v) : a ∈ l.map (·.1) := List.mem_map.2 ⟨_, alook_mem h, rfl⟩

/-- What a call that is known may be. -/
def CallM.fine (c : CallM) (y ch : Int) : Prop := c.lead = y ∧ c.ms.length ≤ 1000000 ∧ 0 ≤ c.step ∧ c.step ≤ ch ∧ 1 ≤ c.st ∧ c.st ≤ 4
/-- How a dependency may stand; but for the calls of E. -/
structure DInv (M : DepM) (E : Int → Prop) : Prop where
  nd : (M.calls.map (·.1)).Nodup
  ld : ∀ y c, alook M.calls y = some c → c.fine y M.k.ch
  bn : (M.run ++ M.wait).Nodup
  rk : ∀ y ∈ M.run, ¬ E y → ∃ c, alook M.calls y = some c ∧ c.st ≠ 1
  wk : ∀ y ∈ M.wait, ¬ E y → ∃ c, alook M.calls y = some c ∧ c.st = 1
  fs : ∀ q ∈ M.falls, 1 ≤ q.2 ∧ q.2 ≤ M.k.ch
  fk : ∀ q ∈ M.falls, ¬ E q.1 → ∃ c, alook M.calls q.1 = some c
  w1 : ∀ y c, alook M.calls y = some c → c.st = 1 → ¬ E y → y ∈ M.wait
def NoOne : Int → Prop := fun _ => False

theorem DInv.ok {M : DepM} {E : Int → Prop} (h : DInv M E) (hch : M.k.ch ≤ 3) : M.ok := by
  intro p hp
  have := h.ld p.1 p.2 (alook_some_of_mem h.nd hp)
  exact ⟨this.2.1, this.2.2.1, Int.le_trans this.2.2.2.1 hch⟩
theorem DInv.mono {M : DepM} {E E' : Int → Prop} (h : DInv M E) (k : ∀ y, E y → E' y) : DInv M E' :=
  ⟨h.nd, h.ld, h.bn, fun y hy hn => h.rk y hy fun e => hn (k y e), fun y hy hn => h.wk y hy fun e => hn (k y e), h.fs, fun q hq hn => h.fk q hq fun e => hn (k _ e), fun y c h1 h2 hn => h.w1 y c h1 h2 fun e => hn (k y e)⟩
/-- The breaker, the windows and the probe play no part. -/
theorem DInv.other {M : DepM} {E : Int → Prop} (h : DInv M E) (br : Brk) (w t : WinM) (p : Int) : DInv { M with br := br, win := w, took := t, probe := p } E :=
  ⟨h.nd, h.ld, h.bn, h.rk, h.wk, h.fs, h.fk, h.w1⟩
theorem DepM.count_eq (M : DepM) (now : Nat) (id : Int) (kind : Nat) : ∃ br w p, M.count now id kind = { M with br := br, win := w, probe := p } := by
  unfold DepM.count
  repeat' split
  all_goals exact ⟨_, _, _, rfl⟩
theorem DInv.count {M : DepM} {E : Int → Prop} (h : DInv M E) (now : Nat) (id : Int) (kind : Nat) : DInv (M.count now id kind) E := by
  obtain ⟨br, w, p, e⟩ := M.count_eq now id kind
  rw [e]; exact h.other br w M.took p
theorem DepM.keep_eq (M : DepM) (c : CallM) : ∃ cs, M.keep c = { M with calls := cs } ∧ (∀ y, alook cs y = if y = c.lead then (if c.st = 4 ∧ M.holds c.lead = false then none else some c) else alook M.calls y) ∧ ((M.calls.map (·.1)).Nodup → (cs.map (·.1)).Nodup) := by
  by_cases hd : c.st = 4 ∧ M.holds c.lead = false
  · refine ⟨_, DepM.keep_del hd.1 hd.2, fun y => ?_, fun h => keys_adel (keys_aput h)⟩
    rw [alook_adel, alook_aput, if_pos hd]
    by_cases hy : y = c.lead <;> simp [hy]
  · refine ⟨_, DepM.keep_put hd, fun y => ?_, fun h => keys_aput h⟩
    rw [alook_aput, if_neg hd]
theorem DepM.holds_false {M : DepM} {id : Int} (h : M.holds id = false) : id ∉ M.run ∧ ∀ s, 1 ≤ s → s ≤ M.k.ch → (id, s) ∉ M.falls := by
  unfold DepM.holds at h
  rw [Bool.or_eq_false_iff] at h
  refine ⟨by simpa using h.2, fun s h1 h2 hm => ?_⟩
  have := h.1
  rw [List.any_eq_false] at this
  refine this (s - 1).toNat (List.mem_range.2 (by omega)) ?_
  rw [show (((s - 1).toNat : Nat) : Int) + 1 = s by omega]
  simpa using hm
/-- A call is kept: it is as it may be. -/
theorem DInv.keep {M : DepM} {E E' : Int → Prop} (h : DInv M E) {c : CallM} (hc : c.fine c.lead M.k.ch) (hE : ∀ y, E y → y = c.lead ∨ E' y)
    (hr : c.lead ∈ M.run → ¬ E' c.lead → c.st ≠ 1) (hw : c.lead ∈ M.wait → ¬ E' c.lead → c.st = 1) (hw2 : c.st = 1 → ¬ E' c.lead → c.lead ∈ M.wait) : DInv (M.keep c) E' := by
  obtain ⟨cs, e, hl, hn⟩ := M.keep_eq c
  rw [e]
  refine ⟨hn h.nd, fun y d hy => ?_, h.bn, fun y hy hne => ?_, fun y hy hne => ?_, h.fs, fun q hq hne => ?_, fun y d hy h1 hne => ?_⟩
  · replace hy : alook cs y = some d := hy
    rw [hl] at hy
    split at hy
    · rename_i e; subst e
      split at hy
      · cases hy
      · cases hy; exact hc
    · exact h.ld y d hy
  · replace hy : y ∈ M.run := hy
    show ∃ c, alook cs y = some c ∧ _
    rw [hl]
    by_cases e : y = c.lead
    · subst e
      rw [if_pos rfl]
      by_cases hd : c.st = 4 ∧ M.holds c.lead = false
      · exact absurd hy (DepM.holds_false hd.2).1
      · rw [if_neg hd]; exact ⟨c, rfl, hr hy hne⟩
    · rw [if_neg e]
      exact h.rk y hy fun he => (hE y he).elim e hne
  · replace hy : y ∈ M.wait := hy
    show ∃ c, alook cs y = some c ∧ _
    rw [hl]
    by_cases e : y = c.lead
    · subst e
      rw [if_pos rfl]
      have h1 := hw hy hne
      rw [if_neg (fun hd => by have := hd.1; omega)]
      exact ⟨c, rfl, h1⟩
    · rw [if_neg e]
      exact h.wk y hy fun he => (hE y he).elim e hne
  · replace hq : q ∈ M.falls := hq
    show ∃ c, alook cs q.1 = some c
    rw [hl]
    by_cases e : q.1 = c.lead
    · rw [if_pos e]
      by_cases hd : c.st = 4 ∧ M.holds c.lead = false
      · exact absurd hq (by have := (DepM.holds_false hd.2).2 q.2 (h.fs q hq).1 (h.fs q hq).2; rwa [← e] at this)
      · rw [if_neg hd]; exact ⟨c, rfl⟩
    · rw [if_neg e]
      exact h.fk q hq fun he => (hE _ he).elim e hne
  · replace hy : alook cs y = some d := hy
    show y ∈ M.wait
    rw [hl] at hy
    split at hy
    · rename_i e; subst e
      split at hy
      · cases hy
      · cases hy; exact hw2 h1 hne
    · rename_i e
      exact h.w1 y d hy h1 fun he => (hE y he).elim e hne
/-- A step of a call that falls. -/
theorem fallN_spec {fs : List (Int × Int)} {fb : Nat} {chain cause id : Int} : ∀ (n : Nat) (c : CallM), 1 ≤ c.st → c.st ≤ 3 → 0 ≤ c.step → c.step ≤ chain → (chain - c.step).toNat < n → ∀ r, CallM.fallN fs fb chain cause id n c = r →
    r.1.nargs = c.nargs ∧ r.1.ms = c.ms ∧ r.1.start = c.start ∧ c.step ≤ r.1.step ∧ r.1.step ≤ chain ∧ (r.2 = true → r.1.st = 3 ∧ 1 ≤ r.1.step ∧ ¬ blockd fs fb id r.1.step) ∧ (r.2 = false → r.1.st = 4) := by
  intro n
  induction n with
  | zero => intro c _ _ _ _ h; omega
  | succ n ih =>
    intro c h1 h2 h3 h4 h5 r hr
    rw [CallM.fallN_succ] at hr
    have hst : 1 ≤ c.st ∧ c.st ≤ 3 := ⟨h1, h2⟩
    by_cases hch : chain ≤ c.step
    · have e : c.fail cause chain = ({ c with cause := if c.st = 3 then c.cause else cause, st := 4 }, false) := by
        unfold CallM.fail; rw [if_pos hst, if_pos hch]
      rw [e, if_neg (by simp)] at hr
      subst hr
      exact ⟨rfl, rfl, rfl, Int.le_refl _, h4, fun h => by simp at h, fun _ => rfl⟩
    · have e : c.fail cause chain = ({ c with cause := if c.st = 3 then c.cause else cause, st := 3, step := c.step + 1 }, true) := by
        unfold CallM.fail; rw [if_pos hst, if_neg hch]
      rw [e] at hr
      by_cases hb : blockd fs fb id (c.step + 1)
      · rw [if_pos ⟨rfl, hb⟩] at hr
        obtain ⟨a1, a2, a3, a4, a5, a6, a7⟩ := ih _ (show (1 : Int) ≤ 3 by decide) (show (3 : Int) ≤ 3 by decide) (show 0 ≤ c.step + 1 by omega) (show c.step + 1 ≤ chain by omega) (show (chain - (c.step + 1)).toNat < n by omega) r hr
        have a4 : c.step + 1 ≤ r.1.step := a4
        exact ⟨a1, a2, a3, by omega, a5, a6, a7⟩
      · rw [if_neg (fun h => hb h.2)] at hr
        subst hr
        exact ⟨rfl, rfl, rfl, show c.step ≤ c.step + 1 by omega, show c.step + 1 ≤ chain by omega, fun _ => ⟨rfl, show 1 ≤ c.step + 1 by omega, hb⟩, fun h => by simp at h⟩
/-- What comes of a call that falls: its stand, whether it goes on. -/
structure Fell (M : DepM) (c c' : CallM) (go : Bool) : Prop where
  na : c'.nargs = c.nargs
  ms : c'.ms = c.ms
  start : c'.start = c.start
  lo : c.step ≤ c'.step
  hi : c'.step ≤ M.k.ch
  yes : go = true → c'.st = 3 ∧ 1 ≤ c'.step ∧ ¬ blockd M.falls M.k.fb.toNat c.lead c'.step
  no : go = false → c'.st = 4
theorem DS.fall_cases (σ : DS) (now : Nat) {c : CallM} (cause : Int) (h1 : 1 ≤ c.st) (h2 : c.st ≤ 3) (h3 : 0 ≤ c.step) (h4 : c.step ≤ σ.M.k.ch) (h5 : σ.M.k.ch ≤ 3) :
    ∃ c' go, Fell σ.M c c' go ∧ (go = true → σ.fall now c cause = { M := ({ σ.M with falls := σ.M.falls ++ [(c.lead, c'.step)] } : DepM).keep c', ac := σ.ac ++ [⟨true, c.lead, sadd now σ.M.k.ft.toNat⟩], ou := σ.ou })
      ∧ (go = false → σ.fall now c cause = { M := σ.M.keep c', ac := σ.ac, ou := σ.ou ++ c'.outs 4 [] now }) := by
  have := fallN_spec (fs := σ.M.falls) (fb := σ.M.k.fb.toNat) (chain := σ.M.k.ch) (cause := cause) (id := c.lead) 5 c h1 h2 h3 h4 (by omega) _ rfl
  generalize hr : CallM.fallN σ.M.falls σ.M.k.fb.toNat σ.M.k.ch cause c.lead 5 c = r at this
  obtain ⟨c', go⟩ := r
  obtain ⟨a1, a2, a3, a4, a5, a6, a7⟩ := this
  refine ⟨c', go, ⟨a1, a2, a3, a4, a5, a6, a7⟩, fun e => ?_, fun e => ?_⟩
  · subst e; exact DS.fall_yes hr
  · subst e; exact DS.fall_no hr
/-- A call falls: the rest stays as it may be. -/
theorem DInv.fall {σ : DS} {i : Int} (h : DInv σ.M fun y => y = i) {c : CallM} (hi : c.lead = i) (hm : c.ms.length ≤ 1000000) (h1 : 1 ≤ c.st) (h2 : c.st ≤ 3) (h3 : 0 ≤ c.step) (h4 : c.step ≤ σ.M.k.ch) (h5 : σ.M.k.ch ≤ 3) (hw : i ∉ σ.M.wait) (now : Nat) (cause : Int) :
    DInv (σ.fall now c cause).M NoOne := by
  obtain ⟨c', go, F, e1, e2⟩ := σ.fall_cases now cause h1 h2 h3 h4 h5
  have hl : c'.lead = i := by rw [CallM.lead, F.ms, ← hi]; rfl
  have lo := F.lo
  have hi' := F.hi
  cases go with
  | true =>
    obtain ⟨s3, s1, nb⟩ := F.yes rfl
    rw [e1 rfl]
    refine DInv.keep (M := { σ.M with falls := σ.M.falls ++ [(c.lead, c'.step)] }) (E := fun y => y = i) ⟨h.nd, h.ld, h.bn, h.rk, h.wk, ?_, ?_, h.w1⟩ ⟨rfl, by rw [F.ms]; exact hm, by omega, by omega, by omega, by omega⟩ (fun y e => .inl (e.trans hl.symm)) (fun _ _ => by omega) (fun hx _ => by rw [hl] at hx; exact absurd hx hw) (fun e => by omega)
    · intro q hq
      rcases List.mem_append.1 hq with hq | hq
      · exact h.fs q hq
      · simp at hq; subst hq; exact ⟨s1, hi'⟩
    · intro q hq hne
      rcases List.mem_append.1 hq with hq | hq
      · exact h.fk q hq hne
      · simp at hq; subst hq; exact absurd hi hne
  | false =>
    have s4 := F.no rfl
    rw [e2 rfl]
    exact DInv.keep h ⟨rfl, by rw [F.ms]; exact hm, by omega, by omega, by omega, by omega⟩ (fun y e => .inl (e.trans hl.symm)) (fun _ _ => by omega) (fun hx _ => by rw [hl] at hx; exact absurd hx hw) (fun e => by omega)
/-- What is known, as the map tells it. -/
theorem DepM.knows_call {M : DepM} {id : Int} (h : M.knows id = true) : alook M.calls id = some (M.call id) := by
  unfold DepM.knows at h
  unfold DepM.call
  cases hl : alook M.calls id with
  | none => rw [hl] at h; cases h
  | some c => rfl
theorem DepM.call_of {M : DepM} {id : Int} {c : CallM} (h : alook M.calls id = some c) : M.call id = c ∧ M.knows id = true := by
  unfold DepM.call DepM.knows
  rw [h]; exact ⟨rfl, rfl⟩
/-- A call that waited runs. -/
theorem DInv.runOne {M : DepM} {E : Int → Prop} (h : DInv M E) {y : Int} {c : CallM} (hc : alook M.calls y = some c) (hst : c.st = 1) (hr : y ∈ M.run) {E' : Int → Prop} (hE : ∀ x, E x → x = y ∨ E' x) : DInv (M.keep (M.call y).run) E' := by
  obtain ⟨e1, -⟩ := DepM.call_of hc
  rw [e1]
  obtain ⟨n1, n2, n3, n4, n5, n6⟩ := c.run_same
  rw [if_pos hst] at n6
  have hl : c.run.lead = y := by rw [CallM.lead, n2]; exact (h.ld y c hc).1
  have hf := h.ld y c hc
  have hnw : y ∉ M.wait := fun hw => by
    have := h.bn
    rw [List.nodup_append] at this
    exact this.2.2 y hr y hw rfl
  exact h.keep ⟨rfl, by rw [n2]; exact hf.2.1, by rw [n3]; exact hf.2.2.1, by rw [n3]; exact hf.2.2.2.1, by omega, by omega⟩ (fun x hx => by rw [hl]; exact hE x hx) (fun _ _ => by omega) (fun hx _ => by rw [hl] at hx; exact absurd hx hnw) (fun e => by omega)
theorem nodup_move {a : List Int} {x : Int} {b : List Int} (h : (a ++ x :: b).Nodup) : ((a ++ [x]) ++ b).Nodup := by simpa using h
theorem nodup_add {a b : List Int} {x : Int} (h : (a ++ b).Nodup) (hx : x ∉ a) (hy : x ∉ b) : ((a ++ [x]) ++ b).Nodup := by
  rw [List.append_assoc]
  refine (List.Perm.nodup_iff (List.perm_middle (a := x) (l₁ := a) (l₂ := b))).2 ?_ |> fun k => by simpa using k
  exact List.nodup_cons.2 ⟨by simp [hx, hy], h⟩
theorem DInv.pick {M : DepM} (h : DInv M NoOne) : DInv M.pick.1 NoOne := by
  unfold DepM.pick
  split
  · split
    · exact h
    · rename_i x ws hw
      have hb := h.bn
      rw [hw] at hb
      obtain ⟨c, hc, hst⟩ := h.wk x (by rw [hw]; exact List.mem_cons_self ..) (fun e => e)
      have h1 : DInv { M with run := M.run ++ [x], wait := ws } (fun y => y = x) := by
        refine ⟨h.nd, h.ld, nodup_move hb, fun y hy hne => ?_, fun y hy hne => ?_, h.fs, fun q hq _ => h.fk q hq (fun e => e), fun y d hy h1 hne => ?_⟩
        · rcases List.mem_append.1 hy with hy | hy
          · exact h.rk y hy (fun e => e)
          · simp at hy; exact absurd hy hne
        · exact h.wk y (by rw [hw]; exact List.mem_cons_of_mem _ hy) (fun e => e)
        · have := h.w1 y d hy h1 (fun e => e)
          rw [hw] at this
          rcases List.mem_cons.1 this with e | this
          · exact absurd e hne
          · exact this
      exact h1.runOne hc hst (by simp) (fun y e => .inl e)
  · exact h
theorem mem_rem_ne {x y : Int} : ∀ {l : List Int}, y ∈ l → y ≠ x → y ∈ rem x l
  | z :: l, h, hne => by
    rw [rem]
    split
    · rename_i e
      rcases List.mem_cons.1 h with h | h
      · exact absurd (h.trans e) hne
      · exact h
    · rcases List.mem_cons.1 h with h | h
      · exact h ▸ List.mem_cons_self ..
      · exact List.mem_cons_of_mem _ (mem_rem_ne h hne)
theorem notin_rem {x : Int} {l : List Int} (h : l.Nodup) : x ∉ rem x l := by rw [rem_nodup h]; simp
/-- Who runs frees its worker. -/
theorem DInv.freed {M : DepM} (h : DInv M NoOne) (id : Int) : DInv { M with run := rem id M.run } (fun y => y = id) ∧ id ∉ rem id M.run := by
  have hb := h.bn
  rw [List.nodup_append] at hb
  refine ⟨⟨h.nd, h.ld, ?_, fun y hy _ => h.rk y ((rem_sub id _).subset hy) (fun e => e), fun y hy _ => h.wk y hy (fun e => e), h.fs, fun q hq _ => h.fk q hq (fun e => e), fun y d hy h1 _ => h.w1 y d hy h1 (fun e => e)⟩, notin_rem hb.1⟩
  exact h.bn.sublist ((rem_sub id _).append (List.Sublist.refl _))
theorem DInv.answer {M : DepM} (h : DInv M NoOne) (hch : M.k.ch ≤ 3) (now : Nat) (id : Int) (ok : Bool) (vals : List Int) : DInv (M.answer now id ok vals).1.M NoOne := by
  by_cases hin : id ∈ M.run
  · obtain ⟨c, hc, hst⟩ := h.rk id hin (fun e => e)
    obtain ⟨e1, -⟩ := DepM.call_of hc
    obtain ⟨h1, hnr⟩ := h.freed id
    have hf := h.ld id c hc
    have hnw : id ∉ M.wait := fun hw => by
      have := h.bn
      rw [List.nodup_append] at this
      exact this.2.2 id hin id hw rfl
    by_cases h2 : (M.call id).st = 2
    · have hc1 := h1.count now id 1
      by_cases h3 : ok = true ∧ vals.length = (M.call id).nargs
      · rw [DepM.answer_yes hin h2 h3]
        have h4 : (M.call id).fin = { M.call id with st := 4 } := if_pos (by omega)
        obtain ⟨br, w, p, ec⟩ := ({ M with run := rem id M.run } : DepM).count_eq now id 0
        simp only [ec]
        rw [h4, e1]
        refine (h1.other br w (M.took.add now (bitLen (now - c.start))) p).keep ⟨rfl, hf.2.1, hf.2.2.1, hf.2.2.2.1, show (1 : Int) ≤ 4 by decide, show (4 : Int) ≤ 4 by decide⟩ (fun y e => .inl (e.trans hf.1.symm)) (fun _ _ => show (4 : Int) ≠ 1 by decide) (fun hx _ => ?_) (fun e => by simp at e)
        exact absurd ((show c.lead = id from hf.1) ▸ hx) hnw
      · rw [DepM.answer_no hin h2 h3, e1]
        rw [e1] at h2
        obtain ⟨br, w, p, ec⟩ := ({ M with run := rem id M.run } : DepM).count_eq now id 1
        refine DInv.fall (i := id) hc1 hf.1 hf.2.1 (by omega) (by omega) hf.2.2.1 ?_ ?_ ?_ now 1
        · simp only [ec]; exact hf.2.2.2.1
        · simp only [ec]; exact hch
        · simp only [ec]; exact hnw
    · rw [DepM.answer_not hin h2, e1]
      refine h1.keep (by rw [hf.1]; exact hf) (fun y e => .inl (e.trans hf.1.symm)) (fun hx _ => hst) (fun hx _ => ?_) (fun e => absurd e hst)
      exact absurd (hf.1 ▸ hx) hnw
  · rw [DepM.answer_none hin]; exact h
theorem DInv.fallback {M : DepM} (h : DInv M NoOne) (hch : M.k.ch ≤ 3) (now : Nat) (id step : Int) (ok : Bool) (vals : List Int) : DInv (M.fallback now id step ok vals).1.M NoOne := by
  by_cases hin : (id, step) ∈ M.falls
  · obtain ⟨c, hc⟩ := h.fk _ hin (fun e => e)
    obtain ⟨e1, -⟩ := DepM.call_of hc
    have hf := h.ld id c hc
    have h1 : DInv (M.freed id step) (fun y => y = id) :=
      ⟨h.nd, h.ld, h.bn, fun y hy _ => h.rk y hy (fun e => e), fun y hy _ => h.wk y hy (fun e => e), fun q hq => h.fs q ((List.mem_filter.1 hq).1), fun q hq _ => h.fk q ((List.mem_filter.1 hq).1) (fun e => e), fun y d hy h1 _ => h.w1 y d hy h1 (fun e => e)⟩
    have hr : id ∈ M.run → c.st ≠ 1 := fun hx => by
      obtain ⟨d, hd, hs⟩ := h.rk id hx (fun e => e)
      rw [hc] at hd; cases hd; exact hs
    have hw : id ∈ M.wait → c.st = 1 := fun hx => by
      obtain ⟨d, hd, hs⟩ := h.wk id hx (fun e => e)
      rw [hc] at hd; cases hd; exact hs
    by_cases h2 : (M.call id).st = 3 ∧ (M.call id).step = step
    · have hs3 : c.st = 3 := by rw [← e1]; exact h2.1
      have hnw : id ∉ M.wait := fun hx => by have := hw hx; omega
      by_cases h3 : ok = true ∧ vals.length = (M.call id).nargs
      · rw [DepM.fallback_yes hin h2 h3]
        have h4 : (M.call id).fin = { M.call id with st := 4 } := if_pos (by omega)
        rw [h4, e1]
        refine h1.keep ⟨rfl, hf.2.1, hf.2.2.1, hf.2.2.2.1, show (1 : Int) ≤ 4 by decide, show (4 : Int) ≤ 4 by decide⟩ (fun y e => .inl (e.trans hf.1.symm)) (fun _ _ => show (4 : Int) ≠ 1 by decide) (fun hx _ => ?_) (fun e => by simp at e)
        exact absurd ((show c.lead = id from hf.1) ▸ hx) hnw
      · rw [DepM.fallback_no hin h2 h3, e1]
        exact DInv.fall (i := id) (σ := ⟨M.freed id step, [⟨false, id, 0⟩], []⟩) h1 hf.1 hf.2.1 (by omega) (by omega) hf.2.2.1 hf.2.2.2.1 hch hnw now _
    · rw [DepM.fallback_not hin h2, e1]
      exact h1.keep (by rw [hf.1]; exact hf) (fun y e => .inl (e.trans hf.1.symm)) (fun hx _ => hr (hf.1 ▸ hx)) (fun hx _ => hw (hf.1 ▸ hx)) (fun e _ => by rw [hf.1]; exact h.w1 id c hc e (fun e => e))
  · rw [DepM.fallback_none hin]; exact h
theorem DInv.weak {M : DepM} (h : DInv M NoOne) (E : Int → Prop) : DInv M E := h.mono fun _ e => e.elim
theorem DInv.late {M : DepM} (h : DInv M NoOne) (hch : M.k.ch ≤ 3) (now : Nat) (id : Int) : DInv (M.late now id).M NoOne := by
  cases hk : M.knows id with
  | false => rw [DepM.late_none hk]; exact h
  | true =>
    have hc := DepM.knows_call hk
    generalize hcc : M.call id = c at hc
    have hf := h.ld id c hc
    have hr : id ∈ M.run → c.st ≠ 1 := fun hx => by
      obtain ⟨d, hd, hs⟩ := h.rk id hx (fun e => e)
      rw [hc] at hd; cases hd; exact hs
    have hw : id ∈ M.wait → c.st = 1 := fun hx => by
      obtain ⟨d, hd, hs⟩ := h.wk id hx (fun e => e)
      rw [hc] at hd; cases hd; exact hs
    have hf5 := hf.2.2.2.2.1
    have hf6 := hf.2.2.2.2.2
    by_cases e1 : c.st = 1
    · rw [DepM.late_waits hk (by rw [hcc]; exact e1), hcc]
      have hb := h.bn
      rw [List.nodup_append] at hb
      have h1 : DInv { M with wait := rem id M.wait } (fun y => y = id) := by
        refine ⟨h.nd, h.ld, h.bn.sublist ((List.Sublist.refl _).append (rem_sub id _)), fun y hy _ => h.rk y hy (fun e => e), fun y hy _ => h.wk y ((rem_sub id _).subset hy) (fun e => e), h.fs, fun q hq _ => h.fk q hq (fun e => e), fun y d hy h1 hne => ?_⟩
        exact mem_rem_ne (h.w1 y d hy h1 (fun e => e)) hne
      obtain ⟨br, w, p, ec⟩ := ({ M with wait := rem id M.wait } : DepM).count_eq now id 2
      refine DInv.fall (i := id) (h1.count now id 2) hf.1 hf.2.1 (by omega) (by omega) hf.2.2.1 ?_ ?_ ?_ now 2
      · simp only [ec]; exact hf.2.2.2.1
      · simp only [ec]; exact hch
      · simp only [ec]; exact notin_rem hb.2.1
    · have hnw : id ∉ M.wait := fun hx => e1 (hw hx)
      by_cases e2 : c.st = 2
      · rw [DepM.late_runs hk (by rw [hcc]; exact e2), hcc]
        obtain ⟨br, w, p, ec⟩ := M.count_eq now id 2
        refine DInv.fall (i := id) ((h.weak _).count now id 2) hf.1 hf.2.1 (by omega) (by omega) hf.2.2.1 ?_ ?_ ?_ now 2
        · simp only [ec]; exact hf.2.2.2.1
        · simp only [ec]; exact hch
        · simp only [ec]; exact hnw
      · by_cases e4 : c.st = 4
        · rw [DepM.late_over (by rw [hcc]; exact e4)]; exact h
        · rw [DepM.late_falls hk (by rw [hcc]; exact e1) (by rw [hcc]; exact e2) (by rw [hcc]; exact e4), hcc]
          exact DInv.fall (σ := ⟨M, [], []⟩) (i := id) (h.weak _) hf.1 hf.2.1 (by omega) (by omega) hf.2.2.1 hf.2.2.2.1 hch hnw now 2
theorem admit_new {m q : Nat} {hs ws : List Int} {x : Int} (hx : x ∉ hs) (hy : x ∉ ws) :
    admitM m q hs ws x = (hs ++ [x], ws, 1, []) ∨ admitM m q hs ws x = (hs, ws ++ [x], 2, []) ∨ (∃ y t, ws = y :: t ∧ admitM m q hs ws x = (hs ++ [y], t ++ [x], 2, [y])) ∨ admitM m q hs ws x = (hs, ws, 3, []) := by
  unfold admitM
  rw [if_neg (by simp [hx, hy])]
  split
  · exact .inl rfl
  · split
    · exact .inr (.inl rfl)
    · split
      · rename_i h
        match ws, h.2 with
        | y :: t, _ => exact .inr (.inr (.inl ⟨y, t, rfl, rfl⟩))
      · exact .inr (.inr (.inr rfl))
theorem DepM.runs_nil (M : DepM) : M.runs [] = M := rfl
theorem DepM.runs_one (M : DepM) (x : Int) : M.runs [x] = M.keep (M.call x).run := rfl
theorem DepM.keep_run (M : DepM) (c : CallM) : (M.keep c).run = M.run ∧ (M.keep c).wait = M.wait ∧ (M.keep c).falls = M.falls ∧ (M.keep c).br = M.br ∧ (M.keep c).win = M.win ∧ (M.keep c).took = M.took ∧ (M.keep c).probe = M.probe := by
  obtain ⟨cs, e, -⟩ := M.keep_eq c
  rw [e]; exact ⟨rfl, rfl, rfl, rfl, rfl, rfl, rfl⟩
/-- A call that comes in, and runs or waits. -/
theorem DInv.come {M : DepM} (h : DInv M NoOne) (hch : 0 ≤ M.k.ch) {id : Int} (hk : M.knows id = false) {c : CallM} (hl : c.lead = id) (hm : c.ms.length ≤ 1000000) (hs : c.st = 1) (hstep : c.step = 0) (br : Brk) (p : Int) :
    (DInv ((({ M with br := br, run := M.run ++ [id], probe := p } : DepM).keep c).runs [id]) NoOne) ∧ (DInv (({ M with br := br, wait := M.wait ++ [id], probe := p } : DepM).keep c) NoOne)
      ∧ (∀ y t, M.wait = y :: t → DInv ((({ M with br := br, run := M.run ++ [y], wait := t ++ [id], probe := p } : DepM).keep c).runs [y]) NoOne) := by
  have hnone : alook M.calls id = none := by
    unfold DepM.knows at hk
    cases e : alook M.calls id with
    | none => rfl
    | some c => rw [e] at hk; cases hk
  have hnr : id ∉ M.run := fun hx => by
    obtain ⟨d, hd, -⟩ := h.rk id hx (fun e => e)
    rw [hnone] at hd; cases hd
  have hnw : id ∉ M.wait := fun hx => by
    obtain ⟨d, hd, -⟩ := h.wk id hx (fun e => e)
    rw [hnone] at hd; cases hd
  have hf : c.fine c.lead M.k.ch := ⟨rfl, hm, by omega, by omega, by omega, by omega⟩
  have hb := nodup_add h.bn hnr hnw
  refine ⟨?_, ?_, ?_⟩
  · have h1 : DInv { M with br := br, run := M.run ++ [id], probe := p } (fun y => y = id) := by
      refine ⟨h.nd, h.ld, hb, fun y hy hne => ?_, fun y hy _ => h.wk y hy (fun e => e), h.fs, fun q hq _ => h.fk q hq (fun e => e), fun y d hy h1 _ => h.w1 y d hy h1 (fun e => e)⟩
      rcases List.mem_append.1 hy with hy | hy
      · exact h.rk y hy (fun e => e)
      · simp at hy; exact absurd hy hne
    have h2 : DInv (({ M with br := br, run := M.run ++ [id], probe := p } : DepM).keep c) (fun y => y = id) :=
      h1.keep hf (fun y e => .inr e) (fun _ hne => absurd hl hne) (fun _ hne => absurd hl hne) (fun _ hne => absurd hl hne)
    rw [DepM.runs_one]
    obtain ⟨cs, e, hlk, -⟩ := ({ M with br := br, run := M.run ++ [id], probe := p } : DepM).keep_eq c
    refine h2.runOne (c := c) ?_ hs ?_ (fun y e => .inl e)
    · rw [e]; show alook cs id = _
      rw [hlk, if_pos hl.symm, if_neg (fun hd => by have := hd.1; omega)]
    · rw [e]; simp
  · have h1 : DInv { M with br := br, wait := M.wait ++ [id], probe := p } (fun y => y = id) := by
      refine ⟨h.nd, h.ld, ?_, fun y hy _ => h.rk y hy (fun e => e), fun y hy hne => ?_, h.fs, fun q hq _ => h.fk q hq (fun e => e), fun y d hy h1 _ => List.mem_append_left _ (h.w1 y d hy h1 (fun e => e))⟩
      · rw [← List.append_assoc]
        refine List.nodup_append.2 ⟨h.bn, by simp, fun a ha b hb e => ?_⟩
        simp at hb; subst hb; subst e
        rcases List.mem_append.1 ha with ha | ha
        · exact hnr ha
        · exact hnw ha
      · rcases List.mem_append.1 hy with hy | hy
        · exact h.wk y hy (fun e => e)
        · simp at hy; exact absurd hy hne
    exact h1.keep hf (fun y e => .inl (e.trans hl.symm)) (fun hx _ => by rw [hl] at hx; exact absurd hx hnr) (fun _ _ => hs) (fun _ _ => by rw [hl]; simp)
  · intro y t hw
    have hyw : y ∈ M.wait := by rw [hw]; exact List.mem_cons_self ..
    obtain ⟨d, hd, hds⟩ := h.wk y hyw (fun e => e)
    have hyi : y ≠ id := fun e => hnw (e ▸ hyw)
    have hbw := h.bn
    rw [hw] at hbw
    have h1 : DInv { M with br := br, run := M.run ++ [y], wait := t ++ [id], probe := p } (fun z => z = id ∨ z = y) := by
      refine ⟨h.nd, h.ld, ?_, fun z hz hne => ?_, fun z hz hne => ?_, h.fs, fun q hq _ => h.fk q hq (fun e => e), fun z d hz h1 hne => ?_⟩
      · rw [← List.append_assoc]
        refine List.nodup_append.2 ⟨nodup_move hbw, by simp, fun a ha b hb e => ?_⟩
        simp at hb; subst hb; subst e
        rw [List.append_assoc] at ha
        rcases List.mem_append.1 ha with ha | ha
        · exact hnr ha
        · exact hnw (by rw [hw]; simpa using ha)
      · rcases List.mem_append.1 hz with hz | hz
        · exact h.rk z hz (fun e => e)
        · simp at hz; exact absurd (.inr hz) hne
      · rcases List.mem_append.1 hz with hz | hz
        · exact h.wk z (by rw [hw]; exact List.mem_cons_of_mem _ hz) (fun e => e)
        · simp at hz; exact absurd (.inl hz) hne
      · have := h.w1 z d hz h1 (fun e => e)
        rw [hw] at this
        rcases List.mem_cons.1 this with e | this
        · exact absurd (.inr e) hne
        · exact List.mem_append_left _ this
    have h2 : DInv (({ M with br := br, run := M.run ++ [y], wait := t ++ [id], probe := p } : DepM).keep c) (fun z => z = y) := by
      refine h1.keep hf (fun z e => e.imp (fun e => e.trans hl.symm) (fun e => e)) (fun hx hne => ?_) (fun _ _ => hs) (fun _ _ => by rw [hl]; simp)
      rw [hl] at hx
      rcases List.mem_append.1 hx with hx | hx
      · exact absurd hx hnr
      · simp at hx; exact absurd hx.symm hyi
    rw [DepM.runs_one]
    obtain ⟨cs, e, hlk, -⟩ := ({ M with br := br, run := M.run ++ [y], wait := t ++ [id], probe := p } : DepM).keep_eq c
    refine h2.runOne (c := d) ?_ hds ?_ (fun y e => .inl e)
    · rw [e]; show alook cs y = _
      rw [hlk, if_neg (by rw [hl]; exact hyi)]
      exact hd
    · rw [e]; simp
/-- Each way in which an offer may go. -/
inductive OfferWay (M : DepM) (now : Nat) (id : Int) (c : CallM) : DS → Prop
  | short (h : (M.br.ask now).2 = 3) : OfferWay M now id c ((⟨{ M with br := (M.br.ask now).1, win := M.win.add now 4 }, [], []⟩ : DS).fall now c 4)
  | rej (br : Brk) (h : (M.br.ask now).2 = 1 ∧ br = (M.br.ask now).1 ∨ (M.br.ask now).2 = 2 ∧ br = (M.br.ask now).1.back) : OfferWay M now id c ((⟨({ M with br := br } : DepM).count now id 3, [], []⟩ : DS).fall now c 3)
  | runs (p : Int) (h : (M.br.ask now).2 = 1 ∧ p = M.probe ∨ (M.br.ask now).2 = 2 ∧ p = id) (hm : M.run.length < M.pool) : OfferWay M now id c ⟨(({ M with br := (M.br.ask now).1, run := M.run ++ [id], probe := p } : DepM).keep c).runs [id], [⟨true, id, sadd now M.k.t.toNat⟩], []⟩
  | waits (p : Int) (h : (M.br.ask now).2 = 1 ∧ p = M.probe ∨ (M.br.ask now).2 = 2 ∧ p = id) (hm : M.wait.length < M.que) : OfferWay M now id c ⟨({ M with br := (M.br.ask now).1, wait := M.wait ++ [id], probe := p } : DepM).keep c, [⟨true, id, sadd now M.k.t.toNat⟩], []⟩
  | turn (p : Int) (y : Int) (t : List Int) (hw : M.wait = y :: t) (h : (M.br.ask now).2 = 1 ∧ p = M.probe ∨ (M.br.ask now).2 = 2 ∧ p = id) : OfferWay M now id c ⟨(({ M with br := (M.br.ask now).1, run := M.run ++ [y], wait := t ++ [id], probe := p } : DepM).keep c).runs [y], [⟨true, id, sadd now M.k.t.toNat⟩], []⟩
theorem admit_runs_lt {m q : Nat} {hs ws : List Int} {x : Int} {a : List Int × List Int} {ids : List Int} (h : admitM m q hs ws x = (a.1, a.2, 1, ids)) : hs.length < m := by
  unfold admitM at h
  split at h
  · simp at h
  · split at h
    · rename_i h1; exact h1.1
    · split at h
      · simp at h
      · split at h <;> simp at h
theorem admit_waits_lt {m q : Nat} {hs ws : List Int} {x : Int} {ids : List Int} (h : admitM m q hs ws x = (hs, ws ++ [x], 2, ids)) : ws.length < q := by
  unfold admitM at h
  split at h
  · simp at h
  · split at h
    · simp at h
    · split at h
      · rename_i h1; exact h1
      · split at h
        · simp at h
        · simp at h
theorem offer_way {M : DepM} (h : DInv M NoOne) (now : Nat) {id : Int} (hk : M.knows id = false) (c : CallM) : OfferWay M now id c (DS.offer ⟨M, [], []⟩ now id c) := by
  have hnone : alook M.calls id = none := by
    unfold DepM.knows at hk
    cases e : alook M.calls id with
    | none => rfl
    | some c => rw [e] at hk; cases hk
  have hnr : id ∉ M.run := fun hx => by
    obtain ⟨d, hd, -⟩ := h.rk id hx (fun e => e)
    rw [hnone] at hd; cases hd
  have hnw : id ∉ M.wait := fun hx => by
    obtain ⟨d, hd, -⟩ := h.wk id hx (fun e => e)
    rw [hnone] at hd; cases hd
  have W1 := OfferWay.short (M := M) (now := now) (id := id) (c := c)
  have W2 := OfferWay.rej (M := M) (now := now) (id := id) (c := c)
  have W3 := OfferWay.runs (M := M) (now := now) (id := id) (c := c)
  have W4 := OfferWay.waits (M := M) (now := now) (id := id) (c := c)
  have W5 := OfferWay.turn (M := M) (now := now) (id := id) (c := c)
  have told := M.br.ask_told now
  generalize hr : M.br.ask now = r at W1 W2 W3 W4 W5 told
  obtain ⟨b1, t⟩ := r
  simp only at W1 W2 W3 W4 W5 told
  rcases told with rfl | rfl | rfl
  · rcases admit_new (m := M.pool) (q := M.que) hnr hnw with e | e | ⟨y, ws, hw, e⟩ | e
    · rw [DS.offer_in11 (σ := ⟨M, [], []⟩) hr e]; exact W3 _ (.inl ⟨rfl, rfl⟩) (admit_runs_lt (a := (_, _)) e)
    · rw [DS.offer_in12 (σ := ⟨M, [], []⟩) hr e]; exact W4 _ (.inl ⟨rfl, rfl⟩) (admit_waits_lt e)
    · rw [DS.offer_in12 (σ := ⟨M, [], []⟩) hr e]; exact W5 _ y ws hw (.inl ⟨rfl, rfl⟩)
    · rw [DS.offer_rej1 (σ := ⟨M, [], []⟩) hr e]; exact W2 b1 (.inl ⟨rfl, rfl⟩)
  · rcases admit_new (m := M.pool) (q := M.que) hnr hnw with e | e | ⟨y, ws, hw, e⟩ | e
    · rw [DS.offer_in21 (σ := ⟨M, [], []⟩) hr e]; exact W3 _ (.inr ⟨rfl, rfl⟩) (admit_runs_lt (a := (_, _)) e)
    · rw [DS.offer_in22 (σ := ⟨M, [], []⟩) hr e]; exact W4 _ (.inr ⟨rfl, rfl⟩) (admit_waits_lt e)
    · rw [DS.offer_in22 (σ := ⟨M, [], []⟩) hr e]; exact W5 _ y ws hw (.inr ⟨rfl, rfl⟩)
    · rw [DS.offer_rej2 (σ := ⟨M, [], []⟩) hr e]; exact W2 b1.back (.inr ⟨rfl, rfl⟩)
  · rw [DS.offer_short (σ := ⟨M, [], []⟩) hr]; exact W1 rfl
theorem DInv.offer {M : DepM} (h : DInv M NoOne) (hch : 0 ≤ M.k.ch ∧ M.k.ch ≤ 3) (now nargs : Nat) {ms : List (Int × Int)} (hm : ms.length ≤ 1000000) : DInv (M.offer now nargs ms).1.M NoOne := by
  unfold DepM.offer
  split
  · exact h
  · split
    · exact h
    · rename_i hk
      have hk : M.knows (leadOf ms) = false := by simpa using hk
      have hnw : leadOf ms ∉ M.wait := fun hx => by
        obtain ⟨d, hd, -⟩ := h.wk _ hx (fun e => e)
        have := (DepM.call_of hd).2
        rw [hk] at this; cases this
      have C := h.come (c := ⟨nargs, ms, 1, 0, 0, now⟩) hch.1 hk rfl hm rfl rfl
      have W := offer_way h now hk ⟨nargs, ms, 1, 0, 0, now⟩
      show DInv (DS.offer ⟨M, [], []⟩ now (leadOf ms) ⟨nargs, ms, 1, 0, 0, now⟩).M NoOne
      generalize DS.offer ⟨M, [], []⟩ now (leadOf ms) ⟨nargs, ms, 1, 0, 0, now⟩ = R at W
      cases W with
      | short _ =>
        exact DInv.fall (i := leadOf ms) (σ := ⟨{ M with br := (M.br.ask now).1, win := M.win.add now 4 }, [], []⟩) ((h.weak _).other _ _ M.took M.probe) rfl hm (show (1 : Int) ≤ 1 by decide) (show (1 : Int) ≤ 3 by decide) (Int.le_refl 0) hch.1 hch.2 hnw now 4
      | rej br _ =>
        obtain ⟨br', w, p, ec⟩ := ({ M with br := br } : DepM).count_eq now (leadOf ms) 3
        refine DInv.fall (i := leadOf ms) (((h.weak _).other br M.win M.took M.probe).count now _ 3) rfl hm (show (1 : Int) ≤ 1 by decide) (show (1 : Int) ≤ 3 by decide) (Int.le_refl 0) ?_ ?_ ?_ now 3
        · simp only [ec]; exact hch.1
        · simp only [ec]; exact hch.2
        · simp only [ec]; exact hnw
      | runs p _ _ => exact (C (M.br.ask now).1 p).1
      | waits p _ _ => exact (C (M.br.ask now).1 p).2.1
      | turn p y t hw _ => exact (C (M.br.ask now).1 p).2.2 y t hw
theorem DInv.new (k : CF) : DInv (DepM.new k) NoOne :=
  ⟨List.nodup_nil, fun y c (h : alook ([] : List (Int × CallM)) y = some c) => (by cases h), List.nodup_nil, fun y (h : y ∈ ([] : List Int)) => (by cases h), fun y (h : y ∈ ([] : List Int)) => (by cases h), fun q (h : q ∈ ([] : List (Int × Int))) => (by cases h), fun q (h : q ∈ ([] : List (Int × Int))) => (by cases h), fun y c (h : alook ([] : List (Int × CallM)) y = some c) => (by cases h)⟩
theorem DInv.seen {M : DepM} {E : Int → Prop} (h : DInv M E) (now : Nat) : DInv (M.seen now) E := h.other M.br (M.win.to now) (M.took.to now) M.probe
/-- There are as many calls as run, or wait, at least. -/
theorem DInv.lens {M : DepM} (h : DInv M NoOne) : M.run.length ≤ M.calls.length ∧ M.wait.length ≤ M.calls.length := by
  have hb := h.bn
  rw [List.nodup_append] at hb
  have key : ∀ l : List Int, l.Nodup → (∀ y ∈ l, ∃ c, alook M.calls y = some c) → l.length ≤ M.calls.length := by
    intro l hl hk
    have := hl.length_le_of_subset (l₂ := M.calls.map (·.1)) (fun y hy => by obtain ⟨c, hc⟩ := hk y hy; exact alook_key hc)
    simpa using this
  exact ⟨key _ hb.1 fun y hy => by obtain ⟨c, hc, -⟩ := h.rk y hy (fun e => e); exact ⟨c, hc⟩, key _ hb.2.1 fun y hy => by obtain ⟨c, hc, -⟩ := h.wk y hy (fun e => e); exact ⟨c, hc⟩⟩
end Go.Proofs.YtcnkhjgpjchkeaaGreat

namespace Go.Proofs.YtcnkhjgpjchkeaaGreat
open Go.RowKit

/-- v is a slice that reads as pairs of numbers. -/
def Rd2 (w : World) (v : Value) (ms : List (Int × Int)) : Prop :=
  ∃ ao cap, v = .slice ao ms.length cap ∧ ∀ i, i < ms.length → ∃ g o, ao = some ⟨g, o, none⟩ ∧ w.cell? ⟨g, o + i * 2, none⟩ = some (.int .i64 (ms.getD i (0, 0)).1) ∧ w.cell? ⟨g, o + i * 2 + 1, none⟩ = some (.int .i64 (ms.getD i (0, 0)).2)
theorem Rd2.fr0 {w w' : World} {v : Value} {ms : List (Int × Int)} (h : Rd2 w v ms) (k : Fr [] w w') : Rd2 w' v ms := by
  obtain ⟨ao, cap, rfl, h2⟩ := h
  refine ⟨ao, cap, rfl, fun i hi => ?_⟩
  obtain ⟨g, o, h3, h4, h5⟩ := h2 i hi
  exact ⟨g, o, h3, (k.cell (World.block_lt_of_cell? _ _ h4) (by simp)).trans h4, (k.cell (World.block_lt_of_cell? _ _ h5) (by simp)).trans h5⟩
/-- A deed: its kind, a call, a step, a time, an answer, and a batch. -/
structure Dd where
  kind : Int
  id : Int
  step : Int
  t : Nat
  ok : Bool
  vals : List Int
  args : List Int
  ms : List (Int × Int)
deriving Inhabited
/-- A deed's batch and values, as values. -/
structure DdV (w : World) (vv va vm : Value) (d : Dd) : Prop where
  vals : RdInts w vv d.vals
  args : RdInts w va d.args
  ms : Rd2 w vm d.ms
theorem DdV.fr0 {w w' : World} {vv va vm : Value} {d : Dd} (h : DdV w vv va vm d) (k : Fr [] w w') : DdV w' vv va vm d := ⟨h.vals.fr0 k, h.args.fr0 k, h.ms.fr0 k⟩
def At8 (w : World) (b o : Nat) (d : Dd) (vv va vm : Value) : Prop :=
  w.cell? ⟨b, o, none⟩ = some (.int .i64 d.kind) ∧ w.cell? ⟨b, o + 1, none⟩ = some (.int .i64 d.id) ∧ w.cell? ⟨b, o + 2, none⟩ = some (.int .i64 d.step) ∧ w.cell? ⟨b, o + 3, none⟩ = some (.int .u64 d.t) ∧ w.cell? ⟨b, o + 4, none⟩ = some (.bool d.ok) ∧ w.cell? ⟨b, o + 5, none⟩ = some vv ∧ w.cell? ⟨b, o + 6, none⟩ = some va ∧ w.cell? ⟨b, o + 7, none⟩ = some vm
theorem At8.fr0 {w w' : World} {b o : Nat} {d : Dd} {vv va vm : Value} (h : At8 w b o d vv va vm) (k : Fr [] w w') : At8 w' b o d vv va vm := by
  obtain ⟨h0, h1, h2, h3, h4, h5, h6, h7⟩ := h
  have key : ∀ {i : Nat} {v : Value}, w.cell? ⟨b, i, none⟩ = some v → w'.cell? ⟨b, i, none⟩ = some v := fun h => (k.cell (World.block_lt_of_cell? _ _ h) (by simp)).trans h
  exact ⟨key h0, key h1, key h2, key h3, key h4, key h5, key h6, key h7⟩
/-- v is a slice that reads as the deeds l. -/
def Dds (w : World) (v : Value) (l : List Dd) : Prop :=
  ∃ ao cap, v = .slice ao l.length cap ∧ l.length ≤ 9223372036854775807 ∧ (∀ d ∈ l, d.t < 18446744073709551616) ∧ ∀ i, i < l.length → ∃ b o, ao = some ⟨b, o, none⟩ ∧ ∃ vv va vm, At8 w b (o + i * 8) (l.getD i default) vv va vm ∧ DdV w vv va vm (l.getD i default)
theorem Dds.fr0 {w w' : World} {v : Value} {l : List Dd} (h : Dds w v l) (k : Fr [] w w') : Dds w' v l := by
  obtain ⟨ao, cap, rfl, h2, h3, h4⟩ := h
  refine ⟨ao, cap, rfl, h2, h3, fun i hi => ?_⟩
  obtain ⟨b, o, h5, vv, va, vm, h6, h7⟩ := h4 i hi
  exact ⟨b, o, h5, vv, va, vm, h6.fr0 k, h7.fr0 k⟩
theorem Dds.at {w : World} {ao : Option Addr} {cap n : Nat} {l : List Dd} (h : Dds w (.slice ao n cap) l) {i : Nat} (hi : i < l.length) : ∃ b o vv va vm, ao = some ⟨b, o, none⟩ ∧ At8 w b (o + i * 8) (l.getD i default) vv va vm ∧ DdV w vv va vm (l.getD i default) ∧ (l.getD i default).t < 18446744073709551616 := by
  obtain ⟨a1, c1, he, _, h3, h4⟩ := h
  simp only [Value.slice.injEq] at he
  obtain ⟨rfl, _, rfl⟩ := he
  obtain ⟨b, o, h5, vv, va, vm, h6, h7⟩ := h4 i hi
  refine ⟨b, o, vv, va, vm, h5, h6, h7, h3 _ ?_⟩
  rw [show l.getD i default = l[i] by simp [List.getD, hi]]
  exact List.getElem_mem hi
/-- A deed is small. -/
def Dd.small (d : Dd) : Prop := d.args.length ≤ 8 ∧ d.ms.length ≤ 8 ∧ d.vals.length ≤ 20

/-- What a deed does. -/
def DepM.deed (M : DepM) (now : Nat) (d : Dd) : DS × Int :=
  if d.kind = 1 then M.offer now d.args.length d.ms else if d.kind = 2 then (⟨M.pick.1, [], []⟩, M.pick.2) else if d.kind = 3 then M.answer now d.id d.ok d.vals else if d.kind = 4 then M.fallback now d.id d.step d.ok d.vals else (M.late now d.id, 0)

/-! ### What stays: the configuration; how much is counted -/
/-- Nothing but the calls, the permits and the queue is turned. -/
structure Same (M M' : DepM) : Prop where
  k : M'.k = M.k
  br : M'.br = M.br
  win : M'.win = M.win
  took : M'.took = M.took
  probe : M'.probe = M.probe
theorem Same.refl (M : DepM) : Same M M := ⟨rfl, rfl, rfl, rfl, rfl⟩
theorem Same.trans {a b c : DepM} (h : Same a b) (k : Same b c) : Same a c := ⟨k.k.trans h.k, k.br.trans h.br, k.win.trans h.win, k.took.trans h.took, k.probe.trans h.probe⟩
theorem Same.keep (M : DepM) (c : CallM) : Same M (M.keep c) := by
  obtain ⟨cs, e, -⟩ := M.keep_eq c
  rw [e]; exact ⟨rfl, rfl, rfl, rfl, rfl⟩
theorem Same.fall (σ : DS) (now : Nat) (c : CallM) (cause : Int) : Same σ.M (σ.fall now c cause).M := by
  unfold DS.fall
  split
  · exact Same.trans (b := { σ.M with falls := σ.M.falls ++ [(c.lead, (CallM.fallN σ.M.falls σ.M.k.fb.toNat σ.M.k.ch cause c.lead 5 c).1.step)] }) ⟨rfl, rfl, rfl, rfl, rfl⟩ (Same.keep _ _)
  · exact Same.keep _ _
theorem keep_lists (M : DepM) (c : CallM) : (M.keep c).run = M.run ∧ (M.keep c).wait = M.wait := ⟨(M.keep_run c).1, (M.keep_run c).2.1⟩
theorem fall_lists (σ : DS) (now : Nat) (c : CallM) (cause : Int) : (σ.fall now c cause).M.run = σ.M.run ∧ (σ.fall now c cause).M.wait = σ.M.wait := by
  unfold DS.fall
  split
  · exact keep_lists _ _
  · exact keep_lists _ _
/-- How much is counted, and since when. -/
structure DSz (n : Nat) (M : DepM) : Prop where
  since : M.br.since < 18446744073709551616
  win : M.win.L.length ≤ n
  took : M.took.L.length ≤ n
theorem DSz.mono {n m : Nat} {M : DepM} (h : DSz n M) (k : n ≤ m) : DSz m M := ⟨h.since, Nat.le_trans h.win k, Nat.le_trans h.took k⟩
theorem DSz.same {n : Nat} {M M' : DepM} (h : DSz n M) (s : Same M M') : DSz n M' := ⟨by rw [s.br]; exact h.since, by rw [s.win]; exact h.win, by rw [s.took]; exact h.took⟩
theorem WinM.add_len (s : WinM) (now k : Nat) : (s.add now k).L.length = s.L.length + 1 := by simp [WinM.add]
theorem Brk.since_lt {s : Brk} (h : s.since < 18446744073709551616) {now : Nat} (hn : now < 18446744073709551616) : (s.trip now).since < 18446744073709551616 ∧ (∀ ok, (s.done now ok).since < 18446744073709551616) ∧ s.back.since < 18446744073709551616 ∧ (s.ask now).1.since < 18446744073709551616 := by
  refine ⟨?_, fun ok => ?_, ?_, ?_⟩
  · unfold Brk.trip; split <;> assumption
  · unfold Brk.done; split
    · split <;> assumption
    · exact h
  · unfold Brk.back; split <;> exact h
  · unfold Brk.ask; repeat' split
    all_goals exact h
theorem DSz.count {n : Nat} {M : DepM} (h : DSz n M) {now : Nat} (hn : now < 18446744073709551616) (id : Int) (kind : Nat) : DSz (n + 1) (M.count now id kind) := by
  have B := Brk.since_lt h.since hn
  have hl : (M.win.add now kind).L.length ≤ n + 1 := by rw [WinM.add_len]; have := h.win; omega
  have ht : M.took.L.length ≤ n + 1 := Nat.le_trans h.took (by omega)
  unfold DepM.count
  repeat' split
  · exact ⟨B.1, hl, ht⟩
  · exact ⟨h.since, hl, ht⟩
  · exact ⟨B.2.1 true, Nat.zero_le _, ht⟩
  · exact ⟨B.2.1 false, hl, ht⟩
theorem DSz.seen {n : Nat} {M : DepM} (h : DSz n M) (now : Nat) : DSz n (M.seen now) := ⟨h.since, h.win, h.took⟩
theorem Same.runs (M : DepM) (x : Int) : Same M (M.runs [x]) := by rw [DepM.runs_one]; exact Same.keep _ _
theorem DSz.pick {n : Nat} {M : DepM} (h : DSz n M) : DSz n M.pick.1 := by
  unfold DepM.pick
  split
  · split
    · exact h
    · rename_i x ws _
      exact DSz.same (M := { M with run := M.run ++ [x], wait := ws }) ⟨h.since, h.win, h.took⟩ (Same.runs _ _)
  · exact h
theorem DSz.fall {n : Nat} {σ : DS} (h : DSz n σ.M) (now : Nat) (c : CallM) (cause : Int) : DSz n (σ.fall now c cause).M := h.same (Same.fall _ _ _ _)
theorem DSz.answer {n : Nat} {M : DepM} (h : DSz n M) {now : Nat} (hn : now < 18446744073709551616) (id : Int) (ok : Bool) (vals : List Int) : DSz (n + 1) (M.answer now id ok vals).1.M := by
  have h0 : DSz n { M with run := rem id M.run } := ⟨h.since, h.win, h.took⟩
  by_cases h1 : id ∈ M.run
  · by_cases h2 : (M.call id).st = 2
    · by_cases h3 : ok = true ∧ vals.length = (M.call id).nargs
      · rw [DepM.answer_yes h1 h2 h3]
        have hc := h0.count hn id 0
        have ht : (({ M with run := rem id M.run } : DepM).count now id 0).took = M.took := DepM.count_took _ _ _ _
        generalize (({ M with run := rem id M.run } : DepM).count now id 0) = Mc at hc ht ⊢
        refine DSz.same (M := { Mc with took := Mc.took.add now (bitLen (now - (M.call id).start)) }) ⟨hc.since, hc.win, ?_⟩ (Same.keep _ _)
        show (WinM.add _ _ _).L.length ≤ n + 1
        rw [WinM.add_len, ht]
        have := h.took; omega
      · rw [DepM.answer_no h1 h2 h3]
        exact DSz.fall (σ := ⟨_, _, _⟩) (h0.count hn id 1) now _ _
    · rw [DepM.answer_not h1 h2]; exact (h0.same (Same.keep _ _)).mono (by omega)
  · rw [DepM.answer_none h1]; exact h.mono (by omega)
theorem DSz.fallback {n : Nat} {M : DepM} (h : DSz n M) (now : Nat) (id step : Int) (ok : Bool) (vals : List Int) : DSz n (M.fallback now id step ok vals).1.M := by
  have h0 : DSz n (M.freed id step) := ⟨h.since, h.win, h.took⟩
  by_cases h1 : (id, step) ∈ M.falls
  · by_cases h2 : (M.call id).st = 3 ∧ (M.call id).step = step
    · by_cases h3 : ok = true ∧ vals.length = (M.call id).nargs
      · rw [DepM.fallback_yes h1 h2 h3]; exact h0.same (Same.keep _ _)
      · rw [DepM.fallback_no h1 h2 h3]; exact DSz.fall (σ := ⟨_, _, _⟩) h0 now _ _
    · rw [DepM.fallback_not h1 h2]; exact h0.same (Same.keep _ _)
  · rw [DepM.fallback_none h1]; exact h
theorem DSz.late {n : Nat} {M : DepM} (h : DSz n M) {now : Nat} (hn : now < 18446744073709551616) (id : Int) : DSz (n + 1) (M.late now id).M := by
  unfold DepM.late
  repeat' split
  · exact h.mono (by omega)
  · exact DSz.fall (σ := ⟨_, _, _⟩) (DSz.count (M := { M with wait := rem id M.wait }) ⟨h.since, h.win, h.took⟩ hn id 2) now _ _
  · exact DSz.fall (σ := ⟨_, _, _⟩) (h.count hn id 2) now _ _
  · exact DSz.fall (σ := ⟨_, _, _⟩) (h.mono (by omega)) now _ _
theorem DSz.offer {n : Nat} {M : DepM} (h : DSz n M) (hi : DInv M NoOne) {now : Nat} (hn : now < 18446744073709551616) (nargs : Nat) (ms : List (Int × Int)) : DSz (n + 1) (M.offer now nargs ms).1.M := by
  unfold DepM.offer
  split
  · exact h.mono (by omega)
  · split
    · exact h.mono (by omega)
    · rename_i hk
      have W := offer_way hi now (by simpa using hk) ⟨nargs, ms, 1, 0, 0, now⟩
      show DSz (n + 1) (DS.offer ⟨M, [], []⟩ now (leadOf ms) ⟨nargs, ms, 1, 0, 0, now⟩).M
      generalize DS.offer ⟨M, [], []⟩ now (leadOf ms) ⟨nargs, ms, 1, 0, 0, now⟩ = R at W
      have B := Brk.since_lt h.since hn
      have hw := h.win
      have ht := h.took
      cases W with
      | short _ =>
        refine DSz.fall (σ := ⟨{ M with br := (M.br.ask now).1, win := M.win.add now 4 }, [], []⟩) ⟨B.2.2.2, ?_, by simp only; omega⟩ now _ _
        simp only; rw [WinM.add_len]; omega
      | rej br hb =>
        refine DSz.fall (σ := ⟨_, _, _⟩) (DSz.count (M := { M with br := br }) ⟨?_, hw, ht⟩ hn _ 3) now _ _
        rcases hb with ⟨_, e⟩ | ⟨_, e⟩
        · rw [e]; exact B.2.2.2
        · rw [e]; exact (Brk.since_lt B.2.2.2 hn).2.2.1
      | runs p _ _ => exact DSz.same (M := { M with br := (M.br.ask now).1, run := M.run ++ [leadOf ms], probe := p }) ⟨B.2.2.2, by simp only; omega, by simp only; omega⟩ ((Same.keep _ _).trans (Same.runs _ _))
      | waits p _ _ => exact DSz.same (M := { M with br := (M.br.ask now).1, wait := M.wait ++ [leadOf ms], probe := p }) ⟨B.2.2.2, by simp only; omega, by simp only; omega⟩ (Same.keep ({ M with br := (M.br.ask now).1, wait := M.wait ++ [leadOf ms], probe := p } : DepM) ⟨nargs, ms, 1, 0, 0, now⟩)
      | turn p y t _ _ => exact DSz.same (M := { M with br := (M.br.ask now).1, run := M.run ++ [y], wait := t ++ [leadOf ms], probe := p }) ⟨B.2.2.2, by simp only; omega, by simp only; omega⟩ ((Same.keep _ _).trans (Same.runs _ _))
theorem DSz.deed {n : Nat} {M : DepM} (h : DSz n M) (hi : DInv M NoOne) {now : Nat} (hn : now < 18446744073709551616) (d : Dd) : DSz (n + 1) (M.deed now d).1.M := by
  unfold DepM.deed
  repeat' split
  · exact h.offer hi hn _ _
  · exact h.pick.mono (by omega)
  · exact h.answer hn _ _ _
  · exact (h.fallback now _ _ _ _).mono (by omega)
  · exact h.late hn _
theorem DInv.deed {M : DepM} (h : DInv M NoOne) (hch : 0 ≤ M.k.ch ∧ M.k.ch ≤ 3) (now : Nat) {d : Dd} (hd : d.small) : DInv (M.deed now d).1.M NoOne := by
  unfold DepM.deed
  repeat' split
  · exact h.offer hch now _ (by have := hd.2.1; omega)
  · exact h.pick
  · exact h.answer hch.2 now _ _ _
  · exact h.fallback hch.2 now _ _ _ _
  · exact h.late hch.2 now _
end Go.Proofs.YtcnkhjgpjchkeaaGreat
