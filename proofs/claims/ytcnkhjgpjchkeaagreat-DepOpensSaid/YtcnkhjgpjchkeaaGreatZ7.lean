/-
  Words, and contracts of functions of the program and of the document, for this seat's claims: each is a lemma on the way; conditions stand in each lemma.
-/
import Derived.Test.YtcnkhjgpjchkeaaGreatZ6
import Derived.Deep.MidRow
import Derived.Deep.RegionHeld3
namespace Go.Proofs.YtcnkhjgpjchkeaaGreat
open Go.RowKit

theorem brk_new (w : World) (k : CF) (sl : Nat) (hsl : k.sl = sl) : Calls Tryz.prog 30 #[k.val] w fun e w' => e = .returned (.pointer (some ⟨w.heap.size + 1, 0, none⟩)) ∧ IsBrk w' (w.heap.size + 1) ⟨1, 0, sl, k.fo⟩ ∧ Fr [] w w' := by
  obtain ⟨mode, pool, queue, sem, fb, ch, t, ft, vo, pe, sl', bu, wi, wd, ba, fo⟩ := k
  simp only [CF.val] at *
  subst hsl
  go_enter Tryz.func30, Tryz.ntmps30
  go_wp2_with fail
  go_ret
  refine ⟨by simp, ?_, ((Fr.refl _ _).alloc _).alloc _⟩
  have := block_alloc_new ((w.alloc (.cells #[.int .i64 mode, .int .i64 pool, .int .i64 queue, .int .i64 sem, .int .i64 fb, .int .i64 ch, .int .u64 t, .int .u64 ft, .int .i64 vo, .int .i64 pe, .int .u64 sl, .int .i64 bu, .int .u64 wi, .int .u64 wd, .int .i64 ba, .int .i64 fo] 24))) (.cells #[.int .i64 1, .int .u64 0, .int .u64 sl, .int .i64 fo] 167)
  simpa [IsBrk] using this

/-- A new bulk. -/
def NewBulkD (w : World) (m q : Nat) (e : Ending) (w' : World) : Prop :=
  ∃ b s r g, e = .returned (.pointer (some ⟨b, 0, none⟩)) ∧ IsBulk w' b s r g [] [] m q ∧ (w.heap.size ≤ b ∧ w.heap.size ≤ s ∧ w.heap.size ≤ r ∧ w.heap.size ≤ g) ∧ Fr [] w w'
theorem NewBulkD.mk {w w2 : World} {s r g m q : Nat} (hs : IsSet w2 s r [] m) (hg : IsRing w2 g [] q) (hs0 : w.heap.size ≤ s) (hr : w.heap.size ≤ r ∧ r < w2.heap.size) (hg2 : w.heap.size ≤ g ∧ g < w2.heap.size) (hF : Fr [] w w2) {p s' : Nat} (hp : p = w2.heap.size) (hs' : s' = s) :
    NewBulkD w m q (.returned (.pointer (some ⟨p, 0, none⟩))) (w2.alloc (.cells #[.pointer (some ⟨s', 0, none⟩), .pointer (some ⟨g, 0, none⟩)] 171)) := by
  subst hp hs'; exact ⟨_, s', r, g, rfl, ⟨block_alloc_new _ _, hs.fr ((Fr.refl [] _).alloc _) (by simp) (by simp), hg.fr ((Fr.refl [] _).alloc _) (by simp), by simp⟩, ⟨hF.size, hs0, hr.1, hg2.1⟩, hF.alloc _⟩
set_option maxHeartbeats 2000000 in
theorem bulk_new (c : CF) (w : World) (m q : Nat) (hm : c.most = m) (hq : c.que = q) (hmo : c.mode = 1 ∨ c.mode = 2) (hl : m ≤ 8 ∧ q ≤ 8) :
    Calls Tryz.prog 31 #[c.val] w (NewBulkD w m q) := by
  obtain ⟨mode, pool, queue, sem, fb, ch, t, ft, vo, pe, sl, bu, wi, wd, ba, fo⟩ := c
  simp only [CF.val, CF.most, CF.que] at *
  rcases hmo with rfl | rfl
  · rw [if_neg (by omega)] at hm hq
    subst hm hq
    go_enter Tryz.func31, Tryz.ntmps31
    go_wp2_with fail
    go_quiet (fail)
    go_wp2_with fail
    refine (permit_new m _ hl.1).mono ?_
    rintro e w1 ⟨rfl, S, F1⟩
    go_wp2_with fail
    refine (new_ring q _ hl.2).mono ?_
    rintro e w2 ⟨rfl, R, hs, F2⟩
    have hs1 := F1.size
    have L1 := lt_of_block S.1
    obtain ⟨es, c', hmp⟩ := S.2.1.obj
    have L2 := lt_of_block hmp
    have HS := Lib.hid (S.fr F2 (by simp) (by simp))
    have HR := Lib.hid R
    have HF := Lib.hid ((((Fr.refl [] w).alloc _).drewN _).trans (F1.trans F2))
    clear S R F1 F2
    go_wp2_with fail
    go_ret
    exact NewBulkD.mk HS.out HR.out (by simp at *; omega) (by simp at *; omega) (by simp at *; omega) HF.out (by first | rfl | omega | (simp; omega)) (by first | rfl | simp)
  · rw [if_pos rfl] at hm hq
    obtain rfl : q = 0 := by omega
    clear hq
    subst hm
    have hl1 := hl.1
    clear hl
    go_enter Tryz.func31, Tryz.ntmps31
    go_wp2_with fail
    go_quiet (fail)
    go_wp2_with fail
    refine (permit_new m _ hl1).mono ?_
    rintro e w1 ⟨rfl, S, F1⟩
    go_wp2_with fail
    refine (new_ring 0 _ (by omega)).mono ?_
    rintro e w2 ⟨rfl, R, hs, F2⟩
    have hs1 := F1.size
    have L1 := lt_of_block S.1
    obtain ⟨es, c', hmp⟩ := S.2.1.obj
    have L2 := lt_of_block hmp
    have HS := Lib.hid (S.fr F2 (by simp) (by simp))
    have HR := Lib.hid R
    have HF := Lib.hid ((((Fr.refl [] w).alloc _).drewN _).trans (F1.trans F2))
    clear S R F1 F2
    go_wp2_with fail
    go_ret
    exact NewBulkD.mk HS.out HR.out (by simp at *; omega) (by simp at *; omega) (by simp at *; omega) HF.out (by first | rfl | omega | (simp; omega)) (by first | rfl | simp)

/-- A batch of one. -/
theorem one_spec (w : World) (id arg : Int) : Calls Tryz.prog 73 #[.int .i64 id, .int .i64 arg] w fun e w' => (∃ va vm, e = .returned (.agg #[va, vm]) ∧ ArgsV va 1 ∧ Mems w' vm [(id, 0)]) ∧ Fr [] w w' := by
  go_enter Tryz.func73, Tryz.ntmps73
  go_wp2_with fail
  refine bodyPost_ret (v := .agg #[.slice (some ⟨w.heap.size + 1, 0, none⟩) 1 1, .slice (some ⟨w.heap.size + 1 + 1, 0, none⟩) 1 1]) (by simp [results, Tryz.results73, go_sem]) rfl ?_
  have h := block_alloc_new ((w.alloc (.cells #[.slice (some ⟨w.heap.size + 1, 0, none⟩) 1 1, .slice (some ⟨w.heap.size + 1 + 1, 0, none⟩) 1 1] 91)).alloc (.cells #[.int .i64 arg] 3)) (.cells #[.int .i64 id, .int .i64 0] 191)
  rw [World.size_alloc, World.size_alloc] at h
  refine ⟨⟨_, _, rfl, ⟨_, _, rfl⟩, ⟨_, _, rfl, Nat.le_refl 1, fun i hi => ⟨_, _, _, _, rfl, h, ?_⟩⟩⟩, (((Fr.refl _ _).alloc _).alloc _).alloc _⟩
  obtain rfl : i = 0 := by simpa using hi
  exact ⟨rfl, rfl⟩
end Go.Proofs.YtcnkhjgpjchkeaaGreat

namespace Go.Proofs.YtcnkhjgpjchkeaaGreat
open Go.RowKit

/-! ### The calls: a plain list of pairs, as a map holds it -/
def alook {β : Type} (l : List (Int × β)) (a : Int) : Option β := (l.find? fun p => decide (p.1 = a)).map (·.2)
def aput {β : Type} (l : List (Int × β)) (a : Int) (v : β) : List (Int × β) := if a ∈ l.map (·.1) then l.map fun p => if p.1 = a then (a, v) else p else l ++ [(a, v)]
def adel {β : Type} (l : List (Int × β)) (a : Int) : List (Int × β) := l.filter fun p => decide (p.1 ≠ a)

def CallsV (w : World) : List (Int × Value) → List (Int × CallM) → Prop
  | [], [] => True
  | p :: ps, c :: cs => p.1 = c.1 ∧ CallV w p.2 c.2 ∧ CallsV w ps cs
  | _, _ => False
theorem CallsV.fr {w w' : World} {S : List Nat} (k : Fr S w w') (hS : NoMem w S) : ∀ {ps : List (Int × Value)} {cs : List (Int × CallM)}, CallsV w ps cs → CallsV w' ps cs
  | [], [], _ => trivial
  | _ :: _, _ :: _, h => ⟨h.1, h.2.1.fr k hS, CallsV.fr k hS h.2.2⟩
theorem CallsV.keys {w : World} : ∀ {ps : List (Int × Value)} {cs : List (Int × CallM)}, CallsV w ps cs → ps.map (·.1) = cs.map (·.1)
  | [], [], _ => rfl
  | p :: ps, c :: cs, h => by rw [List.map_cons, List.map_cons, h.1, CallsV.keys h.2.2]
theorem CallsV.len {w : World} {ps : List (Int × Value)} {cs : List (Int × CallM)} (h : CallsV w ps cs) : ps.length = cs.length := by
  simpa using congrArg List.length h.keys
theorem CallsV.look {w : World} (a : Int) : ∀ {ps : List (Int × Value)} {cs : List (Int × CallM)}, CallsV w ps cs →
    (alook cs a = none ∧ look ps a = none) ∨ ∃ v c, alook cs a = some c ∧ look ps a = some v ∧ CallV w v c
  | [], [], _ => .inl ⟨rfl, rfl⟩
  | p :: ps, c :: cs, h => by
    have hk := h.1
    by_cases e : c.1 = a
    · exact .inr ⟨p.2, c.2, by simp [alook, e], by simp [Proofs.YtcnkhjgpjchkeaaGreat.look, hk, e], h.2.1⟩
    · have h1 : alook (c :: cs) a = alook cs a := by simp [alook, e]
      have h2 : Proofs.YtcnkhjgpjchkeaaGreat.look (p :: ps) a = Proofs.YtcnkhjgpjchkeaaGreat.look ps a := by simp [Proofs.YtcnkhjgpjchkeaaGreat.look, hk, e]
      rw [h1, h2]; exact CallsV.look a h.2.2
theorem CallsV.app {w : World} {a : Int} {v : Value} {c : CallM} (hv : CallV w v c) : ∀ {ps : List (Int × Value)} {cs : List (Int × CallM)}, CallsV w ps cs → CallsV w (ps ++ [(a, v)]) (cs ++ [(a, c)])
  | [], [], _ => ⟨rfl, hv, trivial⟩
  | _ :: _, _ :: _, h => ⟨h.1, h.2.1, CallsV.app hv h.2.2⟩
theorem CallsV.upd {w : World} {a : Int} {v : Value} {c : CallM} (hv : CallV w v c) : ∀ {ps : List (Int × Value)} {cs : List (Int × CallM)}, CallsV w ps cs → CallsV w (ps.map fun p => if p.1 = a then (a, v) else p) (cs.map fun p => if p.1 = a then (a, c) else p)
  | [], [], _ => trivial
  | p :: ps, d :: cs, h => by
    have hk := h.1
    have ih := CallsV.upd (a := a) hv h.2.2
    rw [List.map_cons, List.map_cons, hk]
    by_cases e : d.1 = a
    · rw [if_pos e, if_pos e]; exact ⟨rfl, hv, ih⟩
    · rw [if_neg e, if_neg e]; exact ⟨hk, h.2.1, ih⟩
theorem CallsV.put {w : World} {a : Int} {v : Value} {c : CallM} (hv : CallV w v c) {ps : List (Int × Value)} {cs : List (Int × CallM)} (h : CallsV w ps cs) : CallsV w (put ps a v) (aput cs a c) := by
  unfold Proofs.YtcnkhjgpjchkeaaGreat.put aput
  rw [h.keys]
  by_cases e : a ∈ cs.map (·.1)
  · rw [if_pos e, if_pos e]; exact h.upd hv
  · rw [if_neg e, if_neg e]; exact h.app hv
theorem CallsV.del {w : World} (a : Int) : ∀ {ps : List (Int × Value)} {cs : List (Int × CallM)}, CallsV w ps cs → CallsV w (del ps a) (adel cs a)
  | [], [], _ => trivial
  | p :: ps, c :: cs, h => by
    have hk := h.1
    have ih := CallsV.del a h.2.2
    unfold Proofs.YtcnkhjgpjchkeaaGreat.del adel at *
    by_cases e : c.1 = a
    · rw [List.filter_cons_of_neg (by simp [hk, e]), List.filter_cons_of_neg (by simp [e])]; exact ih
    · rw [List.filter_cons_of_pos (by simp [hk, e]), List.filter_cons_of_pos (by simp [e])]; exact ⟨hk, h.2.1, ih⟩

/-! ### The dependency -/
/-- Where the parts of a dependency lie. -/
structure DepA where
  (d brk blk s r g fs fm wi hi cm : Nat)
def DepA.list (A : DepA) : List Nat := [A.d, A.brk, A.blk, A.s, A.r, A.g, A.fs, A.fm, A.wi, A.hi, A.cm]
/-- How a dependency stands. -/
structure DepM where
  k : CF
  br : Brk
  run : List Int
  wait : List Int
  falls : List (Int × Int)
  win : WinM
  took : WinM
  calls : List (Int × CallM)
  probe : Int
def DepM.pool (M : DepM) : Nat := M.k.most.toNat
def DepM.que (M : DepM) : Nat := M.k.que.toNat
def depCells (A : DepA) (M : DepM) : Array Value := #[.pointer (some ⟨A.brk, 0, none⟩), .pointer (some ⟨A.blk, 0, none⟩),
  .int .i64 M.k.mode, .int .i64 M.k.pool, .int .i64 M.k.queue, .int .i64 M.k.sem, .int .i64 M.k.fb, .int .i64 M.k.ch, .int .u64 M.k.t, .int .u64 M.k.ft, .int .i64 M.k.vo, .int .i64 M.k.pe, .int .u64 M.k.sl, .int .i64 M.k.bu, .int .u64 M.k.wi, .int .u64 M.k.wd, .int .i64 M.k.ba, .int .i64 M.k.fo,
  .pointer (some ⟨A.fs, 0, none⟩), .pointer (some ⟨A.wi, 0, none⟩), .pointer (some ⟨A.hi, 0, none⟩), .map (some A.cm), .int .i64 M.probe]
/-- A dependency lies at A, and stands as M. -/
structure IsDep (w : World) (A : DepA) (M : DepM) : Prop where
  blk : w.heap[A.d]? = some (.cells (depCells A M) 110 (0, 0))
  brk : IsBrk w A.brk M.br
  bulk : IsBulk w A.blk A.s A.r A.g M.run M.wait M.pool M.que
  falls : IsSet w A.fs A.fm M.falls M.k.fb.toNat
  win : IsWin w A.wi M.win
  took : IsHist w A.hi M.took
  calls : ∃ vs, MapKV encI w A.cm vs ∧ CallsV w vs M.calls
  nodup : A.list.Nodup
  fine : M.k.fine = true
  ran : M.k.Ran

theorem IsDep.fr {w w' : World} {A : DepA} {M : DepM} (h : IsDep w A M) {S : List Nat} (k : Fr S w w') (hS : ∀ x ∈ A.list, x ∉ S) (hm : NoMem w S) : IsDep w' A M where
  blk := k.keep h.blk (hS _ (by simp [DepA.list]))
  brk := h.brk.fr k (hS _ (by simp [DepA.list]))
  bulk := h.bulk.fr k ⟨hS _ (by simp [DepA.list]), hS _ (by simp [DepA.list]), hS _ (by simp [DepA.list]), hS _ (by simp [DepA.list])⟩
  falls := h.falls.fr k (hS _ (by simp [DepA.list])) (hS _ (by simp [DepA.list]))
  win := h.win.fr k (hS _ (by simp [DepA.list]))
  took := h.took.fr k (hS _ (by simp [DepA.list]))
  calls := by
    obtain ⟨vs, h1, h2⟩ := h.calls
    exact ⟨vs, h1.fr k (hS _ (by simp [DepA.list])), h2.fr k hm⟩
  nodup := h.nodup
  fine := h.fine
  ran := h.ran
theorem IsDep.fr0 {w w' : World} {A : DepA} {M : DepM} (h : IsDep w A M) (k : Fr [] w w') : IsDep w' A M := h.fr k (fun _ _ => by simp) (NoMem.nil w)
theorem NoMem.sub {w : World} {S S' : List Nat} (h : NoMem w S) (hs : ∀ x ∈ S', x ∈ S) : NoMem w S' := fun x hx => h x (hs x hx)
theorem IsDep.nomem {w : World} {A : DepA} {M : DepM} (h : IsDep w A M) : NoMem w A.list := by
  obtain ⟨_, _, hw⟩ := h.win
  obtain ⟨cw, hw1, _⟩ := hw
  obtain ⟨_, _, hh⟩ := h.took
  obtain ⟨ch, hh1, _⟩ := hh
  obtain ⟨vs, hc, _⟩ := h.calls
  obtain ⟨_, _, hc1⟩ := hc.obj
  obtain ⟨_, _, hs1⟩ := h.bulk.set.2.1.obj
  obtain ⟨_, _, hf1⟩ := h.falls.2.1.obj
  obtain ⟨_, hr1⟩ := h.bulk.ring.obj
  refine NoMem.cons (.cons (.cons (.cons (.cons (.cons (.cons (.cons (.cons (.cons (.cons (NoMem.nil w) hc1 ?_) hh1 ?_) hw1 ?_) hf1 ?_) h.falls.1 ?_) hr1 ?_) hs1 ?_) h.bulk.set.1 ?_) h.bulk.blk ?_) h.brk ?_) h.blk ?_
  all_goals (intro _ _ e; cases e)
theorem IsDep.mem {A : DepA} : A.d ∈ A.list ∧ A.brk ∈ A.list ∧ A.blk ∈ A.list ∧ A.s ∈ A.list ∧ A.r ∈ A.list ∧ A.g ∈ A.list ∧ A.fs ∈ A.list ∧ A.fm ∈ A.list ∧ A.wi ∈ A.list ∧ A.hi ∈ A.list ∧ A.cm ∈ A.list := by simp [DepA.list]
/-- All addresses are unlike. -/
theorem IsDep.ne {w : World} {A : DepA} {M : DepM} (h : IsDep w A M) : (A.d ≠ A.brk ∧ A.brk ≠ A.d) ∧ (A.d ≠ A.blk ∧ A.blk ≠ A.d) ∧ (A.d ≠ A.s ∧ A.s ≠ A.d) ∧ (A.d ≠ A.r ∧ A.r ≠ A.d) ∧ (A.d ≠ A.g ∧ A.g ≠ A.d) ∧ (A.d ≠ A.fs ∧ A.fs ≠ A.d) ∧ (A.d ≠ A.fm ∧ A.fm ≠ A.d) ∧ (A.d ≠ A.wi ∧ A.wi ≠ A.d) ∧ (A.d ≠ A.hi ∧ A.hi ≠ A.d) ∧ (A.d ≠ A.cm ∧ A.cm ≠ A.d) ∧ (A.brk ≠ A.blk ∧ A.blk ≠ A.brk) ∧ (A.brk ≠ A.s ∧ A.s ≠ A.brk) ∧ (A.brk ≠ A.r ∧ A.r ≠ A.brk) ∧ (A.brk ≠ A.g ∧ A.g ≠ A.brk) ∧ (A.brk ≠ A.fs ∧ A.fs ≠ A.brk) ∧ (A.brk ≠ A.fm ∧ A.fm ≠ A.brk) ∧ (A.brk ≠ A.wi ∧ A.wi ≠ A.brk) ∧ (A.brk ≠ A.hi ∧ A.hi ≠ A.brk) ∧ (A.brk ≠ A.cm ∧ A.cm ≠ A.brk) ∧ (A.blk ≠ A.s ∧ A.s ≠ A.blk) ∧ (A.blk ≠ A.r ∧ A.r ≠ A.blk) ∧ (A.blk ≠ A.g ∧ A.g ≠ A.blk) ∧ (A.blk ≠ A.fs ∧ A.fs ≠ A.blk) ∧ (A.blk ≠ A.fm ∧ A.fm ≠ A.blk) ∧ (A.blk ≠ A.wi ∧ A.wi ≠ A.blk) ∧ (A.blk ≠ A.hi ∧ A.hi ≠ A.blk) ∧ (A.blk ≠ A.cm ∧ A.cm ≠ A.blk) ∧ (A.s ≠ A.r ∧ A.r ≠ A.s) ∧ (A.s ≠ A.g ∧ A.g ≠ A.s) ∧ (A.s ≠ A.fs ∧ A.fs ≠ A.s) ∧ (A.s ≠ A.fm ∧ A.fm ≠ A.s) ∧ (A.s ≠ A.wi ∧ A.wi ≠ A.s) ∧ (A.s ≠ A.hi ∧ A.hi ≠ A.s) ∧ (A.s ≠ A.cm ∧ A.cm ≠ A.s) ∧ (A.r ≠ A.g ∧ A.g ≠ A.r) ∧ (A.r ≠ A.fs ∧ A.fs ≠ A.r) ∧ (A.r ≠ A.fm ∧ A.fm ≠ A.r) ∧ (A.r ≠ A.wi ∧ A.wi ≠ A.r) ∧ (A.r ≠ A.hi ∧ A.hi ≠ A.r) ∧ (A.r ≠ A.cm ∧ A.cm ≠ A.r) ∧ (A.g ≠ A.fs ∧ A.fs ≠ A.g) ∧ (A.g ≠ A.fm ∧ A.fm ≠ A.g) ∧ (A.g ≠ A.wi ∧ A.wi ≠ A.g) ∧ (A.g ≠ A.hi ∧ A.hi ≠ A.g) ∧ (A.g ≠ A.cm ∧ A.cm ≠ A.g) ∧ (A.fs ≠ A.fm ∧ A.fm ≠ A.fs) ∧ (A.fs ≠ A.wi ∧ A.wi ≠ A.fs) ∧ (A.fs ≠ A.hi ∧ A.hi ≠ A.fs) ∧ (A.fs ≠ A.cm ∧ A.cm ≠ A.fs) ∧ (A.fm ≠ A.wi ∧ A.wi ≠ A.fm) ∧ (A.fm ≠ A.hi ∧ A.hi ≠ A.fm) ∧ (A.fm ≠ A.cm ∧ A.cm ≠ A.fm) ∧ (A.wi ≠ A.hi ∧ A.hi ≠ A.wi) ∧ (A.wi ≠ A.cm ∧ A.cm ≠ A.wi) ∧ (A.hi ≠ A.cm ∧ A.cm ≠ A.hi) := by
  have := h.nodup
  simp only [DepA.list, List.nodup_cons, List.mem_cons, List.not_mem_nil, or_false, not_or, List.nodup_nil, not_false_eq_true, and_true] at this
  obtain ⟨⟨a1, a2, a3, a4, a5, a6, a7, a8, a9, a10⟩, ⟨b1, b2, b3, b4, b5, b6, b7, b8, b9⟩, ⟨c1, c2, c3, c4, c5, c6, c7, c8⟩, ⟨d1, d2, d3, d4, d5, d6, d7⟩, ⟨e1, e2, e3, e4, e5, e6⟩, ⟨f1, f2, f3, f4, f5⟩, ⟨g1, g2, g3, g4⟩, ⟨i1, i2, i3⟩, ⟨j1, j2⟩, l1⟩ := this
  exact ⟨⟨a1, Ne.symm a1⟩, ⟨a2, Ne.symm a2⟩, ⟨a3, Ne.symm a3⟩, ⟨a4, Ne.symm a4⟩, ⟨a5, Ne.symm a5⟩, ⟨a6, Ne.symm a6⟩, ⟨a7, Ne.symm a7⟩, ⟨a8, Ne.symm a8⟩, ⟨a9, Ne.symm a9⟩, ⟨a10, Ne.symm a10⟩, ⟨b1, Ne.symm b1⟩, ⟨b2, Ne.symm b2⟩, ⟨b3, Ne.symm b3⟩, ⟨b4, Ne.symm b4⟩, ⟨b5, Ne.symm b5⟩, ⟨b6, Ne.symm b6⟩, ⟨b7, Ne.symm b7⟩, ⟨b8, Ne.symm b8⟩, ⟨b9, Ne.symm b9⟩, ⟨c1, Ne.symm c1⟩, ⟨c2, Ne.symm c2⟩, ⟨c3, Ne.symm c3⟩, ⟨c4, Ne.symm c4⟩, ⟨c5, Ne.symm c5⟩, ⟨c6, Ne.symm c6⟩, ⟨c7, Ne.symm c7⟩, ⟨c8, Ne.symm c8⟩, ⟨d1, Ne.symm d1⟩, ⟨d2, Ne.symm d2⟩, ⟨d3, Ne.symm d3⟩, ⟨d4, Ne.symm d4⟩, ⟨d5, Ne.symm d5⟩, ⟨d6, Ne.symm d6⟩, ⟨d7, Ne.symm d7⟩, ⟨e1, Ne.symm e1⟩, ⟨e2, Ne.symm e2⟩, ⟨e3, Ne.symm e3⟩, ⟨e4, Ne.symm e4⟩, ⟨e5, Ne.symm e5⟩, ⟨e6, Ne.symm e6⟩, ⟨f1, Ne.symm f1⟩, ⟨f2, Ne.symm f2⟩, ⟨f3, Ne.symm f3⟩, ⟨f4, Ne.symm f4⟩, ⟨f5, Ne.symm f5⟩, ⟨g1, Ne.symm g1⟩, ⟨g2, Ne.symm g2⟩, ⟨g3, Ne.symm g3⟩, ⟨g4, Ne.symm g4⟩, ⟨i1, Ne.symm i1⟩, ⟨i2, Ne.symm i2⟩, ⟨i3, Ne.symm i3⟩, ⟨j1, Ne.symm j1⟩, ⟨j2, Ne.symm j2⟩, ⟨l1, Ne.symm l1⟩⟩
theorem IsDep.setBrk {w w' : World} {A : DepA} {M : DepM} (h : IsDep w A M) {s : Brk} (k : Fr [A.brk] w w') (hb : IsBrk w' A.brk s) : IsDep w' A { M with br := s } := by
  have N := h.ne
  obtain ⟨vs, h1, h2⟩ := h.calls
  have hm : NoMem w [A.brk] := h.nomem.sub (by simp [DepA.list])
  exact ⟨k.keep h.blk (by simp [N]), hb, h.bulk.fr k (by simp [N]), h.falls.fr k (by simp [N]) (by simp [N]), h.win.fr k (by simp [N]), h.took.fr k (by simp [N]), ⟨vs, h1.fr k (by simp [N]), h2.fr k hm⟩, h.nodup, h.fine, h.ran⟩
theorem IsDep.setBulk {w w' : World} {A : DepA} {M : DepM} (h : IsDep w A M) {hs ws : List Int} (k : Fr [A.r, A.g] w w') (hb : IsBulk w' A.blk A.s A.r A.g hs ws M.pool M.que) : IsDep w' A { M with run := hs, wait := ws } := by
  have N := h.ne
  obtain ⟨vs, h1, h2⟩ := h.calls
  have hm : NoMem w [A.r, A.g] := h.nomem.sub (by simp [DepA.list])
  exact ⟨k.keep h.blk (by simp [N]), h.brk.fr k (by simp [N]), hb, h.falls.fr k (by simp [N]) (by simp [N]), h.win.fr k (by simp [N]), h.took.fr k (by simp [N]), ⟨vs, h1.fr k (by simp [N]), h2.fr k hm⟩, h.nodup, h.fine, h.ran⟩
theorem IsDep.setFalls {w w' : World} {A : DepA} {M : DepM} (h : IsDep w A M) {hs : List (Int × Int)} (k : Fr [A.fm] w w') (hb : IsSet w' A.fs A.fm hs M.k.fb.toNat) : IsDep w' A { M with falls := hs } := by
  have N := h.ne
  obtain ⟨vs, h1, h2⟩ := h.calls
  have hm : NoMem w [A.fm] := h.nomem.sub (by simp [DepA.list])
  exact ⟨k.keep h.blk (by simp [N]), h.brk.fr k (by simp [N]), h.bulk.fr k (by simp [N]), hb, h.win.fr k (by simp [N]), h.took.fr k (by simp [N]), ⟨vs, h1.fr k (by simp [N]), h2.fr k hm⟩, h.nodup, h.fine, h.ran⟩
theorem IsDep.setWin {w w' : World} {A : DepA} {M : DepM} (h : IsDep w A M) {s : WinM} (k : Fr [A.wi] w w') (hb : IsWin w' A.wi s) : IsDep w' A { M with win := s } := by
  have N := h.ne
  obtain ⟨vs, h1, h2⟩ := h.calls
  have hm : NoMem w [A.wi] := h.nomem.sub (by simp [DepA.list])
  exact ⟨k.keep h.blk (by simp [N]), h.brk.fr k (by simp [N]), h.bulk.fr k (by simp [N]), h.falls.fr k (by simp [N]) (by simp [N]), hb, h.took.fr k (by simp [N]), ⟨vs, h1.fr k (by simp [N]), h2.fr k hm⟩, h.nodup, h.fine, h.ran⟩
theorem IsDep.setTook {w w' : World} {A : DepA} {M : DepM} (h : IsDep w A M) {s : WinM} (k : Fr [A.hi] w w') (hb : IsHist w' A.hi s) : IsDep w' A { M with took := s } := by
  have N := h.ne
  obtain ⟨vs, h1, h2⟩ := h.calls
  have hm : NoMem w [A.hi] := h.nomem.sub (by simp [DepA.list])
  exact ⟨k.keep h.blk (by simp [N]), h.brk.fr k (by simp [N]), h.bulk.fr k (by simp [N]), h.falls.fr k (by simp [N]) (by simp [N]), h.win.fr k (by simp [N]), hb, ⟨vs, h1.fr k (by simp [N]), h2.fr k hm⟩, h.nodup, h.fine, h.ran⟩
theorem IsDep.setCalls {w w' : World} {A : DepA} {M : DepM} (h : IsDep w A M) {vs : List (Int × Value)} {cs : List (Int × CallM)} (k : Fr [A.cm] w w') (hb : MapKV encI w' A.cm vs) (hc : CallsV w vs cs) : IsDep w' A { M with calls := cs } := by
  have N := h.ne
  have hm : NoMem w [A.cm] := h.nomem.sub (by simp [DepA.list])
  exact ⟨k.keep h.blk (by simp [N]), h.brk.fr k (by simp [N]), h.bulk.fr k (by simp [N]), h.falls.fr k (by simp [N]) (by simp [N]), h.win.fr k (by simp [N]), h.took.fr k (by simp [N]), ⟨vs, hb, hc.fr k hm⟩, h.nodup, h.fine, h.ran⟩
theorem IsDep.setProbe {w : World} {A : DepA} {M : DepM} (h : IsDep w A M) (x : Int) : IsDep (w.setCell ⟨A.d, 22, none⟩ (.int .i64 x)) A { M with probe := x } := by
  have N := h.ne
  obtain ⟨vs, h1, h2⟩ := h.calls
  have k : Fr [A.d] w (w.setCell ⟨A.d, 22, none⟩ (.int .i64 x)) := (Fr.refl _ _).setCell (.inl (by simp)) _
  have hm : NoMem w [A.d] := h.nomem.sub (by simp [DepA.list])
  exact ⟨block_setCell h.blk 22 _, h.brk.fr k (by simp [N]), h.bulk.fr k (by simp [N]), h.falls.fr k (by simp [N]) (by simp [N]), h.win.fr k (by simp [N]), h.took.fr k (by simp [N]), ⟨vs, h1.fr k (by simp [N]), h2.fr k hm⟩, h.nodup, h.fine, h.ran⟩
/-- The cells of a dependency's block that the functions read. -/
theorem IsDep.cells {w : World} {A : DepA} {M : DepM} (h : IsDep w A M) :
    w.cell? ⟨A.d, 0, none⟩ = some (.pointer (some ⟨A.brk, 0, none⟩)) ∧ w.cell? ⟨A.d, 1, none⟩ = some (.pointer (some ⟨A.blk, 0, none⟩)) ∧ w.cell? ⟨A.d, 18, none⟩ = some (.pointer (some ⟨A.fs, 0, none⟩)) ∧ w.cell? ⟨A.d, 19, none⟩ = some (.pointer (some ⟨A.wi, 0, none⟩)) ∧ w.cell? ⟨A.d, 20, none⟩ = some (.pointer (some ⟨A.hi, 0, none⟩)) ∧ w.cell? ⟨A.d, 21, none⟩ = some (.map (some A.cm)) ∧ w.cell? ⟨A.d, 22, none⟩ = some (.int .i64 M.probe) ∧ w.frozen? ⟨A.d, 22, none⟩ = false ∧ w.cell? ⟨A.d, 7, none⟩ = some (.int .i64 M.k.ch) ∧ w.cell? ⟨A.d, 8, none⟩ = some (.int .u64 M.k.t) ∧ w.cell? ⟨A.d, 9, none⟩ = some (.int .u64 M.k.ft) := by
  have b := h.blk
  refine ⟨?_, ?_, ?_, ?_, ?_, ?_, ?_, free_of_block b _, ?_, ?_, ?_⟩
  all_goals (rw [cell_of_block b]; rfl)
end Go.Proofs.YtcnkhjgpjchkeaaGreat

namespace Go.Proofs.YtcnkhjgpjchkeaaGreat
open Go.RowKit

/-- What a configuration that may be is. -/
structure CF.Okay (k : CF) : Prop where
  mode : k.mode = 1 ∨ k.mode = 2
  most : 1 ≤ k.most ∧ k.most ≤ 8
  que : 0 ≤ k.que ∧ k.que ≤ 8
  pool : 0 ≤ k.pool ∧ k.pool ≤ 8
  queue : 0 ≤ k.queue ∧ k.queue ≤ 8
  sem : 0 ≤ k.sem ∧ k.sem ≤ 8
  fb : 0 ≤ k.fb ∧ k.fb ≤ 4
  ch : 0 ≤ k.ch ∧ k.ch ≤ 3
  t : 1 ≤ k.t ∧ k.t ≤ 1099511627776
  ft : 1 ≤ k.ft ∧ k.ft ≤ 1099511627776
  vo : 1 ≤ k.vo ∧ k.vo ≤ 1000
  pe : 0 ≤ k.pe ∧ k.pe ≤ 100
  sl : 0 ≤ k.sl ∧ k.sl ≤ 1099511627776
  bu : 1 ≤ k.bu ∧ k.bu ≤ 8
  wi : 1 ≤ k.wi ∧ k.wi ≤ 1099511627776
  wd : 0 ≤ k.wd ∧ k.wd ≤ 1099511627776
  ba : 0 ≤ k.ba ∧ k.ba ≤ 4
  fo : 0 ≤ k.fo ∧ k.fo ≤ 2
theorem CF.fine_at {k : CF} (h : k.fine = true) (r : k.Ran) (i : Nat) (hi : i < 16) : k.okB i = true := by
  rw [CF.okB_eq r i hi]
  exact List.all_eq_true.1 h i (List.mem_range.2 hi)
theorem inB_iff {n lo hi : Int} : inB n lo hi = true ↔ lo ≤ n ∧ n ≤ hi := by simp [inB]
theorem onB_le {x : Bool} {n lo hi : Int} (h : onB x n lo hi = true) (h0 : 0 ≤ lo) (h1 : 0 ≤ hi) : 0 ≤ n ∧ n ≤ hi := by
  cases x
  · simp [onB] at h; omega
  · rw [onB, if_pos rfl, inB_iff] at h; omega
theorem CF.okay {k : CF} (h : k.fine = true) (r : k.Ran) : k.Okay := by
  have A := CF.fine_at h r
  have h0 := inB_iff.1 (A 0 (by omega))
  have hm : k.mode = 1 ∨ k.mode = 2 := by omega
  have hp := onB_le (A 1 (by omega)) (by decide) (by decide)
  have hq := onB_le (A 2 (by omega)) (by decide) (by decide)
  have hs := onB_le (A 3 (by omega)) (by decide) (by decide)
  have hb := onB_le (A 14 (by omega)) (by decide) (by decide)
  refine ⟨hm, ?_, ?_, hp, hq, hs, inB_iff.1 (A 4 (by omega)), inB_iff.1 (A 5 (by omega)), inB_iff.1 (A 6 (by omega)), inB_iff.1 (A 7 (by omega)), inB_iff.1 (A 8 (by omega)), inB_iff.1 (A 9 (by omega)), inB_iff.1 (A 10 (by omega)), inB_iff.1 (A 11 (by omega)), inB_iff.1 (A 12 (by omega)), inB_iff.1 (A 13 (by omega)), hb, inB_iff.1 (A 15 (by omega))⟩
  · have h1 : onB (k.mode == 1) k.pool 1 8 = true := A 1 (by omega)
    have h3 : onB (k.mode == 2) k.sem 1 8 = true := A 3 (by omega)
    rcases hm with e | e
    · rw [e] at h1; have h1 : inB k.pool 1 8 = true := h1; rw [inB_iff] at h1
      rw [CF.most, if_neg (by omega)]; exact h1
    · rw [e] at h3; have h3 : inB k.sem 1 8 = true := h3; rw [inB_iff] at h3
      rw [CF.most, if_pos e]; exact h3
  · rw [CF.que]
    split
    · omega
    · exact hq

/-- A new dependency. -/
def DepM.new (k : CF) : DepM := ⟨k, ⟨1, 0, k.sl.toNat, k.fo⟩, [], [], [], WinM.new k.bu.toNat k.wi.toNat, WinM.new k.bu.toNat k.wi.toNat, [], 0⟩
def NewDep (k : CF) (w : World) (e : Ending) (w' : World) : Prop :=
  ∃ A : DepA, e = .returned (.pointer (some ⟨A.d, 0, none⟩)) ∧ IsDep w' A (DepM.new k) ∧ (∀ x ∈ A.list, w.heap.size ≤ x) ∧ Fr [] w w'

theorem NewDep.mk {k : CF} {w w' : World} {brk blk s r g fs fm wi hi cm p : Nat} (hf : k.fine = true) (hr : k.Ran)
    (hb : IsBrk w' brk (DepM.new k).br) (hk : IsBulk w' blk s r g [] [] (DepM.new k).pool (DepM.new k).que) (hs : IsSet w' fs fm [] k.fb.toNat)
    (hw : IsWin w' wi (DepM.new k).win) (hh : IsHist w' hi (DepM.new k).took) (hc : MapKV encI w' cm []) (hp : p = w'.heap.size)
    (hn : [brk, blk, s, r, g, fs, fm, wi, hi, cm].Nodup) (hge : ∀ x ∈ [brk, blk, s, r, g, fs, fm, wi, hi, cm], w.heap.size ≤ x) (hF : Fr [] w w') :
    NewDep k w (.returned (.pointer (some ⟨p, 0, none⟩))) (w'.alloc (.cells (depCells ⟨p, brk, blk, s, r, g, fs, fm, wi, hi, cm⟩ (DepM.new k)) 110)) := by
  subst hp
  have k1 : Fr [] w' (w'.alloc (.cells (depCells ⟨w'.heap.size, brk, blk, s, r, g, fs, fm, wi, hi, cm⟩ (DepM.new k)) 110)) := (Fr.refl _ _).alloc _
  have hl : ∀ x ∈ [brk, blk, s, r, g, fs, fm, wi, hi, cm], x < w'.heap.size := by
    obtain ⟨_, _, hw1⟩ := hw
    obtain ⟨cw, hw2, _⟩ := hw1
    obtain ⟨_, _, hh1⟩ := hh
    obtain ⟨ch, hh2, _⟩ := hh1
    obtain ⟨_, _, hs1⟩ := hk.set.2.1.obj
    obtain ⟨_, _, hf1⟩ := hs.2.1.obj
    obtain ⟨_, hr1⟩ := hk.ring.obj
    intro x hx
    simp only [List.mem_cons, List.not_mem_nil, or_false] at hx
    rcases hx with rfl | rfl | rfl | rfl | rfl | rfl | rfl | rfl | rfl | rfl
    · exact lt_of_block hb
    · exact lt_of_block hk.blk
    · exact lt_of_block hk.set.1
    · exact lt_of_block hs1
    · exact lt_of_block hr1
    · exact lt_of_block hs.1
    · exact lt_of_block hf1
    · exact lt_of_block hw2
    · exact lt_of_block hh2
    · exact hc.lt
  refine ⟨⟨w'.heap.size, brk, blk, s, r, g, fs, fm, wi, hi, cm⟩, rfl, ⟨block_alloc_new _ _, hb.fr k1 (by simp), hk.fr0 k1, hs.fr k1 (by simp) (by simp), hw.fr k1 (by simp), hh.fr k1 (by simp), ⟨[], hc.fr k1 (by simp), trivial⟩, ?_, hf, hr⟩, ?_, hF.alloc _⟩
  · show (w'.heap.size :: [brk, blk, s, r, g, fs, fm, wi, hi, cm]).Nodup
    exact List.nodup_cons.2 ⟨fun h => Nat.lt_irrefl _ (hl _ h), hn⟩
  · intro x hx
    rcases List.mem_cons.1 hx with rfl | hx
    · exact hF.size
    · exact hge x hx

end Go.Proofs.YtcnkhjgpjchkeaaGreat

namespace Go.Proofs.YtcnkhjgpjchkeaaGreat
open Go.RowKit

/-- A region's operations and its post, hidden behind letters. -/
theorem wpAnyH_hide {P : Program} {md : Region.Mode} {ops : Array Oper} {Q : Exit → Act → World → Prop} {S : World → Prop} {fuel : Nat} {listed : Array Bool} {a : Act} {w : World}
    (hQ : ∀ c a d v w, Q (.panic c) (a.put d v) w → Q (.panic c) a w)
    (h : ∀ ops' Q', Hid (ops' = ops) → (∀ c a d v w, Q' (.panic c) (a.put d v) w → Q' (.panic c) a w) → Hid (∀ a w, Q .normal a w → Q' .normal a w) → wpAnyH P md ops' Q' S fuel listed a w) : wpAnyH P md ops Q S fuel listed a w :=
  h ops Q (Lib.hid rfl) hQ (Lib.hid fun _ _ h => h)
theorem yieldsIf_build {P : Program} {ops : Array Oper} {S : World → Prop} {op : Oper} {a : Act} (hw : Region.wanted op (yielded ops a.tmps) = true) (ty : TypeId) (parts : Array (Nat × Operand)) (ho : op.op = .build ty parts)
    (vs : Array (Nat × Value)) (hv : parts.map (fun (x : Nat × Operand) => (x.1, a.eval x.2)) = vs) (v : Value) (h : ∀ w, S w → (Instr.build ty vs).run P w = .ok v w) : YieldsIf P ops S op v a :=
  .inl ⟨hw, fun w hw' => by
    have := h w hw'
    rw [← hv] at this
    unfold execOp
    simp only [ho]
    simp only [Sem.run_bind, this, Result.andThen_ok, Sem.run_pure]⟩
theorem IsBulk.apart6 {w : World} {b s r g : Nat} {hs ws : List Int} {m q : Nat} (h : IsBulk w b s r g hs ws m q) : b ≠ s ∧ b ≠ r ∧ b ≠ g ∧ s ≠ r ∧ s ≠ g ∧ r ≠ g := by
  obtain ⟨_, h2⟩ := h.ring.obj
  obtain ⟨_, _, h3⟩ := h.set.2.1.obj
  have h4 := h.blk
  have h5 := h.set.1
  refine ⟨?_, ?_, ?_, ?_, ?_, ?_⟩
  all_goals (intro e; subst e; simp_all)
theorem IsWin.lt {w : World} {b : Nat} {s : WinM} (h : IsWin w b s) : b < w.heap.size := by
  obtain ⟨_, _, h⟩ := h
  obtain ⟨_, h, _⟩ := h
  exact lt_of_block h
theorem IsHist.lt {w : World} {b : Nat} {s : WinM} (h : IsHist w b s) : b < w.heap.size := by
  obtain ⟨_, _, h⟩ := h
  obtain ⟨_, h, _⟩ := h
  exact lt_of_block h
/-- A new dependency, out of its parts. -/
theorem NewDep.mk2 {k : CF} {w w' : World} {brk blk s r g fs fm wn hi cm p sl m q fb bu wi : Nat} (hf : k.fine = true) (hr : k.Ran) (E : k.sl = sl ∧ k.most = m ∧ k.que = q ∧ k.fb = fb ∧ k.bu = bu ∧ k.wi = wi)
    (hb : IsBrk w' brk ⟨1, 0, sl, k.fo⟩) (hk : IsBulk w' blk s r g [] [] m q) (hs : IsSet w' fs fm [] fb)
    (hw : IsWin w' wn (WinM.new bu wi)) (hh : IsHist w' hi (WinM.new bu wi)) (hc : MapKV encI w' cm []) (hp : p = w'.heap.size)
    (hn : [brk, blk, s, r, g, fs, fm, wn, hi, cm].Nodup) (hge : ∀ x ∈ [brk, blk, s, r, g, fs, fm, wn, hi, cm], w.heap.size ≤ x) (hF : Fr [] w w') :
    NewDep k w (.returned (.pointer (some ⟨p, 0, none⟩))) (w'.alloc (.cells (depCells ⟨p, brk, blk, s, r, g, fs, fm, wn, hi, cm⟩ (DepM.new k)) 110)) := by
  obtain ⟨e1, e2, e3, e4, e5, e6⟩ := E
  refine NewDep.mk hf hr ?_ ?_ ?_ ?_ ?_ hc hp hn hge hF
  · show IsBrk w' brk ⟨1, 0, k.sl.toNat, k.fo⟩
    rw [e1]; exact hb
  · show IsBulk w' blk s r g [] [] k.most.toNat k.que.toNat
    rw [e2, e3]; exact hk
  · rw [e4]; exact hs
  · show IsWin w' wn (WinM.new k.bu.toNat k.wi.toNat)
    rw [e5, e6]; exact hw
  · show IsHist w' hi (WinM.new k.bu.toNat k.wi.toNat)
    rw [e5, e6]; exact hh
/-- What the region that builds a dependency holds: the configuration's cells, in block b. -/
def ConfIn (b : Nat) (cs : List Value) (fb bu wi : Nat) (w : World) : Prop := w.rangeAt b 0 cs ∧ w.cell? ⟨b, 4, none⟩ = some (.int .i64 fb) ∧ w.cell? ⟨b, 11, none⟩ = some (.int .i64 bu) ∧ w.cell? ⟨b, 12, none⟩ = some (.int .u64 wi)
set_option maxHeartbeats 8000000 in
set_option maxRecDepth 20000 in
theorem depBuild (w : World) (k : CF) (brk blk fs wi hi cm p s r g fm : Nat) : (Instr.build 110 #[(0, .pointer (some ⟨brk, 0, none⟩)), (1, .pointer (some ⟨blk, 0, none⟩)), (2, .agg ([.int .i64 k.mode, .int .i64 k.pool, .int .i64 k.queue, .int .i64 k.sem, .int .i64 k.fb, .int .i64 k.ch, .int .u64 k.t, .int .u64 k.ft, .int .i64 k.vo, .int .i64 k.pe, .int .u64 k.sl, .int .i64 k.bu, .int .u64 k.wi, .int .u64 k.wd, .int .i64 k.ba, .int .i64 k.fo] : List Value).toArray), (3, .pointer (some ⟨fs, 0, none⟩)), (4, .pointer (some ⟨wi, 0, none⟩)), (5, .pointer (some ⟨hi, 0, none⟩)), (6, .map (some cm)), (7, .int .i64 0)]).run Tryz.prog w = .ok (.agg (depCells ⟨p, brk, blk, s, r, g, fs, fm, wi, hi, cm⟩ (DepM.new k))) w := by
  go_simp
  rfl
set_option maxHeartbeats 8000000 in
set_option maxRecDepth 20000 in
theorem depNew_yes (w : World) (k : CF) (hf : k.fine = true) (hr : k.Ran) : Calls Tryz.prog 8 #[k.val] w (NewDep k w) := by
  have O := CF.okay hf hr
  obtain ⟨sl, hsl⟩ : ∃ n : Nat, k.sl = n := ⟨k.sl.toNat, by have := O.sl; omega⟩
  obtain ⟨m, hm⟩ : ∃ n : Nat, k.most = n := ⟨k.most.toNat, by have := O.most; omega⟩
  obtain ⟨q, hq⟩ : ∃ n : Nat, k.que = n := ⟨k.que.toNat, by have := O.que; omega⟩
  obtain ⟨fb, hfb⟩ : ∃ n : Nat, k.fb = n := ⟨k.fb.toNat, by have := O.fb; omega⟩
  obtain ⟨bu, hbu⟩ : ∃ n : Nat, k.bu = n := ⟨k.bu.toNat, by have := O.bu; omega⟩
  obtain ⟨wi, hwi⟩ : ∃ n : Nat, k.wi = n := ⟨k.wi.toNat, by have := O.wi; omega⟩
  have CB := Lib.hid (fun w' => brk_new w' k sl hsl)
  have CK := Lib.hid (fun w' => bulk_new k w' m q hm hq O.mode (by have := O.most; have := O.que; omega))
  have CP := Lib.hid (fun w' => permit_new fb w' (by have := O.fb; omega))
  have CW := Lib.hid (fun w' => winNew_spec w' bu wi (by have := O.bu; omega) (by have := O.bu; omega) (by have := O.wi; omega) (by have := O.wi; omega))
  have CH := Lib.hid (fun w' => hisNew_spec w' bu wi (by have := O.bu; omega) (by have := O.bu; omega) (by have := O.wi; omega) (by have := O.wi; omega))
  have CC := Lib.hid (fun w' => check_spec w' k)
  have HB := Lib.hid (block_alloc_new w (.cells #[.int .i64 k.mode, .int .i64 k.pool, .int .i64 k.queue, .int .i64 k.sem, .int .i64 k.fb, .int .i64 k.ch, .int .u64 k.t, .int .u64 k.ft, .int .i64 k.vo, .int .i64 k.pe, .int .u64 k.sl, .int .i64 k.bu, .int .u64 k.wi, .int .u64 k.wd, .int .i64 k.ba, .int .i64 k.fo] 24))
  have HF := Lib.hid ((Fr.refl [] w).alloc (.cells #[.int .i64 k.mode, .int .i64 k.pool, .int .i64 k.queue, .int .i64 k.sem, .int .i64 k.fb, .int .i64 k.ch, .int .u64 k.t, .int .u64 k.ft, .int .i64 k.vo, .int .i64 k.pe, .int .u64 k.sl, .int .i64 k.bu, .int .u64 k.wi, .int .u64 k.wd, .int .i64 k.ba, .int .i64 k.fo] 24))
  obtain ⟨w2, hw2⟩ : ∃ w2, w2 = w.alloc (.cells #[.int .i64 k.mode, .int .i64 k.pool, .int .i64 k.queue, .int .i64 k.sem, .int .i64 k.fb, .int .i64 k.ch, .int .u64 k.t, .int .u64 k.ft, .int .i64 k.vo, .int .i64 k.pe, .int .u64 k.sl, .int .i64 k.bu, .int .u64 k.wi, .int .u64 k.wd, .int .i64 k.ba, .int .i64 k.fo] 24) := ⟨_, rfl⟩
  rw [← hw2] at HB HF
  have HW2 := Lib.hid hw2
  have KS : Hid (∀ w' : World, Fr [] w2 w' → ConfIn w.heap.size [.int .i64 k.mode, .int .i64 k.pool, .int .i64 k.queue, .int .i64 k.sem, .int .i64 k.fb, .int .i64 k.ch, .int .u64 k.t, .int .u64 k.ft, .int .i64 k.vo, .int .i64 k.pe, .int .u64 k.sl, .int .i64 k.bu, .int .u64 k.wi, .int .u64 k.wd, .int .i64 k.ba, .int .i64 k.fo] fb bu wi w') := Lib.hid (fun w' F => by
    have hb := F.keep HB.out (by simp)
    refine ⟨fun j v hj => ?_, ?_, ?_, ?_⟩
    · rw [cell_of_block hb, Nat.zero_add, List.getElem?_toArray]; exact hj
    · rw [cell_of_block hb, ← hfb]; rfl
    · rw [cell_of_block hb, ← hbu]; rfl
    · rw [cell_of_block hb, ← hwi]; rfl)
  have hc2 := KS.out w2 (Fr.refl _ _)
  have q0 : ∀ i v, [.int .i64 k.mode, .int .i64 k.pool, .int .i64 k.queue, .int .i64 k.sem, .int .i64 k.fb, .int .i64 k.ch, .int .u64 k.t, .int .u64 k.ft, .int .i64 k.vo, .int .i64 k.pe, .int .u64 k.sl, .int .i64 k.bu, .int .u64 k.wi, .int .u64 k.wd, .int .i64 k.ba, .int .i64 k.fo][i]? = some v → w2.cell? ⟨w.heap.size, i, none⟩ = some v := fun i v h => by simpa using hc2.1 i v h
  have z0 := q0 0 _ rfl
  have z1 := q0 1 _ rfl
  have z2 := q0 2 _ rfl
  have z3 := q0 3 _ rfl
  have z4 := q0 4 _ rfl
  have z5 := q0 5 _ rfl
  have z6 := q0 6 _ rfl
  have z7 := q0 7 _ rfl
  have z8 := q0 8 _ rfl
  have z9 := q0 9 _ rfl
  have z10 := q0 10 _ rfl
  have z11 := q0 11 _ rfl
  have z12 := q0 12 _ rfl
  have z13 := q0 13 _ rfl
  have z14 := q0 14 _ rfl
  have z15 := q0 15 _ rfl
  have HR := Lib.hid hr
  have HO := Lib.hid hf
  have HE := Lib.hid (And.intro hsl (And.intro hm (And.intro hq (And.intro hfb (And.intro hbu hwi)))))
  have hmm := @run_makeMap Tryz.prog
  clear hw2 hsl hm hq hfb hbu hwi O hr hc2 q0
  go_enter Tryz.func8, Tryz.ntmps8
  go_wp2_with fail
  rw [← HW2.out]
  go_wp2_with fail
  refine (CC.out _).mono ?_
  rintro e w3 ⟨n, rfl, F3⟩
  rw [hf]
  have HF3 := Lib.hid F3
  clear F3 z0 z1 z2 z3 z4 z5 z6 z7 z8 z9 z10 z11 z12 z13 z14 z15 HB HW2 CC hf
  go_wp2_with fail
  have F0 : Fr [] w2 w3.drew := HF3.out.drew
  have hu := Lib.hid Tryz.underlying24
  have hi : Hid ((Tryz.prog.info? 24).map (·.size) = some ([.int .i64 k.mode, .int .i64 k.pool, .int .i64 k.queue, .int .i64 k.sem, .int .i64 k.fb, .int .i64 k.ch, .int .u64 k.t, .int .u64 k.ft, .int .i64 k.vo, .int .i64 k.pe, .int .u64 k.sl, .int .i64 k.bu, .int .u64 k.wi, .int .u64 k.wd, .int .i64 k.ba, .int .i64 k.fo] : List Value).length) := Lib.hid (by kernel_rfl)
  have HBD := Lib.hid (fun (brk blk fs wi hi cm p s r g fm : Nat) (w : World) => depBuild w k brk blk fs wi hi cm p s r g fm)
  have hkv : k.val = .agg ([.int .i64 k.mode, .int .i64 k.pool, .int .i64 k.queue, .int .i64 k.sem, .int .i64 k.fb, .int .i64 k.ch, .int .u64 k.t, .int .u64 k.ft, .int .i64 k.vo, .int .i64 k.pe, .int .u64 k.sl, .int .i64 k.bu, .int .u64 k.wi, .int .u64 k.wd, .int .i64 k.ba, .int .i64 k.fo] : List Value).toArray := rfl
  rw [hkv] at CB CK ⊢
  clear hkv
  refine wp_region_held_drew (S := ConfIn w.heap.size [.int .i64 k.mode, .int .i64 k.pool, .int .i64 k.queue, .int .i64 k.sem, .int .i64 k.fb, .int .i64 k.ch, .int .u64 k.t, .int .u64 k.ft, .int .i64 k.vo, .int .i64 k.pe, .int .u64 k.sl, .int .i64 k.bu, .int .u64 k.wi, .int .u64 k.wd, .int .i64 k.ba, .int .i64 k.fo] fb bu wi) (by kernel_rfl) (KS.out _ F0) (fun hHeld => ?_)
  obtain ⟨C, hC⟩ : ∃ C : List Value, C = [.int .i64 k.mode, .int .i64 k.pool, .int .i64 k.queue, .int .i64 k.sem, .int .i64 k.fb, .int .i64 k.ch, .int .u64 k.t, .int .u64 k.ft, .int .i64 k.vo, .int .i64 k.pe, .int .u64 k.sl, .int .i64 k.bu, .int .u64 k.wi, .int .u64 k.wd, .int .i64 k.ba, .int .i64 k.fo] := ⟨_, rfl⟩
  rw [← hC] at CB CK KS hi HBD hHeld ⊢
  have hR : Array.replicate 22 false = #[false, false, false, false, false, false, false, false, false, false, false, false, false, false, false, false, false, false, false, false, false, false] := rfl
  refine (?_ : wpAnyH _ _ _ _ _ 22 (Array.replicate 22 false) _ _)
  rw [hR]
  refine wpAnyH_hide (fun _ _ d _ _ h => by cases d <;> exact h) (fun ops Q hops hQ hQn => ?_)
  clear hR hC
  have e0 := congrArg (fun x : Array Oper => x[0]?) hops.out
  simp only [List.getElem?_toArray, List.getElem?_cons_zero] at e0
  have e1 := congrArg (fun x : Array Oper => x[1]?) hops.out
  simp only [List.getElem?_toArray, List.getElem?_cons_zero, List.getElem?_cons_succ] at e1
  have e2 := congrArg (fun x : Array Oper => x[2]?) hops.out
  simp only [List.getElem?_toArray, List.getElem?_cons_zero, List.getElem?_cons_succ] at e2
  have e3 := congrArg (fun x : Array Oper => x[3]?) hops.out
  simp only [List.getElem?_toArray, List.getElem?_cons_zero, List.getElem?_cons_succ] at e3
  have e4 := congrArg (fun x : Array Oper => x[4]?) hops.out
  simp only [List.getElem?_toArray, List.getElem?_cons_zero, List.getElem?_cons_succ] at e4
  have e5 := congrArg (fun x : Array Oper => x[5]?) hops.out
  simp only [List.getElem?_toArray, List.getElem?_cons_zero, List.getElem?_cons_succ] at e5
  have e6 := congrArg (fun x : Array Oper => x[6]?) hops.out
  simp only [List.getElem?_toArray, List.getElem?_cons_zero, List.getElem?_cons_succ] at e6
  have e7 := congrArg (fun x : Array Oper => x[7]?) hops.out
  simp only [List.getElem?_toArray, List.getElem?_cons_zero, List.getElem?_cons_succ] at e7
  have e8 := congrArg (fun x : Array Oper => x[8]?) hops.out
  simp only [List.getElem?_toArray, List.getElem?_cons_zero, List.getElem?_cons_succ] at e8
  have e9 := congrArg (fun x : Array Oper => x[9]?) hops.out
  simp only [List.getElem?_toArray, List.getElem?_cons_zero, List.getElem?_cons_succ] at e9
  have e10 := congrArg (fun x : Array Oper => x[10]?) hops.out
  simp only [List.getElem?_toArray, List.getElem?_cons_zero, List.getElem?_cons_succ] at e10
  have e11 := congrArg (fun x : Array Oper => x[11]?) hops.out
  simp only [List.getElem?_toArray, List.getElem?_cons_zero, List.getElem?_cons_succ] at e11
  have e12 := congrArg (fun x : Array Oper => x[12]?) hops.out
  simp only [List.getElem?_toArray, List.getElem?_cons_zero, List.getElem?_cons_succ] at e12
  have e13 := congrArg (fun x : Array Oper => x[13]?) hops.out
  simp only [List.getElem?_toArray, List.getElem?_cons_zero, List.getElem?_cons_succ] at e13
  have e14 := congrArg (fun x : Array Oper => x[14]?) hops.out
  simp only [List.getElem?_toArray, List.getElem?_cons_zero, List.getElem?_cons_succ] at e14
  have e15 := congrArg (fun x : Array Oper => x[15]?) hops.out
  simp only [List.getElem?_toArray, List.getElem?_cons_zero, List.getElem?_cons_succ] at e15
  have e16 := congrArg (fun x : Array Oper => x[16]?) hops.out
  simp only [List.getElem?_toArray, List.getElem?_cons_zero, List.getElem?_cons_succ] at e16
  have e17 := congrArg (fun x : Array Oper => x[17]?) hops.out
  simp only [List.getElem?_toArray, List.getElem?_cons_zero, List.getElem?_cons_succ] at e17
  have e18 := congrArg (fun x : Array Oper => x[18]?) hops.out
  simp only [List.getElem?_toArray, List.getElem?_cons_zero, List.getElem?_cons_succ] at e18
  have e19 := congrArg (fun x : Array Oper => x[19]?) hops.out
  simp only [List.getElem?_toArray, List.getElem?_cons_zero, List.getElem?_cons_succ] at e19
  have e20 := congrArg (fun x : Array Oper => x[20]?) hops.out
  simp only [List.getElem?_toArray, List.getElem?_cons_zero, List.getElem?_cons_succ] at e20
  have e21 := congrArg (fun x : Array Oper => x[21]?) hops.out
  simp only [List.getElem?_toArray, List.getElem?_cons_zero, List.getElem?_cons_succ] at e21
  refine wpAnyH_take (i := 0) (v := .agg C.toArray) e0 (by rw [hops.out]; kernel_rfl) (by rw [hops.out]; kernel_rfl) (by rw [hops.out]; kernel_rfl) (fun c a w h => hQ c a _ _ w h) (yieldsIf_load_mid rfl _ _ rfl w.heap.size 0 rfl _ _ (fun _ h => h.1) hu.out rfl hi.out) hHeld ?_
  (try simp only [Act.put, List.setIfInBounds_toArray, List.set_cons_zero, List.set_cons_succ])
  refine wpAnyH_take (i := 2) (v := .agg C.toArray) e2 (by rw [hops.out]; kernel_rfl) (by rw [hops.out]; kernel_rfl) (by rw [hops.out]; kernel_rfl) (fun c a w h => hQ c a _ _ w h) (yieldsIf_load_mid rfl _ _ rfl w.heap.size 0 rfl _ _ (fun _ h => h.1) hu.out rfl hi.out) hHeld ?_
  (try simp only [Act.put, List.setIfInBounds_toArray, List.set_cons_zero, List.set_cons_succ])
  refine wpAnyH_take (i := 4) (v := .agg C.toArray) e4 (by rw [hops.out]; kernel_rfl) (by rw [hops.out]; kernel_rfl) (by rw [hops.out]; kernel_rfl) (fun c a w h => hQ c a _ _ w h) (yieldsIf_load_mid rfl _ _ rfl w.heap.size 0 rfl _ _ (fun _ h => h.1) hu.out rfl hi.out) hHeld ?_
  (try simp only [Act.put, List.setIfInBounds_toArray, List.set_cons_zero, List.set_cons_succ])
  refine wpAnyH_take (i := 5) (v := .pointer (some ⟨w.heap.size, 4, none⟩)) e5 (by rw [hops.out]; kernel_rfl) (by rw [hops.out]; kernel_rfl) (by rw [hops.out]; kernel_rfl) (fun c a w h => hQ c a _ _ w h) (Or.inl ⟨rfl, fun w' _ => by go_simp⟩) hHeld ?_
  (try simp only [Act.put, List.setIfInBounds_toArray, List.set_cons_zero, List.set_cons_succ])
  refine wpAnyH_take (i := 6) (v := .int .i64 fb) e6 (by rw [hops.out]; kernel_rfl) (by rw [hops.out]; kernel_rfl) (by rw [hops.out]; kernel_rfl) (fun c a w h => hQ c a _ _ w h) (Or.inl ⟨rfl, fun w' hS => by have hS := hS.2.1; go_simp⟩) hHeld ?_
  (try simp only [Act.put, List.setIfInBounds_toArray, List.set_cons_zero, List.set_cons_succ])
  refine wpAnyH_take (i := 8) (v := .pointer (some ⟨w.heap.size, 11, none⟩)) e8 (by rw [hops.out]; kernel_rfl) (by rw [hops.out]; kernel_rfl) (by rw [hops.out]; kernel_rfl) (fun c a w h => hQ c a _ _ w h) (Or.inl ⟨rfl, fun w' _ => by go_simp⟩) hHeld ?_
  (try simp only [Act.put, List.setIfInBounds_toArray, List.set_cons_zero, List.set_cons_succ])
  refine wpAnyH_take (i := 9) (v := .int .i64 bu) e9 (by rw [hops.out]; kernel_rfl) (by rw [hops.out]; kernel_rfl) (by rw [hops.out]; kernel_rfl) (fun c a w h => hQ c a _ _ w h) (Or.inl ⟨rfl, fun w' hS => by have hS := hS.2.2.1; go_simp⟩) hHeld ?_
  (try simp only [Act.put, List.setIfInBounds_toArray, List.set_cons_zero, List.set_cons_succ])
  refine wpAnyH_take (i := 10) (v := .pointer (some ⟨w.heap.size, 12, none⟩)) e10 (by rw [hops.out]; kernel_rfl) (by rw [hops.out]; kernel_rfl) (by rw [hops.out]; kernel_rfl) (fun c a w h => hQ c a _ _ w h) (Or.inl ⟨rfl, fun w' _ => by go_simp⟩) hHeld ?_
  (try simp only [Act.put, List.setIfInBounds_toArray, List.set_cons_zero, List.set_cons_succ])
  refine wpAnyH_take (i := 11) (v := .int .u64 wi) e11 (by rw [hops.out]; kernel_rfl) (by rw [hops.out]; kernel_rfl) (by rw [hops.out]; kernel_rfl) (fun c a w h => hQ c a _ _ w h) (Or.inl ⟨rfl, fun w' hS => by have hS := hS.2.2.2; go_simp⟩) hHeld ?_
  (try simp only [Act.put, List.setIfInBounds_toArray, List.set_cons_zero, List.set_cons_succ])
  refine wpAnyH_take (i := 13) (v := .pointer (some ⟨w.heap.size, 11, none⟩)) e13 (by rw [hops.out]; kernel_rfl) (by rw [hops.out]; kernel_rfl) (by rw [hops.out]; kernel_rfl) (fun c a w h => hQ c a _ _ w h) (Or.inl ⟨rfl, fun w' _ => by go_simp⟩) hHeld ?_
  (try simp only [Act.put, List.setIfInBounds_toArray, List.set_cons_zero, List.set_cons_succ])
  refine wpAnyH_take (i := 14) (v := .int .i64 bu) e14 (by rw [hops.out]; kernel_rfl) (by rw [hops.out]; kernel_rfl) (by rw [hops.out]; kernel_rfl) (fun c a w h => hQ c a _ _ w h) (Or.inl ⟨rfl, fun w' hS => by have hS := hS.2.2.1; go_simp⟩) hHeld ?_
  (try simp only [Act.put, List.setIfInBounds_toArray, List.set_cons_zero, List.set_cons_succ])
  refine wpAnyH_take (i := 15) (v := .pointer (some ⟨w.heap.size, 12, none⟩)) e15 (by rw [hops.out]; kernel_rfl) (by rw [hops.out]; kernel_rfl) (by rw [hops.out]; kernel_rfl) (fun c a w h => hQ c a _ _ w h) (Or.inl ⟨rfl, fun w' _ => by go_simp⟩) hHeld ?_
  (try simp only [Act.put, List.setIfInBounds_toArray, List.set_cons_zero, List.set_cons_succ])
  refine wpAnyH_take (i := 16) (v := .int .u64 wi) e16 (by rw [hops.out]; kernel_rfl) (by rw [hops.out]; kernel_rfl) (by rw [hops.out]; kernel_rfl) (fun c a w h => hQ c a _ _ w h) (Or.inl ⟨rfl, fun w' hS => by have hS := hS.2.2.2; go_simp⟩) hHeld ?_
  (try simp only [Act.put, List.setIfInBounds_toArray, List.set_cons_zero, List.set_cons_succ])
  have hsz : w.heap.size ≤ w2.heap.size := HF.out.size
  have hsz0 : w2.heap.size ≤ w3.drew.heap.size := F0.size
  generalize w3.drew = w0 at *
  refine wpAnyH_ready (rs := [1, 18]) (by rw [hops.out]; kernel_rfl) (by simp) ?_
  refine AllReadyH.cons e1 (fun K hK => ?_) ?_
  · go_simp
    go_at_call 30
    refine (CB.out _).mono ?_
    rintro e w1x ⟨rfl, B1, GX⟩
    have G1 := GX
    clear GX
    go_wp2_with fail
    have pB := lt_of_block B1
    have s1 := G1.size
    have F1 := F0.trans G1
    refine hK.out _ _ (KS.out _ F1) (fun hHeld => ?_)
    clear hK K
    (try simp only [List.setIfInBounds_toArray, List.set_cons_zero, List.set_cons_succ])
    refine wpAnyH_ready (rs := [3, 18]) (by rw [hops.out]; kernel_rfl) (by simp) ?_
    refine AllReadyH.cons e3 (fun K hK => ?_) ?_
    · go_simp
      go_at_call 31
      refine (CK.out _).mono ?_
      rintro e w2x ⟨b, s, r, g, rfl, K1, hge, GX⟩
      have G2 := GX
      clear GX
      go_wp2_with fail
      have pK1 := lt_of_block K1.blk
      have pK2 := lt_of_block K1.set.1
      have pK3 := K1.set.2.1.lt
      have pK4 := lt_of_block K1.ring.obj.choose_spec
      have s2 := G2.size
      have F2 := F1.trans G2
      refine hK.out _ _ (KS.out _ F2) (fun hHeld => ?_)
      clear hK K
      (try simp only [List.setIfInBounds_toArray, List.set_cons_zero, List.set_cons_succ])
      refine wpAnyH_ready (rs := [7, 18]) (by rw [hops.out]; kernel_rfl) (by simp) ?_
      refine AllReadyH.cons e7 (fun K hK => ?_) ?_
      · go_simp
        go_at_call 32
        refine (CP.out _).mono ?_
        rintro e w3x ⟨rfl, P1, GX⟩
        have G3 := GX
        clear GX
        go_wp2_with fail
        have pP1 := lt_of_block P1.1
        have pP2 := P1.2.1.lt
        have s3 := G3.size
        have F3 := F2.trans G3
        refine hK.out _ _ (KS.out _ F3) (fun hHeld => ?_)
        clear hK K
        (try simp only [List.setIfInBounds_toArray, List.set_cons_zero, List.set_cons_succ])
        refine wpAnyH_ready (rs := [12, 18]) (by rw [hops.out]; kernel_rfl) (by simp) ?_
        refine AllReadyH.cons e12 (fun K hK => ?_) ?_
        · go_simp
          go_at_call 33
          refine (CW.out _).mono ?_
          rintro e w4x ⟨rfl, W1, GX⟩
          have G4 := GX
          clear GX
          go_wp2_with fail
          have pW := W1.lt
          have s4 := G4.size
          have F4 := F3.trans G4
          refine hK.out _ _ (KS.out _ F4) (fun hHeld => ?_)
          clear hK K
          (try simp only [List.setIfInBounds_toArray, List.set_cons_zero, List.set_cons_succ])
          refine wpAnyH_ready (rs := [17, 18]) (by rw [hops.out]; kernel_rfl) (by simp) ?_
          refine AllReadyH.cons e17 (fun K hK => ?_) ?_
          · go_simp
            go_at_call 34
            refine (CH.out _).mono ?_
            rintro e w5x ⟨rfl, H1, GX⟩
            have G5 := GX
            clear GX
            go_wp2_with fail
            have pH := H1.lt
            have s5 := G5.size
            have F5 := F4.trans G5
            refine hK.out _ _ (KS.out _ F5) (fun hHeld => ?_)
            clear hK K
            (try simp only [List.setIfInBounds_toArray, List.set_cons_zero, List.set_cons_succ])
            refine wpAnyH_ready (rs := [18]) (by rw [hops.out]; kernel_rfl) (by simp) ?_
            refine AllReadyH.cons e18 (fun K hK => ?_) ?_
            · go_simp
              have M1 := MapKV.new encI w5x
              have pM : w5x.heap.size < (w5x.alloc (.map #[] 0)).heap.size := by simp
              have G6 : Fr [] w5x (w5x.alloc (.map #[] 0)) := (Fr.refl _ _).alloc _
              generalize (w5x.alloc (.map #[] 0)) = w6x at *
              have s6 := G6.size
              have F6 := F5.trans G6
              refine hK.out _ _ (KS.out _ F6) (fun hHeld => ?_)
              clear hK K
              (try simp only [List.setIfInBounds_toArray, List.set_cons_zero, List.set_cons_succ])
              refine wpAnyH_take (i := 19) (v := .agg (depCells ⟨w6x.heap.size, (w0.heap.size + 1), b, s, r, g, (w2x.heap.size + 1), w2x.heap.size, w3x.heap.size, w4x.heap.size, w5x.heap.size⟩ (DepM.new k))) e19 (by rw [hops.out]; kernel_rfl) (by rw [hops.out]; kernel_rfl) (by rw [hops.out]; kernel_rfl) (fun c a w h => hQ c a _ _ w h) (yieldsIf_build rfl _ _ rfl _ (by simp only [List.map_toArray, List.map_cons, List.map_nil]; rfl) _ (fun w' _ => HBD.out (w0.heap.size + 1) b (w2x.heap.size + 1) w3x.heap.size w4x.heap.size w5x.heap.size w6x.heap.size s r g w2x.heap.size w')) hHeld ?_
              (try simp only [Act.put, List.setIfInBounds_toArray, List.set_cons_zero, List.set_cons_succ])
              refine wpAnyH_ready (rs := [20]) (by rw [hops.out]; kernel_rfl) (by simp) ?_
              refine AllReadyH.cons e20 (fun K hK => ?_) AllReadyH.nil
              go_simp
              refine hK.out _ _ (KS.out _ (F6.alloc _)) (fun hHeld => ?_)
              clear hK K
              (try simp only [List.setIfInBounds_toArray, List.set_cons_zero, List.set_cons_succ])
              refine wpAnyH_take (i := 21) (v := .pointer (some ⟨w6x.heap.size, 0, none⟩)) e21 (by rw [hops.out]; kernel_rfl) (by rw [hops.out]; kernel_rfl) (by rw [hops.out]; kernel_rfl) (fun c a w h => hQ c a _ _ w h) (Or.inl ⟨rfl, fun w' _ => by go_simp⟩) hHeld ?_
              (try simp only [Act.put, List.setIfInBounds_toArray, List.set_cons_zero, List.set_cons_succ])
              refine wpAnyH_done (by rw [hops.out]; kernel_rfl) (hQn.out _ _ ?_) _
              go_wp2_with fail
              go_ret
              have T6 : Fr [] w6x w6x := Fr.refl _ _
              have T5 : Fr [] w5x w6x := G6.trans T6
              have T4 : Fr [] w4x w6x := G5.trans T5
              have T3 : Fr [] w3x w6x := G4.trans T4
              have T2 : Fr [] w2x w6x := G3.trans T3
              have T1 : Fr [] w1x w6x := G2.trans T2
              have T0 : Fr [] w0 w6x := G1.trans T1
              have PK := K1.apart6
              refine NewDep.mk2 HO.out HR.out HE.out (B1.fr T1 (by simp)) (K1.fr0 T2) (P1.fr T3 (by simp) (by simp)) (W1.fr T4 (by simp)) (H1.fr T5 (by simp)) (M1.fr T6 (by simp)) rfl ?_ ?_ (HF.out.trans F6)
              · simp only [List.nodup_cons, List.mem_cons, List.not_mem_nil, or_false, not_or, List.nodup_nil, not_false_eq_true, and_true]
                and_intros <;> omega
              · simp only [List.mem_cons, List.not_mem_nil, or_false, forall_eq_or_imp, forall_eq]
                and_intros <;> omega
            exact AllReadyH.nil
          refine AllReadyH.cons e18 (fun K hK => ?_) ?_
          · go_simp
            have M1 := MapKV.new encI w4x
            have pM : w4x.heap.size < (w4x.alloc (.map #[] 0)).heap.size := by simp
            have G5 : Fr [] w4x (w4x.alloc (.map #[] 0)) := (Fr.refl _ _).alloc _
            generalize (w4x.alloc (.map #[] 0)) = w5x at *
            have s5 := G5.size
            have F5 := F4.trans G5
            refine hK.out _ _ (KS.out _ F5) (fun hHeld => ?_)
            clear hK K
            (try simp only [List.setIfInBounds_toArray, List.set_cons_zero, List.set_cons_succ])
            refine wpAnyH_ready (rs := [17]) (by rw [hops.out]; kernel_rfl) (by simp) ?_
            refine AllReadyH.cons e17 (fun K hK => ?_) ?_
            · go_simp
              go_at_call 34
              refine (CH.out _).mono ?_
              rintro e w6x ⟨rfl, H1, GX⟩
              have G6 := GX
              clear GX
              go_wp2_with fail
              have pH := H1.lt
              have s6 := G6.size
              have F6 := F5.trans G6
              refine hK.out _ _ (KS.out _ F6) (fun hHeld => ?_)
              clear hK K
              (try simp only [List.setIfInBounds_toArray, List.set_cons_zero, List.set_cons_succ])
              refine wpAnyH_take (i := 19) (v := .agg (depCells ⟨w6x.heap.size, (w0.heap.size + 1), b, s, r, g, (w2x.heap.size + 1), w2x.heap.size, w3x.heap.size, w5x.heap.size, w4x.heap.size⟩ (DepM.new k))) e19 (by rw [hops.out]; kernel_rfl) (by rw [hops.out]; kernel_rfl) (by rw [hops.out]; kernel_rfl) (fun c a w h => hQ c a _ _ w h) (yieldsIf_build rfl _ _ rfl _ (by simp only [List.map_toArray, List.map_cons, List.map_nil]; rfl) _ (fun w' _ => HBD.out (w0.heap.size + 1) b (w2x.heap.size + 1) w3x.heap.size w5x.heap.size w4x.heap.size w6x.heap.size s r g w2x.heap.size w')) hHeld ?_
              (try simp only [Act.put, List.setIfInBounds_toArray, List.set_cons_zero, List.set_cons_succ])
              refine wpAnyH_ready (rs := [20]) (by rw [hops.out]; kernel_rfl) (by simp) ?_
              refine AllReadyH.cons e20 (fun K hK => ?_) AllReadyH.nil
              go_simp
              refine hK.out _ _ (KS.out _ (F6.alloc _)) (fun hHeld => ?_)
              clear hK K
              (try simp only [List.setIfInBounds_toArray, List.set_cons_zero, List.set_cons_succ])
              refine wpAnyH_take (i := 21) (v := .pointer (some ⟨w6x.heap.size, 0, none⟩)) e21 (by rw [hops.out]; kernel_rfl) (by rw [hops.out]; kernel_rfl) (by rw [hops.out]; kernel_rfl) (fun c a w h => hQ c a _ _ w h) (Or.inl ⟨rfl, fun w' _ => by go_simp⟩) hHeld ?_
              (try simp only [Act.put, List.setIfInBounds_toArray, List.set_cons_zero, List.set_cons_succ])
              refine wpAnyH_done (by rw [hops.out]; kernel_rfl) (hQn.out _ _ ?_) _
              go_wp2_with fail
              go_ret
              have T6 : Fr [] w6x w6x := Fr.refl _ _
              have T5 : Fr [] w5x w6x := G6.trans T6
              have T4 : Fr [] w4x w6x := G5.trans T5
              have T3 : Fr [] w3x w6x := G4.trans T4
              have T2 : Fr [] w2x w6x := G3.trans T3
              have T1 : Fr [] w1x w6x := G2.trans T2
              have T0 : Fr [] w0 w6x := G1.trans T1
              have PK := K1.apart6
              refine NewDep.mk2 HO.out HR.out HE.out (B1.fr T1 (by simp)) (K1.fr0 T2) (P1.fr T3 (by simp) (by simp)) (W1.fr T4 (by simp)) (H1.fr T6 (by simp)) (M1.fr T5 (by simp)) rfl ?_ ?_ (HF.out.trans F6)
              · simp only [List.nodup_cons, List.mem_cons, List.not_mem_nil, or_false, not_or, List.nodup_nil, not_false_eq_true, and_true]
                and_intros <;> omega
              · simp only [List.mem_cons, List.not_mem_nil, or_false, forall_eq_or_imp, forall_eq]
                and_intros <;> omega
            exact AllReadyH.nil
          exact AllReadyH.nil
        refine AllReadyH.cons e18 (fun K hK => ?_) ?_
        · go_simp
          have M1 := MapKV.new encI w3x
          have pM : w3x.heap.size < (w3x.alloc (.map #[] 0)).heap.size := by simp
          have G4 : Fr [] w3x (w3x.alloc (.map #[] 0)) := (Fr.refl _ _).alloc _
          generalize (w3x.alloc (.map #[] 0)) = w4x at *
          have s4 := G4.size
          have F4 := F3.trans G4
          refine hK.out _ _ (KS.out _ F4) (fun hHeld => ?_)
          clear hK K
          (try simp only [List.setIfInBounds_toArray, List.set_cons_zero, List.set_cons_succ])
          refine wpAnyH_ready (rs := [12]) (by rw [hops.out]; kernel_rfl) (by simp) ?_
          refine AllReadyH.cons e12 (fun K hK => ?_) ?_
          · go_simp
            go_at_call 33
            refine (CW.out _).mono ?_
            rintro e w5x ⟨rfl, W1, GX⟩
            have G5 := GX
            clear GX
            go_wp2_with fail
            have pW := W1.lt
            have s5 := G5.size
            have F5 := F4.trans G5
            refine hK.out _ _ (KS.out _ F5) (fun hHeld => ?_)
            clear hK K
            (try simp only [List.setIfInBounds_toArray, List.set_cons_zero, List.set_cons_succ])
            refine wpAnyH_ready (rs := [17]) (by rw [hops.out]; kernel_rfl) (by simp) ?_
            refine AllReadyH.cons e17 (fun K hK => ?_) ?_
            · go_simp
              go_at_call 34
              refine (CH.out _).mono ?_
              rintro e w6x ⟨rfl, H1, GX⟩
              have G6 := GX
              clear GX
              go_wp2_with fail
              have pH := H1.lt
              have s6 := G6.size
              have F6 := F5.trans G6
              refine hK.out _ _ (KS.out _ F6) (fun hHeld => ?_)
              clear hK K
              (try simp only [List.setIfInBounds_toArray, List.set_cons_zero, List.set_cons_succ])
              refine wpAnyH_take (i := 19) (v := .agg (depCells ⟨w6x.heap.size, (w0.heap.size + 1), b, s, r, g, (w2x.heap.size + 1), w2x.heap.size, w4x.heap.size, w5x.heap.size, w3x.heap.size⟩ (DepM.new k))) e19 (by rw [hops.out]; kernel_rfl) (by rw [hops.out]; kernel_rfl) (by rw [hops.out]; kernel_rfl) (fun c a w h => hQ c a _ _ w h) (yieldsIf_build rfl _ _ rfl _ (by simp only [List.map_toArray, List.map_cons, List.map_nil]; rfl) _ (fun w' _ => HBD.out (w0.heap.size + 1) b (w2x.heap.size + 1) w4x.heap.size w5x.heap.size w3x.heap.size w6x.heap.size s r g w2x.heap.size w')) hHeld ?_
              (try simp only [Act.put, List.setIfInBounds_toArray, List.set_cons_zero, List.set_cons_succ])
              refine wpAnyH_ready (rs := [20]) (by rw [hops.out]; kernel_rfl) (by simp) ?_
              refine AllReadyH.cons e20 (fun K hK => ?_) AllReadyH.nil
              go_simp
              refine hK.out _ _ (KS.out _ (F6.alloc _)) (fun hHeld => ?_)
              clear hK K
              (try simp only [List.setIfInBounds_toArray, List.set_cons_zero, List.set_cons_succ])
              refine wpAnyH_take (i := 21) (v := .pointer (some ⟨w6x.heap.size, 0, none⟩)) e21 (by rw [hops.out]; kernel_rfl) (by rw [hops.out]; kernel_rfl) (by rw [hops.out]; kernel_rfl) (fun c a w h => hQ c a _ _ w h) (Or.inl ⟨rfl, fun w' _ => by go_simp⟩) hHeld ?_
              (try simp only [Act.put, List.setIfInBounds_toArray, List.set_cons_zero, List.set_cons_succ])
              refine wpAnyH_done (by rw [hops.out]; kernel_rfl) (hQn.out _ _ ?_) _
              go_wp2_with fail
              go_ret
              have T6 : Fr [] w6x w6x := Fr.refl _ _
              have T5 : Fr [] w5x w6x := G6.trans T6
              have T4 : Fr [] w4x w6x := G5.trans T5
              have T3 : Fr [] w3x w6x := G4.trans T4
              have T2 : Fr [] w2x w6x := G3.trans T3
              have T1 : Fr [] w1x w6x := G2.trans T2
              have T0 : Fr [] w0 w6x := G1.trans T1
              have PK := K1.apart6
              refine NewDep.mk2 HO.out HR.out HE.out (B1.fr T1 (by simp)) (K1.fr0 T2) (P1.fr T3 (by simp) (by simp)) (W1.fr T5 (by simp)) (H1.fr T6 (by simp)) (M1.fr T4 (by simp)) rfl ?_ ?_ (HF.out.trans F6)
              · simp only [List.nodup_cons, List.mem_cons, List.not_mem_nil, or_false, not_or, List.nodup_nil, not_false_eq_true, and_true]
                and_intros <;> omega
              · simp only [List.mem_cons, List.not_mem_nil, or_false, forall_eq_or_imp, forall_eq]
                and_intros <;> omega
            exact AllReadyH.nil
          exact AllReadyH.nil
        exact AllReadyH.nil
      refine AllReadyH.cons e18 (fun K hK => ?_) ?_
      · go_simp
        have M1 := MapKV.new encI w2x
        have pM : w2x.heap.size < (w2x.alloc (.map #[] 0)).heap.size := by simp
        have G3 : Fr [] w2x (w2x.alloc (.map #[] 0)) := (Fr.refl _ _).alloc _
        generalize (w2x.alloc (.map #[] 0)) = w3x at *
        have s3 := G3.size
        have F3 := F2.trans G3
        refine hK.out _ _ (KS.out _ F3) (fun hHeld => ?_)
        clear hK K
        (try simp only [List.setIfInBounds_toArray, List.set_cons_zero, List.set_cons_succ])
        refine wpAnyH_ready (rs := [7]) (by rw [hops.out]; kernel_rfl) (by simp) ?_
        refine AllReadyH.cons e7 (fun K hK => ?_) ?_
        · go_simp
          go_at_call 32
          refine (CP.out _).mono ?_
          rintro e w4x ⟨rfl, P1, GX⟩
          have G4 := GX
          clear GX
          go_wp2_with fail
          have pP1 := lt_of_block P1.1
          have pP2 := P1.2.1.lt
          have s4 := G4.size
          have F4 := F3.trans G4
          refine hK.out _ _ (KS.out _ F4) (fun hHeld => ?_)
          clear hK K
          (try simp only [List.setIfInBounds_toArray, List.set_cons_zero, List.set_cons_succ])
          refine wpAnyH_ready (rs := [12]) (by rw [hops.out]; kernel_rfl) (by simp) ?_
          refine AllReadyH.cons e12 (fun K hK => ?_) ?_
          · go_simp
            go_at_call 33
            refine (CW.out _).mono ?_
            rintro e w5x ⟨rfl, W1, GX⟩
            have G5 := GX
            clear GX
            go_wp2_with fail
            have pW := W1.lt
            have s5 := G5.size
            have F5 := F4.trans G5
            refine hK.out _ _ (KS.out _ F5) (fun hHeld => ?_)
            clear hK K
            (try simp only [List.setIfInBounds_toArray, List.set_cons_zero, List.set_cons_succ])
            refine wpAnyH_ready (rs := [17]) (by rw [hops.out]; kernel_rfl) (by simp) ?_
            refine AllReadyH.cons e17 (fun K hK => ?_) ?_
            · go_simp
              go_at_call 34
              refine (CH.out _).mono ?_
              rintro e w6x ⟨rfl, H1, GX⟩
              have G6 := GX
              clear GX
              go_wp2_with fail
              have pH := H1.lt
              have s6 := G6.size
              have F6 := F5.trans G6
              refine hK.out _ _ (KS.out _ F6) (fun hHeld => ?_)
              clear hK K
              (try simp only [List.setIfInBounds_toArray, List.set_cons_zero, List.set_cons_succ])
              refine wpAnyH_take (i := 19) (v := .agg (depCells ⟨w6x.heap.size, (w0.heap.size + 1), b, s, r, g, (w3x.heap.size + 1), w3x.heap.size, w4x.heap.size, w5x.heap.size, w2x.heap.size⟩ (DepM.new k))) e19 (by rw [hops.out]; kernel_rfl) (by rw [hops.out]; kernel_rfl) (by rw [hops.out]; kernel_rfl) (fun c a w h => hQ c a _ _ w h) (yieldsIf_build rfl _ _ rfl _ (by simp only [List.map_toArray, List.map_cons, List.map_nil]; rfl) _ (fun w' _ => HBD.out (w0.heap.size + 1) b (w3x.heap.size + 1) w4x.heap.size w5x.heap.size w2x.heap.size w6x.heap.size s r g w3x.heap.size w')) hHeld ?_
              (try simp only [Act.put, List.setIfInBounds_toArray, List.set_cons_zero, List.set_cons_succ])
              refine wpAnyH_ready (rs := [20]) (by rw [hops.out]; kernel_rfl) (by simp) ?_
              refine AllReadyH.cons e20 (fun K hK => ?_) AllReadyH.nil
              go_simp
              refine hK.out _ _ (KS.out _ (F6.alloc _)) (fun hHeld => ?_)
              clear hK K
              (try simp only [List.setIfInBounds_toArray, List.set_cons_zero, List.set_cons_succ])
              refine wpAnyH_take (i := 21) (v := .pointer (some ⟨w6x.heap.size, 0, none⟩)) e21 (by rw [hops.out]; kernel_rfl) (by rw [hops.out]; kernel_rfl) (by rw [hops.out]; kernel_rfl) (fun c a w h => hQ c a _ _ w h) (Or.inl ⟨rfl, fun w' _ => by go_simp⟩) hHeld ?_
              (try simp only [Act.put, List.setIfInBounds_toArray, List.set_cons_zero, List.set_cons_succ])
              refine wpAnyH_done (by rw [hops.out]; kernel_rfl) (hQn.out _ _ ?_) _
              go_wp2_with fail
              go_ret
              have T6 : Fr [] w6x w6x := Fr.refl _ _
              have T5 : Fr [] w5x w6x := G6.trans T6
              have T4 : Fr [] w4x w6x := G5.trans T5
              have T3 : Fr [] w3x w6x := G4.trans T4
              have T2 : Fr [] w2x w6x := G3.trans T3
              have T1 : Fr [] w1x w6x := G2.trans T2
              have T0 : Fr [] w0 w6x := G1.trans T1
              have PK := K1.apart6
              refine NewDep.mk2 HO.out HR.out HE.out (B1.fr T1 (by simp)) (K1.fr0 T2) (P1.fr T4 (by simp) (by simp)) (W1.fr T5 (by simp)) (H1.fr T6 (by simp)) (M1.fr T3 (by simp)) rfl ?_ ?_ (HF.out.trans F6)
              · simp only [List.nodup_cons, List.mem_cons, List.not_mem_nil, or_false, not_or, List.nodup_nil, not_false_eq_true, and_true]
                and_intros <;> omega
              · simp only [List.mem_cons, List.not_mem_nil, or_false, forall_eq_or_imp, forall_eq]
                and_intros <;> omega
            exact AllReadyH.nil
          exact AllReadyH.nil
        exact AllReadyH.nil
      exact AllReadyH.nil
    refine AllReadyH.cons e18 (fun K hK => ?_) ?_
    · go_simp
      have M1 := MapKV.new encI w1x
      have pM : w1x.heap.size < (w1x.alloc (.map #[] 0)).heap.size := by simp
      have G2 : Fr [] w1x (w1x.alloc (.map #[] 0)) := (Fr.refl _ _).alloc _
      generalize (w1x.alloc (.map #[] 0)) = w2x at *
      have s2 := G2.size
      have F2 := F1.trans G2
      refine hK.out _ _ (KS.out _ F2) (fun hHeld => ?_)
      clear hK K
      (try simp only [List.setIfInBounds_toArray, List.set_cons_zero, List.set_cons_succ])
      refine wpAnyH_ready (rs := [3]) (by rw [hops.out]; kernel_rfl) (by simp) ?_
      refine AllReadyH.cons e3 (fun K hK => ?_) ?_
      · go_simp
        go_at_call 31
        refine (CK.out _).mono ?_
        rintro e w3x ⟨b, s, r, g, rfl, K1, hge, GX⟩
        have G3 := GX
        clear GX
        go_wp2_with fail
        have pK1 := lt_of_block K1.blk
        have pK2 := lt_of_block K1.set.1
        have pK3 := K1.set.2.1.lt
        have pK4 := lt_of_block K1.ring.obj.choose_spec
        have s3 := G3.size
        have F3 := F2.trans G3
        refine hK.out _ _ (KS.out _ F3) (fun hHeld => ?_)
        clear hK K
        (try simp only [List.setIfInBounds_toArray, List.set_cons_zero, List.set_cons_succ])
        refine wpAnyH_ready (rs := [7]) (by rw [hops.out]; kernel_rfl) (by simp) ?_
        refine AllReadyH.cons e7 (fun K hK => ?_) ?_
        · go_simp
          go_at_call 32
          refine (CP.out _).mono ?_
          rintro e w4x ⟨rfl, P1, GX⟩
          have G4 := GX
          clear GX
          go_wp2_with fail
          have pP1 := lt_of_block P1.1
          have pP2 := P1.2.1.lt
          have s4 := G4.size
          have F4 := F3.trans G4
          refine hK.out _ _ (KS.out _ F4) (fun hHeld => ?_)
          clear hK K
          (try simp only [List.setIfInBounds_toArray, List.set_cons_zero, List.set_cons_succ])
          refine wpAnyH_ready (rs := [12]) (by rw [hops.out]; kernel_rfl) (by simp) ?_
          refine AllReadyH.cons e12 (fun K hK => ?_) ?_
          · go_simp
            go_at_call 33
            refine (CW.out _).mono ?_
            rintro e w5x ⟨rfl, W1, GX⟩
            have G5 := GX
            clear GX
            go_wp2_with fail
            have pW := W1.lt
            have s5 := G5.size
            have F5 := F4.trans G5
            refine hK.out _ _ (KS.out _ F5) (fun hHeld => ?_)
            clear hK K
            (try simp only [List.setIfInBounds_toArray, List.set_cons_zero, List.set_cons_succ])
            refine wpAnyH_ready (rs := [17]) (by rw [hops.out]; kernel_rfl) (by simp) ?_
            refine AllReadyH.cons e17 (fun K hK => ?_) ?_
            · go_simp
              go_at_call 34
              refine (CH.out _).mono ?_
              rintro e w6x ⟨rfl, H1, GX⟩
              have G6 := GX
              clear GX
              go_wp2_with fail
              have pH := H1.lt
              have s6 := G6.size
              have F6 := F5.trans G6
              refine hK.out _ _ (KS.out _ F6) (fun hHeld => ?_)
              clear hK K
              (try simp only [List.setIfInBounds_toArray, List.set_cons_zero, List.set_cons_succ])
              refine wpAnyH_take (i := 19) (v := .agg (depCells ⟨w6x.heap.size, (w0.heap.size + 1), b, s, r, g, (w3x.heap.size + 1), w3x.heap.size, w4x.heap.size, w5x.heap.size, w1x.heap.size⟩ (DepM.new k))) e19 (by rw [hops.out]; kernel_rfl) (by rw [hops.out]; kernel_rfl) (by rw [hops.out]; kernel_rfl) (fun c a w h => hQ c a _ _ w h) (yieldsIf_build rfl _ _ rfl _ (by simp only [List.map_toArray, List.map_cons, List.map_nil]; rfl) _ (fun w' _ => HBD.out (w0.heap.size + 1) b (w3x.heap.size + 1) w4x.heap.size w5x.heap.size w1x.heap.size w6x.heap.size s r g w3x.heap.size w')) hHeld ?_
              (try simp only [Act.put, List.setIfInBounds_toArray, List.set_cons_zero, List.set_cons_succ])
              refine wpAnyH_ready (rs := [20]) (by rw [hops.out]; kernel_rfl) (by simp) ?_
              refine AllReadyH.cons e20 (fun K hK => ?_) AllReadyH.nil
              go_simp
              refine hK.out _ _ (KS.out _ (F6.alloc _)) (fun hHeld => ?_)
              clear hK K
              (try simp only [List.setIfInBounds_toArray, List.set_cons_zero, List.set_cons_succ])
              refine wpAnyH_take (i := 21) (v := .pointer (some ⟨w6x.heap.size, 0, none⟩)) e21 (by rw [hops.out]; kernel_rfl) (by rw [hops.out]; kernel_rfl) (by rw [hops.out]; kernel_rfl) (fun c a w h => hQ c a _ _ w h) (Or.inl ⟨rfl, fun w' _ => by go_simp⟩) hHeld ?_
              (try simp only [Act.put, List.setIfInBounds_toArray, List.set_cons_zero, List.set_cons_succ])
              refine wpAnyH_done (by rw [hops.out]; kernel_rfl) (hQn.out _ _ ?_) _
              go_wp2_with fail
              go_ret
              have T6 : Fr [] w6x w6x := Fr.refl _ _
              have T5 : Fr [] w5x w6x := G6.trans T6
              have T4 : Fr [] w4x w6x := G5.trans T5
              have T3 : Fr [] w3x w6x := G4.trans T4
              have T2 : Fr [] w2x w6x := G3.trans T3
              have T1 : Fr [] w1x w6x := G2.trans T2
              have T0 : Fr [] w0 w6x := G1.trans T1
              have PK := K1.apart6
              refine NewDep.mk2 HO.out HR.out HE.out (B1.fr T1 (by simp)) (K1.fr0 T3) (P1.fr T4 (by simp) (by simp)) (W1.fr T5 (by simp)) (H1.fr T6 (by simp)) (M1.fr T2 (by simp)) rfl ?_ ?_ (HF.out.trans F6)
              · simp only [List.nodup_cons, List.mem_cons, List.not_mem_nil, or_false, not_or, List.nodup_nil, not_false_eq_true, and_true]
                and_intros <;> omega
              · simp only [List.mem_cons, List.not_mem_nil, or_false, forall_eq_or_imp, forall_eq]
                and_intros <;> omega
            exact AllReadyH.nil
          exact AllReadyH.nil
        exact AllReadyH.nil
      exact AllReadyH.nil
    exact AllReadyH.nil
  refine AllReadyH.cons e18 (fun K hK => ?_) ?_
  · go_simp
    have M1 := MapKV.new encI w0
    have pM : w0.heap.size < (w0.alloc (.map #[] 0)).heap.size := by simp
    have G1 : Fr [] w0 (w0.alloc (.map #[] 0)) := (Fr.refl _ _).alloc _
    generalize (w0.alloc (.map #[] 0)) = w1x at *
    have s1 := G1.size
    have F1 := F0.trans G1
    refine hK.out _ _ (KS.out _ F1) (fun hHeld => ?_)
    clear hK K
    (try simp only [List.setIfInBounds_toArray, List.set_cons_zero, List.set_cons_succ])
    refine wpAnyH_ready (rs := [1]) (by rw [hops.out]; kernel_rfl) (by simp) ?_
    refine AllReadyH.cons e1 (fun K hK => ?_) ?_
    · go_simp
      go_at_call 30
      refine (CB.out _).mono ?_
      rintro e w2x ⟨rfl, B1, GX⟩
      have G2 := GX
      clear GX
      go_wp2_with fail
      have pB := lt_of_block B1
      have s2 := G2.size
      have F2 := F1.trans G2
      refine hK.out _ _ (KS.out _ F2) (fun hHeld => ?_)
      clear hK K
      (try simp only [List.setIfInBounds_toArray, List.set_cons_zero, List.set_cons_succ])
      refine wpAnyH_ready (rs := [3]) (by rw [hops.out]; kernel_rfl) (by simp) ?_
      refine AllReadyH.cons e3 (fun K hK => ?_) ?_
      · go_simp
        go_at_call 31
        refine (CK.out _).mono ?_
        rintro e w3x ⟨b, s, r, g, rfl, K1, hge, GX⟩
        have G3 := GX
        clear GX
        go_wp2_with fail
        have pK1 := lt_of_block K1.blk
        have pK2 := lt_of_block K1.set.1
        have pK3 := K1.set.2.1.lt
        have pK4 := lt_of_block K1.ring.obj.choose_spec
        have s3 := G3.size
        have F3 := F2.trans G3
        refine hK.out _ _ (KS.out _ F3) (fun hHeld => ?_)
        clear hK K
        (try simp only [List.setIfInBounds_toArray, List.set_cons_zero, List.set_cons_succ])
        refine wpAnyH_ready (rs := [7]) (by rw [hops.out]; kernel_rfl) (by simp) ?_
        refine AllReadyH.cons e7 (fun K hK => ?_) ?_
        · go_simp
          go_at_call 32
          refine (CP.out _).mono ?_
          rintro e w4x ⟨rfl, P1, GX⟩
          have G4 := GX
          clear GX
          go_wp2_with fail
          have pP1 := lt_of_block P1.1
          have pP2 := P1.2.1.lt
          have s4 := G4.size
          have F4 := F3.trans G4
          refine hK.out _ _ (KS.out _ F4) (fun hHeld => ?_)
          clear hK K
          (try simp only [List.setIfInBounds_toArray, List.set_cons_zero, List.set_cons_succ])
          refine wpAnyH_ready (rs := [12]) (by rw [hops.out]; kernel_rfl) (by simp) ?_
          refine AllReadyH.cons e12 (fun K hK => ?_) ?_
          · go_simp
            go_at_call 33
            refine (CW.out _).mono ?_
            rintro e w5x ⟨rfl, W1, GX⟩
            have G5 := GX
            clear GX
            go_wp2_with fail
            have pW := W1.lt
            have s5 := G5.size
            have F5 := F4.trans G5
            refine hK.out _ _ (KS.out _ F5) (fun hHeld => ?_)
            clear hK K
            (try simp only [List.setIfInBounds_toArray, List.set_cons_zero, List.set_cons_succ])
            refine wpAnyH_ready (rs := [17]) (by rw [hops.out]; kernel_rfl) (by simp) ?_
            refine AllReadyH.cons e17 (fun K hK => ?_) ?_
            · go_simp
              go_at_call 34
              refine (CH.out _).mono ?_
              rintro e w6x ⟨rfl, H1, GX⟩
              have G6 := GX
              clear GX
              go_wp2_with fail
              have pH := H1.lt
              have s6 := G6.size
              have F6 := F5.trans G6
              refine hK.out _ _ (KS.out _ F6) (fun hHeld => ?_)
              clear hK K
              (try simp only [List.setIfInBounds_toArray, List.set_cons_zero, List.set_cons_succ])
              refine wpAnyH_take (i := 19) (v := .agg (depCells ⟨w6x.heap.size, (w1x.heap.size + 1), b, s, r, g, (w3x.heap.size + 1), w3x.heap.size, w4x.heap.size, w5x.heap.size, w0.heap.size⟩ (DepM.new k))) e19 (by rw [hops.out]; kernel_rfl) (by rw [hops.out]; kernel_rfl) (by rw [hops.out]; kernel_rfl) (fun c a w h => hQ c a _ _ w h) (yieldsIf_build rfl _ _ rfl _ (by simp only [List.map_toArray, List.map_cons, List.map_nil]; rfl) _ (fun w' _ => HBD.out (w1x.heap.size + 1) b (w3x.heap.size + 1) w4x.heap.size w5x.heap.size w0.heap.size w6x.heap.size s r g w3x.heap.size w')) hHeld ?_
              (try simp only [Act.put, List.setIfInBounds_toArray, List.set_cons_zero, List.set_cons_succ])
              refine wpAnyH_ready (rs := [20]) (by rw [hops.out]; kernel_rfl) (by simp) ?_
              refine AllReadyH.cons e20 (fun K hK => ?_) AllReadyH.nil
              go_simp
              refine hK.out _ _ (KS.out _ (F6.alloc _)) (fun hHeld => ?_)
              clear hK K
              (try simp only [List.setIfInBounds_toArray, List.set_cons_zero, List.set_cons_succ])
              refine wpAnyH_take (i := 21) (v := .pointer (some ⟨w6x.heap.size, 0, none⟩)) e21 (by rw [hops.out]; kernel_rfl) (by rw [hops.out]; kernel_rfl) (by rw [hops.out]; kernel_rfl) (fun c a w h => hQ c a _ _ w h) (Or.inl ⟨rfl, fun w' _ => by go_simp⟩) hHeld ?_
              (try simp only [Act.put, List.setIfInBounds_toArray, List.set_cons_zero, List.set_cons_succ])
              refine wpAnyH_done (by rw [hops.out]; kernel_rfl) (hQn.out _ _ ?_) _
              go_wp2_with fail
              go_ret
              have T6 : Fr [] w6x w6x := Fr.refl _ _
              have T5 : Fr [] w5x w6x := G6.trans T6
              have T4 : Fr [] w4x w6x := G5.trans T5
              have T3 : Fr [] w3x w6x := G4.trans T4
              have T2 : Fr [] w2x w6x := G3.trans T3
              have T1 : Fr [] w1x w6x := G2.trans T2
              have T0 : Fr [] w0 w6x := G1.trans T1
              have PK := K1.apart6
              refine NewDep.mk2 HO.out HR.out HE.out (B1.fr T2 (by simp)) (K1.fr0 T3) (P1.fr T4 (by simp) (by simp)) (W1.fr T5 (by simp)) (H1.fr T6 (by simp)) (M1.fr T1 (by simp)) rfl ?_ ?_ (HF.out.trans F6)
              · simp only [List.nodup_cons, List.mem_cons, List.not_mem_nil, or_false, not_or, List.nodup_nil, not_false_eq_true, and_true]
                and_intros <;> omega
              · simp only [List.mem_cons, List.not_mem_nil, or_false, forall_eq_or_imp, forall_eq]
                and_intros <;> omega
            exact AllReadyH.nil
          exact AllReadyH.nil
        exact AllReadyH.nil
      exact AllReadyH.nil
    exact AllReadyH.nil
  exact AllReadyH.nil
end Go.Proofs.YtcnkhjgpjchkeaaGreat

namespace Go.Proofs.YtcnkhjgpjchkeaaGreat
open Go.RowKit

/-- What is to be done to a call's timer. -/
structure ActM where
  (set : Bool) (id : Int) (due : Nat)
deriving DecidableEq
def ActM.cells (a : ActM) : List Value := [.bool a.set, .int .i64 a.id, .int .u64 a.due]
/-- How a dependency stands, what is to be done, and what came of commands. -/
structure DS where
  (M : DepM) (ac : List ActM) (ou : List Ou)

/-- Boxes that stand beside: where, what, of which type. -/
abbrev Bx := List (Nat × Array Value × TypeId)
/-- A deed lies at x; it began in w0; its dependency lies at A. -/
structure DeedV (bs : Bx) (w0 w : World) (x : Nat) (A : DepA) (now : Nat) (σ : DS) (va vo : Value) : Prop where
  fr : Fr A.list w0 w
  dep : IsDep w A σ.M
  calls : ∃ vs, MapKV encI w A.cm vs ∧ CallsV w0 vs σ.M.calls
  low : ∀ a ∈ A.list, a < w0.heap.size
  nomem : NoMem w0 A.list
  hx : w0.heap.size ≤ x
  blk : w.heap[x]? = some (.cells #[.pointer (some ⟨A.d, 0, none⟩), va, vo, .int .u64 now] 142 (0, 0))
  acts : w.ownsRow w0.heap.size 95 3 va σ.ac.length (σ.ac.flatMap ActM.cells)
  outs : w.ownsRow w0.heap.size 87 5 vo σ.ou.length (σ.ou.flatMap Ou.cells)
  box : ∀ p ∈ bs, (p.2.2 = 134 ∨ p.2.2 = 91 ∨ p.2.2 = 3 ∨ p.2.2 = 57) ∧ w.heap[p.1]? = some (.cells p.2.1 p.2.2 (0, 0))
/-- No block of the dependency's is such a box. -/
theorem IsDep.nobox {w : World} {A : DepA} {M : DepM} (h : IsDep w A M) {E : TypeId} (hE : E = 134 ∨ E = 91 ∨ E = 3 ∨ E = 57) : ∀ s ∈ A.list, ∀ cs fr, w.heap[s]? ≠ some (.cells cs E fr) := by
  obtain ⟨_, _, hw⟩ := h.win
  obtain ⟨cw, hw1, _⟩ := hw
  obtain ⟨_, _, hh⟩ := h.took
  obtain ⟨ch, hh1, _⟩ := hh
  obtain ⟨vs, hc, _⟩ := h.calls
  obtain ⟨_, _, hc1⟩ := hc.obj
  obtain ⟨_, _, hs1⟩ := h.bulk.set.2.1.obj
  obtain ⟨_, _, hf1⟩ := h.falls.2.1.obj
  obtain ⟨_, hr1⟩ := h.bulk.ring.obj
  have key : ∀ {s : Nat} {o : Obj}, w.heap[s]? = some o → (∀ cs fr, o ≠ .cells cs E fr) → ∀ cs fr, w.heap[s]? ≠ some (.cells cs E fr) := fun h1 h2 cs fr e => h2 cs fr (Option.some.inj (h1.symm.trans e))
  intro s hs
  simp only [DepA.list, List.mem_cons, List.not_mem_nil, or_false] at hs
  rcases hs with rfl | rfl | rfl | rfl | rfl | rfl | rfl | rfl | rfl | rfl | rfl
  · exact key h.blk (by rcases hE with rfl | rfl | rfl | rfl <;> (intro _ _ e; cases e))
  · exact key h.brk (by rcases hE with rfl | rfl | rfl | rfl <;> (intro _ _ e; cases e))
  · exact key h.bulk.blk (by rcases hE with rfl | rfl | rfl | rfl <;> (intro _ _ e; cases e))
  · exact key h.bulk.set.1 (by rcases hE with rfl | rfl | rfl | rfl <;> (intro _ _ e; cases e))
  · exact key hs1 (by rcases hE with rfl | rfl | rfl | rfl <;> (intro _ _ e; cases e))
  · exact key hr1 (by rcases hE with rfl | rfl | rfl | rfl <;> (intro _ _ e; cases e))
  · exact key h.falls.1 (by rcases hE with rfl | rfl | rfl | rfl <;> (intro _ _ e; cases e))
  · exact key hf1 (by rcases hE with rfl | rfl | rfl | rfl <;> (intro _ _ e; cases e))
  · exact key hw1 (by rcases hE with rfl | rfl | rfl | rfl <;> (intro _ _ e; cases e))
  · exact key hh1 (by rcases hE with rfl | rfl | rfl | rfl <;> (intro _ _ e; cases e))
  · exact key hc1 (by rcases hE with rfl | rfl | rfl | rfl <;> (intro _ _ e; cases e))
/-- The function tells nothing, and the deed stands so. -/
def DeedR (bs : Bx) (w0 : World) (x : Nat) (A : DepA) (now : Nat) (σ : DS) (e : Ending) (w' : World) : Prop := e = .returned (.tuple #[]) ∧ ∃ va vo, DeedV bs w0 w' x A now σ va vo
theorem DeedR.mk {bs : Bx} {w0 w' : World} {x : Nat} {A : DepA} {now : Nat} {σ : DS} {va vo : Value} (D : DeedV bs w0 w' x A now σ va vo) : DeedR bs w0 x A now σ (.returned (.tuple #[])) w' := ⟨rfl, va, vo, D⟩

theorem owns_base {w : World} {base : Nat} {e : TypeId} {size : Nat} {v : Value} {n : Nat} {xs : List Value} (h : w.ownsRow base e size v n xs) : ∀ g, v.ownBlock = some g → base ≤ g := by
  intro g hg
  rcases h.2 with ⟨rfl, _⟩ | ⟨g', cap, cur, rfl, hb, _⟩
  · cases hg
  · simp only [Value.ownBlock, Option.some.injEq] at hg; subst hg; exact hb
theorem owns_block {w : World} {base : Nat} {e : TypeId} {size : Nat} {v : Value} {n : Nat} {xs : List Value} (h : w.ownsRow base e size v n xs) : ∀ g, v.ownBlock = some g → ∃ c fr, w.heap[g]? = some (.cells c e fr) := by
  intro g hg
  rcases h.2 with ⟨rfl, _⟩ | ⟨g', cap, cur, rfl, hb, hh, _⟩
  · cases hg
  · simp only [Value.ownBlock, Option.some.injEq] at hg; subst hg; exact ⟨_, _, hh⟩

section
variable {bs : Bx} {w0 w : World} {x : Nat} {A : DepA} {now : Nat} {σ : DS} {va vo : Value} (D : DeedV bs w0 w x A now σ va vo)
include D
/-- What lies apart from the dependency's blocks may turn. -/
theorem DeedV.core {w' : World} {S : List Nat} (k : Fr S w w') (hS : ∀ s ∈ S, w0.heap.size ≤ s) (hm : NoMem w S) : IsDep w' A σ.M ∧ ∃ vs, MapKV encI w' A.cm vs ∧ CallsV w0 vs σ.M.calls := by
  have hn : ∀ a ∈ A.list, a ∉ S := fun a ha hs => by have := D.low a ha; have := hS a hs; omega
  obtain ⟨vs, h1, h2⟩ := D.calls
  exact ⟨D.dep.fr k hn hm, vs, h1.fr k (hn _ (by simp [DepA.list])), h2⟩
/-- A step in the dependency's own blocks. -/
theorem DeedV.step {w' : World} {S : List Nat} (hS : ∀ s ∈ S, s ∈ A.list) (k : Fr S w w') {M' : DepM} (hd : IsDep w' A M') (hc : ∃ vs, MapKV encI w' A.cm vs ∧ CallsV w0 vs M'.calls) : DeedV bs w0 w' x A now { σ with M := M' } va vo where
  fr := D.fr.trans' k fun s hs => .inl (hS s hs)
  dep := hd
  calls := hc
  low := D.low
  nomem := D.nomem
  hx := D.hx
  blk := k.keep D.blk fun hs => by have := D.low x (hS x hs); have := D.hx; omega
  acts := ownsRow_fr D.acts k fun g hg hs => by have := D.low g (hS g hs); have := owns_base D.acts g hg; omega
  outs := ownsRow_fr D.outs k fun g hg hs => by have := D.low g (hS g hs); have := owns_base D.outs g hg; omega
  box := fun p hp => ⟨(D.box p hp).1, k.keep (D.box p hp).2 fun hs => D.dep.nobox (D.box p hp).1 _ (hS _ hs) _ _ (D.box p hp).2⟩
theorem DeedV.fr0 {w' : World} (k : Fr [] w w') : DeedV bs w0 w' x A now σ va vo := by
  obtain ⟨h1, h2⟩ := D.core k (by simp) (NoMem.nil w)
  exact D.step (S := []) (by simp) k h1 h2
/-- A step in a block of the dependency's that isn't the calls'. -/
theorem DeedV.stepC {w' : World} {S : List Nat} (hS : ∀ s ∈ S, s ∈ A.list) (hcm : A.cm ∉ S) (k : Fr S w w') {M' : DepM} (hd : IsDep w' A M') (hc : M'.calls = σ.M.calls) : DeedV bs w0 w' x A now { σ with M := M' } va vo := by
  obtain ⟨vs, h1, h2⟩ := D.calls
  exact D.step hS k hd ⟨vs, h1.fr k hcm, hc ▸ h2⟩
theorem DeedV.cells : w.cell? ⟨x, 0, none⟩ = some (.pointer (some ⟨A.d, 0, none⟩)) ∧ w.cell? ⟨x, 1, none⟩ = some va ∧ w.cell? ⟨x, 2, none⟩ = some vo ∧ w.cell? ⟨x, 3, none⟩ = some (.int .u64 now) ∧ w.frozen? ⟨x, 1, none⟩ = false ∧ w.frozen? ⟨x, 2, none⟩ = false := by
  refine ⟨?_, ?_, ?_, ?_, free_of_block D.blk _, free_of_block D.blk _⟩
  all_goals (rw [cell_of_block D.blk]; rfl)
theorem DeedV.setCell (i : Nat) (u : Value) : Fr [x] w (w.setCell ⟨x, i, none⟩ u) ∧ IsDep (w.setCell ⟨x, i, none⟩ u) A σ.M ∧ (∃ vs, MapKV encI (w.setCell ⟨x, i, none⟩ u) A.cm vs ∧ CallsV w0 vs σ.M.calls) ∧ Fr A.list w0 (w.setCell ⟨x, i, none⟩ u)
    ∧ (w.setCell ⟨x, i, none⟩ u).ownsRow w0.heap.size 95 3 va σ.ac.length (σ.ac.flatMap ActM.cells) ∧ (w.setCell ⟨x, i, none⟩ u).ownsRow w0.heap.size 87 5 vo σ.ou.length (σ.ou.flatMap Ou.cells) := by
  have k : Fr [x] w (w.setCell ⟨x, i, none⟩ u) := (Fr.refl _ _).setCell (.inl (by simp)) _
  have hm : NoMem w [x] := NoMem.cons (NoMem.nil w) D.blk (by intro _ _ e; cases e)
  obtain ⟨h1, h2⟩ := D.core k (by simpa using D.hx) hm
  refine ⟨k, h1, h2, D.fr.trans' k (fun s hs => .inr (by simp at hs; subst hs; exact D.hx)), ownsRow_fr D.acts k ?_, ownsRow_fr D.outs k ?_⟩
  · intro g hg hs; simp at hs; exact owns_neD D.acts D.blk (by decide) g hg hs
  · intro g hg hs; simp at hs; exact owns_neD D.outs D.blk (by decide) g hg hs
/-- What grows in a row of the deed's. -/
theorem DeedV.grown {w2 : World} {v : Value} {e : TypeId} {size n : Nat} {xs : List Value} (hv : w.ownsRow w0.heap.size e size v n xs) (hg : w.grownBy w2 v.ownBlock) (he : e ≠ 191) (he2 : e ≠ 142) :
    IsDep w2 A σ.M ∧ (∃ vs, MapKV encI w2 A.cm vs ∧ CallsV w0 vs σ.M.calls) ∧ Fr A.list w0 w2 ∧ w2.heap[x]? = some (.cells #[.pointer (some ⟨A.d, 0, none⟩), va, vo, .int .u64 now] 142 (0, 0)) := by
  have k : Fr v.ownBlock.toList w w2 := Fr.of_grownD (Fr.refl _ w) hg (fun k hk => .inl (by simp [hk]))
  have hb : ∀ s ∈ v.ownBlock.toList, w0.heap.size ≤ s := fun s hs => owns_base hv s (by simpa using hs)
  obtain ⟨h1, h2⟩ := D.core k hb (fun s hs cs fr e1 => by
    obtain ⟨c, fr', h⟩ := owns_block hv s (by simpa using hs)
    rw [h] at e1; simp only [Option.some.injEq, Obj.cells.injEq] at e1; exact he e1.2.1)
  exact ⟨h1, h2, Fr.of_grownD D.fr hg (fun k hk => .inr (owns_base hv k hk)), grown_keepD hg D.blk (owns_neD hv D.blk he2)⟩
theorem DeedV.setActs {w2 : World} {v' : Value} {as' : List ActM} (hg : w.grownBy w2 va.ownBlock) (ho : w2.ownsRow w0.heap.size 95 3 v' as'.length (as'.flatMap ActM.cells)) :
    DeedV bs w0 (w2.setCell ⟨x, 1, none⟩ v') x A now { σ with ac := as' } v' vo := by
  obtain ⟨h1, h2, h3, h4⟩ := D.grown D.acts hg (by decide) (by decide)
  have D2 : DeedV bs w0 w2 x A now { σ with ac := as' } v' vo → True := fun _ => trivial
  have k : Fr [x] w2 (w2.setCell ⟨x, 1, none⟩ v') := (Fr.refl _ _).setCell (.inl (by simp)) _
  have hm : NoMem w2 [x] := NoMem.cons (NoMem.nil w2) h4 (by intro _ _ e; cases e)
  have hn : ∀ a ∈ A.list, a ∉ [x] := fun a ha hs => by simp at hs; have := D.low a ha; have := D.hx; omega
  have hout := owns_apart D.outs D.acts (by decide) hg
  obtain ⟨vs, q1, q2⟩ := h2
  refine ⟨h3.trans' k (fun s hs => .inr (by simp at hs; subst hs; exact D.hx)), h1.fr k hn hm, ⟨vs, q1.fr k (hn _ (by simp [DepA.list])), q2⟩, D.low, D.nomem, D.hx, by simpa using block_setCell h4 1 v', ownsRow_fr ho k ?_, ownsRow_fr hout k ?_, ?_⟩
  · intro g hg hs; simp at hs; exact owns_neD ho h4 (by decide) g hg hs
  · intro g hg hs; simp at hs; exact owns_neD hout h4 (by decide) g hg hs
  · exact fun p hp => ⟨(D.box p hp).1, k.keep (grown_keepD hg (D.box p hp).2 (owns_neD D.acts (D.box p hp).2 (by rcases (D.box p hp).1 with e | e | e | e <;> rw [e] <;> decide))) (fun hs => by simp at hs; have h5 := D.blk; rw [← hs, (D.box p hp).2] at h5; simp only [Option.some.injEq, Obj.cells.injEq] at h5; rcases (D.box p hp).1 with e | e | e | e <;> (rw [e] at h5; exact absurd h5.2.1 (by decide)))⟩
theorem DeedV.setOuts {w2 : World} {v' : Value} {os' : List Ou} (hg : w.grownBy w2 vo.ownBlock) (ho : w2.ownsRow w0.heap.size 87 5 v' os'.length (os'.flatMap Ou.cells)) :
    DeedV bs w0 (w2.setCell ⟨x, 2, none⟩ v') x A now { σ with ou := os' } va v' := by
  obtain ⟨h1, h2, h3, h4⟩ := D.grown D.outs hg (by decide) (by decide)
  have k : Fr [x] w2 (w2.setCell ⟨x, 2, none⟩ v') := (Fr.refl _ _).setCell (.inl (by simp)) _
  have hm : NoMem w2 [x] := NoMem.cons (NoMem.nil w2) h4 (by intro _ _ e; cases e)
  have hn : ∀ a ∈ A.list, a ∉ [x] := fun a ha hs => by simp at hs; have := D.low a ha; have := D.hx; omega
  have hact := owns_apart D.acts D.outs (by decide) hg
  obtain ⟨vs, q1, q2⟩ := h2
  refine ⟨h3.trans' k (fun s hs => .inr (by simp at hs; subst hs; exact D.hx)), h1.fr k hn hm, ⟨vs, q1.fr k (hn _ (by simp [DepA.list])), q2⟩, D.low, D.nomem, D.hx, by simpa using block_setCell h4 2 v', ownsRow_fr hact k ?_, ownsRow_fr ho k ?_, ?_⟩
  · intro g hg hs; simp at hs; exact owns_neD hact h4 (by decide) g hg hs
  · intro g hg hs; simp at hs; exact owns_neD ho h4 (by decide) g hg hs
  · exact fun p hp => ⟨(D.box p hp).1, k.keep (grown_keepD hg (D.box p hp).2 (owns_neD D.outs (D.box p hp).2 (by rcases (D.box p hp).1 with e | e | e | e <;> rw [e] <;> decide))) (fun hs => by simp at hs; have h5 := D.blk; rw [← hs, (D.box p hp).2] at h5; simp only [Option.some.injEq, Obj.cells.injEq] at h5; rcases (D.box p hp).1 with e | e | e | e <;> (rw [e] at h5; exact absurd h5.2.1 (by decide)))⟩
theorem DeedV.addBox {y : Nat} {cs : Array Value} {E : TypeId} (hE : E = 134 ∨ E = 91 ∨ E = 3 ∨ E = 57) (hb : w.heap[y]? = some (.cells cs E (0, 0))) : DeedV ((y, cs, E) :: bs) w0 w x A now σ va vo :=
  ⟨D.fr, D.dep, D.calls, D.low, D.nomem, D.hx, D.blk, D.acts, D.outs, fun p hp => by
    rcases List.mem_cons.1 hp with rfl | hp
    · exact ⟨hE, hb⟩
    · exact D.box p hp⟩
end
theorem DeedV.dropBox {bs : Bx} {w0 w : World} {x : Nat} {A : DepA} {now : Nat} {σ : DS} {va vo : Value} {b : Nat × Array Value × TypeId} (D : DeedV (b :: bs) w0 w x A now σ va vo) : DeedV bs w0 w x A now σ va vo :=
  ⟨D.fr, D.dep, D.calls, D.low, D.nomem, D.hx, D.blk, D.acts, D.outs, fun p hp => D.box p (List.mem_cons_of_mem _ hp)⟩

theorem Src.act (w : World) (a : ActM) (E : TypeId) (g : Nat) (hg : w.heap.size = g) : Src (w.alloc (.cells #[.bool a.set, .int .i64 a.id, .int .u64 a.due] E)) 3 (.slice (some ⟨g, 0, none⟩) 1 1) 1 a.cells := by
  subst hg
  refine ⟨_, _, rfl, rfl, Nat.le_refl _, (fun h => by cases h), (fun u hu => ?_), (fun j u hj => ⟨w.heap.size, 0, rfl, ?_⟩)⟩
  · unfold ActM.cells at hu
    simp only [List.mem_cons, List.not_mem_nil, or_false] at hu
    rcases hu with h | h | h <;> subst h <;> rfl
  · have hb := block_alloc_new w (.cells #[.bool a.set, .int .i64 a.id, .int .u64 a.due] E)
    unfold ActM.cells at hj
    match j, hj with
    | 0, hj => simp at hj; subst hj; rw [cell_of_block hb]; rfl
    | 1, hj => simp at hj; subst hj; rw [cell_of_block hb]; rfl
    | 2, hj => simp at hj; subst hj; rw [cell_of_block hb]; rfl
    | j + 3, hj => simp at hj
theorem Tryz.info_act : (Tryz.prog.info? 95).map (fun i => (i.zero, i.size, i.bytes)) = some (some (.agg #[.bool false, .int .i64 0, .int .u64 0]), 3, 24) := by kernel_rfl
end Go.Proofs.YtcnkhjgpjchkeaaGreat

namespace Go.Proofs.YtcnkhjgpjchkeaaGreat
open Go.RowKit

set_option maxHeartbeats 4000000 in
set_option maxRecDepth 20000 in
theorem set_spec {bs : Bx} {w0 w : World} {x : Nat} {A : DepA} {now : Nat} {σ : DS} {va vo : Value} (D : DeedV bs w0 w x A now σ va vo) (hnow : now < 18446744073709551616) (hl : σ.ac.length ≤ 1000000) (id : Int) (later : Nat) :
    Calls Tryz.prog 123 #[.pointer (some ⟨x, 0, none⟩), .int .i64 id, .int .u64 later] w (DeedR bs w0 x A now { σ with ac := σ.ac ++ [⟨true, id, sadd now later⟩] }) := by
  have HD := Lib.hid D
  obtain ⟨k0, k1, k2, k3, f1, -⟩ := D.cells
  have hxl := lt_of_block D.blk
  have HADD := Lib.hid (fun w' => satadd_spec w' now later hnow)
  obtain ⟨ao, cap, rfl⟩ := ownsFormD D.acts
  obtain ⟨i0, hi, hz0, hz1, hz2⟩ := info_partsD Tryz.info_act
  have HE : Hid (∀ g : Nat, w.heap.size = g → Src (w.alloc (.cells #[.bool true, .int .i64 id, .int .u64 (sadd now later : Nat)] 95)) 3 (.slice (some ⟨g, 0, none⟩) 1 1) 1 (ActM.cells ⟨true, id, sadd now later⟩)) := Lib.hid (fun g hg => Src.act w ⟨true, id, sadd now later⟩ 95 g hg)
  have HL : Hid (∀ (w2 : World) (v' : Value), (w.drew.alloc (.cells #[.bool true, .int .i64 id, .int .u64 (sadd now later : Nat)] 95)).grownBy w2 (Value.slice ao σ.ac.length cap).ownBlock → w2.ownsRow w0.heap.size 95 3 v' (σ.ac.length + 1) (σ.ac.flatMap ActM.cells ++ ActM.cells ⟨true, id, sadd now later⟩) → w2.cell? ⟨x, 1, none⟩ = some (.slice ao σ.ac.length cap) ∧ w2.frozen? ⟨x, 1, none⟩ = false ∧ DeedV bs w0 (w2.setCell ⟨x, 1, none⟩ v') x A now { σ with ac := σ.ac ++ [⟨true, id, sadd now later⟩] } v' vo) := Lib.hid (fun w2 v' hg ho => by
    have D1 := D.fr0 (((Fr.refl [] w).drew).alloc (.cells #[.bool true, .int .i64 id, .int .u64 (sadd now later : Nat)] 95))
    have hb := (D1.grown D1.acts hg (by decide) (by decide)).2.2.2
    exact ⟨by rw [cell_of_block hb]; rfl, free_of_block hb _, D1.setActs hg (by simpa using ho)⟩)
  have HO := Lib.hid (D.fr0 (((Fr.refl [] w).drew).alloc (.cells #[.bool true, .int .i64 id, .int .u64 (sadd now later : Nat)] 95))).acts
  have k1' : (w.drew.alloc (.cells #[.bool true, .int .i64 id, .int .u64 (sadd now later : Nat)] 95)).cell? ⟨x, 1, none⟩ = some (.slice ao σ.ac.length cap) := (D.fr0 (((Fr.refl [] w).drew).alloc _)).cells.2.1
  have hsz := D.fr.size
  have hxb := D.hx
  clear D
  generalize σ.ac.flatMap ActM.cells = L at *
  generalize hn : σ.ac.length = n at *
  generalize hdue : sadd now later = due at *
  have HN := Lib.hid hn
  clear hn hdue
  go_enter Tryz.func123, Tryz.ntmps123
  go_wp2_with fail
  go_region_law (first
    | ((refine step_app rfl (.tmp 11) (.tmp 20) 55 rfl w0.heap.size 95 i0 _ 3 24 Tryz.underlying55 hi hz0 hz1 hz2 rfl (by decide) (.slice ao n cap) n _ rfl HO.out _ 1 _ rfl (HE.out _ rfl).drew (by unfold maxLen; omega) (by omega) (by simp; omega) ?_; intro v8 w8 hown hg; obtain ⟨a8, c8, h8⟩ := ownsFormD hown; subst h8; obtain ⟨b1, b2, b3⟩ := HL.out _ _ hg hown; have HR := Lib.hid b3; clear b3 hown hg))
    | (go_simp; go_at_call 109; refine (HADD.out _).mono ?_; rintro e w9 ⟨rfl, h9⟩; subst h9; go_wp2_with fail))
  all_goals (go_end0; exact DeedR.mk HR.out)
set_option maxHeartbeats 4000000 in
set_option maxRecDepth 20000 in
theorem stop_spec {bs : Bx} {w0 w : World} {x : Nat} {A : DepA} {now : Nat} {σ : DS} {va vo : Value} (D : DeedV bs w0 w x A now σ va vo) (hl : σ.ac.length ≤ 1000000) (id : Int) :
    Calls Tryz.prog 59 #[.pointer (some ⟨x, 0, none⟩), .int .i64 id] w (DeedR bs w0 x A now { σ with ac := σ.ac ++ [⟨false, id, 0⟩] }) := by
  have HD := Lib.hid D
  obtain ⟨k0, k1, k2, k3, f1, -⟩ := D.cells
  have hxl := lt_of_block D.blk
  obtain ⟨ao, cap, rfl⟩ := ownsFormD D.acts
  obtain ⟨i0, hi, hz0, hz1, hz2⟩ := info_partsD Tryz.info_act
  have HE : Hid (∀ g : Nat, w.heap.size = g → Src (w.alloc (.cells #[.bool false, .int .i64 id, .int .u64 0] 95)) 3 (.slice (some ⟨g, 0, none⟩) 1 1) 1 (ActM.cells ⟨false, id, 0⟩)) := Lib.hid (fun g hg => Src.act w ⟨false, id, 0⟩ 95 g hg)
  have HL : Hid (∀ (w2 : World) (v' : Value), (w.alloc (.cells #[.bool false, .int .i64 id, .int .u64 0] 95)).grownBy w2 (Value.slice ao σ.ac.length cap).ownBlock → w2.ownsRow w0.heap.size 95 3 v' (σ.ac.length + 1) (σ.ac.flatMap ActM.cells ++ ActM.cells ⟨false, id, 0⟩) → w2.cell? ⟨x, 1, none⟩ = some (.slice ao σ.ac.length cap) ∧ w2.frozen? ⟨x, 1, none⟩ = false ∧ DeedV bs w0 (w2.setCell ⟨x, 1, none⟩ v') x A now { σ with ac := σ.ac ++ [⟨false, id, 0⟩] } v' vo) := Lib.hid (fun w2 v' hg ho => by
    have D1 := D.fr0 ((Fr.refl [] w).alloc (.cells #[.bool false, .int .i64 id, .int .u64 0] 95))
    have hb := (D1.grown D1.acts hg (by decide) (by decide)).2.2.2
    exact ⟨by rw [cell_of_block hb]; rfl, free_of_block hb _, D1.setActs hg (by simpa using ho)⟩)
  have HO := Lib.hid (D.fr0 ((Fr.refl [] w).alloc (.cells #[.bool false, .int .i64 id, .int .u64 0] 95))).acts
  have k1' : (w.alloc (.cells #[.bool false, .int .i64 id, .int .u64 0] 95)).cell? ⟨x, 1, none⟩ = some (.slice ao σ.ac.length cap) := (D.fr0 ((Fr.refl [] w).alloc _)).cells.2.1
  have hsz := D.fr.size
  have hxb := D.hx
  clear D
  generalize σ.ac.flatMap ActM.cells = L at *
  generalize hn : σ.ac.length = n at *
  have HN := Lib.hid hn
  clear hn
  go_enter Tryz.func59, Tryz.ntmps59
  go_wp2_with (at_builtin; go_must (refine wpList_app rfl (.tmp 9) (.tmp 12) 55 rfl w0.heap.size 95 i0 _ 3 24 Tryz.underlying55 hi hz0 hz1 hz2 rfl (by decide) (.slice ao n cap) n _ rfl HO.out _ 1 _ rfl (HE.out _ rfl) (by unfold maxLen; omega) (by omega) (by simp; omega) ?_; intro v8 w8 hown hg; obtain ⟨a8, c8, h8⟩ := ownsFormD hown; subst h8; obtain ⟨b1, b2, b3⟩ := HL.out _ _ hg hown; have HR := Lib.hid b3; clear b3 hown hg))
  all_goals (go_end0; exact DeedR.mk HR.out)
end Go.Proofs.YtcnkhjgpjchkeaaGreat

namespace Go.Proofs.YtcnkhjgpjchkeaaGreat
open Go.RowKit

/-- Does a call hold a permit, or a worker? -/
def DepM.holds (M : DepM) (id : Int) : Bool := (List.range M.k.ch.toNat).any (fun s => decide ((id, (s : Int) + 1) ∈ M.falls)) || decide (id ∈ M.run)
theorem any_snoc {n : Nat} {p : Nat → Bool} : (List.range (n + 1)).any p = ((List.range n).any p || p n) := by
  rw [List.range_succ, List.any_append]; simp
set_option maxHeartbeats 4000000 in
theorem holds_spec {w : World} {A : DepA} {M : DepM} (h : IsDep w A M) (id : Int) :
    Calls Tryz.prog 115 #[.pointer (some ⟨A.d, 0, none⟩), .int .i64 id] w fun e w' => e = .returned (.bool (M.holds id)) ∧ Fr [] w w' := by
  have O := (CF.okay h.fine h.ran).ch
  obtain ⟨c, hc⟩ : ∃ n : Nat, M.k.ch = n := ⟨M.k.ch.toNat, by omega⟩
  have hc3 : c ≤ 3 := by omega
  have HH := Lib.hid (fun (i : Int) (w' : World) (F : Fr [] w w') => (h.fr0 F).falls.holds id i)
  have HB := Lib.hid (fun (w' : World) (F : Fr [] w w') => (h.fr0 F).bulk.runs id)
  have HC : Hid (∀ w' : World, Fr [] w w' → w'.cell? ⟨A.d, 18, none⟩ = some (.pointer (some ⟨A.fs, 0, none⟩)) ∧ w'.cell? ⟨A.d, 1, none⟩ = some (.pointer (some ⟨A.blk, 0, none⟩))) := Lib.hid (fun w' F => ⟨(h.fr0 F).cells.2.2.1, (h.fr0 F).cells.2.1⟩)
  have hk := h.cells.2.2.2.2.2.2.2.2.1
  rw [hc] at hk
  unfold DepM.holds
  rw [hc, Int.toNat_natCast]
  generalize M.falls = fs at *
  generalize M.run = rs at *
  clear O hc h
  go_enter Tryz.func115, Tryz.ntmps115
  go_wp2_with fail
  go_loopw [11] (fun x wr => ∃ i : Nat, i ≤ c ∧ x = .int .i64 i ∧ Hid ((List.range i).any (fun s => decide ((id, (s : Int) + 1) ∈ fs)) = false) ∧ Hid (Fr [] w wr)) (fun x _ => c - (intOf x).toNat)
  case atStart => exact ⟨0, Nat.zero_le _, rfl, Lib.hid (by simp), Lib.hid (Fr.refl _ _)⟩
  case round =>
    obtain ⟨i, hi, rfl, HI, HF⟩ := hrel
    obtain ⟨k0, k1⟩ := HC.out _ HF.out
    by_cases hlt : i < c
    · by_cases hm : (id, (i : Int) + 1) ∈ fs
      · have HY : Hid (((List.range c).any fun s => decide ((id, (s : Int) + 1) ∈ fs)) = true) := Lib.hid (List.any_eq_true.2 ⟨i, List.mem_range.2 hlt, by simpa using hm⟩)
        have HX := Lib.hid (HH.out (i + 1) _ HF.out)
        rw [decide_eq_true hm] at HX
        clear hm
        go_wp2_with fail
        refine HX.out.mono ?_
        rintro e w2 ⟨rfl, F⟩
        go_wp2_with fail
        go_ret
        exact ⟨by rw [HY.out]; rfl, HF.out.trans F⟩
      · have HN : Hid (((List.range (i + 1)).any fun s => decide ((id, (s : Int) + 1) ∈ fs)) = false) := Lib.hid (by rw [any_snoc, HI.out]; simpa using hm)
        have HX := Lib.hid (HH.out (i + 1) _ HF.out)
        rw [decide_eq_false hm] at HX
        clear hm
        go_wp2_with fail
        refine HX.out.mono ?_
        rintro e w2 ⟨rfl, F⟩
        go_wp2_with fail
        go_roundw
        case rel => exact ⟨i + 1, by omega, by go_num, HN, Lib.hid (HF.out.trans F)⟩
        case measure => simp [intOf]; omega
    · obtain rfl : i = c := by omega
      have HX := Lib.hid (HB.out _ HF.out)
      go_wp2_with fail
      refine HX.out.mono ?_
      rintro e w2 ⟨rfl, F⟩
      go_wp2_with fail
      go_ret
      exact ⟨by rw [HI.out, Bool.false_or]; rfl, HF.out.trans F⟩

/-- A call is kept as it is; not any more, if it is over, and holds nothing. -/
def DepM.keep (M : DepM) (c : CallM) : DepM := if c.st = 4 ∧ M.holds c.lead = false then { M with calls := adel (aput M.calls c.lead c) c.lead } else { M with calls := aput M.calls c.lead c }
theorem DepM.keep_del {M : DepM} {c : CallM} (h : c.st = 4) (hh : M.holds c.lead = false) : M.keep c = { M with calls := adel (aput M.calls c.lead c) c.lead } := if_pos ⟨h, hh⟩
theorem DepM.keep_put {M : DepM} {c : CallM} (h : ¬ (c.st = 4 ∧ M.holds c.lead = false)) : M.keep c = { M with calls := aput M.calls c.lead c } := if_neg h
/-- The calls' map turns. -/
theorem DeedV.setCalls {bs : Bx} {w0 w w' : World} {x : Nat} {A : DepA} {now : Nat} {σ : DS} {va vo : Value} (D : DeedV bs w0 w x A now σ va vo) (k : Fr [A.cm] w w') {vs : List (Int × Value)} {cs : List (Int × CallM)} (hm : MapKV encI w' A.cm vs) (hc : CallsV w0 vs cs) :
    DeedV bs w0 w' x A now { σ with M := { σ.M with calls := cs } } va vo :=
  D.step (S := [A.cm]) (by simp [DepA.list]) k (D.dep.setCalls k hm (hc.fr D.fr D.nomem)) ⟨vs, hm, hc⟩
set_option maxHeartbeats 4000000 in
set_option maxRecDepth 20000 in
theorem keep_spec {bs : Bx} {w0 w : World} {x : Nat} {A : DepA} {now : Nat} {σ : DS} {va vo : Value} (D : DeedV bs w0 w x A now σ va vo) {v : Value} {c : CallM} (hv : CallV w0 v c) (hm : c.ms.length ≤ 1000000000) :
    Calls Tryz.prog 58 #[.pointer (some ⟨A.d, 0, none⟩), v] w (DeedR bs w0 x A now { σ with M := σ.M.keep c }) := by
  have HD := Lib.hid D
  have hv2 := hv.fr D.fr D.nomem
  have HV := Lib.hid hv
  obtain ⟨ao, vm, rfl, ⟨a0, c0, rfl⟩, hms⟩ := hv2
  have HLE := Lib.hid (fun (w' : World) (F : Fr [] w w') => lead_spec (a0 := a0) (n0 := c.nargs) (c0 := c0) (hms.fr0 F) (by omega : c.ms.length ≤ 9223372036854775807))
  obtain ⟨am, cm, rfl, -, -⟩ := hms
  have HB := Lib.hid (block_alloc_new w (.cells #[.slice a0 c.nargs c0, .slice am c.ms.length cm, .int .i64 c.st, .int .i64 c.step, .int .i64 c.cause, .int .u64 c.start] 134))
  have HF := Lib.hid ((Fr.refl [] w).alloc (.cells #[.slice a0 c.nargs c0, .slice am c.ms.length cm, .int .i64 c.st, .int .i64 c.step, .int .i64 c.cause, .int .u64 c.start] 134))
  have HK1 : Hid (c.st = 4 → σ.M.holds (leadOf c.ms) = false → σ.M.keep c = { σ.M with calls := adel (aput σ.M.calls (leadOf c.ms) c) (leadOf c.ms) }) := Lib.hid (fun h1 h2 => DepM.keep_del h1 h2)
  have HK2 : Hid (¬ (c.st = 4 ∧ σ.M.holds (leadOf c.ms) = false) → σ.M.keep c = { σ.M with calls := aput σ.M.calls (leadOf c.ms) c }) := Lib.hid (fun h1 => DepM.keep_put h1)
  have hacm : A.cm ≠ w.heap.size := by
    obtain ⟨vs, h1, _⟩ := D.calls
    exact Nat.ne_of_lt h1.lt
  have had : A.cm ≠ A.d := D.dep.ne.2.2.2.2.2.2.2.2.2.1.2
  clear D hv hm
  generalize leadOf c.ms = ld at *
  generalize σ.M.keep c = MK at *
  go_enter Tryz.func58, Tryz.ntmps58
  go_wp2_with fail
  refine (HLE.out _ HF.out).mono ?_
  rintro e wL ⟨rfl, FL⟩
  have D1 := HD.out.fr0 (HF.out.trans FL).drew
  have HB1 := FL.keep HB.out (by simp)
  obtain ⟨y0, y1, y2, y3, y4, y5⟩ := six HB1
  have kd := (HD.out.fr0 (HF.out.trans FL)).dep.cells.2.2.2.2.2.1
  obtain ⟨vs, hmk, hcv⟩ := D1.calls
  obtain ⟨w5, hu, hM, hF5⟩ := put_run (keyOk_int (P := Tryz.prog) Tryz.underlying3) Tryz.underlying108 hmk ld (.agg #[.slice a0 c.nargs c0, .slice am c.ms.length cm, .int .i64 c.st, .int .i64 c.step, .int .i64 c.cause, .int .u64 c.start])
  simp only [encI] at hu
  have D5 := D1.setCalls hF5 hM (hcv.put HV.out)
  have HD5 := Lib.hid D5
  have HB5 := hF5.keep (b := w.heap.size) (w := wL.drew) HB1 (by simpa using hacm.symm)
  clear D1 hM D5 hmk hcv FL HB HF HLE
  go_wp2_with fail
  go_region
  all_goals clear y0 y1 y2 y3 y4 y5 kd hu
  all_goals (
    have z2 := (six HB5).2.2.1
    have HH := Lib.hid (fun (w' : World) (F : Fr [] w5 w') => holds_spec (HD5.out.fr0 F).dep ld)
    by_cases h4 : c.st = 4
    · rw [h4] at z2
      cases hb : σ.M.holds ld with
      | true =>
        have HKK := Lib.hid (HK2.out (by rw [hb]; simp))
        have HX := Lib.hid (HH.out _ (Fr.refl _ _))
        rw [show DepM.holds { σ.M with calls := aput σ.M.calls ld c } ld = true from hb] at HX
        clear hb HK1 HK2 HH
        go_wp2_with fail
        refine HX.out.mono ?_
        rintro e w6 ⟨rfl, F6⟩
        go_wp2_with fail
        go_end0
        rw [HKK.out]
        exact DeedR.mk (HD5.out.fr0 F6)
      | false =>
        have HKK := Lib.hid (HK1.out h4 hb)
        have HX := Lib.hid (HH.out _ (Fr.refl _ _))
        rw [show DepM.holds { σ.M with calls := aput σ.M.calls ld c } ld = false from hb] at HX
        clear hb HK1 HK2 HH
        go_wp2_with fail
        refine HX.out.mono ?_
        rintro e w6 ⟨rfl, F6⟩
        have D6 := HD5.out.fr0 F6
        have kd := D6.dep.cells.2.2.2.2.2.1
        obtain ⟨vs6, hmk6, hcv6⟩ := D6.calls
        obtain ⟨w7, hu, hM, hF7⟩ := del_run (K' := 3) (ty := 0) (keyOk_int (P := Tryz.prog) Tryz.underlying3) Tryz.underlying108 hmk6 ld
        simp only [encI] at hu
        have HD7 := Lib.hid (D6.setCalls hF7 hM (hcv6.del ld))
        clear D6 hM hmk6 hcv6 F6
        go_wp2_with fail
        go_end0
        rw [HKK.out]
        exact DeedR.mk HD7.out
    · have HKK := Lib.hid (HK2.out (fun h => h4 h.1))
      have b4 : (c.st == 4) = false := by simpa using h4
      clear HK1 HK2 HH
      go_wp2_with fail
      go_end0
      rw [HKK.out]
      exact DeedR.mk HD5.out)
end Go.Proofs.YtcnkhjgpjchkeaaGreat
