/-
  Words, and contracts of functions of the program and of the document, for this seat's claims: each is a lemma on the way; conditions stand in each lemma.
-/
import Derived.Test.YtcnkhjgpjchkeaaGreatZ7
import Derived.Deep.RegionHeld3
namespace Go.Proofs.YtcnkhjgpjchkeaaGreat
open Go.RowKit

/-- What the deed's block and the dependency's block hold: nothing of it turns, but the rows and the probe. -/
def DC (x : Nat) (A : DepA) (M : DepM) (now : Nat) (va vo : Value) (w : World) : Prop :=
  w.heap[x]? = some (.cells #[.pointer (some ⟨A.d, 0, none⟩), va, vo, .int .u64 now] 142 (0, 0)) ∧ w.heap[A.d]? = some (.cells (depCells A M) 110 (0, 0))
theorem DeedV.dc {bs : Bx} {w0 w : World} {x : Nat} {A : DepA} {now : Nat} {σ : DS} {va vo : Value} (D : DeedV bs w0 w x A now σ va vo) : DC x A σ.M now va vo w := ⟨D.blk, D.dep.blk⟩
section
variable {w : World} {x : Nat} {A : DepA} {M : DepM} {now : Nat} {va vo : Value} (h : DC x A M now va vo w)
include h
theorem DC.x0 : w.cell? ⟨x, 0, none⟩ = some (.pointer (some ⟨A.d, 0, none⟩)) := by rw [cell_of_block h.1]; rfl
theorem DC.x3 : w.cell? ⟨x, 3, none⟩ = some (.int .u64 now) := by rw [cell_of_block h.1]; rfl
theorem DC.d0 : w.cell? ⟨A.d, 0, none⟩ = some (.pointer (some ⟨A.brk, 0, none⟩)) := by rw [cell_of_block h.2]; rfl
theorem DC.d1 : w.cell? ⟨A.d, 1, none⟩ = some (.pointer (some ⟨A.blk, 0, none⟩)) := by rw [cell_of_block h.2]; rfl
theorem DC.d18 : w.cell? ⟨A.d, 18, none⟩ = some (.pointer (some ⟨A.fs, 0, none⟩)) := by rw [cell_of_block h.2]; rfl
theorem DC.d19 : w.cell? ⟨A.d, 19, none⟩ = some (.pointer (some ⟨A.wi, 0, none⟩)) := by rw [cell_of_block h.2]; rfl
theorem DC.d20 : w.cell? ⟨A.d, 20, none⟩ = some (.pointer (some ⟨A.hi, 0, none⟩)) := by rw [cell_of_block h.2]; rfl
theorem DC.d21 : w.cell? ⟨A.d, 21, none⟩ = some (.map (some A.cm)) := by rw [cell_of_block h.2]; rfl
theorem DC.d22 : w.cell? ⟨A.d, 22, none⟩ = some (.int .i64 M.probe) := by rw [cell_of_block h.2]; rfl
theorem DC.c0 : w.cell? ⟨A.d, 2, none⟩ = some (.int .i64 M.k.mode) := by rw [cell_of_block h.2]; rfl
theorem DC.c1 : w.cell? ⟨A.d, 3, none⟩ = some (.int .i64 M.k.pool) := by rw [cell_of_block h.2]; rfl
theorem DC.c2 : w.cell? ⟨A.d, 4, none⟩ = some (.int .i64 M.k.queue) := by rw [cell_of_block h.2]; rfl
theorem DC.c3 : w.cell? ⟨A.d, 5, none⟩ = some (.int .i64 M.k.sem) := by rw [cell_of_block h.2]; rfl
theorem DC.c4 : w.cell? ⟨A.d, 6, none⟩ = some (.int .i64 M.k.fb) := by rw [cell_of_block h.2]; rfl
theorem DC.c5 : w.cell? ⟨A.d, 7, none⟩ = some (.int .i64 M.k.ch) := by rw [cell_of_block h.2]; rfl
theorem DC.c6 : w.cell? ⟨A.d, 8, none⟩ = some (.int .u64 M.k.t) := by rw [cell_of_block h.2]; rfl
theorem DC.c7 : w.cell? ⟨A.d, 9, none⟩ = some (.int .u64 M.k.ft) := by rw [cell_of_block h.2]; rfl
theorem DC.c8 : w.cell? ⟨A.d, 10, none⟩ = some (.int .i64 M.k.vo) := by rw [cell_of_block h.2]; rfl
theorem DC.c9 : w.cell? ⟨A.d, 11, none⟩ = some (.int .i64 M.k.pe) := by rw [cell_of_block h.2]; rfl
theorem DC.c10 : w.cell? ⟨A.d, 12, none⟩ = some (.int .u64 M.k.sl) := by rw [cell_of_block h.2]; rfl
theorem DC.c11 : w.cell? ⟨A.d, 13, none⟩ = some (.int .i64 M.k.bu) := by rw [cell_of_block h.2]; rfl
theorem DC.c12 : w.cell? ⟨A.d, 14, none⟩ = some (.int .u64 M.k.wi) := by rw [cell_of_block h.2]; rfl
theorem DC.c13 : w.cell? ⟨A.d, 15, none⟩ = some (.int .u64 M.k.wd) := by rw [cell_of_block h.2]; rfl
theorem DC.c14 : w.cell? ⟨A.d, 16, none⟩ = some (.int .i64 M.k.ba) := by rw [cell_of_block h.2]; rfl
theorem DC.c15 : w.cell? ⟨A.d, 17, none⟩ = some (.int .i64 M.k.fo) := by rw [cell_of_block h.2]; rfl
end

/-- A call is counted as something. -/
def DepM.count (M : DepM) (now : Nat) (id : Int) (kind : Nat) : DepM :=
  if M.probe ≠ id then
    (if ((M.win.add now kind).to now).cn.opens M.k.vo M.k.pe = true then { M with win := (M.win.add now kind).to now, br := M.br.trip now } else { M with win := (M.win.add now kind).to now })
  else (if kind = 0 then { M with win := (M.win.add now kind).reset, probe := 0, br := M.br.done now true } else { M with win := M.win.add now kind, probe := 0, br := M.br.done now false })
theorem IsWin.cnOk {w : World} {b : Nat} {s : WinM} (_h : IsWin w b s) (hl : s.L.length ≤ 1000000000000000) : s.cn.ok := by
  have hc : ∀ k, s.cnt k < 18446744073709551616 := fun k => Nat.lt_of_le_of_lt (Nat.le_trans (cnt_len s k) hl) (by decide)
  exact ⟨hc 0, hc 1, hc 2, hc 3, hc 4⟩
theorem DepM.count_trip {M : DepM} {now : Nat} {id : Int} {kind : Nat} (h1 : M.probe ≠ id) (h2 : ((M.win.add now kind).to now).cn.opens M.k.vo M.k.pe = true) : M.count now id kind = { M with win := (M.win.add now kind).to now, br := M.br.trip now } := by
  unfold DepM.count; rw [if_pos h1, if_pos h2]
theorem DepM.count_not {M : DepM} {now : Nat} {id : Int} {kind : Nat} (h1 : M.probe ≠ id) (h2 : ((M.win.add now kind).to now).cn.opens M.k.vo M.k.pe = false) : M.count now id kind = { M with win := (M.win.add now kind).to now } := by
  unfold DepM.count; rw [if_pos h1, if_neg (by simp [h2])]
theorem DepM.count_yes {M : DepM} {now : Nat} : M.count now M.probe 0 = { M with win := (M.win.add now 0).reset, probe := 0, br := M.br.done now true } := by
  unfold DepM.count; rw [if_neg (by simp), if_pos rfl]
theorem DepM.count_no {M : DepM} {now : Nat} {kind : Nat} (h : kind ≠ 0) : M.count now M.probe kind = { M with win := M.win.add now kind, probe := 0, br := M.br.done now false } := by
  unfold DepM.count; rw [if_neg (by simp), if_neg h]
section
variable {bs : Bx} {w0 w : World} {x : Nat} {A : DepA} {now : Nat} {σ : DS} {va vo : Value} (D : DeedV bs w0 w x A now σ va vo)
include D
theorem DeedV.setWin {w' : World} (k : Fr [A.wi] w w') {s : WinM} (h : IsWin w' A.wi s) : DeedV bs w0 w' x A now { σ with M := { σ.M with win := s } } va vo :=
  D.stepC (S := [A.wi]) (by simp [DepA.list]) (by have N := D.dep.ne; simp [N]) k (D.dep.setWin k h) rfl
theorem DeedV.setBrk {w' : World} (k : Fr [A.brk] w w') {s : Brk} (h : IsBrk w' A.brk s) : DeedV bs w0 w' x A now { σ with M := { σ.M with br := s } } va vo :=
  D.stepC (S := [A.brk]) (by simp [DepA.list]) (by have N := D.dep.ne; simp [N]) k (D.dep.setBrk k h) rfl
theorem DeedV.setTook {w' : World} (k : Fr [A.hi] w w') {s : WinM} (h : IsHist w' A.hi s) : DeedV bs w0 w' x A now { σ with M := { σ.M with took := s } } va vo :=
  D.stepC (S := [A.hi]) (by simp [DepA.list]) (by have N := D.dep.ne; simp [N]) k (D.dep.setTook k h) rfl
theorem DeedV.setFalls {w' : World} (k : Fr [A.fm] w w') {hs : List (Int × Int)} (h : IsSet w' A.fs A.fm hs σ.M.k.fb.toNat) : DeedV bs w0 w' x A now { σ with M := { σ.M with falls := hs } } va vo :=
  D.stepC (S := [A.fm]) (by simp [DepA.list]) (by have N := D.dep.ne; simp [N]) k (D.dep.setFalls k h) rfl
theorem DeedV.setBulk {w' : World} (k : Fr [A.r, A.g] w w') {hs ws : List Int} (h : IsBulk w' A.blk A.s A.r A.g hs ws σ.M.pool σ.M.que) : DeedV bs w0 w' x A now { σ with M := { σ.M with run := hs, wait := ws } } va vo :=
  D.stepC (S := [A.r, A.g]) (by simp [DepA.list]) (by have N := D.dep.ne; simp [N]) k (D.dep.setBulk k h) rfl
theorem DeedV.setProbe (y : Int) : DeedV bs w0 (w.setCell ⟨A.d, 22, none⟩ (.int .i64 y)) x A now { σ with M := { σ.M with probe := y } } va vo :=
  D.stepC (S := [A.d]) (by simp [DepA.list]) (by have N := D.dep.ne; simp [N]) ((Fr.refl _ _).setCell (.inl (by simp)) _) (D.dep.setProbe y) rfl
end

set_option maxHeartbeats 8000000 in
set_option maxRecDepth 20000 in
theorem count_spec {bs : Bx} {w0 w : World} {x : Nat} {A : DepA} {now : Nat} {σ : DS} {va vo : Value} (D : DeedV bs w0 w x A now σ va vo) (hnow : now < 18446744073709551616) (hl : σ.M.win.L.length < 1000000000000000) (id : Int) (kind : Nat) (hk : kind < 5) :
    Calls Tryz.prog 60 #[.pointer (some ⟨x, 0, none⟩), .int .i64 id, .int .i64 kind] w (DeedR bs w0 x A now { σ with M := σ.M.count now id kind }) := by
  have HD := Lib.hid D
  have HA := Lib.hid (winAdd_spec (D.fr0 ((Fr.refl [] w).drew)).dep.win now hnow kind hk hl)
  have hdc := (D.fr0 ((Fr.refl [] w).drew)).dc
  have hl2 : ((σ.M.win.add now kind).to now).L.length ≤ 1000000000000000 := by
    show (σ.M.win.L ++ [_]).length ≤ _
    rw [List.length_append]; simp; omega
  have HL2 := Lib.hid hl2
  have O := CF.okay D.dep.fine D.dep.ran
  have HO := Lib.hid O
  have hkz : ((kind : Int) == 0) = decide (kind = 0) := by
    by_cases h : kind = 0
    · subst h; rfl
    · rw [decide_eq_false h]; simpa using h
  have rx0 : ∀ w' : World, DC x A σ.M now va vo w' → w'.cell? ⟨x, 0, none⟩ = some (.pointer (some ⟨A.d, 0, none⟩)) := fun w' h => h.x0
  have rx3 : ∀ w' : World, DC x A σ.M now va vo w' → w'.cell? ⟨x, 3, none⟩ = some (.int .u64 now) := fun w' h => h.x3
  have rd0 : ∀ w' : World, DC x A σ.M now va vo w' → w'.cell? ⟨A.d, 0, none⟩ = some (.pointer (some ⟨A.brk, 0, none⟩)) := fun w' h => h.d0
  have rd1 : ∀ w' : World, DC x A σ.M now va vo w' → w'.cell? ⟨A.d, 1, none⟩ = some (.pointer (some ⟨A.blk, 0, none⟩)) := fun w' h => h.d1
  have rd18 : ∀ w' : World, DC x A σ.M now va vo w' → w'.cell? ⟨A.d, 18, none⟩ = some (.pointer (some ⟨A.fs, 0, none⟩)) := fun w' h => h.d18
  have rd19 : ∀ w' : World, DC x A σ.M now va vo w' → w'.cell? ⟨A.d, 19, none⟩ = some (.pointer (some ⟨A.wi, 0, none⟩)) := fun w' h => h.d19
  have rd20 : ∀ w' : World, DC x A σ.M now va vo w' → w'.cell? ⟨A.d, 20, none⟩ = some (.pointer (some ⟨A.hi, 0, none⟩)) := fun w' h => h.d20
  have rd21 : ∀ w' : World, DC x A σ.M now va vo w' → w'.cell? ⟨A.d, 21, none⟩ = some (.map (some A.cm)) := fun w' h => h.d21
  have rd22 : ∀ w' : World, DC x A σ.M now va vo w' → w'.cell? ⟨A.d, 22, none⟩ = some (.int .i64 σ.M.probe) := fun w' h => h.d22
  have rc0 : ∀ w' : World, DC x A σ.M now va vo w' → w'.cell? ⟨A.d, 2, none⟩ = some (.int .i64 σ.M.k.mode) := fun w' h => h.c0
  have rc1 : ∀ w' : World, DC x A σ.M now va vo w' → w'.cell? ⟨A.d, 3, none⟩ = some (.int .i64 σ.M.k.pool) := fun w' h => h.c1
  have rc2 : ∀ w' : World, DC x A σ.M now va vo w' → w'.cell? ⟨A.d, 4, none⟩ = some (.int .i64 σ.M.k.queue) := fun w' h => h.c2
  have rc3 : ∀ w' : World, DC x A σ.M now va vo w' → w'.cell? ⟨A.d, 5, none⟩ = some (.int .i64 σ.M.k.sem) := fun w' h => h.c3
  have rc4 : ∀ w' : World, DC x A σ.M now va vo w' → w'.cell? ⟨A.d, 6, none⟩ = some (.int .i64 σ.M.k.fb) := fun w' h => h.c4
  have rc5 : ∀ w' : World, DC x A σ.M now va vo w' → w'.cell? ⟨A.d, 7, none⟩ = some (.int .i64 σ.M.k.ch) := fun w' h => h.c5
  have rc6 : ∀ w' : World, DC x A σ.M now va vo w' → w'.cell? ⟨A.d, 8, none⟩ = some (.int .u64 σ.M.k.t) := fun w' h => h.c6
  have rc7 : ∀ w' : World, DC x A σ.M now va vo w' → w'.cell? ⟨A.d, 9, none⟩ = some (.int .u64 σ.M.k.ft) := fun w' h => h.c7
  have rc8 : ∀ w' : World, DC x A σ.M now va vo w' → w'.cell? ⟨A.d, 10, none⟩ = some (.int .i64 σ.M.k.vo) := fun w' h => h.c8
  have rc9 : ∀ w' : World, DC x A σ.M now va vo w' → w'.cell? ⟨A.d, 11, none⟩ = some (.int .i64 σ.M.k.pe) := fun w' h => h.c9
  have rc10 : ∀ w' : World, DC x A σ.M now va vo w' → w'.cell? ⟨A.d, 12, none⟩ = some (.int .u64 σ.M.k.sl) := fun w' h => h.c10
  have rc11 : ∀ w' : World, DC x A σ.M now va vo w' → w'.cell? ⟨A.d, 13, none⟩ = some (.int .i64 σ.M.k.bu) := fun w' h => h.c11
  have rc12 : ∀ w' : World, DC x A σ.M now va vo w' → w'.cell? ⟨A.d, 14, none⟩ = some (.int .u64 σ.M.k.wi) := fun w' h => h.c12
  have rc13 : ∀ w' : World, DC x A σ.M now va vo w' → w'.cell? ⟨A.d, 15, none⟩ = some (.int .u64 σ.M.k.wd) := fun w' h => h.c13
  have rc14 : ∀ w' : World, DC x A σ.M now va vo w' → w'.cell? ⟨A.d, 16, none⟩ = some (.int .i64 σ.M.k.ba) := fun w' h => h.c14
  have rc15 : ∀ w' : World, DC x A σ.M now va vo w' → w'.cell? ⟨A.d, 17, none⟩ = some (.int .i64 σ.M.k.fo) := fun w' h => h.c15
  clear D hl hl2 O
  go_enter Tryz.func60, Tryz.ntmps60
  go_wp2_with fail
  go_region_held3 (fun w' => DC x A σ.M now va vo w') (first | exact hdc | exact D1.dc)
    (first | (go_at_call 116; refine HA.out.mono ?_; rintro e w1 ⟨rfl, W1, F1⟩; have D1 := (HD.out.fr0 ((Fr.refl [] w).drew)).setWin F1 W1))
  have HD1 := Lib.hid D1
  have h1 := D1.dc
  change DC x A σ.M now va vo w1 at h1
  by_cases hp : σ.M.probe = id
  · subst hp
    have f22 := D1.dep.cells.2.2.2.2.2.2.2.1
    have D2 := D1.setProbe 0
    have HD2 := Lib.hid D2
    have hq : DC x A { σ.M with probe := 0 } now va vo ((w1.setCell ⟨A.d, 22, none⟩ (.int .i64 0)).drew) := (D2.fr0 ((Fr.refl [] _).drew)).dc
    have p0 : ∀ w' : World, DC x A { σ.M with probe := 0 } now va vo w' → w'.cell? ⟨x, 0, none⟩ = some (.pointer (some ⟨A.d, 0, none⟩)) := fun w' h => h.x0
    have p3 : ∀ w' : World, DC x A { σ.M with probe := 0 } now va vo w' → w'.cell? ⟨x, 3, none⟩ = some (.int .u64 now) := fun w' h => h.x3
    have pd0 : ∀ w' : World, DC x A { σ.M with probe := 0 } now va vo w' → w'.cell? ⟨A.d, 0, none⟩ = some (.pointer (some ⟨A.brk, 0, none⟩)) := fun w' h => h.d0
    have pd19 : ∀ w' : World, DC x A { σ.M with probe := 0 } now va vo w' → w'.cell? ⟨A.d, 19, none⟩ = some (.pointer (some ⟨A.wi, 0, none⟩)) := fun w' h => h.d19
    have HB := Lib.hid (fun ok => (D2.fr0 ((Fr.refl [] _).drew)).dep.brk.doneC now ok)
    clear D1 D2 hdc HA W1 F1
    by_cases hk0 : kind = 0
    · subst hk0
      clear hkz
      go_wp2_with fail
      go_region_held3 (fun w' => DC x A { σ.M with probe := 0 } now va vo w') (first | exact hq | exact D3.dc)
        (first | (go_at_call 119; refine (HB.out true).mono ?_; rintro e w3 ⟨⟨r, rfl⟩, B3, F3⟩; have D3 := (HD2.out.fr0 ((Fr.refl [] _).drew)).setBrk F3 B3))
      have HD3 := Lib.hid D3
      have HW := Lib.hid (winReset_spec D3.dep.win)
      have h3 := D3.dc
      change DC x A { σ.M with probe := 0 } now va vo w3 at h3
      clear D3 hq B3 F3 h1
      go_wp2_with fail
      refine HW.out.mono ?_
      rintro e w4 ⟨rfl, W4, F4⟩
      go_wp2_with fail
      go_end0
      rw [DepM.count_yes]
      exact DeedR.mk (HD3.out.setWin F4 W4)
    · have HKN := Lib.hid hk0
      have hkz0 : ((kind : Int) == 0) = false := by rw [hkz, decide_eq_false hk0]
      clear hkz hk0
      go_wp2_with fail
      go_region_held3 (fun w' => DC x A { σ.M with probe := 0 } now va vo w') (first | exact hq | exact D3.dc)
        (first | (go_at_call 119; refine (HB.out false).mono ?_; rintro e w3 ⟨⟨r, rfl⟩, B3, F3⟩; have D3 := (HD2.out.fr0 ((Fr.refl [] _).drew)).setBrk F3 B3))
      have HD3 := Lib.hid D3
      clear D3 hq B3 F3 h1
      go_wp2_with fail
      go_end0
      rw [DepM.count_no HKN.out]
      exact DeedR.mk HD3.out
  · have hpb : (σ.M.probe != id) = true := by simpa using hp
    have HT := Lib.hid (fun h => DepM.count_trip (now := now) (kind := kind) hp h)
    have HN := Lib.hid (fun h => DepM.count_not (now := now) (kind := kind) hp h)
    have HC := Lib.hid (winCounts_spec (D1.fr0 ((Fr.refl [] _).drew)).dep.win now hnow)
    have hq := (D1.fr0 ((Fr.refl [] _).drew)).dc
    change DC x A σ.M now va vo w1.drew at hq
    have hcn := (Lib.hid (fun (w' : World) (h : IsWin w' A.wi ((σ.M.win.add now kind).to now)) => h.cnOk HL2.out))
    clear D1 hdc HA W1 F1 hp
    simp only at HC
    generalize ((σ.M.win.add now kind).to now) = wn at *
    go_wp2_with fail
    go_region_held3 (fun w' => DC x A σ.M now va vo w') (first | exact hq | exact D3.dc | exact D2.dc)
      (first
        | (go_at_call 55; refine HC.out.mono ?_; rintro e w2 ⟨rfl, W2, F2⟩; have D2 := (HD1.out.fr0 ((Fr.refl [] _).drew)).setWin F2 W2; have HOP := Lib.hid (fun w' => opens_spec w' wn.cn (hcn.out _ W2) σ.M.k HO.out.vo.1 (by have := HO.out.vo; omega) (by have := HO.out.pe; omega)))
        | (go_at_call 117; refine (HOP.out _).mono ?_; rintro e w3 ⟨rfl, F3⟩; have D3 := D2.fr0 F3))
    have HD3 := Lib.hid D3
    have h3 := D3.dc
    change DC x A σ.M now va vo w3 at h3
    have HB := Lib.hid ((D3.fr0 ((Fr.refl [] _).drew)).dep.brk.tripC now)
    have hq3 := (D3.fr0 ((Fr.refl [] _).drew)).dc
    change DC x A σ.M now va vo w3.drew at hq3
    clear D2 D3 W2 F2 F3 HOP HC hq h1
    cases ho : wn.cn.opens σ.M.k.vo σ.M.k.pe with
    | true =>
      have HE := Lib.hid (HT.out ho)
      clear HT HN ho
      go_wp2_with fail
      go_region_held3 (fun w' => DC x A σ.M now va vo w') (first | exact hq3 | exact D4.dc)
        (first | (go_at_call 118; refine HB.out.mono ?_; rintro e w4 ⟨⟨r, rfl⟩, B4, F4⟩; have D4 := (HD3.out.fr0 ((Fr.refl [] _).drew)).setBrk F4 B4))
      have HD4 := Lib.hid D4
      clear D4 B4 F4
      go_wp2_with fail
      go_end0
      rw [HE.out]
      exact DeedR.mk HD4.out
    | false =>
      have HE := Lib.hid (HN.out ho)
      clear HT HN ho
      go_wp2_with fail
      go_end0
      rw [HE.out]
      exact DeedR.mk HD3.out
end Go.Proofs.YtcnkhjgpjchkeaaGreat

namespace Go.Proofs.YtcnkhjgpjchkeaaGreat
open Go.RowKit

/-- May a fallback not take its permit? -/
def blockd (fs : List (Int × Int)) (fb : Nat) (id step : Int) : Prop := fs.length = fb ∨ (id, step) ∈ fs
instance (fs : List (Int × Int)) (fb : Nat) (id step : Int) : Decidable (blockd fs fb id step) := inferInstanceAs (Decidable (_ ∨ _))
/-- A call fails, and falls back to the first step that has a permit. -/
def CallM.fallN (fs : List (Int × Int)) (fb : Nat) (chain cause id : Int) : Nat → CallM → CallM × Bool
  | 0, c => (c, false)
  | n + 1, c => if (c.fail cause chain).2 = true ∧ blockd fs fb id (c.fail cause chain).1.step then CallM.fallN fs fb chain cause id n (c.fail cause chain).1 else c.fail cause chain
def DS.fall (σ : DS) (now : Nat) (c : CallM) (cause : Int) : DS :=
  if (CallM.fallN σ.M.falls σ.M.k.fb.toNat σ.M.k.ch cause c.lead 5 c).2 = true then
    { M := ({ σ.M with falls := σ.M.falls ++ [(c.lead, (CallM.fallN σ.M.falls σ.M.k.fb.toNat σ.M.k.ch cause c.lead 5 c).1.step)] } : DepM).keep (CallM.fallN σ.M.falls σ.M.k.fb.toNat σ.M.k.ch cause c.lead 5 c).1, ac := σ.ac ++ [⟨true, c.lead, sadd now σ.M.k.ft.toNat⟩], ou := σ.ou }
  else { M := σ.M.keep (CallM.fallN σ.M.falls σ.M.k.fb.toNat σ.M.k.ch cause c.lead 5 c).1, ac := σ.ac, ou := σ.ou ++ (CallM.fallN σ.M.falls σ.M.k.fb.toNat σ.M.k.ch cause c.lead 5 c).1.outs 4 [] now }
theorem DS.fall_yes {σ : DS} {now : Nat} {c c' : CallM} {cause : Int} (h : CallM.fallN σ.M.falls σ.M.k.fb.toNat σ.M.k.ch cause c.lead 5 c = (c', true)) :
    σ.fall now c cause = { M := ({ σ.M with falls := σ.M.falls ++ [(c.lead, c'.step)] } : DepM).keep c', ac := σ.ac ++ [⟨true, c.lead, sadd now σ.M.k.ft.toNat⟩], ou := σ.ou } := by
  unfold DS.fall; rw [h, if_pos rfl]
theorem DS.fall_no {σ : DS} {now : Nat} {c c' : CallM} {cause : Int} (h : CallM.fallN σ.M.falls σ.M.k.fb.toNat σ.M.k.ch cause c.lead 5 c = (c', false)) :
    σ.fall now c cause = { M := σ.M.keep c', ac := σ.ac, ou := σ.ou ++ c'.outs 4 [] now } := by
  unfold DS.fall; rw [h, if_neg (by simp)]
theorem CallM.fail_same (c : CallM) (cause chain : Int) : (c.fail cause chain).1.nargs = c.nargs ∧ (c.fail cause chain).1.ms = c.ms ∧ (c.fail cause chain).1.start = c.start := by
  unfold CallM.fail
  split
  · split <;> exact ⟨rfl, rfl, rfl⟩
  · exact ⟨rfl, rfl, rfl⟩
theorem CallM.fail_step (c : CallM) (cause chain : Int) : ((c.fail cause chain).2 = true → (c.fail cause chain).1.step = c.step + 1 ∧ c.step < chain) ∧ ((c.fail cause chain).2 = false → (c.fail cause chain).1.step = c.step) := by
  unfold CallM.fail
  split
  · split
    · exact ⟨fun h => by simp at h, fun _ => rfl⟩
    · exact ⟨fun _ => ⟨rfl, by omega⟩, fun h => by simp at h⟩
  · exact ⟨fun h => by simp at h, fun _ => rfl⟩
theorem CallM.fallN_succ {fs : List (Int × Int)} {fb : Nat} {chain cause id : Int} {n : Nat} {c : CallM} :
    CallM.fallN fs fb chain cause id (n + 1) c = if (c.fail cause chain).2 = true ∧ blockd fs fb id (c.fail cause chain).1.step then CallM.fallN fs fb chain cause id n (c.fail cause chain).1 else c.fail cause chain := rfl
theorem fail_spec2 (w : World) (a0 : Option Addr) (c0 : Nat) (am : Option Addr) (cm : Nat) (c : CallM) (why chain : Int) (h1 : c.step ≤ 1000000) (h2 : -1000000 ≤ c.step) :
    Calls Tryz.prog 121 #[.agg #[.slice a0 c.nargs c0, .slice am c.ms.length cm, .int .i64 c.st, .int .i64 c.step, .int .i64 c.cause, .int .u64 c.start], .int .i64 why, .int .i64 chain] w fun e w' =>
      e = .returned (.tuple #[.agg #[.slice a0 c.nargs c0, .slice am c.ms.length cm, .int .i64 (c.fail why chain).1.st, .int .i64 (c.fail why chain).1.step, .int .i64 (c.fail why chain).1.cause, .int .u64 c.start], .bool (c.fail why chain).2]) ∧ Fr [] w w' := by
  refine (fail_spec w a0 c.nargs c0 am c.ms.length cm c.st c.step c.cause c.start why chain h1 h2).mono ?_
  rintro e w' ⟨rfl, F⟩
  refine ⟨?_, F⟩
  congr 2
  unfold CallM.fail
  by_cases e1 : 1 ≤ c.st ∧ c.st ≤ 3
  · rw [if_pos e1, if_pos e1]
    by_cases e2 : chain ≤ c.step
    · simp only [e1, e2, if_true, not_true, and_false, if_false, decide_false]
      by_cases e3 : c.st = 3
      · simp [e3]
      · have : c.st = 1 ∨ c.st = 2 := by omega
        simp [e3, this]
    · simp only [e1, e2, if_false, not_false_eq_true, and_self, if_true, decide_true]
      by_cases e3 : c.st = 3
      · simp [e3]
      · have : c.st = 1 ∨ c.st = 2 := by omega
        simp [e3, this]
  · have e3 : ¬ (c.st = 1 ∨ c.st = 2) := by omega
    have e4 : ¬ (1 ≤ c.st ∧ c.st ≤ 3 ∧ ¬ chain ≤ c.step) := fun h => e1 ⟨h.1, h.2.1⟩
    rw [if_neg e1, if_neg e1, if_neg e4, if_neg e3, decide_eq_false e4]

/-- The deed stays where a call's box turns. -/
theorem DeedV.other {bs : Bx} {w0 w w' : World} {x : Nat} {A : DepA} {now : Nat} {σ : DS} {va vo : Value} (D : DeedV bs w0 w x A now σ va vo) {y : Nat} (hy : w0.heap.size ≤ y) {cs : Array Value} {E : TypeId} {fr : Nat × Nat} (hb : w.heap[y]? = some (.cells cs E fr)) (hE : E ≠ 191 ∧ E ≠ 142 ∧ E ≠ 95 ∧ E ≠ 87) (hyb : ∀ p ∈ bs, p.1 ≠ y) (k : Fr [y] w w') : DeedV bs w0 w' x A now σ va vo := by
  have hm : NoMem w [y] := NoMem.cons (NoMem.nil w) hb (by intro cs' fr' e; simp only [Obj.cells.injEq] at e; exact hE.1 e.2.1)
  obtain ⟨h1, h2⟩ := D.core k (by simpa using hy) hm
  refine ⟨D.fr.trans' k (fun s hs => .inr (by simp at hs; subst hs; exact hy)), h1, h2, D.low, D.nomem, D.hx, k.keep D.blk ?_, ownsRow_fr D.acts k ?_, ownsRow_fr D.outs k ?_, ?_⟩
  · intro hs; simp at hs; subst hs; have := D.blk; rw [hb] at this; simp only [Option.some.injEq, Obj.cells.injEq] at this; exact hE.2.1 this.2.1
  · intro g hg hs; simp at hs; exact owns_neD D.acts hb (Ne.symm hE.2.2.1) g hg hs
  · intro g hg hs; simp at hs; exact owns_neD D.outs hb (Ne.symm hE.2.2.2) g hg hs
  · exact fun p hp => ⟨(D.box p hp).1, k.keep (D.box p hp).2 (by simpa using hyb p hp)⟩
/-- How far the fallbacks are. -/
structure FI (fs : List (Int × Int)) (fb : Nat) (chain cause id : Int) (c0 : CallM) (R : CallM × Bool) (n : Nat) (cc : CallM) (mb : Bool) : Prop where
  na : cc.nargs = c0.nargs
  ms : cc.ms = c0.ms
  start : cc.start = c0.start
  s0 : 0 ≤ cc.step
  s3 : cc.step ≤ 3
  fuel : mb = true → (chain - cc.step).toNat < n
  res : (if mb = true ∧ blockd fs fb id cc.step then CallM.fallN fs fb chain cause id n cc else (cc, mb)) = R
theorem FI.base {fs : List (Int × Int)} {fb : Nat} {chain cause id : Int} {c : CallM} (hc : chain ≤ 3) (h0 : 0 ≤ c.step) (h3 : c.step ≤ 3) :
    FI fs fb chain cause id c (CallM.fallN fs fb chain cause id 5 c) 4 (c.fail cause chain).1 (c.fail cause chain).2 := by
  obtain ⟨a1, a2, a3⟩ := CallM.fail_same c cause chain
  obtain ⟨b1, b2⟩ := CallM.fail_step c cause chain
  refine ⟨a1, a2, a3, ?_, ?_, ?_, ?_⟩
  · cases h : (c.fail cause chain).2 with
    | true => have := b1 h; omega
    | false => have := b2 h; omega
  · cases h : (c.fail cause chain).2 with
    | true => have := b1 h; omega
    | false => have := b2 h; omega
  · intro h; have := b1 h; omega
  · rfl
theorem FI.next {fs : List (Int × Int)} {fb : Nat} {chain cause id : Int} {c cc : CallM} {R : CallM × Bool} {n : Nat} (h : FI fs fb chain cause id c R n cc true) (hb : blockd fs fb id cc.step) (hc : chain ≤ 3) :
    FI fs fb chain cause id c R (n - 1) (cc.fail cause chain).1 (cc.fail cause chain).2 := by
  obtain ⟨a1, a2, a3⟩ := CallM.fail_same cc cause chain
  obtain ⟨b1, b2⟩ := CallM.fail_step cc cause chain
  have hf := h.fuel rfl
  have hs0 := h.s0
  have hs3 := h.s3
  obtain ⟨m, rfl⟩ : ∃ m, n = m + 1 := ⟨n - 1, by omega⟩
  have hr := h.res
  rw [if_pos ⟨rfl, hb⟩, CallM.fallN_succ] at hr
  refine ⟨a1.trans h.na, a2.trans h.ms, a3.trans h.start, ?_, ?_, ?_, hr⟩
  · cases h : (cc.fail cause chain).2 with
    | true => have := b1 h; omega
    | false => have := b2 h; omega
  · cases h : (cc.fail cause chain).2 with
    | true => have := b1 h; omega
    | false => have := b2 h; omega
  · intro h; have := b1 h; simp only [Nat.add_sub_cancel]; omega
/-- How far a loop over the fallbacks has to go. -/
def fallMeas (y : Nat) (ch : Int) (m : Value) (w : World) : Nat := (match w.cell? ⟨y, 3, none⟩ with | some (.int _ s) => (ch - s).toNat | _ => 0) + (match m with | .bool true => 1 | _ => 0)
theorem fallMeas_eq {y : Nat} {ch s : Int} {w : World} (h : w.cell? ⟨y, 3, none⟩ = some (.int .i64 s)) (mb : Bool) : fallMeas y ch (.bool mb) w = (ch - s).toNat + (if mb = true then 1 else 0) := by
  unfold fallMeas; rw [h]; cases mb <;> rfl
theorem fallMeas_lt {chain cause : Int} {cc : CallM} {y : Nat} {w w' : World} (h1 : w.cell? ⟨y, 3, none⟩ = some (.int .i64 cc.step)) (h2 : w'.cell? ⟨y, 3, none⟩ = some (.int .i64 (cc.fail cause chain).1.step)) :
    fallMeas y chain (.bool (cc.fail cause chain).2) w' < fallMeas y chain (.bool true) w := by
  rw [fallMeas_eq h1, fallMeas_eq h2]
  obtain ⟨b1, b2⟩ := CallM.fail_step cc cause chain
  cases hm : (cc.fail cause chain).2 with
  | true => have := b1 hm; simp; omega
  | false => have := b2 hm; simp; omega
end Go.Proofs.YtcnkhjgpjchkeaaGreat

namespace Go.Proofs.YtcnkhjgpjchkeaaGreat
open Go.RowKit

/-- A call's box. -/
def YB (y : Nat) (a0 : Option Addr) (nargs c0 : Nat) (am : Option Addr) (len cm : Nat) (st step cause : Int) (start : Nat) (w : World) : Prop :=
  w.heap[y]? = some (.cells #[.slice a0 nargs c0, .slice am len cm, .int .i64 st, .int .i64 step, .int .i64 cause, .int .u64 start] 134 (0, 0))
theorem YB.store {y : Nat} {a0 : Option Addr} {nargs c0 : Nat} {am : Option Addr} {len cm : Nat} {st step cause : Int} {start : Nat} {w : World} (h : YB y a0 nargs c0 am len cm st step cause start w) (st' step' cause' : Int) :
    YB y a0 nargs c0 am len cm st' step' cause' start ((((((w.setCell ⟨y, 0, none⟩ (.slice a0 nargs c0)).setCell ⟨y, 1, none⟩ (.slice am len cm)).setCell ⟨y, 2, none⟩ (.int .i64 st')).setCell ⟨y, 3, none⟩ (.int .i64 step')).setCell ⟨y, 4, none⟩ (.int .i64 cause')).setCell ⟨y, 5, none⟩ (.int .u64 start))
    ∧ Fr [y] w ((((((w.setCell ⟨y, 0, none⟩ (.slice a0 nargs c0)).setCell ⟨y, 1, none⟩ (.slice am len cm)).setCell ⟨y, 2, none⟩ (.int .i64 st')).setCell ⟨y, 3, none⟩ (.int .i64 step')).setCell ⟨y, 4, none⟩ (.int .i64 cause')).setCell ⟨y, 5, none⟩ (.int .u64 start)) :=
  ⟨block_setCell (block_setCell (block_setCell (block_setCell (block_setCell (block_setCell h 0 _) 1 _) 2 _) 3 _) 4 _) 5 _,
   ((((((Fr.refl [y] w).setCell (p := ⟨y, 0, none⟩) (.inl (by simp)) _).setCell (p := ⟨y, 1, none⟩) (.inl (by simp)) _).setCell (p := ⟨y, 2, none⟩) (.inl (by simp)) _).setCell (p := ⟨y, 3, none⟩) (.inl (by simp)) _).setCell (p := ⟨y, 4, none⟩) (.inl (by simp)) _).setCell (p := ⟨y, 5, none⟩) (.inl (by simp)) _⟩
theorem YB.six {y : Nat} {a0 : Option Addr} {nargs c0 : Nat} {am : Option Addr} {len cm : Nat} {st step cause : Int} {start : Nat} {w : World} (h : YB y a0 nargs c0 am len cm st step cause start w) :
    w.cell? ⟨y, 0, none⟩ = some (.slice a0 nargs c0) ∧ w.cell? ⟨y, 1, none⟩ = some (.slice am len cm) ∧ w.cell? ⟨y, 2, none⟩ = some (.int .i64 st) ∧ w.cell? ⟨y, 3, none⟩ = some (.int .i64 step) ∧ w.cell? ⟨y, 4, none⟩ = some (.int .i64 cause) ∧ w.cell? ⟨y, 5, none⟩ = some (.int .u64 start) := Proofs.YtcnkhjgpjchkeaaGreat.six h
theorem YB.free {y : Nat} {a0 : Option Addr} {nargs c0 : Nat} {am : Option Addr} {len cm : Nat} {st step cause : Int} {start : Nat} {w : World} (h : YB y a0 nargs c0 am len cm st step cause start w) :
    w.frozen? ⟨y, 0, none⟩ = false ∧ w.frozen? ⟨y, 1, none⟩ = false ∧ w.frozen? ⟨y, 2, none⟩ = false ∧ w.frozen? ⟨y, 3, none⟩ = false ∧ w.frozen? ⟨y, 4, none⟩ = false ∧ w.frozen? ⟨y, 5, none⟩ = false :=
  ⟨free_of_block h _, free_of_block h _, free_of_block h _, free_of_block h _, free_of_block h _, free_of_block h _⟩
theorem YB.fr {y : Nat} {a0 : Option Addr} {nargs c0 : Nat} {am : Option Addr} {len cm : Nat} {st step cause : Int} {start : Nat} {w w' : World} (h : YB y a0 nargs c0 am len cm st step cause start w) {S : List Nat} (k : Fr S w w') (hS : y ∉ S) : YB y a0 nargs c0 am len cm st step cause start w' := k.keep h hS

theorem CallV.turn {w : World} {va vm : Value} {c cc : CallM} (h : CallV w (.agg #[va, vm, .int .i64 c.st, .int .i64 c.step, .int .i64 c.cause, .int .u64 c.start]) c) (na : cc.nargs = c.nargs) (ms : cc.ms = c.ms) (start : cc.start = c.start) :
    CallV w (.agg #[va, vm, .int .i64 cc.st, .int .i64 cc.step, .int .i64 cc.cause, .int .u64 c.start]) cc := by
  obtain ⟨va', vm', e, ha, hm⟩ := h
  simp only [Value.agg.injEq] at e
  have e0 := congrArg (fun a : Array Value => a[0]?) e
  have e1 := congrArg (fun a : Array Value => a[1]?) e
  simp at e0 e1
  subst e0 e1
  exact ⟨va, vm, by rw [start], by rw [na]; exact ha, by rw [ms]; exact hm⟩
theorem CallV.mems {w : World} {va vm : Value} {c : CallM} {u0 u1 u2 u3 : Value} (h : CallV w (.agg #[va, vm, u0, u1, u2, u3]) c) : Mems w vm c.ms := by
  obtain ⟨va', vm', e, ha, hm⟩ := h
  simp only [Value.agg.injEq] at e
  have e1 := congrArg (fun a : Array Value => a[1]?) e
  simp at e1
  subst e1
  exact hm
theorem outs4_len (c : CallM) (now : Nat) : (c.outs 4 [] now).length = c.ms.length := by simp [CallM.outs]
set_option maxHeartbeats 8000000 in
set_option maxRecDepth 20000 in
theorem fall_spec {bs : Bx} {w0 w : World} {x : Nat} {A : DepA} {now : Nat} {σ : DS} {va vo : Value} (D : DeedV bs w0 w x A now σ va vo) (hnow : now < 18446744073709551616) (hac : σ.ac.length ≤ 1000000) (hou : σ.ou.length ≤ 1000000)
    {v : Value} {c : CallM} (hv : CallV w0 v c) (hm : c.ms.length ≤ 1000000) (hs0 : 0 ≤ c.step) (hs3 : c.step ≤ 3) (cause : Int) :
    Calls Tryz.prog 61 #[.pointer (some ⟨x, 0, none⟩), v, .int .i64 cause] w (DeedR bs w0 x A now (σ.fall now c cause)) := by
  obtain ⟨ao2, cap2, rfl⟩ := ownsFormD D.outs
  have HD := Lib.hid D
  obtain ⟨i0, hi, hz0, hz1, hz2⟩ := info_partsD Tryz.info_ou
  have hv2 := hv.fr D.fr D.nomem
  have HV := Lib.hid hv
  obtain ⟨ao, vm, rfl, ⟨a0, c0, rfl⟩, hms⟩ := hv2
  have HLE := Lib.hid (fun (w' : World) (F : Fr [] w w') => lead_spec (a0 := a0) (n0 := c.nargs) (c0 := c0) (hms.fr0 F) (by omega : c.ms.length ≤ 9223372036854775807))
  obtain ⟨am, cm, rfl, -, -⟩ := hms
  have HB : Hid (YB w.heap.size a0 c.nargs c0 am c.ms.length cm c.st c.step c.cause c.start (w.alloc (.cells #[.slice a0 c.nargs c0, .slice am c.ms.length cm, .int .i64 c.st, .int .i64 c.step, .int .i64 c.cause, .int .u64 c.start] 134))) := Lib.hid (block_alloc_new w _)
  have HF := Lib.hid ((Fr.refl [] w).alloc (.cells #[.slice a0 c.nargs c0, .slice am c.ms.length cm, .int .i64 c.st, .int .i64 c.step, .int .i64 c.cause, .int .u64 c.start] 134))
  have hy : w0.heap.size ≤ w.heap.size := D.fr.size
  have HYB : Hid (∀ p ∈ bs, p.1 ≠ w.heap.size) := Lib.hid (fun p hp => Nat.ne_of_lt (lt_of_block (D.box p hp).2))
  have hal := Lib.hid D.low
  have O := CF.okay D.dep.fine D.dep.ran
  have HO := Lib.hid O
  obtain ⟨ft, hft⟩ : ∃ n : Nat, σ.M.k.ft = n := ⟨σ.M.k.ft.toNat, by have := O.ft; omega⟩
  have HFT : Hid (σ.M.k.ft.toNat = ft) := Lib.hid (by omega)
  have HFT2 := Lib.hid hft
  clear hft
  have hch := O.ch
  have HFA := Lib.hid (fun w' => fail_spec2 w' a0 c0 am cm c cause σ.M.k.ch (by omega) (by omega))
  generalize hr : c.fail cause σ.M.k.ch = r at *
  have HR := Lib.hid hr
  clear hr
  clear D hv O hch
  go_enter Tryz.func61, Tryz.ntmps61
  go_wp2_with fail
  refine (HLE.out _ HF.out).mono ?_
  rintro e wL ⟨rfl, FL⟩
  have D1 := HD.out.fr0 (HF.out.trans FL)
  have HD1 := Lib.hid D1
  have HY1 := Lib.hid (HB.out.fr FL (by simp))
  obtain ⟨y0, y1, y2, y3, y4, y5⟩ := HY1.out.six
  have hcl := D1.dc
  have KS : Hid (∀ w' : World, Fr [w.heap.size] wL w' → w'.cell? ⟨x, 0, none⟩ = some (.pointer (some ⟨A.d, 0, none⟩)) ∧ w'.cell? ⟨A.d, 7, none⟩ = some (.int .i64 σ.M.k.ch)) := Lib.hid (fun w' F => by
    have := (HD1.out.other hy HY1.out (by decide) HYB.out F).dc
    exact ⟨this.x0, this.c5⟩)
  have k0 := KS.out wL (Fr.refl _ _)
  obtain ⟨k00, k07⟩ := k0
  have HCH : Hid (wL.heap.size = wL.heap.size) := Lib.hid rfl
  clear D1 FL hcl
  go_wp2_with fail
  have FX : Fr [w.heap.size] wL wL.drew := (Fr.refl _ _).drew
  have HY2 : YB w.heap.size a0 c.nargs c0 am c.ms.length cm c.st c.step c.cause c.start wL.drew := HY1.out
  obtain ⟨g0, g1, g2, g3, g4, g5⟩ := HY2.free
  refine wp_region_held_drew (S := fun w' => w'.cell? ⟨x, 0, none⟩ = some (.pointer (some ⟨A.d, 0, none⟩)) ∧ w'.cell? ⟨A.d, 7, none⟩ = some (.int .i64 σ.M.k.ch)) (by kernel_rfl) (KS.out _ (by with_reducible repeat (first | exact FX | exact Fr.refl _ _ | apply Fr.drew | exact FX.trans (HY2.store _ _ _).2))) (fun hHeld => ?_)
  have hRg : Array.replicate 16 false = #[false, false, false, false, false, false, false, false, false, false, false, false, false, false, false, false] := rfl
  refine (?_ : wpAnyH _ _ _ _ _ 16 (Array.replicate 16 false) _ _)
  rw [hRg]
  refine wpAnyH_hide (fun _ _ d _ _ h => by cases d <;> exact h) (fun ops Q hops hQ hQn => ?_)
  clear hRg
  have e0 := congrArg (fun x : Array Oper => x[0]?) hops.out
  simp only [List.getElem?_toArray, List.getElem?_cons_zero] at e0
  have e1 := congrArg (fun x : Array Oper => x[1]?) hops.out
  simp only [List.getElem?_toArray, List.getElem?_cons_zero, List.getElem?_cons_succ] at e1
  have e2 := congrArg (fun x : Array Oper => x[2]?) hops.out
  simp only [List.getElem?_toArray, List.getElem?_cons_zero, List.getElem?_cons_succ] at e2
  have e3 := congrArg (fun x : Array Oper => x[3]?) hops.out
  simp only [List.getElem?_toArray, List.getElem?_cons_zero, List.getElem?_cons_succ] at e3
  have e4 := congrArg (fun x : Array Oper => x[4]?) hops.out
  simp only [List.getElem?_toArray, List.getElem?_cons_zero, List.getElem?_cons_succ] at e4
  have e5 := congrArg (fun x : Array Oper => x[5]?) hops.out
  simp only [List.getElem?_toArray, List.getElem?_cons_zero, List.getElem?_cons_succ] at e5
  have e6 := congrArg (fun x : Array Oper => x[6]?) hops.out
  simp only [List.getElem?_toArray, List.getElem?_cons_zero, List.getElem?_cons_succ] at e6
  have e7 := congrArg (fun x : Array Oper => x[7]?) hops.out
  simp only [List.getElem?_toArray, List.getElem?_cons_zero, List.getElem?_cons_succ] at e7
  have e8 := congrArg (fun x : Array Oper => x[8]?) hops.out
  simp only [List.getElem?_toArray, List.getElem?_cons_zero, List.getElem?_cons_succ] at e8
  have e9 := congrArg (fun x : Array Oper => x[9]?) hops.out
  simp only [List.getElem?_toArray, List.getElem?_cons_zero, List.getElem?_cons_succ] at e9
  have e10 := congrArg (fun x : Array Oper => x[10]?) hops.out
  simp only [List.getElem?_toArray, List.getElem?_cons_zero, List.getElem?_cons_succ] at e10
  have e11 := congrArg (fun x : Array Oper => x[11]?) hops.out
  simp only [List.getElem?_toArray, List.getElem?_cons_zero, List.getElem?_cons_succ] at e11
  have e12 := congrArg (fun x : Array Oper => x[12]?) hops.out
  simp only [List.getElem?_toArray, List.getElem?_cons_zero, List.getElem?_cons_succ] at e12
  have e13 := congrArg (fun x : Array Oper => x[13]?) hops.out
  simp only [List.getElem?_toArray, List.getElem?_cons_zero, List.getElem?_cons_succ] at e13
  have e14 := congrArg (fun x : Array Oper => x[14]?) hops.out
  simp only [List.getElem?_toArray, List.getElem?_cons_zero, List.getElem?_cons_succ] at e14
  have e15 := congrArg (fun x : Array Oper => x[15]?) hops.out
  simp only [List.getElem?_toArray, List.getElem?_cons_zero, List.getElem?_cons_succ] at e15
  refine wpAnyH_take (i := 1) (v := .int .i64 cause) e1 (by rw [hops.out]; kernel_rfl) (by rw [hops.out]; kernel_rfl) (by rw [hops.out]; kernel_rfl) (fun c a w h => hQ c a _ _ w h) (Or.inl ⟨rfl, fun w' _ => by go_simp⟩) hHeld ?_
  (try simp only [Act.put, List.setIfInBounds_toArray, List.set_cons_zero, List.set_cons_succ])
  refine wpAnyH_take (i := 2) (v := .pointer (some ⟨x, 0, none⟩)) e2 (by rw [hops.out]; kernel_rfl) (by rw [hops.out]; kernel_rfl) (by rw [hops.out]; kernel_rfl) (fun c a w h => hQ c a _ _ w h) (Or.inl ⟨rfl, fun w' _ => by go_simp⟩) hHeld ?_
  (try simp only [Act.put, List.setIfInBounds_toArray, List.set_cons_zero, List.set_cons_succ])
  refine wpAnyH_take (i := 3) (v := .pointer (some ⟨x, 0, none⟩)) e3 (by rw [hops.out]; kernel_rfl) (by rw [hops.out]; kernel_rfl) (by rw [hops.out]; kernel_rfl) (fun c a w h => hQ c a _ _ w h) (Or.inl ⟨rfl, fun w' _ => by go_simp⟩) hHeld ?_
  (try simp only [Act.put, List.setIfInBounds_toArray, List.set_cons_zero, List.set_cons_succ])
  refine wpAnyH_take (i := 4) (v := .pointer (some ⟨x, 0, none⟩)) e4 (by rw [hops.out]; kernel_rfl) (by rw [hops.out]; kernel_rfl) (by rw [hops.out]; kernel_rfl) (fun c a w h => hQ c a _ _ w h) (Or.inl ⟨rfl, fun w' _ => by go_simp⟩) hHeld ?_
  (try simp only [Act.put, List.setIfInBounds_toArray, List.set_cons_zero, List.set_cons_succ])
  refine wpAnyH_take (i := 5) (v := .pointer (some ⟨A.d, 0, none⟩)) e5 (by rw [hops.out]; kernel_rfl) (by rw [hops.out]; kernel_rfl) (by rw [hops.out]; kernel_rfl) (fun c a w h => hQ c a _ _ w h) (Or.inl ⟨rfl, fun w' hS => by have hS := hS.1; go_simp⟩) hHeld ?_
  (try simp only [Act.put, List.setIfInBounds_toArray, List.set_cons_zero, List.set_cons_succ])
  refine wpAnyH_take (i := 6) (v := .pointer (some ⟨A.d, 0, none⟩)) e6 (by rw [hops.out]; kernel_rfl) (by rw [hops.out]; kernel_rfl) (by rw [hops.out]; kernel_rfl) (fun c a w h => hQ c a _ _ w h) (Or.inl ⟨rfl, fun w' _ => by go_simp⟩) hHeld ?_
  (try simp only [Act.put, List.setIfInBounds_toArray, List.set_cons_zero, List.set_cons_succ])
  refine wpAnyH_take (i := 7) (v := .pointer (some ⟨A.d, 2, none⟩)) e7 (by rw [hops.out]; kernel_rfl) (by rw [hops.out]; kernel_rfl) (by rw [hops.out]; kernel_rfl) (fun c a w h => hQ c a _ _ w h) (Or.inl ⟨rfl, fun w' _ => by go_simp⟩) hHeld ?_
  (try simp only [Act.put, List.setIfInBounds_toArray, List.set_cons_zero, List.set_cons_succ])
  refine wpAnyH_take (i := 8) (v := .pointer (some ⟨A.d, 7, none⟩)) e8 (by rw [hops.out]; kernel_rfl) (by rw [hops.out]; kernel_rfl) (by rw [hops.out]; kernel_rfl) (fun c a w h => hQ c a _ _ w h) (Or.inl ⟨rfl, fun w' _ => by go_simp⟩) hHeld ?_
  (try simp only [Act.put, List.setIfInBounds_toArray, List.set_cons_zero, List.set_cons_succ])
  refine wpAnyH_take (i := 9) (v := .int .i64 σ.M.k.ch) e9 (by rw [hops.out]; kernel_rfl) (by rw [hops.out]; kernel_rfl) (by rw [hops.out]; kernel_rfl) (fun c a w h => hQ c a _ _ w h) (Or.inl ⟨rfl, fun w' hS => by have hS := hS.2; go_simp⟩) hHeld ?_
  (try simp only [Act.put, List.setIfInBounds_toArray, List.set_cons_zero, List.set_cons_succ])
  refine wpAnyH_ready (rs := [0]) (by rw [hops.out]; kernel_rfl) (by simp) ?_
  refine AllReadyH.cons e0 (fun K hK => ?_) AllReadyH.nil
  go_simp
  refine hK.out _ _ (KS.out _ (by with_reducible repeat (first | exact FX | exact Fr.refl _ _ | apply Fr.drew | exact FX.trans (HY2.store _ _ _).2))) (fun hHeld => ?_)
  clear hK K
  (try simp only [List.setIfInBounds_toArray, List.set_cons_zero])
  refine wpAnyH_ready (rs := [10]) (by rw [hops.out]; kernel_rfl) (by simp) ?_
  refine AllReadyH.cons e10 (fun K hK => ?_) AllReadyH.nil
  go_simp
  go_at_call 121
  refine (HFA.out _).mono ?_
  rintro e w2 ⟨rfl, F2⟩
  have FX : Fr [w.heap.size] wL w2 := FX.trans (F2.mono (by simp))
  have HY2 := HY2.fr F2 (by simp)
  obtain ⟨g0, g1, g2, g3, g4, g5⟩ := HY2.free
  obtain ⟨y0, y1, y2, y3, y4, y5⟩ := HY2.six
  go_wp2_with fail
  refine hK.out _ _ (KS.out _ (by with_reducible repeat (first | exact FX | exact Fr.refl _ _ | apply Fr.drew | exact FX.trans (HY2.store _ _ _).2))) (fun hHeld => ?_)
  clear hK K
  (try simp only [List.setIfInBounds_toArray, List.set_cons_zero, List.set_cons_succ])
  refine wpAnyH_take (i := 11) (v := .tuple #[.agg #[.slice a0 c.nargs c0, .slice am c.ms.length cm, .int .i64 r.1.st, .int .i64 r.1.step, .int .i64 r.1.cause, .int .u64 c.start], .bool r.2]) e11 (by rw [hops.out]; kernel_rfl) (by rw [hops.out]; kernel_rfl) (by rw [hops.out]; kernel_rfl) (fun c a w h => hQ c a _ _ w h) (Or.inl ⟨rfl, fun w' _ => by go_simp⟩) hHeld ?_
  (try simp only [Act.put, List.setIfInBounds_toArray, List.set_cons_zero, List.set_cons_succ])
  refine wpAnyH_take (i := 12) (v := .agg #[.slice a0 c.nargs c0, .slice am c.ms.length cm, .int .i64 r.1.st, .int .i64 r.1.step, .int .i64 r.1.cause, .int .u64 c.start]) e12 (by rw [hops.out]; kernel_rfl) (by rw [hops.out]; kernel_rfl) (by rw [hops.out]; kernel_rfl) (fun c a w h => hQ c a _ _ w h) (Or.inl ⟨rfl, fun w' _ => by go_simp⟩) hHeld ?_
  (try simp only [Act.put, List.setIfInBounds_toArray, List.set_cons_zero, List.set_cons_succ])
  refine wpAnyH_take (i := 13) (v := .bool r.2) e13 (by rw [hops.out]; kernel_rfl) (by rw [hops.out]; kernel_rfl) (by rw [hops.out]; kernel_rfl) (fun c a w h => hQ c a _ _ w h) (Or.inl ⟨rfl, fun w' _ => by go_simp⟩) hHeld ?_
  (try simp only [Act.put, List.setIfInBounds_toArray, List.set_cons_zero, List.set_cons_succ])
  refine wpAnyH_ready (rs := [14]) (by rw [hops.out]; kernel_rfl) (by simp) ?_
  refine AllReadyH.cons e14 (fun K hK => ?_) AllReadyH.nil
  go_simp
  refine hK.out _ _ (KS.out _ (by with_reducible repeat (first | exact FX | exact Fr.refl _ _ | apply Fr.drew | exact FX.trans (HY2.store _ _ _).2))) (fun hHeld => ?_)
  clear hK K
  (try simp only [List.setIfInBounds_toArray, List.set_cons_zero, List.set_cons_succ])
  refine wpAnyH_take (i := 15) (v := .bool r.2) e15 (by rw [hops.out]; kernel_rfl) (by rw [hops.out]; kernel_rfl) (by rw [hops.out]; kernel_rfl) (fun c a w h => hQ c a _ _ w h) (Or.inl ⟨rfl, fun w' _ => by go_simp⟩) hHeld ?_
  (try simp only [Act.put, List.setIfInBounds_toArray, List.set_cons_zero, List.set_cons_succ])
  refine wpAnyH_done (by rw [hops.out]; kernel_rfl) (hQn.out _ _ ?_) _
  clear hQn hQ hops e0 e1 e2 e3 e4 e5 e6 e7 e8 e9 e10 e11 e12 e13 e14 e15
  obtain ⟨HYa, HYb⟩ := HY2.store r.1.st r.1.step r.1.cause
  have D3 := HD1.out.other hy HY1.out (by decide) HYB.out (FX.trans HYb)
  have hgen : ((((((w2.setCell ⟨w.heap.size, 0, none⟩ (.slice a0 c.nargs c0)).setCell ⟨w.heap.size, 1, none⟩ (.slice am c.ms.length cm)).setCell ⟨w.heap.size, 2, none⟩ (.int .i64 r.1.st)).setCell ⟨w.heap.size, 3, none⟩ (.int .i64 r.1.step)).setCell ⟨w.heap.size, 4, none⟩ (.int .i64 r.1.cause)).setCell ⟨w.heap.size, 5, none⟩ (.int .u64 c.start)) = ((((((w2.setCell ⟨w.heap.size, 0, none⟩ (.slice a0 c.nargs c0)).setCell ⟨w.heap.size, 1, none⟩ (.slice am c.ms.length cm)).setCell ⟨w.heap.size, 2, none⟩ (.int .i64 r.1.st)).setCell ⟨w.heap.size, 3, none⟩ (.int .i64 r.1.step)).setCell ⟨w.heap.size, 4, none⟩ (.int .i64 r.1.cause)).setCell ⟨w.heap.size, 5, none⟩ (.int .u64 c.start)) := rfl
  generalize ((((((w2.setCell ⟨w.heap.size, 0, none⟩ (.slice a0 c.nargs c0)).setCell ⟨w.heap.size, 1, none⟩ (.slice am c.ms.length cm)).setCell ⟨w.heap.size, 2, none⟩ (.int .i64 r.1.st)).setCell ⟨w.heap.size, 3, none⟩ (.int .i64 r.1.step)).setCell ⟨w.heap.size, 4, none⟩ (.int .i64 r.1.cause)).setCell ⟨w.heap.size, 5, none⟩ (.int .u64 c.start)) = w3 at HYa D3 ⊢
  clear hgen HYb FX HY2 g0 g1 g2 g3 g4 g5 y0 y1 y2 y3 y4 y5 k00 k07 KS HY1 HD1 HB HLE HFA HF
  have HYa := Lib.hid HYa
  have HD3 := Lib.hid D3
  have HFI : Hid (FI σ.M.falls σ.M.k.fb.toNat σ.M.k.ch cause (leadOf c.ms) c (CallM.fallN σ.M.falls σ.M.k.fb.toNat σ.M.k.ch cause (leadOf c.ms) 5 c) 4 r.1 r.2) := Lib.hid (by
    have := FI.base (fs := σ.M.falls) (fb := σ.M.k.fb.toNat) (chain := σ.M.k.ch) (cause := cause) (id := leadOf c.ms) (c := c) HO.out.ch.2 hs0 hs3
    rwa [HR.out] at this)
  have HS1 := Lib.hid (fun (c' : CallM) (h : CallM.fallN σ.M.falls σ.M.k.fb.toNat σ.M.k.ch cause (leadOf c.ms) 5 c = (c', true)) => DS.fall_yes (now := now) (show CallM.fallN σ.M.falls σ.M.k.fb.toNat σ.M.k.ch cause c.lead 5 c = (c', true) from h))
  have HS2 := Lib.hid (fun (c' : CallM) (h : CallM.fallN σ.M.falls σ.M.k.fb.toNat σ.M.k.ch cause (leadOf c.ms) 5 c = (c', false)) => DS.fall_no (now := now) (show CallM.fallN σ.M.falls σ.M.k.fb.toNat σ.M.k.ch cause c.lead 5 c = (c', false) from h))
  change Hid (∀ c' : CallM, _ → σ.fall now c cause = { M := ({ σ.M with falls := σ.M.falls ++ [(leadOf c.ms, c'.step)] } : DepM).keep c', ac := σ.ac ++ [⟨true, leadOf c.ms, sadd now σ.M.k.ft.toNat⟩], ou := σ.ou }) at HS1
  generalize CallM.fallN σ.M.falls σ.M.k.fb.toNat σ.M.k.ch cause (leadOf c.ms) 5 c = R at *
  generalize σ.fall now c cause = σR at *
  obtain ⟨r1, r2⟩ := r
  simp only at HYa HFI
  clear D3 HR
  generalize hld : leadOf c.ms = ld at *
  have HLD := Lib.hid hld
  clear hld
  go_wp2_with fail
  go_loopw [7] (fun m wr => ∃ (n : Nat) (cc : CallM) (mb : Bool), m = .bool mb ∧ Hid (YB w.heap.size a0 c.nargs c0 am c.ms.length cm cc.st cc.step cc.cause c.start wr) ∧ Hid (DeedV bs w0 wr x A now σ va (.slice ao2 σ.ou.length cap2)) ∧ Hid (FI σ.M.falls σ.M.k.fb.toNat σ.M.k.ch cause ld c R n cc mb)) (fun m wr => fallMeas w.heap.size σ.M.k.ch m wr)
  case atStart => exact ⟨4, r1, r2, rfl, HYa, HD3, HFI⟩
  case round =>
    obtain ⟨n, cc, mb, rfl, HY, HDr, HI⟩ := hrel
    obtain ⟨y0, y1, y2, y3, y4, y5⟩ := HY.out.six
    have k0 := HDr.out.dc.x0
    cases mb with
    | false =>
      have hRR := HI.out.res
      rw [if_neg (by simp)] at hRR
      have HFIN := Lib.hid (HS2.out cc (by rw [← hRR]))
      have hmr := (HV.out.fr HDr.out.fr HDr.out.nomem).mems
      have HOUT := Lib.hid (fun (w' : World) (F : Fr [] wr w') => outs4_spec (a0 := a0) (c0 := c0) cc (.slice none 0 0) (show Mems w' (.slice am c.ms.length cm) cc.ms by rw [HI.out.ms]; exact hmr.fr0 F) (by rw [HI.out.ms]; omega) now [])
      rw [HI.out.na, HI.out.start] at HOUT
      have hlen : (cc.outs 4 [] now).length ≤ 1000000 := by rw [outs4_len, HI.out.ms]; exact hm
      have HVC := Lib.hid (HV.out.turn HI.out.na HI.out.ms HI.out.start)
      have hmc : cc.ms.length ≤ 1000000000 := by rw [HI.out.ms]; omega
      generalize cc.outs 4 [] now = LO at *
      obtain ⟨-, -, k2, k3, -, f2⟩ := HDr.out.cells
      clear hRR hmr HS1 HS2 HI
      go_wp2_with fail
      refine wp_region_noPanic ?_
      refine wp_region_held_drew (S := fun _ => True) (by kernel_rfl) trivial (fun hHeld => ?_)
      have hR : Array.replicate 16 false = #[false, false, false, false, false, false, false, false, false, false, false, false, false, false, false, false] := rfl
      refine (?_ : wpAnyH _ _ _ _ _ 16 (Array.replicate 16 false) _ _)
      rw [hR]
      refine wpAnyH_hide (fun _ _ _ _ _ h => h) (fun ops Q hops hQ hQn => ?_)
      clear hR
      have e0 := congrArg (fun x : Array Oper => x[0]?) hops.out
      simp only [List.getElem?_toArray, List.getElem?_cons_zero] at e0
      have e1 := congrArg (fun x : Array Oper => x[1]?) hops.out
      simp only [List.getElem?_toArray, List.getElem?_cons_zero, List.getElem?_cons_succ] at e1
      have e2 := congrArg (fun x : Array Oper => x[2]?) hops.out
      simp only [List.getElem?_toArray, List.getElem?_cons_zero, List.getElem?_cons_succ] at e2
      have e3 := congrArg (fun x : Array Oper => x[3]?) hops.out
      simp only [List.getElem?_toArray, List.getElem?_cons_zero, List.getElem?_cons_succ] at e3
      have e4 := congrArg (fun x : Array Oper => x[4]?) hops.out
      simp only [List.getElem?_toArray, List.getElem?_cons_zero, List.getElem?_cons_succ] at e4
      have e5 := congrArg (fun x : Array Oper => x[5]?) hops.out
      simp only [List.getElem?_toArray, List.getElem?_cons_zero, List.getElem?_cons_succ] at e5
      have e6 := congrArg (fun x : Array Oper => x[6]?) hops.out
      simp only [List.getElem?_toArray, List.getElem?_cons_zero, List.getElem?_cons_succ] at e6
      have e7 := congrArg (fun x : Array Oper => x[7]?) hops.out
      simp only [List.getElem?_toArray, List.getElem?_cons_zero, List.getElem?_cons_succ] at e7
      have e8 := congrArg (fun x : Array Oper => x[8]?) hops.out
      simp only [List.getElem?_toArray, List.getElem?_cons_zero, List.getElem?_cons_succ] at e8
      have e9 := congrArg (fun x : Array Oper => x[9]?) hops.out
      simp only [List.getElem?_toArray, List.getElem?_cons_zero, List.getElem?_cons_succ] at e9
      have e10 := congrArg (fun x : Array Oper => x[10]?) hops.out
      simp only [List.getElem?_toArray, List.getElem?_cons_zero, List.getElem?_cons_succ] at e10
      have e11 := congrArg (fun x : Array Oper => x[11]?) hops.out
      simp only [List.getElem?_toArray, List.getElem?_cons_zero, List.getElem?_cons_succ] at e11
      have e12 := congrArg (fun x : Array Oper => x[12]?) hops.out
      simp only [List.getElem?_toArray, List.getElem?_cons_zero, List.getElem?_cons_succ] at e12
      have e13 := congrArg (fun x : Array Oper => x[13]?) hops.out
      simp only [List.getElem?_toArray, List.getElem?_cons_zero, List.getElem?_cons_succ] at e13
      have e14 := congrArg (fun x : Array Oper => x[14]?) hops.out
      simp only [List.getElem?_toArray, List.getElem?_cons_zero, List.getElem?_cons_succ] at e14
      have e15 := congrArg (fun x : Array Oper => x[15]?) hops.out
      simp only [List.getElem?_toArray, List.getElem?_cons_zero, List.getElem?_cons_succ] at e15
      refine wpAnyH_take (i := 0) (v := .bool false) e0 (by rw [hops.out]; kernel_rfl) (by rw [hops.out]; kernel_rfl) (by rw [hops.out]; kernel_rfl) (fun c a w h => hQ c a _ _ w h) (Or.inl ⟨rfl, fun w' _ => by go_simp⟩) hHeld ?_
      (try simp only [Act.put, List.setIfInBounds_toArray, List.set_cons_zero, List.set_cons_succ])
      refine wpAnyH_take (i := 1) (v := .bool false) e1 (by rw [hops.out]; kernel_rfl) (by rw [hops.out]; kernel_rfl) (by rw [hops.out]; kernel_rfl) (fun c a w h => hQ c a _ _ w h) (Or.inl ⟨rfl, fun w' _ => by go_simp⟩) hHeld ?_
      (try simp only [Act.put, List.setIfInBounds_toArray, List.set_cons_zero, List.set_cons_succ])
      refine wpAnyH_take (i := 2) (v := undef) e2 (by rw [hops.out]; kernel_rfl) (by rw [hops.out]; kernel_rfl) (by rw [hops.out]; kernel_rfl) (fun c a w h => hQ c a _ _ w h) (Or.inr ⟨by rw [hops.out]; rfl, rfl⟩) hHeld ?_
      (try simp only [Act.put, List.setIfInBounds_toArray, List.set_cons_zero, List.set_cons_succ])
      refine wpAnyH_take (i := 3) (v := undef) e3 (by rw [hops.out]; kernel_rfl) (by rw [hops.out]; kernel_rfl) (by rw [hops.out]; kernel_rfl) (fun c a w h => hQ c a _ _ w h) (Or.inr ⟨by rw [hops.out]; rfl, rfl⟩) hHeld ?_
      (try simp only [Act.put, List.setIfInBounds_toArray, List.set_cons_zero, List.set_cons_succ])
      refine wpAnyH_take (i := 4) (v := undef) e4 (by rw [hops.out]; kernel_rfl) (by rw [hops.out]; kernel_rfl) (by rw [hops.out]; kernel_rfl) (fun c a w h => hQ c a _ _ w h) (Or.inr ⟨by rw [hops.out]; rfl, rfl⟩) hHeld ?_
      (try simp only [Act.put, List.setIfInBounds_toArray, List.set_cons_zero, List.set_cons_succ])
      refine wpAnyH_take (i := 5) (v := undef) e5 (by rw [hops.out]; kernel_rfl) (by rw [hops.out]; kernel_rfl) (by rw [hops.out]; kernel_rfl) (fun c a w h => hQ c a _ _ w h) (Or.inr ⟨by rw [hops.out]; rfl, rfl⟩) hHeld ?_
      (try simp only [Act.put, List.setIfInBounds_toArray, List.set_cons_zero, List.set_cons_succ])
      refine wpAnyH_take (i := 6) (v := undef) e6 (by rw [hops.out]; kernel_rfl) (by rw [hops.out]; kernel_rfl) (by rw [hops.out]; kernel_rfl) (fun c a w h => hQ c a _ _ w h) (Or.inr ⟨by rw [hops.out]; rfl, rfl⟩) hHeld ?_
      (try simp only [Act.put, List.setIfInBounds_toArray, List.set_cons_zero, List.set_cons_succ])
      refine wpAnyH_take (i := 7) (v := undef) e7 (by rw [hops.out]; kernel_rfl) (by rw [hops.out]; kernel_rfl) (by rw [hops.out]; kernel_rfl) (fun c a w h => hQ c a _ _ w h) (Or.inr ⟨by rw [hops.out]; rfl, rfl⟩) hHeld ?_
      (try simp only [Act.put, List.setIfInBounds_toArray, List.set_cons_zero, List.set_cons_succ])
      refine wpAnyH_take (i := 8) (v := undef) e8 (by rw [hops.out]; kernel_rfl) (by rw [hops.out]; kernel_rfl) (by rw [hops.out]; kernel_rfl) (fun c a w h => hQ c a _ _ w h) (Or.inr ⟨by rw [hops.out]; rfl, rfl⟩) hHeld ?_
      (try simp only [Act.put, List.setIfInBounds_toArray, List.set_cons_zero, List.set_cons_succ])
      refine wpAnyH_take (i := 9) (v := undef) e9 (by rw [hops.out]; kernel_rfl) (by rw [hops.out]; kernel_rfl) (by rw [hops.out]; kernel_rfl) (fun c a w h => hQ c a _ _ w h) (Or.inr ⟨by rw [hops.out]; rfl, rfl⟩) hHeld ?_
      (try simp only [Act.put, List.setIfInBounds_toArray, List.set_cons_zero, List.set_cons_succ])
      refine wpAnyH_take (i := 10) (v := undef) e10 (by rw [hops.out]; kernel_rfl) (by rw [hops.out]; kernel_rfl) (by rw [hops.out]; kernel_rfl) (fun c a w h => hQ c a _ _ w h) (Or.inr ⟨by rw [hops.out]; rfl, rfl⟩) hHeld ?_
      (try simp only [Act.put, List.setIfInBounds_toArray, List.set_cons_zero, List.set_cons_succ])
      refine wpAnyH_take (i := 11) (v := undef) e11 (by rw [hops.out]; kernel_rfl) (by rw [hops.out]; kernel_rfl) (by rw [hops.out]; kernel_rfl) (fun c a w h => hQ c a _ _ w h) (Or.inr ⟨by rw [hops.out]; rfl, rfl⟩) hHeld ?_
      (try simp only [Act.put, List.setIfInBounds_toArray, List.set_cons_zero, List.set_cons_succ])
      refine wpAnyH_take (i := 12) (v := undef) e12 (by rw [hops.out]; kernel_rfl) (by rw [hops.out]; kernel_rfl) (by rw [hops.out]; kernel_rfl) (fun c a w h => hQ c a _ _ w h) (Or.inr ⟨by rw [hops.out]; rfl, rfl⟩) hHeld ?_
      (try simp only [Act.put, List.setIfInBounds_toArray, List.set_cons_zero, List.set_cons_succ])
      refine wpAnyH_take (i := 13) (v := undef) e13 (by rw [hops.out]; kernel_rfl) (by rw [hops.out]; kernel_rfl) (by rw [hops.out]; kernel_rfl) (fun c a w h => hQ c a _ _ w h) (Or.inr ⟨by rw [hops.out]; rfl, rfl⟩) hHeld ?_
      (try simp only [Act.put, List.setIfInBounds_toArray, List.set_cons_zero, List.set_cons_succ])
      refine wpAnyH_take (i := 14) (v := undef) e14 (by rw [hops.out]; kernel_rfl) (by rw [hops.out]; kernel_rfl) (by rw [hops.out]; kernel_rfl) (fun c a w h => hQ c a _ _ w h) (Or.inr ⟨by rw [hops.out]; rfl, rfl⟩) hHeld ?_
      (try simp only [Act.put, List.setIfInBounds_toArray, List.set_cons_zero, List.set_cons_succ])
      refine wpAnyH_take (i := 15) (v := .bool false) e15 (by rw [hops.out]; kernel_rfl) (by rw [hops.out]; kernel_rfl) (by rw [hops.out]; kernel_rfl) (fun c a w h => hQ c a _ _ w h) (Or.inl ⟨rfl, fun w' _ => by go_simp⟩) hHeld ?_
      (try simp only [Act.put, List.setIfInBounds_toArray, List.set_cons_zero, List.set_cons_succ])
      refine wpAnyH_done (by rw [hops.out]; kernel_rfl) (hQn.out _ _ ?_) _
      refine NoPanic.normal ?_
      clear hQn hQ hops e0 e1 e2 e3 e4 e5 e6 e7 e8 e9 e10 e11 e12 e13 e14 e15
      go_wp2_with fail
      have hsz0 := HDr.out.fr.size
      refine wp_region_held_drew (S := fun w' => w'.cell? ⟨x, 3, none⟩ = some (.int .u64 now) ∧ w'.cell? ⟨w.heap.size, 0, none⟩ = some (.slice a0 c.nargs c0) ∧ w'.cell? ⟨w.heap.size, 1, none⟩ = some (.slice am c.ms.length cm) ∧ w'.cell? ⟨w.heap.size, 2, none⟩ = some (.int .i64 cc.st) ∧ w'.cell? ⟨w.heap.size, 3, none⟩ = some (.int .i64 cc.step) ∧ w'.cell? ⟨w.heap.size, 4, none⟩ = some (.int .i64 cc.cause) ∧ w'.cell? ⟨w.heap.size, 5, none⟩ = some (.int .u64 c.start)) (by kernel_rfl) (⟨k3, HY.out.six⟩) (fun hHeld => ?_)
      have hRg : Array.replicate 17 false = #[false, false, false, false, false, false, false, false, false, false, false, false, false, false, false, false, false] := rfl
      refine (?_ : wpAnyH _ _ _ _ _ 17 (Array.replicate 17 false) _ _)
      rw [hRg]
      refine wpAnyH_hide (fun _ _ d _ _ h => by cases d <;> exact h) (fun ops Q hops hQ hQn => ?_)
      clear hRg
      have e0 := congrArg (fun x : Array Oper => x[0]?) hops.out
      simp only [List.getElem?_toArray, List.getElem?_cons_zero] at e0
      have e1 := congrArg (fun x : Array Oper => x[1]?) hops.out
      simp only [List.getElem?_toArray, List.getElem?_cons_zero, List.getElem?_cons_succ] at e1
      have e2 := congrArg (fun x : Array Oper => x[2]?) hops.out
      simp only [List.getElem?_toArray, List.getElem?_cons_zero, List.getElem?_cons_succ] at e2
      have e3 := congrArg (fun x : Array Oper => x[3]?) hops.out
      simp only [List.getElem?_toArray, List.getElem?_cons_zero, List.getElem?_cons_succ] at e3
      have e4 := congrArg (fun x : Array Oper => x[4]?) hops.out
      simp only [List.getElem?_toArray, List.getElem?_cons_zero, List.getElem?_cons_succ] at e4
      have e5 := congrArg (fun x : Array Oper => x[5]?) hops.out
      simp only [List.getElem?_toArray, List.getElem?_cons_zero, List.getElem?_cons_succ] at e5
      have e6 := congrArg (fun x : Array Oper => x[6]?) hops.out
      simp only [List.getElem?_toArray, List.getElem?_cons_zero, List.getElem?_cons_succ] at e6
      have e7 := congrArg (fun x : Array Oper => x[7]?) hops.out
      simp only [List.getElem?_toArray, List.getElem?_cons_zero, List.getElem?_cons_succ] at e7
      have e8 := congrArg (fun x : Array Oper => x[8]?) hops.out
      simp only [List.getElem?_toArray, List.getElem?_cons_zero, List.getElem?_cons_succ] at e8
      have e9 := congrArg (fun x : Array Oper => x[9]?) hops.out
      simp only [List.getElem?_toArray, List.getElem?_cons_zero, List.getElem?_cons_succ] at e9
      have e10 := congrArg (fun x : Array Oper => x[10]?) hops.out
      simp only [List.getElem?_toArray, List.getElem?_cons_zero, List.getElem?_cons_succ] at e10
      have e11 := congrArg (fun x : Array Oper => x[11]?) hops.out
      simp only [List.getElem?_toArray, List.getElem?_cons_zero, List.getElem?_cons_succ] at e11
      have e12 := congrArg (fun x : Array Oper => x[12]?) hops.out
      simp only [List.getElem?_toArray, List.getElem?_cons_zero, List.getElem?_cons_succ] at e12
      have e13 := congrArg (fun x : Array Oper => x[13]?) hops.out
      simp only [List.getElem?_toArray, List.getElem?_cons_zero, List.getElem?_cons_succ] at e13
      have e14 := congrArg (fun x : Array Oper => x[14]?) hops.out
      simp only [List.getElem?_toArray, List.getElem?_cons_zero, List.getElem?_cons_succ] at e14
      have e15 := congrArg (fun x : Array Oper => x[15]?) hops.out
      simp only [List.getElem?_toArray, List.getElem?_cons_zero, List.getElem?_cons_succ] at e15
      have e16 := congrArg (fun x : Array Oper => x[16]?) hops.out
      simp only [List.getElem?_toArray, List.getElem?_cons_zero, List.getElem?_cons_succ] at e16
      refine wpAnyH_take (i := 0) (v := .pointer (some ⟨x, 0, none⟩)) e0 (by rw [hops.out]; kernel_rfl) (by rw [hops.out]; kernel_rfl) (by rw [hops.out]; kernel_rfl) (fun c a w h => hQ c a _ _ w h) (Or.inl ⟨rfl, fun w' _ => by go_simp⟩) hHeld ?_
      (try simp only [Act.put, List.setIfInBounds_toArray, List.set_cons_zero, List.set_cons_succ])
      refine wpAnyH_take (i := 1) (v := .pointer (some ⟨x, 0, none⟩)) e1 (by rw [hops.out]; kernel_rfl) (by rw [hops.out]; kernel_rfl) (by rw [hops.out]; kernel_rfl) (fun c a w h => hQ c a _ _ w h) (Or.inl ⟨rfl, fun w' _ => by go_simp⟩) hHeld ?_
      (try simp only [Act.put, List.setIfInBounds_toArray, List.set_cons_zero, List.set_cons_succ])
      refine wpAnyH_take (i := 2) (v := .pointer (some ⟨x, 0, none⟩)) e2 (by rw [hops.out]; kernel_rfl) (by rw [hops.out]; kernel_rfl) (by rw [hops.out]; kernel_rfl) (fun c a w h => hQ c a _ _ w h) (Or.inl ⟨rfl, fun w' _ => by go_simp⟩) hHeld ?_
      (try simp only [Act.put, List.setIfInBounds_toArray, List.set_cons_zero, List.set_cons_succ])
      refine wpAnyH_take (i := 3) (v := .pointer (some ⟨x, 1, none⟩)) e3 (by rw [hops.out]; kernel_rfl) (by rw [hops.out]; kernel_rfl) (by rw [hops.out]; kernel_rfl) (fun c a w h => hQ c a _ _ w h) (Or.inl ⟨rfl, fun w' _ => by go_simp⟩) hHeld ?_
      (try simp only [Act.put, List.setIfInBounds_toArray, List.set_cons_zero, List.set_cons_succ])
      refine wpAnyH_take (i := 4) (v := .pointer (some ⟨x, 2, none⟩)) e4 (by rw [hops.out]; kernel_rfl) (by rw [hops.out]; kernel_rfl) (by rw [hops.out]; kernel_rfl) (fun c a w h => hQ c a _ _ w h) (Or.inl ⟨rfl, fun w' _ => by go_simp⟩) hHeld ?_
      (try simp only [Act.put, List.setIfInBounds_toArray, List.set_cons_zero, List.set_cons_succ])
      refine wpAnyH_take (i := 6) (v := .agg #[.slice a0 c.nargs c0, .slice am c.ms.length cm, .int .i64 cc.st, .int .i64 cc.step, .int .i64 cc.cause, .int .u64 c.start]) e6 (by rw [hops.out]; kernel_rfl) (by rw [hops.out]; kernel_rfl) (by rw [hops.out]; kernel_rfl) (fun c a w h => hQ c a _ _ w h) (Or.inl ⟨rfl, fun w' hS => by obtain ⟨-, s0, s1, s2, s3, s4, s5⟩ := hS; go_simp⟩) hHeld ?_
      (try simp only [Act.put, List.setIfInBounds_toArray, List.set_cons_zero, List.set_cons_succ])
      refine wpAnyH_take (i := 7) (v := .pointer (some ⟨x, 0, none⟩)) e7 (by rw [hops.out]; kernel_rfl) (by rw [hops.out]; kernel_rfl) (by rw [hops.out]; kernel_rfl) (fun c a w h => hQ c a _ _ w h) (Or.inl ⟨rfl, fun w' _ => by go_simp⟩) hHeld ?_
      (try simp only [Act.put, List.setIfInBounds_toArray, List.set_cons_zero, List.set_cons_succ])
      refine wpAnyH_take (i := 8) (v := .pointer (some ⟨x, 0, none⟩)) e8 (by rw [hops.out]; kernel_rfl) (by rw [hops.out]; kernel_rfl) (by rw [hops.out]; kernel_rfl) (fun c a w h => hQ c a _ _ w h) (Or.inl ⟨rfl, fun w' _ => by go_simp⟩) hHeld ?_
      (try simp only [Act.put, List.setIfInBounds_toArray, List.set_cons_zero, List.set_cons_succ])
      refine wpAnyH_take (i := 9) (v := .pointer (some ⟨x, 3, none⟩)) e9 (by rw [hops.out]; kernel_rfl) (by rw [hops.out]; kernel_rfl) (by rw [hops.out]; kernel_rfl) (fun c a w h => hQ c a _ _ w h) (Or.inl ⟨rfl, fun w' _ => by go_simp⟩) hHeld ?_
      (try simp only [Act.put, List.setIfInBounds_toArray, List.set_cons_zero, List.set_cons_succ])
      refine wpAnyH_take (i := 10) (v := .int .u64 now) e10 (by rw [hops.out]; kernel_rfl) (by rw [hops.out]; kernel_rfl) (by rw [hops.out]; kernel_rfl) (fun c a w h => hQ c a _ _ w h) (Or.inl ⟨rfl, fun w' hS => by have hS := hS.1; go_simp⟩) hHeld ?_
      (try simp only [Act.put, List.setIfInBounds_toArray, List.set_cons_zero, List.set_cons_succ])
      refine wpAnyH_ready (rs := [5, 11]) (by rw [hops.out]; kernel_rfl) (by simp) ?_
      refine AllReadyH.cons e5 (fun K hK => ?_) ?_
      · go_simp
        refine hK.out _ _ (⟨k3, HY.out.six⟩) (fun hHeld => ?_)
        clear hK K
        (try simp only [List.setIfInBounds_toArray, List.set_cons_zero, List.set_cons_succ])
        refine wpAnyH_ready (rs := [11]) (by rw [hops.out]; kernel_rfl) (by simp) ?_
        refine AllReadyH.cons e11 (fun K hK => ?_) AllReadyH.nil
        go_simp
        go_at_call 124
        refine (HOUT.out _ (by with_reducible repeat (first | exact Fr.refl _ _ | apply Fr.drew))).mono ?_
        rintro e w4 ⟨vp, rfl, hown, F4⟩
        obtain ⟨ap, cp, hvp⟩ := ownsFormD hown
        subst hvp
        have D4 := (HDr.out.fr0 (Fr.trans (by with_reducible repeat (first | exact Fr.refl _ _ | apply Fr.drew)) F4)).addBox (.inl rfl) (F4.keep HY.out (by simp))
        obtain ⟨-, -, k42, -, -, f42⟩ := D4.cells
        go_wp2_with fail
        have S4 := six (D4.box _ (List.mem_cons_self ..)).2
        refine hK.out _ _ (⟨D4.dc.x3, S4⟩) (fun hHeld => ?_)
        clear hK K
        (try simp only [List.setIfInBounds_toArray, List.set_cons_zero, List.set_cons_succ])
        refine wpAnyH_ready (rs := [12]) (by rw [hops.out]; kernel_rfl) (by simp) ?_
        refine AllReadyH.cons e12 (fun K hK => ?_) AllReadyH.nil
        refine step_app rfl (.tmp 72) (.tmp 78) 43 rfl w0.heap.size 87 i0 _ 5 40 Tryz.underlying43 hi hz0 hz1 hz2 rfl (by decide) (.slice ao2 σ.ou.length cap2) σ.ou.length _ rfl D4.outs _ LO.length _ rfl (Ous.of_owns hown).src (by unfold maxLen; omega) (by omega) (by have := D4.fr.size; omega) ?_
        intro v8 w8 hown8 hg8
        obtain ⟨a8, c8, h8⟩ := ownsFormD hown8
        subst h8
        have D8 := D4.setOuts (os' := σ.ou ++ LO) hg8 (by simpa using hown8)
        have hb8 := (D4.grown D4.outs hg8 (by decide) (by decide)).2.2.2
        have b82 : w8.cell? ⟨x, 2, none⟩ = some (.slice ao2 σ.ou.length cap2) := (cell_of_block hb8 2).trans rfl
        have b83 : w8.cell? ⟨x, 3, none⟩ = some (.int .u64 now) := (cell_of_block hb8 3).trans rfl
        have g82 := free_of_block hb8 2
        clear hb8
        have hb8y := grown_keepD hg8 (D4.box _ (List.mem_cons_self ..)).2 (owns_neD D4.outs (D4.box _ (List.mem_cons_self ..)).2 (show (87 : TypeId) ≠ 134 by decide))
        refine hK.out _ _ (⟨b83, six hb8y⟩) (fun hHeld => ?_)
        clear hK K
        (try simp only [Act.put, List.setIfInBounds_toArray, List.set_cons_zero, List.set_cons_succ])
        refine wpAnyH_take (i := 13) (v := .pointer (some ⟨x, 0, none⟩)) e13 (by rw [hops.out]; kernel_rfl) (by rw [hops.out]; kernel_rfl) (by rw [hops.out]; kernel_rfl) (fun c a w h => hQ c a _ _ w h) (Or.inl ⟨rfl, fun w' _ => by go_simp⟩) hHeld ?_
        (try simp only [Act.put, List.setIfInBounds_toArray, List.set_cons_zero, List.set_cons_succ])
        refine wpAnyH_take (i := 14) (v := .pointer (some ⟨x, 1, none⟩)) e14 (by rw [hops.out]; kernel_rfl) (by rw [hops.out]; kernel_rfl) (by rw [hops.out]; kernel_rfl) (fun c a w h => hQ c a _ _ w h) (Or.inl ⟨rfl, fun w' _ => by go_simp⟩) hHeld ?_
        (try simp only [Act.put, List.setIfInBounds_toArray, List.set_cons_zero, List.set_cons_succ])
        refine wpAnyH_take (i := 15) (v := .pointer (some ⟨x, 2, none⟩)) e15 (by rw [hops.out]; kernel_rfl) (by rw [hops.out]; kernel_rfl) (by rw [hops.out]; kernel_rfl) (fun c a w h => hQ c a _ _ w h) (Or.inl ⟨rfl, fun w' _ => by go_simp⟩) hHeld ?_
        (try simp only [Act.put, List.setIfInBounds_toArray, List.set_cons_zero, List.set_cons_succ])
        refine wpAnyH_ready (rs := [16]) (by rw [hops.out]; kernel_rfl) (by simp) ?_
        refine AllReadyH.cons e16 (fun K hK => ?_) AllReadyH.nil
        go_simp
        refine hK.out _ _ (⟨D8.dc.x3, six (D8.box _ (List.mem_cons_self ..)).2⟩) (fun hHeld => ?_)
        clear hK K
        (try simp only [List.setIfInBounds_toArray, List.set_cons_zero, List.set_cons_succ])
        refine wpAnyH_done (by rw [hops.out]; kernel_rfl) (hQn.out _ _ ?_) _
        clear hQn hQ hops e0 e1 e2 e3 e4 e5 e6 e7 e8 e9 e10 e11 e12 e13 e14 e15 e16
        have HD8 := Lib.hid D8
        have HY8 : YB w.heap.size a0 c.nargs c0 am c.ms.length cm cc.st cc.step cc.cause c.start (w8.setCell ⟨x, 2, none⟩ (.slice a8 (σ.ou.length + LO.length) c8)) := (D8.box _ (List.mem_cons_self ..)).2
        obtain ⟨y0, y1, y2, y3, y4, y5⟩ := HY8.six
        have k80 := D8.dc.x0
        have HKP := Lib.hid (fun (w' : World) (F : Fr [] (w8.setCell ⟨x, 2, none⟩ (.slice a8 (σ.ou.length + LO.length) c8)) w') => keep_spec (D8.fr0 F) HVC.out hmc)
        have q8 := (D8.fr0 ((Fr.refl [] _).drew)).dc.x0
        have q6 := six ((D8.fr0 ((Fr.refl [] _).drew)).box _ (List.mem_cons_self ..)).2
        clear D8 D4 hown8 hown hg8 HOUT HDr HY hlen F4 k42 f42 b82 b83 g82 HY8 k0 k2 k3 f2
        generalize (w8.setCell ⟨x, 2, none⟩ (.slice a8 (σ.ou.length + LO.length) c8)) = w9 at *
        go_wp2_with fail
        go_region_held3 (fun w' => w'.cell? ⟨x, 0, none⟩ = some (.pointer (some ⟨A.d, 0, none⟩)) ∧ w'.cell? ⟨w.heap.size, 0, none⟩ = some (.slice a0 c.nargs c0) ∧ w'.cell? ⟨w.heap.size, 1, none⟩ = some (.slice am c.ms.length cm) ∧ w'.cell? ⟨w.heap.size, 2, none⟩ = some (.int .i64 cc.st) ∧ w'.cell? ⟨w.heap.size, 3, none⟩ = some (.int .i64 cc.step) ∧ w'.cell? ⟨w.heap.size, 4, none⟩ = some (.int .i64 cc.cause) ∧ w'.cell? ⟨w.heap.size, 5, none⟩ = some (.int .u64 c.start))
          (first | exact ⟨q8, q6⟩ | exact ⟨D10.dc.x0, six (D10.box _ (List.mem_cons_self ..)).2⟩)
          (first | (go_at_call 58; refine (HKP.out _ (by with_reducible repeat (first | exact Fr.refl _ _ | apply Fr.drew))).mono ?_; rintro e w10 ⟨rfl, va10, vo10, D10⟩))
        have HD10 := Lib.hid D10.dropBox
        clear D10
        go_wp2_with fail
        go_end0
        rw [HFIN.out]
        exact DeedR.mk HD10.out
      refine AllReadyH.cons e11 (fun K hK => ?_) AllReadyH.nil
      go_simp
      go_at_call 124
      refine (HOUT.out _ (by with_reducible repeat (first | exact Fr.refl _ _ | apply Fr.drew))).mono ?_
      rintro e w4 ⟨vp, rfl, hown, F4⟩
      obtain ⟨ap, cp, hvp⟩ := ownsFormD hown
      subst hvp
      have D4 := (HDr.out.fr0 (Fr.trans (by with_reducible repeat (first | exact Fr.refl _ _ | apply Fr.drew)) F4)).addBox (.inl rfl) (F4.keep HY.out (by simp))
      obtain ⟨-, -, k42, -, -, f42⟩ := D4.cells
      go_wp2_with fail
      have S4 := six (D4.box _ (List.mem_cons_self ..)).2
      refine hK.out _ _ (⟨D4.dc.x3, S4⟩) (fun hHeld => ?_)
      clear hK K
      (try simp only [List.setIfInBounds_toArray, List.set_cons_zero, List.set_cons_succ])
      refine wpAnyH_ready (rs := [5]) (by rw [hops.out]; kernel_rfl) (by simp) ?_
      refine AllReadyH.cons e5 (fun K hK => ?_) AllReadyH.nil
      go_simp
      refine hK.out _ _ (⟨D4.dc.x3, S4⟩) (fun hHeld => ?_)
      clear hK K
      (try simp only [List.setIfInBounds_toArray, List.set_cons_zero, List.set_cons_succ])
      refine wpAnyH_ready (rs := [12]) (by rw [hops.out]; kernel_rfl) (by simp) ?_
      refine AllReadyH.cons e12 (fun K hK => ?_) AllReadyH.nil
      refine step_app rfl (.tmp 72) (.tmp 78) 43 rfl w0.heap.size 87 i0 _ 5 40 Tryz.underlying43 hi hz0 hz1 hz2 rfl (by decide) (.slice ao2 σ.ou.length cap2) σ.ou.length _ rfl D4.outs _ LO.length _ rfl (Ous.of_owns hown).src (by unfold maxLen; omega) (by omega) (by have := D4.fr.size; omega) ?_
      intro v8 w8 hown8 hg8
      obtain ⟨a8, c8, h8⟩ := ownsFormD hown8
      subst h8
      have D8 := D4.setOuts (os' := σ.ou ++ LO) hg8 (by simpa using hown8)
      have hb8 := (D4.grown D4.outs hg8 (by decide) (by decide)).2.2.2
      have b82 : w8.cell? ⟨x, 2, none⟩ = some (.slice ao2 σ.ou.length cap2) := (cell_of_block hb8 2).trans rfl
      have b83 : w8.cell? ⟨x, 3, none⟩ = some (.int .u64 now) := (cell_of_block hb8 3).trans rfl
      have g82 := free_of_block hb8 2
      clear hb8
      have hb8y := grown_keepD hg8 (D4.box _ (List.mem_cons_self ..)).2 (owns_neD D4.outs (D4.box _ (List.mem_cons_self ..)).2 (show (87 : TypeId) ≠ 134 by decide))
      refine hK.out _ _ (⟨b83, six hb8y⟩) (fun hHeld => ?_)
      clear hK K
      (try simp only [Act.put, List.setIfInBounds_toArray, List.set_cons_zero, List.set_cons_succ])
      refine wpAnyH_take (i := 13) (v := .pointer (some ⟨x, 0, none⟩)) e13 (by rw [hops.out]; kernel_rfl) (by rw [hops.out]; kernel_rfl) (by rw [hops.out]; kernel_rfl) (fun c a w h => hQ c a _ _ w h) (Or.inl ⟨rfl, fun w' _ => by go_simp⟩) hHeld ?_
      (try simp only [Act.put, List.setIfInBounds_toArray, List.set_cons_zero, List.set_cons_succ])
      refine wpAnyH_take (i := 14) (v := .pointer (some ⟨x, 1, none⟩)) e14 (by rw [hops.out]; kernel_rfl) (by rw [hops.out]; kernel_rfl) (by rw [hops.out]; kernel_rfl) (fun c a w h => hQ c a _ _ w h) (Or.inl ⟨rfl, fun w' _ => by go_simp⟩) hHeld ?_
      (try simp only [Act.put, List.setIfInBounds_toArray, List.set_cons_zero, List.set_cons_succ])
      refine wpAnyH_take (i := 15) (v := .pointer (some ⟨x, 2, none⟩)) e15 (by rw [hops.out]; kernel_rfl) (by rw [hops.out]; kernel_rfl) (by rw [hops.out]; kernel_rfl) (fun c a w h => hQ c a _ _ w h) (Or.inl ⟨rfl, fun w' _ => by go_simp⟩) hHeld ?_
      (try simp only [Act.put, List.setIfInBounds_toArray, List.set_cons_zero, List.set_cons_succ])
      refine wpAnyH_ready (rs := [16]) (by rw [hops.out]; kernel_rfl) (by simp) ?_
      refine AllReadyH.cons e16 (fun K hK => ?_) AllReadyH.nil
      go_simp
      refine hK.out _ _ (⟨D8.dc.x3, six (D8.box _ (List.mem_cons_self ..)).2⟩) (fun hHeld => ?_)
      clear hK K
      (try simp only [List.setIfInBounds_toArray, List.set_cons_zero, List.set_cons_succ])
      refine wpAnyH_done (by rw [hops.out]; kernel_rfl) (hQn.out _ _ ?_) _
      clear hQn hQ hops e0 e1 e2 e3 e4 e5 e6 e7 e8 e9 e10 e11 e12 e13 e14 e15 e16
      have HD8 := Lib.hid D8
      have HY8 : YB w.heap.size a0 c.nargs c0 am c.ms.length cm cc.st cc.step cc.cause c.start (w8.setCell ⟨x, 2, none⟩ (.slice a8 (σ.ou.length + LO.length) c8)) := (D8.box _ (List.mem_cons_self ..)).2
      obtain ⟨y0, y1, y2, y3, y4, y5⟩ := HY8.six
      have k80 := D8.dc.x0
      have HKP := Lib.hid (fun (w' : World) (F : Fr [] (w8.setCell ⟨x, 2, none⟩ (.slice a8 (σ.ou.length + LO.length) c8)) w') => keep_spec (D8.fr0 F) HVC.out hmc)
      have q8 := (D8.fr0 ((Fr.refl [] _).drew)).dc.x0
      have q6 := six ((D8.fr0 ((Fr.refl [] _).drew)).box _ (List.mem_cons_self ..)).2
      clear D8 D4 hown8 hown hg8 HOUT HDr HY hlen F4 k42 f42 b82 b83 g82 HY8 k0 k2 k3 f2
      generalize (w8.setCell ⟨x, 2, none⟩ (.slice a8 (σ.ou.length + LO.length) c8)) = w9 at *
      go_wp2_with fail
      go_region_held3 (fun w' => w'.cell? ⟨x, 0, none⟩ = some (.pointer (some ⟨A.d, 0, none⟩)) ∧ w'.cell? ⟨w.heap.size, 0, none⟩ = some (.slice a0 c.nargs c0) ∧ w'.cell? ⟨w.heap.size, 1, none⟩ = some (.slice am c.ms.length cm) ∧ w'.cell? ⟨w.heap.size, 2, none⟩ = some (.int .i64 cc.st) ∧ w'.cell? ⟨w.heap.size, 3, none⟩ = some (.int .i64 cc.step) ∧ w'.cell? ⟨w.heap.size, 4, none⟩ = some (.int .i64 cc.cause) ∧ w'.cell? ⟨w.heap.size, 5, none⟩ = some (.int .u64 c.start))
        (first | exact ⟨q8, q6⟩ | exact ⟨D10.dc.x0, six (D10.box _ (List.mem_cons_self ..)).2⟩)
        (first | (go_at_call 58; refine (HKP.out _ (by with_reducible repeat (first | exact Fr.refl _ _ | apply Fr.drew))).mono ?_; rintro e w10 ⟨rfl, va10, vo10, D10⟩))
      have HD10 := Lib.hid D10.dropBox
      clear D10
      go_wp2_with fail
      go_end0
      rw [HFIN.out]
      exact DeedR.mk HD10.out
    | true =>
      by_cases hb : blockd σ.M.falls σ.M.k.fb.toNat ld cc.step
      · have HT := Lib.hid ((HDr.out.fr0 (Fr.refl [] wr).drew).dep.falls.take_no ld cc.step hb)
        have HNX := Lib.hid (HI.out.next hb HO.out.ch.2)
        have HDQ := Lib.hid (HDr.out.fr0 (Fr.refl [] wr).drew)
        have hdc := HDQ.out.dc
        have HYQ : Hid (YB w.heap.size a0 c.nargs c0 am c.ms.length cm cc.st cc.step cc.cause c.start wr.drew) := Lib.hid HY.out
        have hq := And.intro hdc.x0 (And.intro hdc.d18 HYQ.out.six.2.2.2.1)
        have HFA := Lib.hid (fun w' => fail_spec2 w' a0 c0 am cm cc cause σ.M.k.ch (by have := HI.out.s3; omega) (by have := HI.out.s0; omega))
        rw [HI.out.na, HI.out.ms, HI.out.start] at HFA
        have HME := Lib.hid (fun (w' : World) (h2 : w'.cell? ⟨w.heap.size, 3, none⟩ = some (.int .i64 (cc.fail cause σ.M.k.ch).1.step)) => fallMeas_lt (cause := cause) (chain := σ.M.k.ch) HY.out.six.2.2.2.1 h2)
        generalize cc.fail cause σ.M.k.ch = q at *
        obtain ⟨q1, q2⟩ := q
        simp only at HFA HNX HME
        clear hb hdc
        go_wp2_with fail
        go_region_held3 (fun w' => w'.cell? ⟨x, 0, none⟩ = some (.pointer (some ⟨A.d, 0, none⟩)) ∧ w'.cell? ⟨A.d, 18, none⟩ = some (.pointer (some ⟨A.fs, 0, none⟩)) ∧ w'.cell? ⟨w.heap.size, 3, none⟩ = some (.int .i64 cc.step))
          (first | exact hq | exact hq5)
          (first | (go_at_call 122; refine HT.out.mono ?_; rintro e w5 ⟨rfl, F5⟩; have D5 := HDQ.out.fr0 F5; have HY5 := HYQ.out.fr F5 (by simp); have hq5 := And.intro D5.dc.x0 (And.intro D5.dc.d18 HY5.six.2.2.2.1)))
        have HD5 := Lib.hid D5
        have HY5' := Lib.hid HY5
        clear D5 hq hq5 HT HDQ HYQ F5 y0 y1 y2 y3 y4 y5 k0 HDr HY
        obtain ⟨y0, y1, y2, y3, y4, y5⟩ := HY5.six
        clear HY5
        have KS : Hid (∀ w' : World, Fr [w.heap.size] w5 w' → w'.cell? ⟨x, 0, none⟩ = some (.pointer (some ⟨A.d, 0, none⟩)) ∧ w'.cell? ⟨A.d, 7, none⟩ = some (.int .i64 σ.M.k.ch)) := Lib.hid (fun w' F => by
          have := (HD5.out.other hy HY5'.out (by decide) HYB.out F).dc
          exact ⟨this.x0, this.c5⟩)
        have k0 := KS.out w5 (Fr.refl _ _)
        obtain ⟨k00, k07⟩ := k0
        go_wp2_with fail
        have FX : Fr [w.heap.size] w5 w5.drew := (Fr.refl _ _).drew
        have HY2 : YB w.heap.size a0 c.nargs c0 am c.ms.length cm cc.st cc.step cc.cause c.start w5.drew := HY5'.out
        obtain ⟨g0, g1, g2, g3, g4, g5⟩ := HY2.free
        refine wp_region_held_drew (S := fun w' => w'.cell? ⟨x, 0, none⟩ = some (.pointer (some ⟨A.d, 0, none⟩)) ∧ w'.cell? ⟨A.d, 7, none⟩ = some (.int .i64 σ.M.k.ch)) (by kernel_rfl) (KS.out _ (by with_reducible repeat (first | exact FX | exact Fr.refl _ _ | apply Fr.drew | exact FX.trans (HY2.store _ _ _).2))) (fun hHeld => ?_)
        have hRg : Array.replicate 16 false = #[false, false, false, false, false, false, false, false, false, false, false, false, false, false, false, false] := rfl
        refine (?_ : wpAnyH _ _ _ _ _ 16 (Array.replicate 16 false) _ _)
        rw [hRg]
        refine wpAnyH_hide (fun _ _ d _ _ h => by cases d <;> exact h) (fun ops Q hops hQ hQn => ?_)
        clear hRg
        have e0 := congrArg (fun x : Array Oper => x[0]?) hops.out
        simp only [List.getElem?_toArray, List.getElem?_cons_zero] at e0
        have e1 := congrArg (fun x : Array Oper => x[1]?) hops.out
        simp only [List.getElem?_toArray, List.getElem?_cons_zero, List.getElem?_cons_succ] at e1
        have e2 := congrArg (fun x : Array Oper => x[2]?) hops.out
        simp only [List.getElem?_toArray, List.getElem?_cons_zero, List.getElem?_cons_succ] at e2
        have e3 := congrArg (fun x : Array Oper => x[3]?) hops.out
        simp only [List.getElem?_toArray, List.getElem?_cons_zero, List.getElem?_cons_succ] at e3
        have e4 := congrArg (fun x : Array Oper => x[4]?) hops.out
        simp only [List.getElem?_toArray, List.getElem?_cons_zero, List.getElem?_cons_succ] at e4
        have e5 := congrArg (fun x : Array Oper => x[5]?) hops.out
        simp only [List.getElem?_toArray, List.getElem?_cons_zero, List.getElem?_cons_succ] at e5
        have e6 := congrArg (fun x : Array Oper => x[6]?) hops.out
        simp only [List.getElem?_toArray, List.getElem?_cons_zero, List.getElem?_cons_succ] at e6
        have e7 := congrArg (fun x : Array Oper => x[7]?) hops.out
        simp only [List.getElem?_toArray, List.getElem?_cons_zero, List.getElem?_cons_succ] at e7
        have e8 := congrArg (fun x : Array Oper => x[8]?) hops.out
        simp only [List.getElem?_toArray, List.getElem?_cons_zero, List.getElem?_cons_succ] at e8
        have e9 := congrArg (fun x : Array Oper => x[9]?) hops.out
        simp only [List.getElem?_toArray, List.getElem?_cons_zero, List.getElem?_cons_succ] at e9
        have e10 := congrArg (fun x : Array Oper => x[10]?) hops.out
        simp only [List.getElem?_toArray, List.getElem?_cons_zero, List.getElem?_cons_succ] at e10
        have e11 := congrArg (fun x : Array Oper => x[11]?) hops.out
        simp only [List.getElem?_toArray, List.getElem?_cons_zero, List.getElem?_cons_succ] at e11
        have e12 := congrArg (fun x : Array Oper => x[12]?) hops.out
        simp only [List.getElem?_toArray, List.getElem?_cons_zero, List.getElem?_cons_succ] at e12
        have e13 := congrArg (fun x : Array Oper => x[13]?) hops.out
        simp only [List.getElem?_toArray, List.getElem?_cons_zero, List.getElem?_cons_succ] at e13
        have e14 := congrArg (fun x : Array Oper => x[14]?) hops.out
        simp only [List.getElem?_toArray, List.getElem?_cons_zero, List.getElem?_cons_succ] at e14
        have e15 := congrArg (fun x : Array Oper => x[15]?) hops.out
        simp only [List.getElem?_toArray, List.getElem?_cons_zero, List.getElem?_cons_succ] at e15
        refine wpAnyH_take (i := 1) (v := .int .i64 cause) e1 (by rw [hops.out]; kernel_rfl) (by rw [hops.out]; kernel_rfl) (by rw [hops.out]; kernel_rfl) (fun c a w h => hQ c a _ _ w h) (Or.inl ⟨rfl, fun w' _ => by go_simp⟩) hHeld ?_
        (try simp only [Act.put, List.setIfInBounds_toArray, List.set_cons_zero, List.set_cons_succ])
        refine wpAnyH_take (i := 2) (v := .pointer (some ⟨x, 0, none⟩)) e2 (by rw [hops.out]; kernel_rfl) (by rw [hops.out]; kernel_rfl) (by rw [hops.out]; kernel_rfl) (fun c a w h => hQ c a _ _ w h) (Or.inl ⟨rfl, fun w' _ => by go_simp⟩) hHeld ?_
        (try simp only [Act.put, List.setIfInBounds_toArray, List.set_cons_zero, List.set_cons_succ])
        refine wpAnyH_take (i := 3) (v := .pointer (some ⟨x, 0, none⟩)) e3 (by rw [hops.out]; kernel_rfl) (by rw [hops.out]; kernel_rfl) (by rw [hops.out]; kernel_rfl) (fun c a w h => hQ c a _ _ w h) (Or.inl ⟨rfl, fun w' _ => by go_simp⟩) hHeld ?_
        (try simp only [Act.put, List.setIfInBounds_toArray, List.set_cons_zero, List.set_cons_succ])
        refine wpAnyH_take (i := 4) (v := .pointer (some ⟨x, 0, none⟩)) e4 (by rw [hops.out]; kernel_rfl) (by rw [hops.out]; kernel_rfl) (by rw [hops.out]; kernel_rfl) (fun c a w h => hQ c a _ _ w h) (Or.inl ⟨rfl, fun w' _ => by go_simp⟩) hHeld ?_
        (try simp only [Act.put, List.setIfInBounds_toArray, List.set_cons_zero, List.set_cons_succ])
        refine wpAnyH_take (i := 5) (v := .pointer (some ⟨A.d, 0, none⟩)) e5 (by rw [hops.out]; kernel_rfl) (by rw [hops.out]; kernel_rfl) (by rw [hops.out]; kernel_rfl) (fun c a w h => hQ c a _ _ w h) (Or.inl ⟨rfl, fun w' hS => by have hS := hS.1; go_simp⟩) hHeld ?_
        (try simp only [Act.put, List.setIfInBounds_toArray, List.set_cons_zero, List.set_cons_succ])
        refine wpAnyH_take (i := 6) (v := .pointer (some ⟨A.d, 0, none⟩)) e6 (by rw [hops.out]; kernel_rfl) (by rw [hops.out]; kernel_rfl) (by rw [hops.out]; kernel_rfl) (fun c a w h => hQ c a _ _ w h) (Or.inl ⟨rfl, fun w' _ => by go_simp⟩) hHeld ?_
        (try simp only [Act.put, List.setIfInBounds_toArray, List.set_cons_zero, List.set_cons_succ])
        refine wpAnyH_take (i := 7) (v := .pointer (some ⟨A.d, 2, none⟩)) e7 (by rw [hops.out]; kernel_rfl) (by rw [hops.out]; kernel_rfl) (by rw [hops.out]; kernel_rfl) (fun c a w h => hQ c a _ _ w h) (Or.inl ⟨rfl, fun w' _ => by go_simp⟩) hHeld ?_
        (try simp only [Act.put, List.setIfInBounds_toArray, List.set_cons_zero, List.set_cons_succ])
        refine wpAnyH_take (i := 8) (v := .pointer (some ⟨A.d, 7, none⟩)) e8 (by rw [hops.out]; kernel_rfl) (by rw [hops.out]; kernel_rfl) (by rw [hops.out]; kernel_rfl) (fun c a w h => hQ c a _ _ w h) (Or.inl ⟨rfl, fun w' _ => by go_simp⟩) hHeld ?_
        (try simp only [Act.put, List.setIfInBounds_toArray, List.set_cons_zero, List.set_cons_succ])
        refine wpAnyH_take (i := 9) (v := .int .i64 σ.M.k.ch) e9 (by rw [hops.out]; kernel_rfl) (by rw [hops.out]; kernel_rfl) (by rw [hops.out]; kernel_rfl) (fun c a w h => hQ c a _ _ w h) (Or.inl ⟨rfl, fun w' hS => by have hS := hS.2; go_simp⟩) hHeld ?_
        (try simp only [Act.put, List.setIfInBounds_toArray, List.set_cons_zero, List.set_cons_succ])
        refine wpAnyH_ready (rs := [0]) (by rw [hops.out]; kernel_rfl) (by simp) ?_
        refine AllReadyH.cons e0 (fun K hK => ?_) AllReadyH.nil
        go_simp
        refine hK.out _ _ (KS.out _ (by with_reducible repeat (first | exact FX | exact Fr.refl _ _ | apply Fr.drew | exact FX.trans (HY2.store _ _ _).2))) (fun hHeld => ?_)
        clear hK K
        (try simp only [List.setIfInBounds_toArray, List.set_cons_zero])
        refine wpAnyH_ready (rs := [10]) (by rw [hops.out]; kernel_rfl) (by simp) ?_
        refine AllReadyH.cons e10 (fun K hK => ?_) AllReadyH.nil
        go_simp
        go_at_call 121
        refine (HFA.out _).mono ?_
        rintro e w2 ⟨rfl, F2⟩
        have FX : Fr [w.heap.size] w5 w2 := FX.trans (F2.mono (by simp))
        have HY2 := HY2.fr F2 (by simp)
        obtain ⟨g0, g1, g2, g3, g4, g5⟩ := HY2.free
        obtain ⟨y0, y1, y2, y3, y4, y5⟩ := HY2.six
        go_wp2_with fail
        refine hK.out _ _ (KS.out _ (by with_reducible repeat (first | exact FX | exact Fr.refl _ _ | apply Fr.drew | exact FX.trans (HY2.store _ _ _).2))) (fun hHeld => ?_)
        clear hK K
        (try simp only [List.setIfInBounds_toArray, List.set_cons_zero, List.set_cons_succ])
        refine wpAnyH_take (i := 11) (v := .tuple #[.agg #[.slice a0 c.nargs c0, .slice am c.ms.length cm, .int .i64 q1.st, .int .i64 q1.step, .int .i64 q1.cause, .int .u64 c.start], .bool q2]) e11 (by rw [hops.out]; kernel_rfl) (by rw [hops.out]; kernel_rfl) (by rw [hops.out]; kernel_rfl) (fun c a w h => hQ c a _ _ w h) (Or.inl ⟨rfl, fun w' _ => by go_simp⟩) hHeld ?_
        (try simp only [Act.put, List.setIfInBounds_toArray, List.set_cons_zero, List.set_cons_succ])
        refine wpAnyH_take (i := 12) (v := .agg #[.slice a0 c.nargs c0, .slice am c.ms.length cm, .int .i64 q1.st, .int .i64 q1.step, .int .i64 q1.cause, .int .u64 c.start]) e12 (by rw [hops.out]; kernel_rfl) (by rw [hops.out]; kernel_rfl) (by rw [hops.out]; kernel_rfl) (fun c a w h => hQ c a _ _ w h) (Or.inl ⟨rfl, fun w' _ => by go_simp⟩) hHeld ?_
        (try simp only [Act.put, List.setIfInBounds_toArray, List.set_cons_zero, List.set_cons_succ])
        refine wpAnyH_take (i := 13) (v := .bool q2) e13 (by rw [hops.out]; kernel_rfl) (by rw [hops.out]; kernel_rfl) (by rw [hops.out]; kernel_rfl) (fun c a w h => hQ c a _ _ w h) (Or.inl ⟨rfl, fun w' _ => by go_simp⟩) hHeld ?_
        (try simp only [Act.put, List.setIfInBounds_toArray, List.set_cons_zero, List.set_cons_succ])
        refine wpAnyH_ready (rs := [14]) (by rw [hops.out]; kernel_rfl) (by simp) ?_
        refine AllReadyH.cons e14 (fun K hK => ?_) AllReadyH.nil
        go_simp
        refine hK.out _ _ (KS.out _ (by with_reducible repeat (first | exact FX | exact Fr.refl _ _ | apply Fr.drew | exact FX.trans (HY2.store _ _ _).2))) (fun hHeld => ?_)
        clear hK K
        (try simp only [List.setIfInBounds_toArray, List.set_cons_zero, List.set_cons_succ])
        refine wpAnyH_take (i := 15) (v := .bool q2) e15 (by rw [hops.out]; kernel_rfl) (by rw [hops.out]; kernel_rfl) (by rw [hops.out]; kernel_rfl) (fun c a w h => hQ c a _ _ w h) (Or.inl ⟨rfl, fun w' _ => by go_simp⟩) hHeld ?_
        (try simp only [Act.put, List.setIfInBounds_toArray, List.set_cons_zero, List.set_cons_succ])
        refine wpAnyH_done (by rw [hops.out]; kernel_rfl) (hQn.out _ _ ?_) _
        clear hQn hQ hops e0 e1 e2 e3 e4 e5 e6 e7 e8 e9 e10 e11 e12 e13 e14 e15
        obtain ⟨HYa, HYb⟩ := HY2.store q1.st q1.step q1.cause
        have D3 := HD5.out.other hy HY5'.out (by decide) HYB.out (FX.trans HYb)
        generalize ((((((w2.setCell ⟨w.heap.size, 0, none⟩ (.slice a0 c.nargs c0)).setCell ⟨w.heap.size, 1, none⟩ (.slice am c.ms.length cm)).setCell ⟨w.heap.size, 2, none⟩ (.int .i64 q1.st)).setCell ⟨w.heap.size, 3, none⟩ (.int .i64 q1.step)).setCell ⟨w.heap.size, 4, none⟩ (.int .i64 q1.cause)).setCell ⟨w.heap.size, 5, none⟩ (.int .u64 c.start)) = w3 at HYa D3 ⊢
        have HYc := Lib.hid HYa
        have HD3 := Lib.hid D3
        clear HYb FX HY2 g0 g1 g2 g3 g4 g5 y0 y1 y2 y3 y4 y5 k00 k07 KS HY5' HD5 HFA D3 HYa
        go_wp2_with fail
        go_roundw
        case rel => exact ⟨n - 1, q1, q2, rfl, HYc, HD3, HNX⟩
        case measure => exact HME.out _ HYc.out.six.2.2.2.1
      · have hRR := HI.out.res
        rw [if_neg (fun h => hb h.2)] at hRR
        have HFIN := Lib.hid (HS1.out cc (by rw [← hRR]))
        have hnb : σ.M.falls.length ≠ σ.M.k.fb.toNat ∧ (ld, cc.step) ∉ σ.M.falls := ⟨fun h => hb (.inl h), fun h => hb (.inr h)⟩
        have HDQ := Lib.hid (HDr.out.fr0 (Fr.refl [] wr).drew)
        have hlt : σ.M.falls.length < σ.M.k.fb.toNat := by have := HDQ.out.dep.falls.2.2.1; omega
        have HT := Lib.hid (HDQ.out.dep.falls.take_yes ld cc.step hlt hnb.2)
        have hdc := HDQ.out.dc
        have HYQ : Hid (YB w.heap.size a0 c.nargs c0 am c.ms.length cm cc.st cc.step cc.cause c.start wr.drew) := Lib.hid HY.out
        have hq := And.intro hdc.x0 (And.intro hdc.d18 HYQ.out.six.2.2.2.1)
        have HVC := Lib.hid (HV.out.turn HI.out.na HI.out.ms HI.out.start)
        have hmc : cc.ms.length ≤ 1000000000 := by rw [HI.out.ms]; omega
        have hyfm : w.heap.size ∉ [A.fm] := by
          have := hal.out A.fm (by simp [DepA.list])
          simp; omega
        clear hb hdc hRR HS1 HS2 HI hnb hlt
        go_wp2_with fail
        go_region_held3 (fun w' => w'.cell? ⟨x, 0, none⟩ = some (.pointer (some ⟨A.d, 0, none⟩)) ∧ w'.cell? ⟨A.d, 18, none⟩ = some (.pointer (some ⟨A.fs, 0, none⟩)) ∧ w'.cell? ⟨w.heap.size, 3, none⟩ = some (.int .i64 cc.step))
          (first | exact hq | exact hq5)
          (first | (go_at_call 122; refine HT.out.mono ?_; rintro e w5 ⟨rfl, B5, F5⟩; have D5 := HDQ.out.setFalls F5 B5; have HY5 := HYQ.out.fr F5 hyfm; have hq5 := And.intro D5.dc.x0 (And.intro D5.dc.d18 HY5.six.2.2.2.1)))
        have HSET := Lib.hid (set_spec (D5.addBox (.inl rfl) HY5) hnow hac ld ft)
        have k50 := D5.dc.x0
        have k59 := D5.dc.c7
        change w5.cell? _ = some (.int .u64 σ.M.k.ft) at k59
        rw [HFT2.out] at k59
        clear D5 hq hq5 HT HDQ HYQ F5 B5 y0 y1 y2 y3 y4 y5 k0 HDr HY HY5
        go_wp2_with fail
        refine HSET.out.mono ?_
        rintro e w6 ⟨rfl, va6, vo6, D6⟩
        have HY6 : YB w.heap.size a0 c.nargs c0 am c.ms.length cm cc.st cc.step cc.cause c.start w6 := (D6.box _ (List.mem_cons_self ..)).2
        obtain ⟨y0, y1, y2, y3, y4, y5⟩ := HY6.six
        have k60 := D6.dc.x0
        have HKP := Lib.hid (fun (w' : World) (F : Fr [] w6 w') => keep_spec (D6.fr0 F) HVC.out hmc)
        have q8 := (D6.fr0 ((Fr.refl [] _).drew)).dc.x0
        have q6 := six ((D6.fr0 ((Fr.refl [] _).drew)).box _ (List.mem_cons_self ..)).2
        clear D6 HY6 HSET k50 k59
        go_wp2_with fail
        go_region_held3 (fun w' => w'.cell? ⟨x, 0, none⟩ = some (.pointer (some ⟨A.d, 0, none⟩)) ∧ w'.cell? ⟨w.heap.size, 0, none⟩ = some (.slice a0 c.nargs c0) ∧ w'.cell? ⟨w.heap.size, 1, none⟩ = some (.slice am c.ms.length cm) ∧ w'.cell? ⟨w.heap.size, 2, none⟩ = some (.int .i64 cc.st) ∧ w'.cell? ⟨w.heap.size, 3, none⟩ = some (.int .i64 cc.step) ∧ w'.cell? ⟨w.heap.size, 4, none⟩ = some (.int .i64 cc.cause) ∧ w'.cell? ⟨w.heap.size, 5, none⟩ = some (.int .u64 c.start))
          (first | exact ⟨q8, q6⟩ | exact ⟨D10.dc.x0, six (D10.box _ (List.mem_cons_self ..)).2⟩)
          (first | (go_at_call 58; refine (HKP.out _ (by with_reducible repeat (first | exact Fr.refl _ _ | apply Fr.drew))).mono ?_; rintro e w10 ⟨rfl, va10, vo10, D10⟩))
        have HD10 := Lib.hid D10.dropBox
        clear D10
        go_wp2_with fail
        go_end0
        rw [HFIN.out, HFT.out]
        exact DeedR.mk HD10.out
end Go.Proofs.YtcnkhjgpjchkeaaGreat

namespace Go.Proofs.YtcnkhjgpjchkeaaGreat
open Go.RowKit

theorem CallM.fin_same (c : CallM) : c.fin.nargs = c.nargs ∧ c.fin.ms = c.ms ∧ c.fin.start = c.start ∧ c.fin.step = c.step ∧ c.fin.cause = c.cause ∧ c.fin.st = if 1 ≤ c.st ∧ c.st ≤ 3 then 4 else c.st := by
  unfold CallM.fin
  by_cases h : 1 ≤ c.st ∧ c.st ≤ 3
  · rw [if_pos h, if_pos h]; exact ⟨rfl, rfl, rfl, rfl, rfl, rfl⟩
  · rw [if_neg h, if_neg h]; exact ⟨rfl, rfl, rfl, rfl, rfl, rfl⟩
theorem outs_len (c : CallM) (kind : Int) (vals : List Int) (now : Nat) : (c.outs kind vals now).length ≤ c.ms.length := by
  unfold CallM.outs splitM
  split
  · simp
  · split
    · split <;> simp
    · simp
theorem RdInts.frW {w w' : World} {v : Value} {xs : List Int} (h : RdInts w v xs) {S : List Nat} (k : Fr S w w') (hn : xs = [] ∨ ∀ g, v.ownBlock = some g → g ∉ S) : RdInts w' v xs := by
  rcases hn with rfl | hn
  · obtain ⟨ao, cap, h1, h2, h3, -⟩ := h
    exact ⟨ao, cap, h1, h2, h3, fun j hj => by simp at hj⟩
  · exact h.fr k hn
theorem outs13_spec {w : World} {a0 : Option Addr} {c0 : Nat} {vm vv : Value} (c : CallM) (h : Mems w vm c.ms) {vals : List Int} (hv : RdInts w vv vals) (hm : c.ms.length ≤ 1000000000) (now : Nat) (kind : Int) (hk : kind = 1 ∨ kind = 3) :
    Calls Tryz.prog 124 #[.agg #[.slice a0 c.nargs c0, vm, .int .i64 c.st, .int .i64 c.step, .int .i64 c.cause, .int .u64 c.start], .int .i64 kind, vv, .int .u64 now] w (OutsR w (c.outs kind vals now)) := by
  rcases hk with rfl | rfl
  · exact outs1_spec c h hv hm now
  · exact outs3_spec c h hv hm now

set_option maxHeartbeats 8000000 in
set_option maxRecDepth 20000 in
theorem dend_spec {bs : Bx} {w0 w : World} {x : Nat} {A : DepA} {now : Nat} {σ : DS} {va vo : Value} (D : DeedV bs w0 w x A now σ va vo) (hou : σ.ou.length ≤ 1000000)
    {v : Value} {c : CallM} (hv : CallV w0 v c) (hm : c.ms.length ≤ 1000000) {vv : Value} {vals : List Int} (hvv : RdInts w0 vv vals) (hva : vals = [] ∨ ∀ g, vv.ownBlock = some g → g ∉ A.list) (kind : Int) (hk : kind = 1 ∨ kind = 3) :
    Calls Tryz.prog 64 #[.pointer (some ⟨x, 0, none⟩), v, .int .i64 kind, vv] w (DeedR bs w0 x A now { M := σ.M.keep c.fin, ac := σ.ac, ou := σ.ou ++ c.fin.outs kind vals now }) := by
  obtain ⟨ao2, cap2, rfl⟩ := ownsFormD D.outs
  have HD := Lib.hid D
  obtain ⟨i0, hi, hz0, hz1, hz2⟩ := info_partsD Tryz.info_ou
  have hv2 := hv.fr D.fr D.nomem
  have HV := Lib.hid hv
  obtain ⟨ao, vm, rfl, ⟨a0, c0, rfl⟩, hms⟩ := hv2
  obtain ⟨am, cm, rfl, -, -⟩ := hms
  have HB : Hid (YB w.heap.size a0 c.nargs c0 am c.ms.length cm c.st c.step c.cause c.start (w.alloc (.cells #[.slice a0 c.nargs c0, .slice am c.ms.length cm, .int .i64 c.st, .int .i64 c.step, .int .i64 c.cause, .int .u64 c.start] 134))) := Lib.hid (block_alloc_new w _)
  have HF := Lib.hid ((Fr.refl [] w).alloc (.cells #[.slice a0 c.nargs c0, .slice am c.ms.length cm, .int .i64 c.st, .int .i64 c.step, .int .i64 c.cause, .int .u64 c.start] 134))
  have hy : w0.heap.size ≤ w.heap.size := D.fr.size
  have HYB : Hid (∀ p ∈ bs, p.1 ≠ w.heap.size) := Lib.hid (fun p hp => Nat.ne_of_lt (lt_of_block (D.box p hp).2))
  have HEN := Lib.hid (fun w' => end_spec w' a0 c.nargs c0 am c.ms.length cm c.st c.step c.cause c.start)
  obtain ⟨n1, n2, n3, n4, n5, n6⟩ := c.fin_same
  rw [← n6] at HEN
  have HVC := Lib.hid (HV.out.turn n1 n2 n3)
  rw [n4, n5] at HVC
  have hmc : c.fin.ms.length ≤ 1000000000 := by rw [n2]; omega
  have hlen : (c.fin.outs kind vals now).length ≤ 1000000 := Nat.le_trans (outs_len _ _ _ _) (by rw [n2]; exact hm)
  have HOUT := Lib.hid (fun (w' : World) (F : Fr A.list w0 w') => outs13_spec (a0 := a0) (c0 := c0) (vm := .slice am c.ms.length cm) c.fin (by rw [n2]; exact HV.out.mems.fr F D.nomem) (hvv.frW F hva) hmc now kind hk)
  rw [n1, n3, n4, n5] at HOUT
  clear D hv hvv hva hk n1 n2 n3 n4 n5 n6 hm
  generalize c.fin.outs kind vals now = LO at *
  generalize c.fin.st = st' at *
  go_enter Tryz.func64, Tryz.ntmps64
  go_wp2_with fail
  refine (HEN.out _).mono ?_
  rintro e w2 ⟨rfl, F2⟩
  have HY2 := HB.out.fr F2 (by simp)
  obtain ⟨g0, g1, g2, g3, g4, g5⟩ := HY2.free
  obtain ⟨y0, y1, y2, y3, y4, y5⟩ := HY2.six
  have D2 := HD.out.fr0 (HF.out.trans F2)
  obtain ⟨HYa, HYb⟩ := HY2.store st' c.step c.cause
  have HYa := Lib.hid HYa
  have D3 := Lib.hid (D2.other hy HY2 (by decide) HYB.out HYb)
  clear D2 HYb HB HF F2 HY2 HD HEN
  go_wp2_with fail
  generalize ((((((w2.setCell ⟨w.heap.size, 0, none⟩ (.slice a0 c.nargs c0)).setCell ⟨w.heap.size, 1, none⟩ (.slice am c.ms.length cm)).setCell ⟨w.heap.size, 2, none⟩ (.int .i64 st')).setCell ⟨w.heap.size, 3, none⟩ (.int .i64 c.step)).setCell ⟨w.heap.size, 4, none⟩ (.int .i64 c.cause)).setCell ⟨w.heap.size, 5, none⟩ (.int .u64 c.start)) = wr at *
  clear g0 g1 g2 g3 g4 g5 y0 y1 y2 y3 y4 y5
  obtain ⟨y0, y1, y2, y3, y4, y5⟩ := HYa.out.six
  have k0 := D3.out.dc.x0
  obtain ⟨-, -, k2, k3, -, f2⟩ := D3.out.cells
  have hsz0 := D3.out.fr.size
  refine wp_region_held_drew (S := fun w' => w'.cell? ⟨x, 3, none⟩ = some (.int .u64 now) ∧ w'.cell? ⟨w.heap.size, 0, none⟩ = some (.slice a0 c.nargs c0) ∧ w'.cell? ⟨w.heap.size, 1, none⟩ = some (.slice am c.ms.length cm) ∧ w'.cell? ⟨w.heap.size, 2, none⟩ = some (.int .i64 st') ∧ w'.cell? ⟨w.heap.size, 3, none⟩ = some (.int .i64 c.step) ∧ w'.cell? ⟨w.heap.size, 4, none⟩ = some (.int .i64 c.cause) ∧ w'.cell? ⟨w.heap.size, 5, none⟩ = some (.int .u64 c.start)) (by kernel_rfl) (⟨k3, HYa.out.six⟩) (fun hHeld => ?_)
  have hRg : Array.replicate 19 false = #[false, false, false, false, false, false, false, false, false, false, false, false, false, false, false, false, false, false, false] := rfl
  refine (?_ : wpAnyH _ _ _ _ _ 19 (Array.replicate 19 false) _ _)
  rw [hRg]
  refine wpAnyH_hide (fun _ _ d _ _ h => by cases d <;> exact h) (fun ops Q hops hQ hQn => ?_)
  clear hRg
  have e0 := congrArg (fun x : Array Oper => x[0]?) hops.out
  simp only [List.getElem?_toArray, List.getElem?_cons_zero] at e0
  have e1 := congrArg (fun x : Array Oper => x[1]?) hops.out
  simp only [List.getElem?_toArray, List.getElem?_cons_zero, List.getElem?_cons_succ] at e1
  have e2 := congrArg (fun x : Array Oper => x[2]?) hops.out
  simp only [List.getElem?_toArray, List.getElem?_cons_zero, List.getElem?_cons_succ] at e2
  have e3 := congrArg (fun x : Array Oper => x[3]?) hops.out
  simp only [List.getElem?_toArray, List.getElem?_cons_zero, List.getElem?_cons_succ] at e3
  have e4 := congrArg (fun x : Array Oper => x[4]?) hops.out
  simp only [List.getElem?_toArray, List.getElem?_cons_zero, List.getElem?_cons_succ] at e4
  have e5 := congrArg (fun x : Array Oper => x[5]?) hops.out
  simp only [List.getElem?_toArray, List.getElem?_cons_zero, List.getElem?_cons_succ] at e5
  have e6 := congrArg (fun x : Array Oper => x[6]?) hops.out
  simp only [List.getElem?_toArray, List.getElem?_cons_zero, List.getElem?_cons_succ] at e6
  have e7 := congrArg (fun x : Array Oper => x[7]?) hops.out
  simp only [List.getElem?_toArray, List.getElem?_cons_zero, List.getElem?_cons_succ] at e7
  have e8 := congrArg (fun x : Array Oper => x[8]?) hops.out
  simp only [List.getElem?_toArray, List.getElem?_cons_zero, List.getElem?_cons_succ] at e8
  have e9 := congrArg (fun x : Array Oper => x[9]?) hops.out
  simp only [List.getElem?_toArray, List.getElem?_cons_zero, List.getElem?_cons_succ] at e9
  have e10 := congrArg (fun x : Array Oper => x[10]?) hops.out
  simp only [List.getElem?_toArray, List.getElem?_cons_zero, List.getElem?_cons_succ] at e10
  have e11 := congrArg (fun x : Array Oper => x[11]?) hops.out
  simp only [List.getElem?_toArray, List.getElem?_cons_zero, List.getElem?_cons_succ] at e11
  have e12 := congrArg (fun x : Array Oper => x[12]?) hops.out
  simp only [List.getElem?_toArray, List.getElem?_cons_zero, List.getElem?_cons_succ] at e12
  have e13 := congrArg (fun x : Array Oper => x[13]?) hops.out
  simp only [List.getElem?_toArray, List.getElem?_cons_zero, List.getElem?_cons_succ] at e13
  have e14 := congrArg (fun x : Array Oper => x[14]?) hops.out
  simp only [List.getElem?_toArray, List.getElem?_cons_zero, List.getElem?_cons_succ] at e14
  have e15 := congrArg (fun x : Array Oper => x[15]?) hops.out
  simp only [List.getElem?_toArray, List.getElem?_cons_zero, List.getElem?_cons_succ] at e15
  have e16 := congrArg (fun x : Array Oper => x[16]?) hops.out
  simp only [List.getElem?_toArray, List.getElem?_cons_zero, List.getElem?_cons_succ] at e16
  have e17 := congrArg (fun x : Array Oper => x[17]?) hops.out
  simp only [List.getElem?_toArray, List.getElem?_cons_zero, List.getElem?_cons_succ] at e17
  have e18 := congrArg (fun x : Array Oper => x[18]?) hops.out
  simp only [List.getElem?_toArray, List.getElem?_cons_zero, List.getElem?_cons_succ] at e18
  refine wpAnyH_take (i := 0) (v := .pointer (some ⟨x, 0, none⟩)) e0 (by rw [hops.out]; kernel_rfl) (by rw [hops.out]; kernel_rfl) (by rw [hops.out]; kernel_rfl) (fun c a w h => hQ c a _ _ w h) (Or.inl ⟨rfl, fun w' _ => by go_simp⟩) hHeld ?_
  (try simp only [Act.put, List.setIfInBounds_toArray, List.set_cons_zero, List.set_cons_succ])
  refine wpAnyH_take (i := 1) (v := .pointer (some ⟨x, 0, none⟩)) e1 (by rw [hops.out]; kernel_rfl) (by rw [hops.out]; kernel_rfl) (by rw [hops.out]; kernel_rfl) (fun c a w h => hQ c a _ _ w h) (Or.inl ⟨rfl, fun w' _ => by go_simp⟩) hHeld ?_
  (try simp only [Act.put, List.setIfInBounds_toArray, List.set_cons_zero, List.set_cons_succ])
  refine wpAnyH_take (i := 2) (v := .pointer (some ⟨x, 0, none⟩)) e2 (by rw [hops.out]; kernel_rfl) (by rw [hops.out]; kernel_rfl) (by rw [hops.out]; kernel_rfl) (fun c a w h => hQ c a _ _ w h) (Or.inl ⟨rfl, fun w' _ => by go_simp⟩) hHeld ?_
  (try simp only [Act.put, List.setIfInBounds_toArray, List.set_cons_zero, List.set_cons_succ])
  refine wpAnyH_take (i := 3) (v := .pointer (some ⟨x, 1, none⟩)) e3 (by rw [hops.out]; kernel_rfl) (by rw [hops.out]; kernel_rfl) (by rw [hops.out]; kernel_rfl) (fun c a w h => hQ c a _ _ w h) (Or.inl ⟨rfl, fun w' _ => by go_simp⟩) hHeld ?_
  (try simp only [Act.put, List.setIfInBounds_toArray, List.set_cons_zero, List.set_cons_succ])
  refine wpAnyH_take (i := 4) (v := .pointer (some ⟨x, 2, none⟩)) e4 (by rw [hops.out]; kernel_rfl) (by rw [hops.out]; kernel_rfl) (by rw [hops.out]; kernel_rfl) (fun c a w h => hQ c a _ _ w h) (Or.inl ⟨rfl, fun w' _ => by go_simp⟩) hHeld ?_
  (try simp only [Act.put, List.setIfInBounds_toArray, List.set_cons_zero, List.set_cons_succ])
  refine wpAnyH_take (i := 6) (v := .agg #[.slice a0 c.nargs c0, .slice am c.ms.length cm, .int .i64 st', .int .i64 c.step, .int .i64 c.cause, .int .u64 c.start]) e6 (by rw [hops.out]; kernel_rfl) (by rw [hops.out]; kernel_rfl) (by rw [hops.out]; kernel_rfl) (fun c a w h => hQ c a _ _ w h) (Or.inl ⟨rfl, fun w' hS => by obtain ⟨-, s0, s1, s2, s3, s4, s5⟩ := hS; go_simp⟩) hHeld ?_
  (try simp only [Act.put, List.setIfInBounds_toArray, List.set_cons_zero, List.set_cons_succ])
  refine wpAnyH_take (i := 7) (v := .int .i64 kind) e7 (by rw [hops.out]; kernel_rfl) (by rw [hops.out]; kernel_rfl) (by rw [hops.out]; kernel_rfl) (fun c a w h => hQ c a _ _ w h) (Or.inl ⟨rfl, fun w' _ => by go_simp⟩) hHeld ?_
  (try simp only [Act.put, List.setIfInBounds_toArray, List.set_cons_zero, List.set_cons_succ])
  refine wpAnyH_take (i := 8) (v := vv) e8 (by rw [hops.out]; kernel_rfl) (by rw [hops.out]; kernel_rfl) (by rw [hops.out]; kernel_rfl) (fun c a w h => hQ c a _ _ w h) (Or.inl ⟨rfl, fun w' _ => by go_simp⟩) hHeld ?_
  (try simp only [Act.put, List.setIfInBounds_toArray, List.set_cons_zero, List.set_cons_succ])
  refine wpAnyH_take (i := 9) (v := .pointer (some ⟨x, 0, none⟩)) e9 (by rw [hops.out]; kernel_rfl) (by rw [hops.out]; kernel_rfl) (by rw [hops.out]; kernel_rfl) (fun c a w h => hQ c a _ _ w h) (Or.inl ⟨rfl, fun w' _ => by go_simp⟩) hHeld ?_
  (try simp only [Act.put, List.setIfInBounds_toArray, List.set_cons_zero, List.set_cons_succ])
  refine wpAnyH_take (i := 10) (v := .pointer (some ⟨x, 0, none⟩)) e10 (by rw [hops.out]; kernel_rfl) (by rw [hops.out]; kernel_rfl) (by rw [hops.out]; kernel_rfl) (fun c a w h => hQ c a _ _ w h) (Or.inl ⟨rfl, fun w' _ => by go_simp⟩) hHeld ?_
  (try simp only [Act.put, List.setIfInBounds_toArray, List.set_cons_zero, List.set_cons_succ])
  refine wpAnyH_take (i := 11) (v := .pointer (some ⟨x, 3, none⟩)) e11 (by rw [hops.out]; kernel_rfl) (by rw [hops.out]; kernel_rfl) (by rw [hops.out]; kernel_rfl) (fun c a w h => hQ c a _ _ w h) (Or.inl ⟨rfl, fun w' _ => by go_simp⟩) hHeld ?_
  (try simp only [Act.put, List.setIfInBounds_toArray, List.set_cons_zero, List.set_cons_succ])
  refine wpAnyH_take (i := 12) (v := .int .u64 now) e12 (by rw [hops.out]; kernel_rfl) (by rw [hops.out]; kernel_rfl) (by rw [hops.out]; kernel_rfl) (fun c a w h => hQ c a _ _ w h) (Or.inl ⟨rfl, fun w' hS => by have hS := hS.1; go_simp⟩) hHeld ?_
  (try simp only [Act.put, List.setIfInBounds_toArray, List.set_cons_zero, List.set_cons_succ])
  refine wpAnyH_ready (rs := [5, 13]) (by rw [hops.out]; kernel_rfl) (by simp) ?_
  refine AllReadyH.cons e5 (fun K hK => ?_) ?_
  · go_simp
    refine hK.out _ _ (⟨k3, HYa.out.six⟩) (fun hHeld => ?_)
    clear hK K
    (try simp only [List.setIfInBounds_toArray, List.set_cons_zero, List.set_cons_succ])
    refine wpAnyH_ready (rs := [13]) (by rw [hops.out]; kernel_rfl) (by simp) ?_
    refine AllReadyH.cons e13 (fun K hK => ?_) AllReadyH.nil
    go_simp
    go_at_call 124
    refine (HOUT.out _ (Fr.trans D3.out.fr (by with_reducible repeat (first | exact Fr.refl _ _ | apply Fr.drew)))).mono ?_
    rintro e w4 ⟨vp, rfl, hown, F4⟩
    obtain ⟨ap, cp, hvp⟩ := ownsFormD hown
    subst hvp
    have D4 := (D3.out.fr0 (Fr.trans (by with_reducible repeat (first | exact Fr.refl _ _ | apply Fr.drew)) F4)).addBox (.inl rfl) (F4.keep HYa.out (by simp))
    obtain ⟨-, -, k42, -, -, f42⟩ := D4.cells
    go_wp2_with fail
    have S4 := six (D4.box _ (List.mem_cons_self ..)).2
    refine hK.out _ _ (⟨D4.dc.x3, S4⟩) (fun hHeld => ?_)
    clear hK K
    (try simp only [List.setIfInBounds_toArray, List.set_cons_zero, List.set_cons_succ])
    refine wpAnyH_ready (rs := [14]) (by rw [hops.out]; kernel_rfl) (by simp) ?_
    refine AllReadyH.cons e14 (fun K hK => ?_) AllReadyH.nil
    refine step_app rfl (.tmp 18) (.tmp 26) 43 rfl w0.heap.size 87 i0 _ 5 40 Tryz.underlying43 hi hz0 hz1 hz2 rfl (by decide) (.slice ao2 σ.ou.length cap2) σ.ou.length _ rfl D4.outs _ LO.length _ rfl (Ous.of_owns hown).src (by unfold maxLen; omega) (by omega) (by have := D4.fr.size; omega) ?_
    intro v8 w8 hown8 hg8
    obtain ⟨a8, c8, h8⟩ := ownsFormD hown8
    subst h8
    have D8 := D4.setOuts (os' := σ.ou ++ LO) hg8 (by simpa using hown8)
    have hb8 := (D4.grown D4.outs hg8 (by decide) (by decide)).2.2.2
    have b82 : w8.cell? ⟨x, 2, none⟩ = some (.slice ao2 σ.ou.length cap2) := (cell_of_block hb8 2).trans rfl
    have b83 : w8.cell? ⟨x, 3, none⟩ = some (.int .u64 now) := (cell_of_block hb8 3).trans rfl
    have g82 := free_of_block hb8 2
    clear hb8
    have hb8y := grown_keepD hg8 (D4.box _ (List.mem_cons_self ..)).2 (owns_neD D4.outs (D4.box _ (List.mem_cons_self ..)).2 (show (87 : TypeId) ≠ 134 by decide))
    refine hK.out _ _ (⟨b83, six hb8y⟩) (fun hHeld => ?_)
    clear hK K
    (try simp only [Act.put, List.setIfInBounds_toArray, List.set_cons_zero, List.set_cons_succ])
    refine wpAnyH_take (i := 15) (v := .pointer (some ⟨x, 0, none⟩)) e15 (by rw [hops.out]; kernel_rfl) (by rw [hops.out]; kernel_rfl) (by rw [hops.out]; kernel_rfl) (fun c a w h => hQ c a _ _ w h) (Or.inl ⟨rfl, fun w' _ => by go_simp⟩) hHeld ?_
    (try simp only [Act.put, List.setIfInBounds_toArray, List.set_cons_zero, List.set_cons_succ])
    refine wpAnyH_take (i := 16) (v := .pointer (some ⟨x, 1, none⟩)) e16 (by rw [hops.out]; kernel_rfl) (by rw [hops.out]; kernel_rfl) (by rw [hops.out]; kernel_rfl) (fun c a w h => hQ c a _ _ w h) (Or.inl ⟨rfl, fun w' _ => by go_simp⟩) hHeld ?_
    (try simp only [Act.put, List.setIfInBounds_toArray, List.set_cons_zero, List.set_cons_succ])
    refine wpAnyH_take (i := 17) (v := .pointer (some ⟨x, 2, none⟩)) e17 (by rw [hops.out]; kernel_rfl) (by rw [hops.out]; kernel_rfl) (by rw [hops.out]; kernel_rfl) (fun c a w h => hQ c a _ _ w h) (Or.inl ⟨rfl, fun w' _ => by go_simp⟩) hHeld ?_
    (try simp only [Act.put, List.setIfInBounds_toArray, List.set_cons_zero, List.set_cons_succ])
    refine wpAnyH_ready (rs := [18]) (by rw [hops.out]; kernel_rfl) (by simp) ?_
    refine AllReadyH.cons e18 (fun K hK => ?_) AllReadyH.nil
    go_simp
    refine hK.out _ _ (⟨D8.dc.x3, six (D8.box _ (List.mem_cons_self ..)).2⟩) (fun hHeld => ?_)
    clear hK K
    (try simp only [List.setIfInBounds_toArray, List.set_cons_zero, List.set_cons_succ])
    refine wpAnyH_done (by rw [hops.out]; kernel_rfl) (hQn.out _ _ ?_) _
    clear hQn hQ hops e0 e1 e2 e3 e4 e5 e6 e7 e8 e9 e10 e11 e12 e13 e14 e15 e16 e17 e18
    have HD8 := Lib.hid D8
    have HY8 : YB w.heap.size a0 c.nargs c0 am c.ms.length cm st' c.step c.cause c.start (w8.setCell ⟨x, 2, none⟩ (.slice a8 (σ.ou.length + LO.length) c8)) := (D8.box _ (List.mem_cons_self ..)).2
    obtain ⟨y0, y1, y2, y3, y4, y5⟩ := HY8.six
    have k80 := D8.dc.x0
    have HKP := Lib.hid (fun (w' : World) (F : Fr [] (w8.setCell ⟨x, 2, none⟩ (.slice a8 (σ.ou.length + LO.length) c8)) w') => keep_spec (D8.fr0 F) HVC.out hmc)
    have q8 := (D8.fr0 ((Fr.refl [] _).drew)).dc.x0
    have q6 := six ((D8.fr0 ((Fr.refl [] _).drew)).box _ (List.mem_cons_self ..)).2
    clear D8 D4 hown8 hown hg8 HOUT D3 HYa hlen F4 k42 f42 b82 b83 g82 HY8 k0 k2 k3 f2
    generalize (w8.setCell ⟨x, 2, none⟩ (.slice a8 (σ.ou.length + LO.length) c8)) = w9 at *
    go_wp2_with fail
    go_region_held3 (fun w' => w'.cell? ⟨x, 0, none⟩ = some (.pointer (some ⟨A.d, 0, none⟩)) ∧ w'.cell? ⟨w.heap.size, 0, none⟩ = some (.slice a0 c.nargs c0) ∧ w'.cell? ⟨w.heap.size, 1, none⟩ = some (.slice am c.ms.length cm) ∧ w'.cell? ⟨w.heap.size, 2, none⟩ = some (.int .i64 st') ∧ w'.cell? ⟨w.heap.size, 3, none⟩ = some (.int .i64 c.step) ∧ w'.cell? ⟨w.heap.size, 4, none⟩ = some (.int .i64 c.cause) ∧ w'.cell? ⟨w.heap.size, 5, none⟩ = some (.int .u64 c.start))
      (first | exact ⟨q8, q6⟩ | exact ⟨D10.dc.x0, six (D10.box _ (List.mem_cons_self ..)).2⟩)
      (first | (go_at_call 58; refine (HKP.out _ (by with_reducible repeat (first | exact Fr.refl _ _ | apply Fr.drew))).mono ?_; rintro e w10 ⟨rfl, va10, vo10, D10⟩))
    have HD10 := Lib.hid D10.dropBox
    clear D10
    go_wp2_with fail
    go_end0
    exact DeedR.mk HD10.out
  refine AllReadyH.cons e13 (fun K hK => ?_) AllReadyH.nil
  go_simp
  go_at_call 124
  refine (HOUT.out _ (Fr.trans D3.out.fr (by with_reducible repeat (first | exact Fr.refl _ _ | apply Fr.drew)))).mono ?_
  rintro e w4 ⟨vp, rfl, hown, F4⟩
  obtain ⟨ap, cp, hvp⟩ := ownsFormD hown
  subst hvp
  have D4 := (D3.out.fr0 (Fr.trans (by with_reducible repeat (first | exact Fr.refl _ _ | apply Fr.drew)) F4)).addBox (.inl rfl) (F4.keep HYa.out (by simp))
  obtain ⟨-, -, k42, -, -, f42⟩ := D4.cells
  go_wp2_with fail
  have S4 := six (D4.box _ (List.mem_cons_self ..)).2
  refine hK.out _ _ (⟨D4.dc.x3, S4⟩) (fun hHeld => ?_)
  clear hK K
  (try simp only [List.setIfInBounds_toArray, List.set_cons_zero, List.set_cons_succ])
  refine wpAnyH_ready (rs := [5]) (by rw [hops.out]; kernel_rfl) (by simp) ?_
  refine AllReadyH.cons e5 (fun K hK => ?_) AllReadyH.nil
  go_simp
  refine hK.out _ _ (⟨D4.dc.x3, S4⟩) (fun hHeld => ?_)
  clear hK K
  (try simp only [List.setIfInBounds_toArray, List.set_cons_zero, List.set_cons_succ])
  refine wpAnyH_ready (rs := [14]) (by rw [hops.out]; kernel_rfl) (by simp) ?_
  refine AllReadyH.cons e14 (fun K hK => ?_) AllReadyH.nil
  refine step_app rfl (.tmp 18) (.tmp 26) 43 rfl w0.heap.size 87 i0 _ 5 40 Tryz.underlying43 hi hz0 hz1 hz2 rfl (by decide) (.slice ao2 σ.ou.length cap2) σ.ou.length _ rfl D4.outs _ LO.length _ rfl (Ous.of_owns hown).src (by unfold maxLen; omega) (by omega) (by have := D4.fr.size; omega) ?_
  intro v8 w8 hown8 hg8
  obtain ⟨a8, c8, h8⟩ := ownsFormD hown8
  subst h8
  have D8 := D4.setOuts (os' := σ.ou ++ LO) hg8 (by simpa using hown8)
  have hb8 := (D4.grown D4.outs hg8 (by decide) (by decide)).2.2.2
  have b82 : w8.cell? ⟨x, 2, none⟩ = some (.slice ao2 σ.ou.length cap2) := (cell_of_block hb8 2).trans rfl
  have b83 : w8.cell? ⟨x, 3, none⟩ = some (.int .u64 now) := (cell_of_block hb8 3).trans rfl
  have g82 := free_of_block hb8 2
  clear hb8
  have hb8y := grown_keepD hg8 (D4.box _ (List.mem_cons_self ..)).2 (owns_neD D4.outs (D4.box _ (List.mem_cons_self ..)).2 (show (87 : TypeId) ≠ 134 by decide))
  refine hK.out _ _ (⟨b83, six hb8y⟩) (fun hHeld => ?_)
  clear hK K
  (try simp only [Act.put, List.setIfInBounds_toArray, List.set_cons_zero, List.set_cons_succ])
  refine wpAnyH_take (i := 15) (v := .pointer (some ⟨x, 0, none⟩)) e15 (by rw [hops.out]; kernel_rfl) (by rw [hops.out]; kernel_rfl) (by rw [hops.out]; kernel_rfl) (fun c a w h => hQ c a _ _ w h) (Or.inl ⟨rfl, fun w' _ => by go_simp⟩) hHeld ?_
  (try simp only [Act.put, List.setIfInBounds_toArray, List.set_cons_zero, List.set_cons_succ])
  refine wpAnyH_take (i := 16) (v := .pointer (some ⟨x, 1, none⟩)) e16 (by rw [hops.out]; kernel_rfl) (by rw [hops.out]; kernel_rfl) (by rw [hops.out]; kernel_rfl) (fun c a w h => hQ c a _ _ w h) (Or.inl ⟨rfl, fun w' _ => by go_simp⟩) hHeld ?_
  (try simp only [Act.put, List.setIfInBounds_toArray, List.set_cons_zero, List.set_cons_succ])
  refine wpAnyH_take (i := 17) (v := .pointer (some ⟨x, 2, none⟩)) e17 (by rw [hops.out]; kernel_rfl) (by rw [hops.out]; kernel_rfl) (by rw [hops.out]; kernel_rfl) (fun c a w h => hQ c a _ _ w h) (Or.inl ⟨rfl, fun w' _ => by go_simp⟩) hHeld ?_
  (try simp only [Act.put, List.setIfInBounds_toArray, List.set_cons_zero, List.set_cons_succ])
  refine wpAnyH_ready (rs := [18]) (by rw [hops.out]; kernel_rfl) (by simp) ?_
  refine AllReadyH.cons e18 (fun K hK => ?_) AllReadyH.nil
  go_simp
  refine hK.out _ _ (⟨D8.dc.x3, six (D8.box _ (List.mem_cons_self ..)).2⟩) (fun hHeld => ?_)
  clear hK K
  (try simp only [List.setIfInBounds_toArray, List.set_cons_zero, List.set_cons_succ])
  refine wpAnyH_done (by rw [hops.out]; kernel_rfl) (hQn.out _ _ ?_) _
  clear hQn hQ hops e0 e1 e2 e3 e4 e5 e6 e7 e8 e9 e10 e11 e12 e13 e14 e15 e16 e17 e18
  have HD8 := Lib.hid D8
  have HY8 : YB w.heap.size a0 c.nargs c0 am c.ms.length cm st' c.step c.cause c.start (w8.setCell ⟨x, 2, none⟩ (.slice a8 (σ.ou.length + LO.length) c8)) := (D8.box _ (List.mem_cons_self ..)).2
  obtain ⟨y0, y1, y2, y3, y4, y5⟩ := HY8.six
  have k80 := D8.dc.x0
  have HKP := Lib.hid (fun (w' : World) (F : Fr [] (w8.setCell ⟨x, 2, none⟩ (.slice a8 (σ.ou.length + LO.length) c8)) w') => keep_spec (D8.fr0 F) HVC.out hmc)
  have q8 := (D8.fr0 ((Fr.refl [] _).drew)).dc.x0
  have q6 := six ((D8.fr0 ((Fr.refl [] _).drew)).box _ (List.mem_cons_self ..)).2
  clear D8 D4 hown8 hown hg8 HOUT D3 HYa hlen F4 k42 f42 b82 b83 g82 HY8 k0 k2 k3 f2
  generalize (w8.setCell ⟨x, 2, none⟩ (.slice a8 (σ.ou.length + LO.length) c8)) = w9 at *
  go_wp2_with fail
  go_region_held3 (fun w' => w'.cell? ⟨x, 0, none⟩ = some (.pointer (some ⟨A.d, 0, none⟩)) ∧ w'.cell? ⟨w.heap.size, 0, none⟩ = some (.slice a0 c.nargs c0) ∧ w'.cell? ⟨w.heap.size, 1, none⟩ = some (.slice am c.ms.length cm) ∧ w'.cell? ⟨w.heap.size, 2, none⟩ = some (.int .i64 st') ∧ w'.cell? ⟨w.heap.size, 3, none⟩ = some (.int .i64 c.step) ∧ w'.cell? ⟨w.heap.size, 4, none⟩ = some (.int .i64 c.cause) ∧ w'.cell? ⟨w.heap.size, 5, none⟩ = some (.int .u64 c.start))
    (first | exact ⟨q8, q6⟩ | exact ⟨D10.dc.x0, six (D10.box _ (List.mem_cons_self ..)).2⟩)
    (first | (go_at_call 58; refine (HKP.out _ (by with_reducible repeat (first | exact Fr.refl _ _ | apply Fr.drew))).mono ?_; rintro e w10 ⟨rfl, va10, vo10, D10⟩))
  have HD10 := Lib.hid D10.dropBox
  clear D10
  go_wp2_with fail
  go_end0
  exact DeedR.mk HD10.out
end Go.Proofs.YtcnkhjgpjchkeaaGreat

namespace Go.Proofs.YtcnkhjgpjchkeaaGreat
open Go.RowKit

theorem block6_store {w : World} {y : Nat} {u0 u1 u2 u3 u4 u5 : Value} {E : TypeId} (h : w.heap[y]? = some (.cells #[u0, u1, u2, u3, u4, u5] E (0, 0))) (v0 v1 v2 v3 v4 v5 : Value) :
    ((((((w.setCell ⟨y, 0, none⟩ v0).setCell ⟨y, 1, none⟩ v1).setCell ⟨y, 2, none⟩ v2).setCell ⟨y, 3, none⟩ v3).setCell ⟨y, 4, none⟩ v4).setCell ⟨y, 5, none⟩ v5).heap[y]? = some (.cells #[v0, v1, v2, v3, v4, v5] E (0, 0))
    ∧ Fr [y] w ((((((w.setCell ⟨y, 0, none⟩ v0).setCell ⟨y, 1, none⟩ v1).setCell ⟨y, 2, none⟩ v2).setCell ⟨y, 3, none⟩ v3).setCell ⟨y, 4, none⟩ v4).setCell ⟨y, 5, none⟩ v5) :=
  ⟨block_setCell (block_setCell (block_setCell (block_setCell (block_setCell (block_setCell h 0 _) 1 _) 2 _) 3 _) 4 _) 5 _,
   ((((((Fr.refl [y] w).setCell (p := ⟨y, 0, none⟩) (.inl (by simp)) _).setCell (p := ⟨y, 1, none⟩) (.inl (by simp)) _).setCell (p := ⟨y, 2, none⟩) (.inl (by simp)) _).setCell (p := ⟨y, 3, none⟩) (.inl (by simp)) _).setCell (p := ⟨y, 4, none⟩) (.inl (by simp)) _).setCell (p := ⟨y, 5, none⟩) (.inl (by simp)) _⟩
/-- A call of nothing: what the map tells of what it doesn't hold. -/
def CallM.zero : CallM := ⟨0, [], 0, 0, 0, 0⟩
/-- The calls may be. -/
def DepM.ok (M : DepM) : Prop := ∀ p ∈ M.calls, p.2.ms.length ≤ 1000000 ∧ 0 ≤ p.2.step ∧ p.2.step ≤ 3
def DepM.call (M : DepM) (id : Int) : CallM := (alook M.calls id).getD .zero
/-- A call runs, if it waited. -/
def DepM.runs (M : DepM) (ids : List Int) : DepM := ids.foldl (fun M id => M.keep (M.call id).run) M
theorem alook_mem {β : Type} {l : List (Int × β)} {a : Int} {v : β} (h : alook l a = some v) : (a, v) ∈ l := by
  unfold alook at h
  cases hf : l.find? fun p => decide (p.1 = a) with
  | none => rw [hf] at h; cases h
  | some p =>
    rw [hf] at h
    simp only [Option.map_some, Option.some.injEq] at h
    subst h
    have h1 := List.find?_some hf
    have h2 := List.mem_of_find?_eq_some hf
    simp only [decide_eq_true_eq] at h1
    rw [← h1]; exact h2
theorem DepM.ok.call {M : DepM} (h : M.ok) (id : Int) : (M.call id).ms.length ≤ 1000000 ∧ 0 ≤ (M.call id).step ∧ (M.call id).step ≤ 3 := by
  unfold DepM.call
  cases hl : alook M.calls id with
  | none => decide
  | some c => exact h _ (alook_mem hl)
theorem CallM.run_same (c : CallM) : c.run.nargs = c.nargs ∧ c.run.ms = c.ms ∧ c.run.step = c.step ∧ c.run.cause = c.cause ∧ c.run.start = c.start ∧ c.run.st = if c.st = 1 then 2 else c.st := by
  unfold CallM.run
  by_cases h : c.st = 1
  · rw [if_pos h, if_pos h]; exact ⟨rfl, rfl, rfl, rfl, rfl, rfl⟩
  · rw [if_neg h, if_neg h]; exact ⟨rfl, rfl, rfl, rfl, rfl, rfl⟩
theorem mem_aput {β : Type} {l : List (Int × β)} {a : Int} {v : β} {p : Int × β} (h : p ∈ aput l a v) : p = (a, v) ∨ p ∈ l := by
  unfold aput at h
  split at h
  · obtain ⟨q, hq, e⟩ := List.mem_map.1 h
    split at e
    · exact .inl e.symm
    · exact .inr (e ▸ hq)
  · rcases List.mem_append.1 h with h | h
    · exact .inr h
    · exact .inl (by simpa using h)
theorem mem_adel {β : Type} {l : List (Int × β)} {a : Int} {p : Int × β} (h : p ∈ adel l a) : p ∈ l ∧ p.1 ≠ a := by
  unfold adel at h; rw [List.mem_filter] at h; simpa using h
theorem DepM.keep_k (M : DepM) (c : CallM) : (M.keep c).k = M.k := by unfold DepM.keep; split <;> rfl
theorem DepM.keep_calls (M : DepM) (c : CallM) : ∀ p ∈ (M.keep c).calls, p = (c.lead, c) ∨ p ∈ M.calls := by
  intro p hp
  unfold DepM.keep at hp
  split at hp
  · exact mem_aput (mem_adel hp).1
  · exact mem_aput hp
theorem DepM.ok.keep {M : DepM} (h : M.ok) {c : CallM} (hc : c.ms.length ≤ 1000000 ∧ 0 ≤ c.step ∧ c.step ≤ 3) : (M.keep c).ok := by
  intro p hp
  rcases M.keep_calls c p hp with rfl | hp
  · exact hc
  · exact h p hp
theorem DepM.ok.runOne {M : DepM} (h : M.ok) (id : Int) : (M.keep (M.call id).run).ok := by
  obtain ⟨-, e2, e3, -⟩ := (M.call id).run_same
  refine h.keep ?_
  rw [e2, e3]; exact h.call id
theorem DepM.ok.runs {M : DepM} (h : M.ok) (ids : List Int) : (M.runs ids).ok := by
  unfold DepM.runs
  induction ids generalizing M with
  | nil => exact h
  | cons x xs ih => exact ih (h.runOne x)
theorem DepM.runs_snoc (M : DepM) {ids : List Int} {i : Nat} (h : i < ids.length) : M.runs (ids.take (i + 1)) = (M.runs (ids.take i)).keep ((M.runs (ids.take i)).call (ids.getD i 0)).run := by
  unfold DepM.runs
  rw [take_snocD 0 h, List.foldl_append]; rfl
theorem zeroCall (w : World) : (zeroValue 134).run Tryz.prog w = .ok (.agg #[.slice none 0 0, .slice none 0 0, .int .i64 0, .int .i64 0, .int .i64 0, .int .u64 0]) w := by kernel_rfl
theorem CallV.zero (w : World) : CallV w (.agg #[.slice none 0 0, .slice none 0 0, .int .i64 0, .int .i64 0, .int .i64 0, .int .u64 0]) .zero :=
  ⟨_, _, rfl, ⟨none, 0, rfl⟩, ⟨none, 0, rfl, Nat.le_refl _, fun i hi => by simp [CallM.zero] at hi⟩⟩
/-- What the calls' map tells. -/
theorem DeedV.lookup {bs : Bx} {w0 w : World} {x : Nat} {A : DepA} {now : Nat} {σ : DS} {va vo : Value} (D : DeedV bs w0 w x A now σ va vo) (id : Int) (ok : Bool) :
    ∃ v, CallV w0 v (σ.M.call id) ∧ (Instr.lookup 108 (.map (some A.cm)) (.int .i64 id) ok).run Tryz.prog w = .ok (if ok then .tuple #[v, .bool (alook σ.M.calls id).isSome] else v) w := by
  obtain ⟨vs, h1, h2⟩ := D.calls
  have := run_look (keyOk_int (P := Tryz.prog) Tryz.underlying3) Tryz.underlying108 zeroCall h1 id ok
  simp only [encI] at this
  unfold DepM.call
  rcases h2.look id with ⟨e1, e2⟩ | ⟨v, c, e1, e2, e3⟩
  · rw [e2] at this; rw [e1]
    exact ⟨_, CallV.zero w0, this⟩
  · rw [e2] at this; rw [e1]
    exact ⟨v, e3, this⟩
/-- A slice of ints, in a box beside the deed. -/
def IdsIn (bs : Bx) (v : Value) (ids : List Int) : Prop :=
  (∃ ao cap, v = .slice ao ids.length cap) ∧ ∀ j, j < ids.length → ∃ g o cap cs, v = .slice (some ⟨g, o, none⟩) ids.length cap ∧ (g, cs, 3) ∈ bs ∧ cs[o + j]? = some (.int .i64 (ids.getD j 0))
end Go.Proofs.YtcnkhjgpjchkeaaGreat

namespace Go.Proofs.YtcnkhjgpjchkeaaGreat
open Go.RowKit

set_option maxHeartbeats 8000000 in
set_option maxRecDepth 20000 in
theorem runs_spec {bs : Bx} {w0 w : World} {x : Nat} {A : DepA} {now : Nat} {σ : DS} {va vo : Value} (D : DeedV bs w0 w x A now σ va vo) (hok : σ.M.ok) {v : Value} {ids : List Int} (hv : IdsIn bs v ids) (hl : ids.length ≤ 1000000) :
    Calls Tryz.prog 82 #[.pointer (some ⟨x, 0, none⟩), v] w (DeedR bs w0 x A now { σ with M := σ.M.runs ids }) := by
  have HD := Lib.hid D
  obtain ⟨⟨ao, cap, rfl⟩, hcell⟩ := hv
  have HC := Lib.hid hcell
  have HOK := Lib.hid hok
  clear D hcell hok
  go_enter Tryz.func82, Tryz.ntmps82
  go_wp2_with fail
  go_loopw [10] (fun i wr => ∃ (n : Nat) (va' vo' : Value), n ≤ ids.length ∧ i = .int .i64 n ∧ Hid (DeedV bs w0 wr x A now { σ with M := σ.M.runs (ids.take n) } va' vo')) (fun i _ => ids.length - (intOf i).toNat)
  case atStart => exact ⟨0, va, vo, Nat.zero_le _, rfl, HD⟩
  case round =>
    obtain ⟨n, va', vo', hn, rfl, HR⟩ := hrel
    by_cases hlt : n < ids.length
    · obtain ⟨g, o, cap', cs, e, hm, hcs⟩ := HC.out n hlt
      simp only [Value.slice.injEq] at e
      obtain ⟨rfl, -, rfl⟩ := e
      have hc0 : wr.cell? ⟨g, o + n, none⟩ = some (.int .i64 (ids.getD n 0)) := (cell_of_block (HR.out.box _ hm).2 _).trans hcs
      have k0 := HR.out.dc.x0
      have kd := HR.out.dc.d21
      have HS := Lib.hid (DepM.runs_snoc σ.M hlt)
      have HCO := Lib.hid ((HOK.out.runs (ids.take n)).call (ids.getD n 0))
      obtain ⟨vc, hvc, hlk⟩ := HR.out.lookup (ids.getD n 0) false
      simp only [Bool.false_eq_true, if_false] at hlk
      generalize hid : ids.getD n 0 = id at *
      have HVC := Lib.hid hvc
      obtain ⟨va1, vm1, rfl, ⟨a0, c0, rfl⟩, hms⟩ := hvc
      obtain ⟨am, cm, rfl, -, -⟩ := hms
      simp only at hlk HVC
      generalize hc : (σ.M.runs (ids.take n)).call id = c at *
      have HRU := Lib.hid (fun w' => run_spec w' a0 c.nargs c0 am c.ms.length cm c.st c.step c.cause c.start)
      obtain ⟨n1, n2, n3, n4, n5, n6⟩ := c.run_same
      rw [← n6] at HRU
      have HVT := Lib.hid (HVC.out.turn n1 n2 n5)
      rw [n3, n4] at HVT
      have hmc : c.run.ms.length ≤ 1000000000 := by rw [n2]; have := HCO.out.1; omega
      have hxl := lt_of_block HR.out.blk
      clear n1 n2 n3 n4 n5 n6 hc hid hm hcs
      generalize c.run.st = st' at *
      go_wp2_with fail
      refine (HRU.out _).mono ?_
      rintro e w2 ⟨rfl, F2⟩
      have hz : (zeroValue 134).run Tryz.prog w2 = .ok (.agg #[.slice none 0 0, .slice none 0 0, .int .i64 0, .int .i64 0, .int .i64 0, .int .u64 0]) w2 := zeroCall w2
      have HYa := Lib.hid (block_alloc_new w2 (.cells #[.slice a0 c.nargs c0, .slice am c.ms.length cm, .int .i64 st', .int .i64 c.step, .int .i64 c.cause, .int .u64 c.start] 134))
      have D3 := Lib.hid (HR.out.fr0 (F2.alloc (.cells #[.slice a0 c.nargs c0, .slice am c.ms.length cm, .int .i64 st', .int .i64 c.step, .int .i64 c.cause, .int .u64 c.start] 134)))
      clear F2 hlk k0 kd hc0
      go_wp2_with fail
      generalize (w2.alloc (.cells #[.slice a0 c.nargs c0, .slice am c.ms.length cm, .int .i64 st', .int .i64 c.step, .int .i64 c.cause, .int .u64 c.start] 134)) = w3 at *
      obtain ⟨y0, y1, y2, y3, y4, y5⟩ := six HYa.out
      have k0 := D3.out.dc.x0
      have HKP := Lib.hid (fun (w' : World) (F : Fr [] w3 w') => keep_spec ((D3.out.addBox (.inl rfl) HYa.out).fr0 F) HVT.out hmc)
      have q6 := six (((D3.out.addBox (.inl rfl) HYa.out).fr0 (Fr.refl [] w3).drew).box _ (List.mem_cons_self ..)).2
      have q3 := (D3.out.fr0 (Fr.refl [] w3).drew).dc.x0
      go_region_held3 (fun w' => w'.cell? ⟨x, 0, none⟩ = some (.pointer (some ⟨A.d, 0, none⟩)) ∧ w'.cell? ⟨w2.heap.size, 0, none⟩ = some (.slice a0 c.nargs c0) ∧ w'.cell? ⟨w2.heap.size, 1, none⟩ = some (.slice am c.ms.length cm) ∧ w'.cell? ⟨w2.heap.size, 2, none⟩ = some (.int .i64 st') ∧ w'.cell? ⟨w2.heap.size, 3, none⟩ = some (.int .i64 c.step) ∧ w'.cell? ⟨w2.heap.size, 4, none⟩ = some (.int .i64 c.cause) ∧ w'.cell? ⟨w2.heap.size, 5, none⟩ = some (.int .u64 c.start))
        (first | exact ⟨q3, q6⟩ | exact ⟨D10.dc.x0, six (D10.box _ (List.mem_cons_self ..)).2⟩)
        (first | (go_at_call 58; refine (HKP.out _ (by with_reducible repeat (first | exact Fr.refl _ _ | apply Fr.drew))).mono ?_; rintro e w10 ⟨rfl, va10, vo10, D10⟩))
      have HD10 : Hid (DeedV bs w0 w10 x A now { σ with M := σ.M.runs (ids.take (n + 1)) } va10 vo10) := Lib.hid (by rw [HS.out]; exact D10.dropBox)
      clear D10
      go_wp2_with fail
      go_roundw
      case rel => exact ⟨n + 1, va10, vo10, by omega, by go_num, HD10⟩
      case measure => simp [intOf]; omega
    · obtain rfl : n = ids.length := by omega
      have HR2 := HR
      rw [List.take_length] at HR2
      go_wp2_with fail
      go_end0
      exact DeedR.mk HR2.out
end Go.Proofs.YtcnkhjgpjchkeaaGreat
