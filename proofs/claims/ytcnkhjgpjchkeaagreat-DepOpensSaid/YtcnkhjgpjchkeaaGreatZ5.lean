/-
  Words, and contracts of functions of the program and of the document, for this seat's claims: each is a lemma on the way; conditions stand in each lemma.
-/
import Derived.Test.YtcnkhjgpjchkeaaGreatZ4
namespace Go.Proofs.YtcnkhjgpjchkeaaGreat
open Go.RowKit

def T40 : Int := 1099511627776
def CF.lo (k : CF) (i : Nat) : Int := [1, wh (k.mode == 1) 1, wh (k.mode == 1) 0, wh (k.mode == 2) 1, 0, 0, 1, 1, 1, 0, 0, 1, 1, 0, wh (decide (0 < k.wd)) 1, 0].getD i 0
def CF.hi (k : CF) (i : Nat) : Int := [2, wh (k.mode == 1) 8, wh (k.mode == 1) 8, wh (k.mode == 2) 8, 4, 3, T40, T40, 1000, 100, T40, 8, T40, T40, wh (decide (0 < k.wd)) 4, 2].getD i 0
def CF.num (k : CF) (i : Nat) : Int := [k.mode, k.pool, k.queue, k.sem, k.fb, k.ch, wrap64 k.t, wrap64 k.ft, k.vo, k.pe, wrap64 k.sl, k.bu, wrap64 k.wi, wrap64 k.wd, k.ba, k.fo].getD i 0
/-- The configuration may be. -/
def CF.fine (k : CF) : Bool := (List.range 16).all fun i => decide (k.lo i ≤ k.num i ∧ k.num i ≤ k.hi i)
theorem CF.fine_of {k : CF} (h : ∀ j, j < 16 → k.lo j ≤ k.num j ∧ k.num j ≤ k.hi j) : k.fine = true := by
  rw [CF.fine, List.all_eq_true]
  intro i hi
  exact decide_eq_true (h i (List.mem_range.1 hi))
theorem CF.fine_not {k : CF} {i : Nat} (hi : i < 16) (h : k.num i < k.lo i ∨ k.hi i < k.num i) : k.fine = false := by
  rw [CF.fine, List.all_eq_false]
  exact ⟨i, List.mem_range.2 hi, by simp; omega⟩
def CheckR (k : CF) (w : World) (e : Ending) (w' : World) : Prop := ∃ n, e = .returned (.tuple #[.int .i64 n, .int .i64 (if k.fine then 0 else 1)]) ∧ Fr [] w w'
theorem CheckR.mk {k : CF} {w w' : World} {e : Ending} (n x : Int) (he : e = .returned (.tuple #[.int .i64 n, .int .i64 x])) (hx : (if k.fine then 0 else 1) = x) (hF : Fr [] w w') : CheckR k w e w' := ⟨n, by rw [hx]; exact he, hF⟩

set_option maxHeartbeats 4000000 in
set_option maxRecDepth 20000 in
theorem may_at (w : World) (k : CF) (V : Array Value) (hV : V = mayV (k.mode == 1) (k.mode == 2) (decide (0 < k.wd))) (i : Nat) (hi : i < 16) :
    (Instr.index 164 (.agg V) (.int .i64 i)).run Tryz.prog w = .ok (.agg #[.int .i64 (k.lo i), .int .i64 (k.hi i)]) w := by
  subst hV
  rcases i with _ | _ | _ | _ | _ | _ | _ | _ | _ | _ | _ | _ | _ | _ | _ | _ | i
  all_goals first | omega | kernel_rfl
theorem put_at (k : CF) (i : Nat) (hi : i < 16) : k.put[i]? = some (.int .i64 (k.num i)) := by
  rcases i with _ | _ | _ | _ | _ | _ | _ | _ | _ | _ | _ | _ | _ | _ | _ | _ | i
  all_goals first | omega | rfl

set_option maxHeartbeats 4000000 in
set_option maxRecDepth 20000 in
theorem check_spec (w : World) (k : CF) : Calls Tryz.prog 29 #[k.val] w (CheckR k w) := by
  have HP := Lib.hid (fun w' => put_spec w' k)
  have HM := Lib.hid (fun w' => may_spec w' k _ _ _ rfl rfl rfl)
  have HX := Lib.hid (fun w' i hi => may_at w' k _ rfl i hi)
  have HPA := Lib.hid (put_at k)
  have HFI := Lib.hid (fun h => CF.fine_of (k := k) h)
  have HFN := Lib.hid (fun i hi h => CF.fine_not (k := k) (i := i) hi h)
  have hps : k.put.size = 16 := rfl
  have hon : ∀ v ∈ k.put.toList, v.oneCell' = true := by
    intro v hv
    obtain ⟨i, h1, h2⟩ := List.getElem_of_mem hv
    have h3 := put_at k i (by simpa [hps] using h1)
    rw [← Array.getElem?_toList, List.getElem?_eq_getElem h1, h2] at h3
    cases h3; rfl
  generalize mayV (k.mode == 1) (k.mode == 2) (decide (0 < k.wd)) = V at *
  generalize k.put = P at *
  have HON := Lib.hid hon
  have HPS := Lib.hid hps
  clear hon hps
  go_enter Tryz.func29, Tryz.ntmps29
  go_wp2_with fail
  refine (HP.out _).mono ?_
  rintro e w1 ⟨rfl, F⟩
  have z0 : FCells (w1.alloc (.cells #[.int .i64 0, .int .i64 0, .int .i64 0, .int .i64 0, .int .i64 0, .int .i64 0, .int .i64 0, .int .i64 0, .int .i64 0, .int .i64 0, .int .i64 0, .int .i64 0, .int .i64 0, .int .i64 0, .int .i64 0, .int .i64 0] 160)) w1.heap.size 160 16 (fun _ => .int .i64 0) := FCells.of_arr (block_alloc_new _ _)
  obtain ⟨w2, hs, C2, F2⟩ := z0.run_store (P := Tryz.prog) 0 P.toList (by simp [HPS.out]) HON.out
  have HC2 := Lib.hid (C2.congr (g := fun j => .int .i64 (k.num j)) (fun j hj => by
    rw [if_pos (by simp [HPS.out, hj]), Nat.sub_zero, List.getD, Array.getElem?_toList, HPA.out j hj]; rfl))
  have hsz : w.heap.size < w1.heap.size := by have := F.size; simp at this; omega
  have HF2 := Lib.hid ((((Fr.refl [] w).alloc _).trans F).alloc _ |>.trans' F2 (by simp; omega))
  have cs : w2.heap[w.heap.size]? = some (.cells #[.int .i64 k.mode, .int .i64 k.pool, .int .i64 k.queue, .int .i64 k.sem, .int .i64 k.fb, .int .i64 k.ch, .int .u64 k.t, .int .u64 k.ft, .int .i64 k.vo, .int .i64 k.pe, .int .u64 k.sl, .int .i64 k.bu, .int .u64 k.wi, .int .u64 k.wd, .int .i64 k.ba, .int .i64 k.fo] 24 (0, 0)) := F2.keep (block_alloc (F.keep (block_alloc_new _ _) (by simp)) _) (by simp; omega)
  have hb := F2.size
  have c0 : w2.cell? ⟨w.heap.size, 0, none⟩ = some (.int .i64 k.mode) := by rw [cell_of_block cs]; rfl
  have c1 : w2.cell? ⟨w.heap.size, 1, none⟩ = some (.int .i64 k.pool) := by rw [cell_of_block cs]; rfl
  have c2 : w2.cell? ⟨w.heap.size, 2, none⟩ = some (.int .i64 k.queue) := by rw [cell_of_block cs]; rfl
  have c3 : w2.cell? ⟨w.heap.size, 3, none⟩ = some (.int .i64 k.sem) := by rw [cell_of_block cs]; rfl
  have c4 : w2.cell? ⟨w.heap.size, 4, none⟩ = some (.int .i64 k.fb) := by rw [cell_of_block cs]; rfl
  have c5 : w2.cell? ⟨w.heap.size, 5, none⟩ = some (.int .i64 k.ch) := by rw [cell_of_block cs]; rfl
  have c6 : w2.cell? ⟨w.heap.size, 6, none⟩ = some (.int .u64 k.t) := by rw [cell_of_block cs]; rfl
  have c7 : w2.cell? ⟨w.heap.size, 7, none⟩ = some (.int .u64 k.ft) := by rw [cell_of_block cs]; rfl
  have c8 : w2.cell? ⟨w.heap.size, 8, none⟩ = some (.int .i64 k.vo) := by rw [cell_of_block cs]; rfl
  have c9 : w2.cell? ⟨w.heap.size, 9, none⟩ = some (.int .i64 k.pe) := by rw [cell_of_block cs]; rfl
  have c10 : w2.cell? ⟨w.heap.size, 10, none⟩ = some (.int .u64 k.sl) := by rw [cell_of_block cs]; rfl
  have c11 : w2.cell? ⟨w.heap.size, 11, none⟩ = some (.int .i64 k.bu) := by rw [cell_of_block cs]; rfl
  have c12 : w2.cell? ⟨w.heap.size, 12, none⟩ = some (.int .u64 k.wi) := by rw [cell_of_block cs]; rfl
  have c13 : w2.cell? ⟨w.heap.size, 13, none⟩ = some (.int .u64 k.wd) := by rw [cell_of_block cs]; rfl
  have c14 : w2.cell? ⟨w.heap.size, 14, none⟩ = some (.int .i64 k.ba) := by rw [cell_of_block cs]; rfl
  have c15 : w2.cell? ⟨w.heap.size, 15, none⟩ = some (.int .i64 k.fo) := by rw [cell_of_block cs]; rfl
  rw [World.size_alloc] at hb
  have hps := HPS.out
  clear z0 C2 F2 F HP HPA HON HPS cs
  go_wp2_with fail
  refine (HM.out _).mono ?_
  rintro e w3 ⟨rfl, F⟩
  have HC3 := Lib.hid (HC2.out.fr F (by simp))
  have HF3 := Lib.hid (HF2.out.trans F)
  have hb3 := F.size
  clear hs F HC2 HF2 c0 c1 c2 c3 c4 c5 c6 c7 c8 c9 c10 c11 c12 c13 c14 c15
  go_wp2_with fail
  go_loopw [11] (fun x wr => ∃ i : Nat, i ≤ 16 ∧ x = .int .i64 i ∧ Hid (FCells wr w1.heap.size 160 16 (fun j => .int .i64 (k.num j))) ∧ Hid (Fr [] w wr) ∧ Hid (∀ j, j < i → k.lo j ≤ k.num j ∧ k.num j ≤ k.hi j)) (fun x _ => 16 - (intOf x).toNat)
  case atStart => exact ⟨0, by omega, rfl, HC3, HF3, Lib.hid (fun j hj => by omega)⟩
  case round =>
    obtain ⟨i, hi, rfl, HC4, HF4, HN⟩ := hrel
    clear HC3 HF3
    by_cases hi16 : i < 16
    · have hx := HX.out wr i hi16
      have x0 := HC4.out.cellv (i := i) hi16 rfl
      go_wp2_with fail
      have HC5 := HC4.out.fr ((Fr.refl [] wr).alloc (.cells #[.int .i64 (k.lo i), .int .i64 (k.hi i)] 163)) (by simp)
      have HF5 := Lib.hid (HF4.out.alloc (.cells #[.int .i64 (k.lo i), .int .i64 (k.hi i)] 163))
      have x1 := HC5.cellv (i := i) hi16 rfl
      have y0 : (wr.alloc (.cells #[.int .i64 (k.lo i), .int .i64 (k.hi i)] 163)).cell? ⟨wr.heap.size, 0, none⟩ = some (.int .i64 (k.lo i)) := by rw [cell_of_block (block_alloc_new _ _)]; rfl
      have y1 : (wr.alloc (.cells #[.int .i64 (k.lo i), .int .i64 (k.hi i)] 163)).cell? ⟨wr.heap.size, 1, none⟩ = some (.int .i64 (k.hi i)) := by rw [cell_of_block (block_alloc_new _ _)]; rfl
      have HC6 := Lib.hid HC5
      have HN1 : Hid (k.lo i ≤ k.num i → k.num i ≤ k.hi i → ∀ j, j < i + 1 → k.lo j ≤ k.num j ∧ k.num j ≤ k.hi j) := Lib.hid (fun h1 h2 j hj => if e : j = i then e ▸ ⟨h1, h2⟩ else HN.out j (by omega))
      have HNO := Lib.hid (HFN.out i hi16)
      have b0 : (0 : Int) ≤ (i : Int) := by omega
      clear HC5 x0 hx
      obtain ⟨wq, hwq⟩ : ∃ wq, wq = wr.alloc (.cells #[.int .i64 (k.lo i), .int .i64 (k.hi i)] 163) := ⟨_, rfl⟩
      rw [← hwq] at HC6 HF5 x1 y0 y1 ⊢
      clear hwq
      generalize k.num i = nv at *
      generalize k.lo i = lo at *
      generalize k.hi i = hv at *
      by_cases h1 : nv < lo
      · have HO := Lib.hid (HNO.out (.inl h1))
        have d1 : decide (nv < lo) = true := decide_eq_true h1
        clear h1
        go_quiet (fail)
        go_wp2_with fail
        go_ret2
        exact CheckR.mk _ 1 rfl (by rw [HO.out]; rfl) (HF5.out.drewN _)
      · have d1 : decide (nv < lo) = false := decide_eq_false h1
        by_cases h2 : hv < nv
        · have HO := Lib.hid (HNO.out (.inr h2))
          have d2 : decide (hv < nv) = true := decide_eq_true h2
          clear h1 h2
          go_quiet (fail)
          go_wp2_with fail
          go_ret2
          exact CheckR.mk _ 1 rfl (by rw [HO.out]; rfl) (HF5.out.drewN _)
        · have d2 : decide (hv < nv) = false := decide_eq_false h2
          have HN2 := Lib.hid (HN1.out (by omega) (by omega))
          clear h1 h2
          go_quiet (fail)
          go_wp2_with fail
          go_roundw
          case rel => exact ⟨i + 1, by omega, by go_num, HC6.out.drewN _, HF5.out.drewN _, HN2⟩
          case measure => simp [intOf]; omega
    · obtain rfl : i = 16 := by omega
      have HZ := Lib.hid (HFI.out HN.out)
      go_wp2_with fail
      go_ret2
      exact CheckR.mk 0 0 rfl (by rw [HZ.out]; rfl) HF4.out
end Go.Proofs.YtcnkhjgpjchkeaaGreat
