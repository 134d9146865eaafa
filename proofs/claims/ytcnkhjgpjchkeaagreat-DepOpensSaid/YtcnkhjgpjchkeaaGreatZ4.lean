/-
  Words, and contracts of functions of the program and of the document, for this seat's claims: each is a lemma on the way; conditions stand in each lemma.
-/
import Derived.Test.YtcnkhjgpjchkeaaGreatZ3
import Derived.Deep.MidRow
namespace Go.Proofs.YtcnkhjgpjchkeaaGreat
open Go.RowKit

theorem top_wrap (k : Nat) (hk : k ≤ 64) : IntKind.u64.wrap (IntKind.u64.wrap (2 ^ k) - 1) = ((2 ^ k - 1 : Nat) : Int) := by
  by_cases h : k = 64
  · subst h; decide
  · have h1 : (2 : Nat) ^ k < 2 ^ 64 := Nat.pow_lt_pow_right (by decide) (by omega)
    have h2 : 1 ≤ (2 : Nat) ^ k := Nat.one_le_two_pow
    have h3 : ((2 : Int) ^ k) = ((2 ^ k : Nat) : Int) := by simp
    rw [h3]
    generalize (2 : Nat) ^ k = y at *
    rw [IntKind.wrap_u64, IntKind.wrap_u64]
    omega
theorem top_spec (w : World) (k : Nat) (hk : k ≤ 64) :
    Calls Tryz.prog 113 #[.int .i64 k] w fun e w' => e = .returned (.int .u64 ((2 ^ k - 1 : Nat) : Int)) ∧ w' = w := by
  have h1 : ¬ (k : Int) < 0 := by omega
  have HT := Lib.hid (top_wrap k hk)
  go_enter Tryz.func113, Tryz.ntmps113
  go_wp2_with fail
  go_ret
  exact ⟨ret_u64 HT.out, rfl⟩

/-- The sum of the first k. -/
def pre (c : Nat → Nat) (k : Nat) : Nat := ssum ((List.range k).map c)
theorem pre_succ (c : Nat → Nat) (k : Nat) : pre c (k + 1) = sadd (pre c k) (c k) := by
  unfold pre; rw [List.range_succ, List.map_append, List.map_cons, List.map_nil, ssum_snoc]
theorem pre_lt (c : Nat → Nat) (k : Nat) : pre c k < 18446744073709551616 := ssum_lt _
def pctM (c : Nat → Nat) (p : Int) : Nat :=
  if pre c 65 = 0 then 0 else match (List.range 65).find? (fun k => watl (pre c (k + 1)) (pre c 65) p) with | some k => 2 ^ k - 1 | none => 0
def WinM.pct (s : WinM) (p : Int) : Nat := pctM s.cnt p
theorem pct_zero {c : Nat → Nat} {p : Int} (h : pre c 65 = 0) : pctM c p = 0 := by unfold pctM; rw [if_pos h]
theorem find_range (f : Nat → Bool) : ∀ (n k : Nat), k < n → f k = true → (∀ j, j < k → f j = false) → (List.range n).find? f = some k := by
  intro n
  induction n with
  | zero => intro k hk; omega
  | succ n ih =>
    intro k hk h1 h2
    rw [List.range_succ, List.find?_append]
    by_cases e : k < n
    · rw [ih k e h1 h2]; rfl
    · obtain rfl : k = n := by omega
      have : (List.range k).find? f = none := by
        rw [List.find?_eq_none]
        intro x hx
        have := h2 x (by simpa using hx)
        simp [this]
      rw [this]
      simp [h1]
theorem pct_some {c : Nat → Nat} {p : Int} (h0 : pre c 65 ≠ 0) {k : Nat} (hk : k < 65) (h1 : watl (pre c (k + 1)) (pre c 65) p = true) (h2 : ∀ j, j < k → watl (pre c (j + 1)) (pre c 65) p = false) : pctM c p = 2 ^ k - 1 := by
  unfold pctM
  rw [if_neg h0, find_range (fun k => watl (pre c (k + 1)) (pre c 65) p) 65 k hk h1 h2]
theorem pct_none {c : Nat → Nat} {p : Int} (h2 : ∀ j, j < 65 → watl (pre c (j + 1)) (pre c 65) p = false) : pctM c p = 0 := by
  unfold pctM
  split
  · rfl
  · have : (List.range 65).find? (fun k => watl (pre c (k + 1)) (pre c 65) p) = none := by
      rw [List.find?_eq_none]
      intro x hx
      have := h2 x (by simpa using hx)
      simp [this]
    rw [this]
/-- What Percentile tells. -/
def PctR (w : World) (b : Nat) (s : WinM) (x : Nat) (e : Ending) (w' : World) : Prop := ∃ bb, e = .returned (.tuple #[.int .u64 ((x : Nat) : Int), .bool bb]) ∧ IsHist w' b s ∧ Fr [b] w w'
theorem PctR.mk {w w' : World} {b : Nat} {s : WinM} {x : Nat} {e : Ending} (bb : Bool) (he : e = .returned (.tuple #[.int .u64 ((x : Nat) : Int), .bool bb])) (h : IsHist w' b s) (hF : Fr [b] w w') : PctR w b s x e w' := ⟨bb, he, h, hF⟩
theorem cutAll (g : Nat) (wx : World) : (Instr.sliceAt 126 (.pointer (some ⟨g, 0, none⟩)) none none none).run Tryz.prog wx = .ok (.slice (some ⟨g, 0, none⟩) 65 65) wx := by kernel_rfl
theorem bins_get (s : WinM) (k : Nat) (hk : k < 65) : s.bins.toList.getD k undef = .int .u64 ((s.cnt k : Nat) : Int) := by
  simp [WinM.bins, List.getD, hk]

set_option maxHeartbeats 4000000 in
set_option maxRecDepth 20000 in
theorem hisPct_spec {w : World} {b : Nat} {s : WinM} (h : IsHist w b s) (now : Nat) (hnow : now < 18446744073709551616) (p : Int) (hp : 1 ≤ p) (hp2 : p ≤ 100) :
    Calls Tryz.prog 56 #[.pointer (some ⟨b, 0, none⟩), .int .u64 now, .int .i64 p] w (PctR w b (s.to now) ((s.to now).pct p)) := by
  have HA := Lib.hid (hisAll_spec h now hnow)
  generalize s.to now = s' at *
  have hc1 : ¬ p < 1 := by omega
  have hc2 : ¬ 100 < p := by omega
  clear h hnow
  go_enter Tryz.func56, Tryz.ntmps56
  go_wp2_with fail
  refine HA.out.mono ?_
  rintro e w1 ⟨rfl, B, F⟩
  have HB := Lib.hid B
  have HF := Lib.hid F
  have HN := Lib.hid (FCells.new65 w1)
  clear B F HA
  go_wp2_with (refine wpList_store_seg rfl 126 (.tmp 8) (.tmp 14) rfl w1.heap.size 0 rfl s'.bins rfl HN.out (by rw [bins_size]; kernel_rfl) (by rw [bins_size]; decide) (bins_one s') ?_; intro w9 hc9 hf9)
  have hcc := hc9.congr (g := fun j => .int .u64 ((s'.cnt j : Nat) : Int)) (fun j hj => by
    rw [if_pos ⟨Nat.zero_le _, by rw [bins_size]; omega⟩]; exact bins_get s' j hj)
  have HF9 := Lib.hid ((HF.out.alloc (.cells #[.int .u64 0, .int .u64 0, .int .u64 0, .int .u64 0, .int .u64 0, .int .u64 0, .int .u64 0, .int .u64 0, .int .u64 0, .int .u64 0, .int .u64 0, .int .u64 0, .int .u64 0, .int .u64 0, .int .u64 0, .int .u64 0, .int .u64 0, .int .u64 0, .int .u64 0, .int .u64 0, .int .u64 0, .int .u64 0, .int .u64 0, .int .u64 0, .int .u64 0, .int .u64 0, .int .u64 0, .int .u64 0, .int .u64 0, .int .u64 0, .int .u64 0, .int .u64 0, .int .u64 0, .int .u64 0, .int .u64 0, .int .u64 0, .int .u64 0, .int .u64 0, .int .u64 0, .int .u64 0, .int .u64 0, .int .u64 0, .int .u64 0, .int .u64 0, .int .u64 0, .int .u64 0, .int .u64 0, .int .u64 0, .int .u64 0, .int .u64 0, .int .u64 0, .int .u64 0, .int .u64 0, .int .u64 0, .int .u64 0, .int .u64 0, .int .u64 0, .int .u64 0, .int .u64 0, .int .u64 0, .int .u64 0, .int .u64 0, .int .u64 0, .int .u64 0, .int .u64 0] 126)).trans' hf9 (fun x hx => by simp at hx; have := HF.out.size; omega))
  have HB9 := Lib.hid ((HB.out.fr ((Fr.refl [] w1).alloc (.cells #[.int .u64 0, .int .u64 0, .int .u64 0, .int .u64 0, .int .u64 0, .int .u64 0, .int .u64 0, .int .u64 0, .int .u64 0, .int .u64 0, .int .u64 0, .int .u64 0, .int .u64 0, .int .u64 0, .int .u64 0, .int .u64 0, .int .u64 0, .int .u64 0, .int .u64 0, .int .u64 0, .int .u64 0, .int .u64 0, .int .u64 0, .int .u64 0, .int .u64 0, .int .u64 0, .int .u64 0, .int .u64 0, .int .u64 0, .int .u64 0, .int .u64 0, .int .u64 0, .int .u64 0, .int .u64 0, .int .u64 0, .int .u64 0, .int .u64 0, .int .u64 0, .int .u64 0, .int .u64 0, .int .u64 0, .int .u64 0, .int .u64 0, .int .u64 0, .int .u64 0, .int .u64 0, .int .u64 0, .int .u64 0, .int .u64 0, .int .u64 0, .int .u64 0, .int .u64 0, .int .u64 0, .int .u64 0, .int .u64 0, .int .u64 0, .int .u64 0, .int .u64 0, .int .u64 0, .int .u64 0, .int .u64 0, .int .u64 0, .int .u64 0, .int .u64 0, .int .u64 0] 126)) (by simp)).fr hf9 (by
    obtain ⟨a, _, hc⟩ := HB.out
    have := hc.lt
    simp; omega))
  have HC9 := Lib.hid hcc
  have HS := Lib.hid (satsum_spec (w := w9) (v := .slice (some ⟨w1.heap.size, 0, none⟩) 65 65) (l := (List.range 65).map s'.cnt) ⟨_, 65, by simp, fun i hi => ⟨w1.heap.size, 0, rfl, by
    have hi' : i < 65 := by simpa using hi
    rw [Nat.zero_add, hcc.cell hi']
    simp [List.getD, hi']⟩⟩ (by simp))
  have hcut := cutAll w1.heap.size
  clear hcc hc9 hf9 HN HF HB
  obtain ⟨al, hal⟩ : ∃ al, al = pre s'.cnt 65 := ⟨_, rfl⟩
  rw [show ssum ((List.range 65).map s'.cnt) = al from hal.symm] at HS
  have HAL := Lib.hid hal
  have hall := pre_lt s'.cnt 65
  rw [← hal] at hall
  clear hal
  go_wp2_with fail
  refine HS.out.mono ?_
  rintro e w2 ⟨rfl, rfl⟩
  clear HS
  by_cases h0 : al = 0
  · have HZ := Lib.hid (pct_zero (c := s'.cnt) (p := p) (HAL.out.symm.trans h0))
    subst h0
    go_wp2_with fail
    go_ret2
    exact PctR.mk _ (by unfold WinM.pct; rw [HZ.out]; rfl) HB9.out HF9.out
  · have hb0 : ((al : Int) == 0) = false := by simpa using h0
    have H0 := Lib.hid (fun h => h0 (HAL.out.trans h))
    clear h0
    go_wp2_with fail
    go_loop [10, 19] (fun n x => ∃ k : Nat, k ≤ 65 ∧ x = .int .i64 k ∧ n = .int .u64 ((pre s'.cnt k : Nat) : Int) ∧ Hid (∀ j, j < k → watl (pre s'.cnt (j + 1)) (pre s'.cnt 65) p = false)) (fun _ x => 65 - (intOf x).toNat)
    case atStart => exact ⟨0, by omega, rfl, rfl, Lib.hid (fun j hj => by omega)⟩
    case round =>
      obtain ⟨k, hk, rfl, rfl, HN⟩ := hrel
      by_cases hk5 : k < 65
      · have x0 := HC9.out.cellv (i := k) hk5 rfl
        have HADD := Lib.hid (fun w' => satadd_spec w' (pre s'.cnt k) (s'.cnt k) (pre_lt _ _))
        have HPS := Lib.hid (pre_succ s'.cnt k)
        have HAT := Lib.hid (fun w' => atleast_spec w' (pre s'.cnt (k + 1)) al p (pre_lt _ _) hall (by omega))
        have HTOP := Lib.hid (fun w' => top_spec w' k (by omega))
        rw [← HPS.out] at HADD
        have HSO := Lib.hid (fun h1 => pct_some (c := s'.cnt) (p := p) H0.out hk5 h1 HN.out)
        have HNX : Hid (watl (pre s'.cnt (k + 1)) (pre s'.cnt 65) p = false → ∀ j, j < k + 1 → watl (pre s'.cnt (j + 1)) (pre s'.cnt 65) p = false) := Lib.hid (fun h j hj => if e : j = k then e ▸ h else HN.out j (by omega))
        rw [← HAL.out] at HSO HNX HN
        generalize 2 ^ k - 1 = tp at *
        generalize hq : pre s'.cnt (k + 1) = n1 at *
        have HQ := Lib.hid hq
        clear hq
        generalize pre s'.cnt k = n0 at *
        generalize s'.cnt k = ck at *
        go_wp2_with fail
        refine (HADD.out _).mono ?_
        rintro e w3 ⟨rfl, rfl⟩
        go_wp2_with fail
        refine (HAT.out _).mono ?_
        rintro e w4 ⟨rfl, rfl⟩
        cases hw : watl n1 al p with
        | true =>
          have HX := Lib.hid (HSO.out hw)
          clear hw HSO HNX
          go_wp2_with fail
          refine (HTOP.out _).mono ?_
          rintro e w5 ⟨rfl, rfl⟩
          go_wp2_with fail
          go_ret2
          exact PctR.mk _ (by unfold WinM.pct; rw [HX.out]; rfl) HB9.out HF9.out
        | false =>
          have HX := Lib.hid (HNX.out hw)
          rw [HAL.out] at HX
          clear hw HSO HNX
          go_wp2_with fail
          go_round
          case rel => exact ⟨k + 1, by omega, by go_num, by rw [HQ.out], HX⟩
          case measure => simp [intOf]; omega
      · obtain rfl : k = 65 := by omega
        have HX := Lib.hid (pct_none (c := s'.cnt) (p := p) HN.out)
        go_wp2_with fail
        go_ret2
        exact PctR.mk _ (by unfold WinM.pct; rw [HX.out]; rfl) HB9.out HF9.out
end Go.Proofs.YtcnkhjgpjchkeaaGreat

namespace Go.Proofs.YtcnkhjgpjchkeaaGreat
open Go.RowKit

def wh (b : Bool) (x : Int) : Int := if b then x else 0
theorem when_spec (w : World) (x : Bool) (lo hi : Int) :
    Calls Tryz.prog 134 #[.bool x, .int .i64 lo, .int .i64 hi] w fun e w' => e = .returned (.agg #[.int .i64 (wh x lo), .int .i64 (wh x hi)]) ∧ Fr [] w w' := by
  cases x with
  | true =>
    go_enter Tryz.func134, Tryz.ntmps134
    go_wp2_with fail
    refine bodyPost_ret (v := .agg #[.int .i64 lo, .int .i64 hi]) (by simp [results, Tryz.results134, go_sem]) rfl ?_
    exact ⟨rfl, (Fr.refl _ _).alloc _⟩
  | false =>
    go_enter Tryz.func134, Tryz.ntmps134
    go_wp2_with fail
    refine bodyPost_ret (v := .agg #[.int .i64 0, .int .i64 0]) (by simp [results, Tryz.results134, go_sem]) rfl ?_
    exact ⟨rfl, (Fr.refl _ _).alloc _⟩

/-- The fields as numbers. -/
def CF.put (k : CF) : Array Value := #[.int .i64 k.mode, .int .i64 k.pool, .int .i64 k.queue, .int .i64 k.sem, .int .i64 k.fb, .int .i64 k.ch, .int .i64 (wrap64 k.t), .int .i64 (wrap64 k.ft), .int .i64 k.vo, .int .i64 k.pe, .int .i64 (wrap64 k.sl), .int .i64 k.bu, .int .i64 (wrap64 k.wi), .int .i64 (wrap64 k.wd), .int .i64 k.ba, .int .i64 k.fo]
set_option maxHeartbeats 2000000 in
set_option maxRecDepth 20000 in
theorem put_spec (w : World) (k : CF) : Calls Tryz.prog 75 #[k.val] w fun e w' => e = .returned (.agg k.put) ∧ Fr [] w w' := by
  go_enter Tryz.func75, Tryz.ntmps75
  go_wp2_with fail
  refine bodyPost_ret (v := .agg #[.int .i64 k.mode, .int .i64 k.pool, .int .i64 k.queue, .int .i64 k.sem, .int .i64 k.fb, .int .i64 k.ch, .int .i64 (wrap64 k.t), .int .i64 (wrap64 k.ft), .int .i64 k.vo, .int .i64 k.pe, .int .i64 (wrap64 k.sl), .int .i64 k.bu, .int .i64 (wrap64 k.wi), .int .i64 (wrap64 k.wd), .int .i64 k.ba, .int .i64 k.fo]) (by simp [results, Tryz.results75, go_sem]) rfl ?_
  exact ⟨rfl, ((Fr.refl _ _).alloc _).alloc _⟩

theorem FCells.setCells {b : Nat} {E : TypeId} {n : Nat} : ∀ (vs : List Value) (o : Nat) (w : World) (f : Nat → Value), FCells w b E n f → FCells (w.setCells b o vs) b E n (fun j => if o ≤ j ∧ j < o + vs.length then vs.getD (j - o) undef else f j)
  | [], o, w, f, h => h.congr (fun j _ => by rw [if_neg (by rintro ⟨h1, h2⟩; simp at h2; omega)])
  | v :: vs, o, _, f, h => (FCells.setCells vs (o + 1) _ _ (h.set o v)).congr (fun j _ => by
      rw [List.length_cons]
      by_cases e : j = o
      · subst e; rw [if_neg (by omega), if_pos rfl, if_pos (by omega), Nat.sub_self]; rfl
      · by_cases h2 : o + 1 ≤ j ∧ j < o + 1 + vs.length
        · rw [if_pos h2, if_pos (by omega), show j - o = (j - (o + 1)) + 1 by omega, List.getD_cons_succ]
        · rw [if_neg h2, if_neg e, if_neg (by omega)])
theorem Fr.setCells {S : List Nat} {a : World} {b : Nat} (hb : b ∈ S ∨ a.heap.size ≤ b) : ∀ (vs : List Value) (o : Nat) (w : World), Fr S a w → Fr S a (w.setCells b o vs)
  | [], _, _, h => h
  | v :: vs, o, _, h => Fr.setCells hb vs (o + 1) _ (h.setCell (p := ⟨b, o, none⟩) hb v)

theorem row_setCells {w : World} {b : Nat} {a : Array Value} {E : TypeId} (h : w.heap[b]? = some (.cells a E (0, 0))) (cs : List Value) (hl : cs.length = a.size) :
    (w.setCells b 0 cs).heap[b]? = some (.cells cs.toArray E (0, 0)) := by
  have h0 : FCells w b E a.size (fun i => a.getD i undef) := FCells.of_arr (by
    rw [h]; congr 2; apply Array.ext
    · simp
    · intro i h1 h2; simp [h1])
  have h1 := (FCells.setCells cs 0 w _ h0).arr
  rw [h1]; congr 2; apply Array.ext
  · simp [hl]
  · intro i h2 h3; simp at h2; simp [hl, h2, Array.getD, List.getD_eq_getElem?_getD]

/-- The bounds of all fields. -/
def mayV (p q r : Bool) : Array Value := #[.int .i64 1, .int .i64 2, .int .i64 (wh p 1), .int .i64 (wh p 8), .int .i64 (wh p 0), .int .i64 (wh p 8), .int .i64 (wh q 1), .int .i64 (wh q 8), .int .i64 0, .int .i64 4, .int .i64 0, .int .i64 3, .int .i64 1, .int .i64 1099511627776, .int .i64 1, .int .i64 1099511627776, .int .i64 1, .int .i64 1000, .int .i64 0, .int .i64 100, .int .i64 0, .int .i64 1099511627776, .int .i64 1, .int .i64 8, .int .i64 1, .int .i64 1099511627776, .int .i64 0, .int .i64 1099511627776, .int .i64 (wh r 1), .int .i64 (wh r 4), .int .i64 0, .int .i64 2]
set_option maxHeartbeats 4000000 in
set_option maxRecDepth 20000 in
theorem may_spec (w : World) (k : CF) (p q r : Bool) (hp : p = (k.mode == 1)) (hq : q = (k.mode == 2)) (hr : r = decide (0 < k.wd)) :
    Calls Tryz.prog 76 #[k.val] w fun e w' => e = .returned (.agg (mayV p q r)) ∧ Fr [] w w' := by
  have HW := Lib.hid (fun (w' : World) (x : Bool) (lo hi : Int) => when_spec w' x lo hi)
  have HF := Lib.hid (((Fr.refl [] w).alloc (.cells #[.int .i64 k.mode, .int .i64 k.pool, .int .i64 k.queue, .int .i64 k.sem, .int .i64 k.fb, .int .i64 k.ch, .int .u64 k.t, .int .u64 k.ft, .int .i64 k.vo, .int .i64 k.pe, .int .u64 k.sl, .int .i64 k.bu, .int .u64 k.wi, .int .u64 k.wd, .int .i64 k.ba, .int .i64 k.fo] 24)).alloc (.cells #[.int .i64 0, .int .i64 0, .int .i64 0, .int .i64 0, .int .i64 0, .int .i64 0, .int .i64 0, .int .i64 0, .int .i64 0, .int .i64 0, .int .i64 0, .int .i64 0, .int .i64 0, .int .i64 0, .int .i64 0, .int .i64 0, .int .i64 0, .int .i64 0, .int .i64 0, .int .i64 0, .int .i64 0, .int .i64 0, .int .i64 0, .int .i64 0, .int .i64 0, .int .i64 0, .int .i64 0, .int .i64 0, .int .i64 0, .int .i64 0, .int .i64 0, .int .i64 0] 164))
  have HB := Lib.hid (block_alloc (block_alloc_new w (.cells #[.int .i64 k.mode, .int .i64 k.pool, .int .i64 k.queue, .int .i64 k.sem, .int .i64 k.fb, .int .i64 k.ch, .int .u64 k.t, .int .u64 k.ft, .int .i64 k.vo, .int .i64 k.pe, .int .u64 k.sl, .int .i64 k.bu, .int .u64 k.wi, .int .u64 k.wd, .int .i64 k.ba, .int .i64 k.fo] 24)) (.cells #[.int .i64 0, .int .i64 0, .int .i64 0, .int .i64 0, .int .i64 0, .int .i64 0, .int .i64 0, .int .i64 0, .int .i64 0, .int .i64 0, .int .i64 0, .int .i64 0, .int .i64 0, .int .i64 0, .int .i64 0, .int .i64 0, .int .i64 0, .int .i64 0, .int .i64 0, .int .i64 0, .int .i64 0, .int .i64 0, .int .i64 0, .int .i64 0, .int .i64 0, .int .i64 0, .int .i64 0, .int .i64 0, .int .i64 0, .int .i64 0, .int .i64 0, .int .i64 0] 164))
  have hz := block_alloc_new (w.alloc (.cells #[.int .i64 k.mode, .int .i64 k.pool, .int .i64 k.queue, .int .i64 k.sem, .int .i64 k.fb, .int .i64 k.ch, .int .u64 k.t, .int .u64 k.ft, .int .i64 k.vo, .int .i64 k.pe, .int .u64 k.sl, .int .i64 k.bu, .int .u64 k.wi, .int .u64 k.wd, .int .i64 k.ba, .int .i64 k.fo] 24)) (.cells #[.int .i64 0, .int .i64 0, .int .i64 0, .int .i64 0, .int .i64 0, .int .i64 0, .int .i64 0, .int .i64 0, .int .i64 0, .int .i64 0, .int .i64 0, .int .i64 0, .int .i64 0, .int .i64 0, .int .i64 0, .int .i64 0, .int .i64 0, .int .i64 0, .int .i64 0, .int .i64 0, .int .i64 0, .int .i64 0, .int .i64 0, .int .i64 0, .int .i64 0, .int .i64 0, .int .i64 0, .int .i64 0, .int .i64 0, .int .i64 0, .int .i64 0, .int .i64 0] 164)
  rw [World.size_alloc] at hz
  have HZ := Lib.hid hz
  obtain ⟨w2, hw2⟩ : ∃ w2, w2 = (w.alloc (.cells #[.int .i64 k.mode, .int .i64 k.pool, .int .i64 k.queue, .int .i64 k.sem, .int .i64 k.fb, .int .i64 k.ch, .int .u64 k.t, .int .u64 k.ft, .int .i64 k.vo, .int .i64 k.pe, .int .u64 k.sl, .int .i64 k.bu, .int .u64 k.wi, .int .u64 k.wd, .int .i64 k.ba, .int .i64 k.fo] 24)).alloc (.cells #[.int .i64 0, .int .i64 0, .int .i64 0, .int .i64 0, .int .i64 0, .int .i64 0, .int .i64 0, .int .i64 0, .int .i64 0, .int .i64 0, .int .i64 0, .int .i64 0, .int .i64 0, .int .i64 0, .int .i64 0, .int .i64 0, .int .i64 0, .int .i64 0, .int .i64 0, .int .i64 0, .int .i64 0, .int .i64 0, .int .i64 0, .int .i64 0, .int .i64 0, .int .i64 0, .int .i64 0, .int .i64 0, .int .i64 0, .int .i64 0, .int .i64 0, .int .i64 0] 164) := ⟨_, rfl⟩
  rw [← hw2] at HF HB HZ
  have HW2 := Lib.hid hw2
  have c0 : w2.cell? ⟨w.heap.size, 0, none⟩ = some (.int .i64 k.mode) := by rw [cell_of_block HB.out]; rfl
  have c13 : w2.cell? ⟨w.heap.size, 13, none⟩ = some (.int .u64 k.wd) := by rw [cell_of_block HB.out]; rfl
  have hp' : (k.mode == 1) = p := hp.symm
  have hq' : (k.mode == 2) = q := hq.symm
  have hr' : decide (0 < k.wd) = r := hr.symm
  clear hw2 hz hp hq hr
  · go_enter Tryz.func76, Tryz.ntmps76
    go_wp2_with fail
    rw [← HW2.out]
    go_quiet (fail)
    go_wp2_with fail
    have KS : Hid (∀ w' : World, Fr [] w2 w' → w'.cell? ⟨w.heap.size, 13, none⟩ = some (.int .u64 k.wd) ∧ w'.there (w.heap.size + 1) 0 32) := Lib.hid (fun w' F => ⟨by rw [cell_of_block (F.keep HB.out (by simp))]; rfl, fun j hj => ⟨by rw [Nat.zero_add, cell_of_block (F.keep HZ.out (by simp))]; simp; omega, free_of_block (F.keep HZ.out (by simp)) _⟩⟩)
    have KN : Hid (∀ (w' : World) (cs : List Value), Fr [] w2 w' → (w'.setCells (w.heap.size + 1) 0 cs).cell? ⟨w.heap.size, 13, none⟩ = some (.int .u64 k.wd) ∧ (w'.setCells (w.heap.size + 1) 0 cs).there (w.heap.size + 1) 0 32) := Lib.hid (fun w' cs F => ⟨by rw [World.cell?_setCells_out _ _ _ _ ⟨w.heap.size, 13, none⟩ (fun e => by simp at e)]; exact (KS.out w' F).1, World.there_setCells (KS.out w' F).2 _ _ _⟩)
    have ho : ∀ v ∈ [((.int .i64 1) : Value), ((.int .i64 2) : Value), ((.int .i64 (wh p 1)) : Value), ((.int .i64 (wh p 8)) : Value), ((.int .i64 (wh p 0)) : Value), ((.int .i64 (wh p 8)) : Value), ((.int .i64 (wh q 1)) : Value), ((.int .i64 (wh q 8)) : Value), ((.int .i64 0) : Value), ((.int .i64 4) : Value), ((.int .i64 0) : Value), ((.int .i64 3) : Value), ((.int .i64 1) : Value), ((.int .i64 1099511627776) : Value), ((.int .i64 1) : Value), ((.int .i64 1099511627776) : Value), ((.int .i64 1) : Value), ((.int .i64 1000) : Value), ((.int .i64 0) : Value), ((.int .i64 100) : Value), ((.int .i64 0) : Value), ((.int .i64 1099511627776) : Value), ((.int .i64 1) : Value), ((.int .i64 8) : Value), ((.int .i64 1) : Value), ((.int .i64 1099511627776) : Value), ((.int .i64 0) : Value), ((.int .i64 1099511627776) : Value), ((.int .i64 (wh r 1)) : Value), ((.int .i64 (wh r 4)) : Value), ((.int .i64 0) : Value), ((.int .i64 2) : Value)], v.oneCell' = true := by intro v hv; simp only [List.mem_cons, List.not_mem_nil, or_false] at hv; rcases hv with rfl | rfl | rfl | rfl | rfl | rfl | rfl | rfl | rfl | rfl | rfl | rfl | rfl | rfl | rfl | rfl | rfl | rfl | rfl | rfl | rfl | rfl | rfl | rfl | rfl | rfl | rfl | rfl | rfl | rfl | rfl | rfl <;> rfl
    have hu := Tryz.underlying164
    have hi : (Tryz.prog.info? 164).map (·.size) = some 32 := by kernel_rfl
    clear c0 c13
    have FX : Fr [] w2 (w2.drewN nq) := Fr.of_drewN _ _
    go_region_held3 (fun w' => w'.cell? ⟨w.heap.size, 13, none⟩ = some (.int .u64 k.wd) ∧ w'.there (w.heap.size + 1) 0 32)
      (first | with_reducible exact KN.out _ _ (by with_reducible repeat (first | exact FX | exact Fr.refl _ _ | apply Fr.drew | apply Fr.drewN | apply Fr.alloc)) | with_reducible exact KS.out _ (by with_reducible repeat (first | exact FX | exact Fr.refl _ _ | apply Fr.drew | apply Fr.drewN | apply Fr.alloc)))
      (first | (go_at_call 134; refine (HW.out _ _ _ _).mono ?_; rintro e wA ⟨rfl, F⟩; have FX : Fr [] w2 wA := Fr.trans (by with_reducible repeat (first | exact FX | exact Fr.refl _ _ | apply Fr.drew | apply Fr.drewN | apply Fr.alloc)) F; clear F))
    have HA := FX.keep HZ.out (by simp)
    have HR : ∀ cs : List Value, cs.length = 32 → (wA.setCells (w.heap.size + 1) 0 cs).heap[w.heap.size + 1]? = some (.cells cs.toArray 164 (0, 0)) := fun cs hl => row_setCells HA cs hl
    have HT : ∀ cs : List Value, Fr [] w (wA.setCells (w.heap.size + 1) 0 cs) := fun cs => Fr.setCells (.inr (by omega)) cs 0 _ (HF.out.trans FX)
    go_wp2_with fail
    refine bodyPost_ret (results_cell_row rfl _ _ _ _ _ _ _ rfl (HR _ rfl) hu rfl hi) rfl ?_
    exact ⟨rfl, HT _⟩
end Go.Proofs.YtcnkhjgpjchkeaaGreat
