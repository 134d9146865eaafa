/-
  Words, and contracts of functions of the program and of the document, for this seat's claims: each is a lemma on the way; conditions stand in each lemma.
-/
import Derived.Test.YtcnkhjgpjchkeaaGreatZ1
import Derived.Deep.RegionWith
namespace Go.Proofs.YtcnkhjgpjchkeaaGreat
open Go.RowKit

/-- Holders of calls. -/
def own0 (hs : List Int) : List (Int × Int) := hs.map fun x => (x, 0)
theorem mem_own0 (x : Int) (hs : List Int) : ((x, (0 : Int)) ∈ own0 hs) ↔ x ∈ hs := by simp [own0]
theorem own0_filter (x : Int) (hs : List Int) : (own0 hs).filter (fun y => decide (y ≠ (x, 0))) = own0 (hs.filter fun y => decide (y ≠ x)) := by
  simp [own0, List.filter_map, Function.comp_def]
theorem rem_nodup {x : Int} : ∀ {l : List Int}, l.Nodup → rem x l = l.filter fun y => decide (y ≠ x)
  | [], _ => rfl
  | y :: l, h => by
    simp only [List.nodup_cons] at h
    by_cases hy : y = x
    · subst hy
      rw [rem, if_pos rfl, List.filter_cons_of_neg (by simp), List.filter_eq_self.2]
      intro z hz
      exact decide_eq_true fun e => h.1 (e ▸ hz)
    · rw [rem, if_neg hy, List.filter_cons_of_pos (by simp [hy]), rem_nodup h.2]

/-- Block b is a bulk: its set in the blocks s and r, its ring in g; hs run, m at most; ws wait, q at most; nobody twice. -/
structure IsBulk (w : World) (b s r g : Nat) (hs ws : List Int) (m q : Nat) : Prop where
  blk : w.heap[b]? = some (.cells #[.pointer (some ⟨s, 0, none⟩), .pointer (some ⟨g, 0, none⟩)] 171 (0, 0))
  set : IsSet w s r (own0 hs) m
  ring : IsRing w g ws q
  nodup : (hs ++ ws).Nodup

theorem IsRing.obj {w : World} {b : Nat} {xs : List Int} {m : Nat} (h : IsRing w b xs m) : ∃ c, w.heap[b]? = some (.cells c 253 (0, 0)) := by
  obtain ⟨l, f, _, _, _, _, _, h6⟩ := h
  exact ⟨_, h6⟩
theorem IsRing.le {w : World} {b : Nat} {xs : List Int} {m : Nat} (h : IsRing w b xs m) : xs.length ≤ m ∧ m ≤ 8 := by
  obtain ⟨l, f, _, _, h3, h4, _, _⟩ := h
  exact ⟨h4, h3⟩
theorem MapKV.obj {α : Type} {enc : α → Value} {w : World} {r : Nat} {l : List (α × Value)} (h : MapKV enc w r l) : ∃ es c, w.heap[r]? = some (.map es c) := by
  obtain ⟨_, es, c, h1, _⟩ := h
  exact ⟨es, c, h1⟩

section
variable {w : World} {b s r g : Nat} {hs ws : List Int} {m q : Nat} (h : IsBulk w b s r g hs ws m q)
include h
theorem IsBulk.apart : b ≠ s ∧ b ≠ r ∧ b ≠ g ∧ s ≠ r ∧ s ≠ g ∧ r ≠ g := by
  obtain ⟨c, hc⟩ := h.ring.obj
  obtain ⟨es, c', hm⟩ := h.set.2.1.obj
  have hb := h.blk
  have hs := h.set.1
  refine ⟨?_, ?_, ?_, h.set.ne, ?_, ?_⟩ <;> intro e <;> subst e <;> simp_all
theorem IsBulk.c0 : w.cell? ⟨b, 0, none⟩ = some (.pointer (some ⟨s, 0, none⟩)) := by rw [cell_of_block h.blk]; rfl
theorem IsBulk.c1 : w.cell? ⟨b, 1, none⟩ = some (.pointer (some ⟨g, 0, none⟩)) := by rw [cell_of_block h.blk]; rfl
theorem IsBulk.lt : b < w.heap.size := lt_of_block h.blk
theorem IsBulk.fr {w' : World} {S : List Nat} (k : Fr S w w') (hS : b ∉ S ∧ s ∉ S ∧ r ∉ S ∧ g ∉ S) : IsBulk w' b s r g hs ws m q :=
  ⟨k.keep h.blk hS.1, h.set.fr k hS.2.1 hS.2.2.1, h.ring.fr k hS.2.2.2, h.nodup⟩
theorem IsBulk.fr0 {w' : World} (k : Fr [] w w') : IsBulk w' b s r g hs ws m q := h.fr k (by simp)
theorem IsBulk.dr {w' : World} (k : ∃ n, w' = w.drewN n) : IsBulk w' b s r g hs ws m q := h.fr0 ((Fr.refl _ _).dr k)
end

theorem own_spec (x : Int) (w : World) : Calls Tryz.prog 114 #[.int .i64 x] w fun e w' => e = .returned (.agg #[.int .i64 x, .int .i64 0]) ∧ Fr [] w w' := by
  go_enter Tryz.func114, Tryz.ntmps114
  go_wp2
  refine bodyPost_ret (v := .agg #[.int .i64 x, .int .i64 0]) (by simp [results, Tryz.results114, go_sem]) rfl ⟨rfl, (Fr.refl _ _).alloc _⟩

theorem busy_nil (w : World) : Calls Tryz.prog 51 #[.pointer none] w fun e w' => e = .returned (.int .i64 0) ∧ w' = w := by
  go_enter Tryz.func51, Tryz.ntmps51
  go_wp2
  go_ret
  exact ⟨rfl, rfl⟩
theorem IsBulk.busy {w : World} {b s r g : Nat} {hs ws : List Int} {m q : Nat} (h : IsBulk w b s r g hs ws m q) :
    Calls Tryz.prog 51 #[.pointer (some ⟨b, 0, none⟩)] w fun e w' => e = .returned (.int .i64 hs.length) ∧ w' = w := by
  have c0 := h.c0
  have hU := h.set.used
  rw [show (own0 hs).length = hs.length by simp [own0]] at hU
  have HU := Lib.hid hU
  clear hU
  go_enter Tryz.func51, Tryz.ntmps51
  go_wp2_with fail
  refine (HU.out).mono ?_
  rintro e w1 ⟨rfl, rfl⟩
  go_wp2
  go_ret
  exact ⟨rfl, rfl⟩
theorem waiting_nil (w : World) : Calls Tryz.prog 52 #[.pointer none] w fun e w' => e = .returned (.slice none 0 0) ∧ w' = w := by
  go_enter Tryz.func52, Tryz.ntmps52
  go_wp2
  go_ret
  exact ⟨rfl, rfl⟩
theorem IsBulk.waiting {w : World} {b s r g : Nat} {hs ws : List Int} {m q : Nat} (h : IsBulk w b s r g hs ws m q) :
    Calls Tryz.prog 52 #[.pointer (some ⟨b, 0, none⟩)] w fun e w' => ∃ v, e = .returned v ∧ Lst w' w.heap.size v ws ∧ Fr [] w w' := by
  have c1 := h.c1
  have HU := Lib.hid h.ring.list
  go_enter Tryz.func52, Tryz.ntmps52
  go_wp2_with fail
  refine (HU.out).mono ?_
  rintro e w1 ⟨v, rfl, O, F⟩
  go_wp2
  go_ret
  exact ⟨_, rfl, Lst.of_owns O, F⟩

theorem runs_nil (w : World) (x : Int) : Calls Tryz.prog 152 #[.pointer none, .int .i64 x] w fun e w' => e = .returned (.bool false) ∧ Fr [] w w' := by
  go_enter Tryz.func152, Tryz.ntmps152
  go_wp2_with fail
  go_quiet (fail)
  go_wp2
  go_ret
  exact ⟨rfl, Fr.of_drewN _ _⟩

set_option maxHeartbeats 1000000 in
theorem IsBulk.runs {w : World} {b s r g : Nat} {hs ws : List Int} {m q : Nat} (h : IsBulk w b s r g hs ws m q) (x : Int) :
    Calls Tryz.prog 152 #[.pointer (some ⟨b, 0, none⟩), .int .i64 x] w fun e w' => e = .returned (.bool (decide (x ∈ hs))) ∧ Fr [] w w' := by
  have c0 := h.c0
  have hlt := h.lt
  have HH := Lib.hid (fun (w1 : World) (F : Fr [] w w1) => (h.fr0 F).set.holds x 0)
  go_enter Tryz.func152, Tryz.ntmps152
  go_wp2_with fail
  go_region_with (first
    | (go_at_call 114; refine (own_spec x _).mono ?_; rintro e w1 ⟨rfl, F⟩; have F1 := (Fr.refl [] w).drew.trans F; have c0' := (F1.cell (p := ⟨b, 0, none⟩) hlt (by simp)).trans c0; clear F)
    | (go_at_call 138; refine (HH.out _ F1).mono ?_; rintro e w2 ⟨rfl, F⟩; have F2 := F1.trans F; clear F))
  all_goals go_wp2
  all_goals go_ret
  all_goals exact ⟨ret_bool (decide_eq_decide.2 (mem_own0 _ _)), F2⟩
end Go.Proofs.YtcnkhjgpjchkeaaGreat

namespace Go.Proofs.YtcnkhjgpjchkeaaGreat
open Go.RowKit

/-- n is a place of x, or below 0. -/
def IdxOf (n x : Int) (xs : List Int) : Prop := decide (n ≥ 0) = decide (x ∈ xs)

set_option maxHeartbeats 1000000 in
theorem index_spec {w : World} {a : Value} {xs : List Int} (ha : RdInts w a xs) (hx : xs.length ≤ 1000000) (x : Int) :
    Calls Tryz.prog 159 #[a, .int .i64 x] w fun e w' => e = .returned (.bool (decide (x ∈ xs))) ∧ w' = w := by
  have key : Calls Tryz.prog 163 #[a, .int .i64 x] w fun e w' => ∃ n : Int, e = .returned (.int .i64 n) ∧ IdxOf n x xs ∧ w' = w := by
    obtain ⟨ao, ca, rfl, ha2, ha3, ha4⟩ := ha
    have HA := Lib.hid ha4
    clear ha3 ha4
    go_enter Tryz.func163, Tryz.ntmps163
    go_wp2
    go_loop [8] (fun v => ∃ i : Nat, i ≤ xs.length ∧ v = .int .i64 i ∧ Hid (∀ j, j < i → el xs j ≠ x)) (fun v => xs.length - (intOf v).toNat)
    case atStart => exact ⟨0, Nat.zero_le _, rfl, Lib.hid (fun j hj => by omega)⟩
    case round =>
      obtain ⟨i, hi, rfl, HE⟩ := hrel
      by_cases hlt : i < xs.length
      · obtain ⟨b1, o1, rfl, hc1⟩ := HA.out i hlt
        by_cases he : el xs i = x
        · have hne : (x == el xs i) = true := by simpa using he.symm
          have HH := Lib.hid he
          clear he
          go_wp2
          go_ret
          exact ⟨i, rfl, (by unfold IdxOf; rw [decide_eq_true (show (i : Int) ≥ 0 by omega), decide_eq_true]; have e := HH.out; simp [← e, el, hlt]), rfl⟩
        · have hne : (x == el xs i) = false := by simpa using fun e => he e.symm
          go_wp2
          go_round
          case rel => exact ⟨i + 1, by omega, by go_num, Lib.hid (fun j hj => by by_cases hji : j = i; (subst hji; exact he); exact HE.out j (by omega))⟩
          case measure => simp [intOf]; omega
      · go_wp2
        go_ret
        exact ⟨-1, rfl, (by unfold IdxOf; rw [decide_eq_false (rem_none x xs (fun j hj => HE.out j (by omega))).1]; rfl), rfl⟩
  go_enter Tryz.func159, Tryz.ntmps159
  have HK := Lib.hid key
  clear key
  go_wp2_with fail
  refine (HK.out).mono ?_
  rintro e w1 ⟨n, rfl, HN, rfl⟩
  go_wp2
  go_ret
  exact ⟨ret_bool (by unfold IdxOf at HN; rw [← HN]), rfl⟩

theorem pick_nil (w : World) : Calls Tryz.prog 81 #[.pointer none] w fun e w' => e = .returned (.tuple #[.int .i64 0, .bool false]) ∧ w' = w := by
  go_enter Tryz.func81, Tryz.ntmps81
  go_wp2
  go_ret2
  exact ⟨rfl, rfl⟩

set_option maxHeartbeats 1000000 in
theorem IsBulk.pick_no {w : World} {b s r g : Nat} {hs ws : List Int} {m q : Nat} (h : IsBulk w b s r g hs ws m q) (hno : hs.length = m ∨ ws = []) :
    Calls Tryz.prog 81 #[.pointer (some ⟨b, 0, none⟩)] w fun e w' => e = .returned (.tuple #[.int .i64 0, .bool false]) ∧ IsBulk w' b s r g hs ws m q ∧ Fr [r, g] w w' := by
  have c0 := h.c0
  have c1 := h.c1
  have hR := h.set.room
  rw [show (own0 hs).length = hs.length by simp [own0]] at hR
  have HR := Lib.hid hR
  have hap := h.apart
  have hlt := h.lt
  clear hR
  by_cases hm : hs.length < m
  · have hw : ws = [] := by rcases hno with h1 | h1; omega; exact h1
    subst hw
    rw [decide_eq_true hm] at HR
    have HP := Lib.hid (fun (n : Nat) => (h.dr (w' := w.drewN n) ⟨n, rfl⟩).ring.pop)
    go_enter Tryz.func81, Tryz.ntmps81
    go_wp2_with fail
    refine (HR.out).mono ?_
    rintro e w1 ⟨rfl, n, rfl⟩
    go_wp2_with fail
    refine (HP.out n).mono ?_
    rintro e w2 ⟨rfl, R, F⟩
    have F2 : Fr [g] w w2 := (Fr.of_drewN w n).trans F
    have e0 : el [] 0 = 0 := rfl
    clear F
    go_wp2
    go_ret2
    refine ⟨rfl, ⟨F2.keep h.blk (by simp; exact hap.2.2.1), h.set.fr F2 (by simp; exact hap.2.2.2.2.1) (by simp; exact hap.2.2.2.2.2), R, h.nodup⟩, F2.mono (fun x hx => Or.inl (by simp at hx; simp [hx]))⟩
  · rw [decide_eq_false hm] at HR
    go_enter Tryz.func81, Tryz.ntmps81
    go_wp2_with fail
    refine (HR.out).mono ?_
    rintro e w1 ⟨rfl, n, rfl⟩
    go_wp2
    go_ret2
    exact ⟨rfl, h.dr ⟨n, rfl⟩, Fr.of_drewN _ _⟩

set_option maxHeartbeats 2000000 in
theorem IsBulk.pick_yes {w : World} {b s r g : Nat} {hs ws : List Int} {m q : Nat} {x : Int} (h : IsBulk w b s r g hs (x :: ws) m q) (hm : hs.length < m) :
    Calls Tryz.prog 81 #[.pointer (some ⟨b, 0, none⟩)] w fun e w' => e = .returned (.tuple #[.int .i64 x, .bool true]) ∧ IsBulk w' b s r g (hs ++ [x]) ws m q ∧ Fr [r, g] w w' := by
  have c0 := h.c0
  have c1 := h.c1
  have hR := h.set.room
  rw [show (own0 hs).length = hs.length by simp [own0], decide_eq_true hm] at hR
  have HR := Lib.hid hR
  have HP := Lib.hid (fun (n : Nat) => (h.dr (w' := w.drewN n) ⟨n, rfl⟩).ring.pop)
  have hap := h.apart
  have hlt := h.lt
  have hx : (x, (0 : Int)) ∉ own0 hs := by
    rw [mem_own0]
    have := h.nodup
    rw [List.nodup_append] at this
    exact fun hm => this.2.2 x hm x (by simp) rfl
  have HX := Lib.hid hx
  have hnd : (hs ++ [x] ++ ws).Nodup := by simpa using h.nodup
  clear hR hx
  go_enter Tryz.func81, Tryz.ntmps81
  go_wp2_with fail
  refine (HR.out).mono ?_
  rintro e w1 ⟨rfl, n, rfl⟩
  go_wp2_with fail
  refine (HP.out n).mono ?_
  rintro e w2 ⟨rfl, R, F⟩
  have F2 : Fr [g] w w2 := (Fr.of_drewN w n).trans F
  have e0 : el (x :: ws) 0 = x := rfl
  have R2 : IsRing w2 g ws q := R
  have S2 : IsSet w2 s r (own0 hs) m := h.set.fr F2 (by simp; exact hap.2.2.2.2.1) (by simp; exact hap.2.2.2.2.2)
  have B2 := F2.keep h.blk (by simp; exact hap.2.2.1)
  have c0' : w2.cell? ⟨b, 0, none⟩ = some (.pointer (some ⟨s, 0, none⟩)) := by rw [cell_of_block B2]; rfl
  have hl2 := lt_of_block B2
  have HT := Lib.hid (fun (w1 : World) (F : Fr [] w2 w1) => (S2.fr F (by simp) (by simp)).take_yes x 0 (by simpa [own0] using hm) HX.out)
  clear F R c0 c1
  go_wp2_with fail
  go_region_with (first
    | (go_at_call 114; refine (own_spec x _).mono ?_; rintro e w3 ⟨rfl, F⟩; have F3 := (Fr.refl [] w2).drew.trans F; have c0'' := (F3.cell (p := ⟨b, 0, none⟩) hl2 (by simp)).trans c0'; clear F)
    | (go_at_call 122; refine (HT.out _ F3).mono ?_; rintro e w4 ⟨rfl, S4, F4⟩))
  all_goals go_wp2
  all_goals go_ret2
  all_goals (have F5 : Fr [r] w2 w4 := (F3.mono (S' := [r]) (fun x hx => by cases hx)).trans F4)
  all_goals refine ⟨rfl, ⟨F5.keep B2 (by simp; exact hap.2.1), by simpa [own0] using S4, R2.fr F5 (by simp; exact fun e => hap.2.2.2.2.2 e.symm), hnd⟩, (F2.mono (fun x hx => Or.inl (by simp at hx; simp [hx]))).trans (F5.mono (fun x hx => Or.inl (by simp at hx; simp [hx])))⟩

theorem drop_nil (w : World) (x : Int) : Calls Tryz.prog 74 #[.pointer none, .int .i64 x] w fun e w' => e = .returned (.bool false) ∧ w' = w := by
  go_enter Tryz.func74, Tryz.ntmps74
  go_wp2
  go_ret
  exact ⟨rfl, rfl⟩
theorem rem_sub (x : Int) : ∀ l : List Int, (rem x l).Sublist l
  | [] => List.Sublist.refl _
  | y :: l => by
    by_cases h : y = x
    · simp [rem, h]
    · simp [rem, h, rem_sub x l]
theorem IsBulk.drop {w : World} {b s r g : Nat} {hs ws : List Int} {m q : Nat} (h : IsBulk w b s r g hs ws m q) (x : Int) :
    Calls Tryz.prog 74 #[.pointer (some ⟨b, 0, none⟩), .int .i64 x] w fun e w' => e = .returned (.bool (decide (x ∈ ws))) ∧ IsBulk w' b s r g hs (rem x ws) m q ∧ Fr [r, g] w w' := by
  have c1 := h.c1
  have hap := h.apart
  have HP := Lib.hid (h.ring.remove x)
  go_enter Tryz.func74, Tryz.ntmps74
  go_wp2_with fail
  refine (HP.out).mono ?_
  rintro e w2 ⟨rfl, R, F⟩
  go_wp2
  go_ret
  exact ⟨rfl, ⟨F.keep h.blk (by simp; exact hap.2.2.1), h.set.fr F (by simp; exact hap.2.2.2.2.1) (by simp; exact hap.2.2.2.2.2), R, h.nodup.sublist (List.Sublist.append_left (rem_sub x ws) hs)⟩, F.mono (fun x hx => Or.inl (by simp at hx; simp [hx]))⟩

theorem bfree_nil (w : World) (x : Int) : Calls Tryz.prog 57 #[.pointer none, .int .i64 x] w fun e w' => e = .returned (.bool false) ∧ Fr [] w w' := by
  go_enter Tryz.func57, Tryz.ntmps57
  go_wp2_with fail
  go_quiet (fail)
  go_wp2
  go_ret
  exact ⟨rfl, Fr.of_drewN _ _⟩

set_option maxHeartbeats 2000000 in
theorem IsBulk.free {w : World} {b s r g : Nat} {hs ws : List Int} {m q : Nat} (h : IsBulk w b s r g hs ws m q) (x : Int) :
    Calls Tryz.prog 57 #[.pointer (some ⟨b, 0, none⟩), .int .i64 x] w fun e w' => e = .returned (.bool (decide (x ∈ hs))) ∧ IsBulk w' b s r g (rem x hs) ws m q ∧ Fr [r, g] w w' := by
  have c0 := h.c0
  have hlt := h.lt
  have hap := h.apart
  have hnd : hs.Nodup := (List.nodup_append.1 h.nodup).1
  have key : ∀ w1 : World, Fr [] w w1 → Calls Tryz.prog 83 #[.pointer (some ⟨s, 0, none⟩), .agg #[.int .i64 x, .int .i64 0]] w1 fun e w' => e = .returned (.bool (decide (x ∈ hs))) ∧ IsSet w' s r (own0 (rem x hs)) m ∧ Fr [r] w1 w' := by
    intro w1 F
    have S1 := h.set.fr F (by simp) (by simp)
    by_cases hx : x ∈ hs
    · rw [decide_eq_true hx]
      refine (S1.free_yes x 0 ((mem_own0 _ _).2 hx)).mono fun e w' ⟨h1, h2, h3⟩ => ⟨h1, ?_, h3⟩
      rw [own0_filter] at h2
      rwa [rem_nodup hnd]
    · rw [decide_eq_false hx]
      refine (S1.free_no x 0 (fun hm => hx ((mem_own0 _ _).1 hm))).mono fun e w' ⟨h1, h3⟩ => ⟨h1, ?_, h3.mono (fun _ hx => by cases hx)⟩
      rw [rem_of_not hx]
      exact S1.fr h3 (by simp) (by simp)
  have HK := Lib.hid key
  clear key
  go_enter Tryz.func57, Tryz.ntmps57
  go_wp2_with fail
  go_region_with (first
    | (go_at_call 114; refine (own_spec x _).mono ?_; rintro e w1 ⟨rfl, F⟩; have F1 := (Fr.refl [] w).drew.trans F; have c0' := (F1.cell (p := ⟨b, 0, none⟩) hlt (by simp)).trans c0; clear F)
    | (go_at_call 83; refine (HK.out _ F1).mono ?_; rintro e w2 ⟨rfl, S2, F2⟩))
  all_goals go_wp2
  all_goals go_ret
  all_goals (have F5 : Fr [r] w w2 := (F1.mono (S' := [r]) (fun x hx => by cases hx)).trans F2)
  all_goals exact ⟨rfl, ⟨F5.keep h.blk (by simp; exact hap.2.1), S2, h.ring.fr F5 (by simp; exact fun e => hap.2.2.2.2.2 e.symm), h.nodup.sublist (List.Sublist.append_right (rem_sub x hs) ws)⟩, F5.mono (fun x hx => Or.inl (by simp at hx; simp [hx]))⟩
end Go.Proofs.YtcnkhjgpjchkeaaGreat

namespace Go.Proofs.YtcnkhjgpjchkeaaGreat
open Go.RowKit

/-- What becomes of who runs and who waits when x wants in; what is told; who runs by that. -/
def admitM (m q : Nat) (hs ws : List Int) (x : Int) : List Int × List Int × Int × List Int :=
  if x ∈ hs ∨ x ∈ ws then (hs, ws, 3, []) else
  if hs.length < m ∧ ws = [] then (hs ++ [x], ws, 1, []) else
  if ws.length < q then (hs, ws ++ [x], 2, []) else
  if hs.length < m ∧ ws ≠ [] then (hs ++ [el ws 0], ws.tail ++ [x], 2, [el ws 0]) else (hs, ws, 3, [])

theorem admit_nil (w : World) (x : Int) : Calls Tryz.prog 131 #[.pointer none, .int .i64 x] w fun e w' => e = .returned (.tuple #[.int .i64 3, .slice none 0 0]) ∧ w' = w := by
  go_enter Tryz.func131, Tryz.ntmps131
  go_wp2
  go_ret2
  exact ⟨rfl, rfl⟩

section
variable {w : World} {b s r g : Nat} {hs ws : List Int} {m q : Nat} (h : IsBulk w b s r g hs ws m q) (x : Int)
include h

theorem IsBulk.lens : hs.length ≤ m ∧ ws.length ≤ q ∧ m ≤ 8 ∧ q ≤ 8 := by
  have h1 := h.set.2.2
  have h2 := h.ring.le
  simp only [own0, List.length_map] at h1
  exact ⟨h1.1, h2.1, h1.2, h2.2⟩

set_option maxHeartbeats 1000000 in
theorem IsBulk.admit_there (hx : x ∈ hs ∨ x ∈ ws) :
    Calls Tryz.prog 131 #[.pointer (some ⟨b, 0, none⟩), .int .i64 x] w fun e w' => e = .returned (.tuple #[.int .i64 3, .slice none 0 0]) ∧ Fr [] w w' := by
  have hl := h.lens
  have HR := Lib.hid (h.runs x)
  have HW := Lib.hid (fun (w1 : World) (F : Fr [] w w1) => (h.fr0 F).waiting)
  by_cases hh : x ∈ hs
  · rw [decide_eq_true hh] at HR
    clear hx hh
    go_enter Tryz.func131, Tryz.ntmps131
    go_wp2_with fail
    refine (HR.out).mono ?_
    rintro e w1 ⟨rfl, F1⟩
    go_wp2
    go_ret2
    exact ⟨rfl, F1⟩
  · have hw : x ∈ ws := by rcases hx with h1 | h1; exact absurd h1 hh; exact h1
    rw [decide_eq_false hh] at HR
    have HX := Lib.hid hw
    clear hx hh hw
    go_enter Tryz.func131, Tryz.ntmps131
    go_wp2_with fail
    refine (HR.out).mono ?_
    rintro e w1 ⟨rfl, F1⟩
    go_wp2_with fail
    refine (HW.out _ F1).mono ?_
    rintro e w2 ⟨v, rfl, V, F2⟩
    go_wp2_with fail
    refine (index_spec V.1 (by omega) x).mono ?_
    rintro e w3 ⟨rfl, rfl⟩
    rw [decide_eq_true HX.out]
    go_wp2
    go_ret2
    exact ⟨rfl, F1.trans F2⟩

set_option maxHeartbeats 2000000 in
theorem IsBulk.admit_run (hh : x ∉ hs) (hw : ws = []) (hm : hs.length < m) :
    Calls Tryz.prog 131 #[.pointer (some ⟨b, 0, none⟩), .int .i64 x] w fun e w' => e = .returned (.tuple #[.int .i64 1, .slice none 0 0]) ∧ IsBulk w' b s r g (hs ++ [x]) ws m q ∧ Fr [r, g] w w' := by
  have hl := h.lens
  have HR := Lib.hid (h.runs x)
  have HW := Lib.hid (fun (w1 : World) (F : Fr [] w w1) => (h.fr0 F).waiting)
  have HL := Lib.hid (fun (w1 : World) (F : Fr [] w w1) => (h.fr0 F).ring.len)
  have HT := Lib.hid (fun (w1 : World) (F : Fr [] w w1) => (h.fr0 F).set.take_yes x 0 (by simpa [own0] using hm) (fun e => hh ((mem_own0 _ _).1 e)))
  rw [decide_eq_false hh] at HR
  have c0 := h.c0
  have c1 := h.c1
  have hlt := h.lt
  have hap := h.apart
  have hnd : (hs ++ [x]).Nodup := by
    have := h.nodup
    subst hw
    rw [List.append_nil] at this
    rw [List.nodup_append]
    exact ⟨this, by simp, fun y hy z hz e => by simp at hz; subst hz; subst e; exact hh hy⟩
  subst hw
  have HX := Lib.hid hh
  clear hh
  go_enter Tryz.func131, Tryz.ntmps131
  go_wp2_with fail
  refine (HR.out).mono ?_
  rintro e w1 ⟨rfl, F1⟩
  go_wp2_with fail
  refine (HW.out _ F1).mono ?_
  rintro e w2 ⟨v, rfl, V, F2⟩
  go_wp2_with fail
  refine (index_spec V.1 (by omega) x).mono ?_
  rintro e w3 ⟨rfl, rfl⟩
  rw [decide_eq_false (show x ∉ [] by simp)]
  have F3 := F1.trans F2
  have c0' := (F3.cell (p := ⟨b, 0, none⟩) hlt (by simp)).trans c0
  have c1' := (F3.cell (p := ⟨b, 1, none⟩) hlt (by simp)).trans c1
  clear F1 F2 V
  go_wp2_with fail
  go_region_with (first
    | (go_at_call 149; refine (HL.out _ (by first | exact F3.drew | assumption)).mono ?_; rintro e w1 ⟨rfl, rfl⟩)
    | (go_at_call 114; refine (own_spec x _).mono ?_; rintro e w4 ⟨rfl, F⟩; have F4 := F3.drew.trans F; have c0'' := (F4.cell (p := ⟨b, 0, none⟩) hlt (by simp)).trans c0; clear F)
    | (go_at_call 122; refine (HT.out _ F4).mono ?_; rintro e w5 ⟨rfl, S5, F5⟩))
  all_goals go_wp2
  all_goals go_ret2
  all_goals (have F6 : Fr [r] w w5 := (F4.mono (S' := [r]) (fun x hx => by cases hx)).trans F5)
  all_goals exact ⟨rfl, ⟨F6.keep h.blk (by simp; exact hap.2.1), by simpa [own0] using S5, h.ring.fr F6 (by simp; exact fun e => hap.2.2.2.2.2 e.symm), by simpa using hnd⟩, F6.mono (fun x hx => Or.inl (by simp at hx; simp [hx]))⟩
end
end Go.Proofs.YtcnkhjgpjchkeaaGreat

namespace Go.Proofs.YtcnkhjgpjchkeaaGreat
open Go.RowKit

section
variable {w : World} {b s r g : Nat} {hs ws : List Int} {m q : Nat} (h : IsBulk w b s r g hs ws m q) (x : Int)
include h

set_option maxHeartbeats 4000000 in
/-- Up to the push: x doesn't run at once. -/
theorem IsBulk.admit_late (hh : x ∉ hs) (hw : x ∉ ws) (hno : ¬ (hs.length < m ∧ ws = [])) (hp : ws.length < q ∨ hs.length = m) :
    Calls Tryz.prog 131 #[.pointer (some ⟨b, 0, none⟩), .int .i64 x] w fun e w' =>
      e = .returned (.tuple #[.int .i64 (if ws.length < q then 2 else 3), .slice none 0 0]) ∧ IsBulk w' b s r g hs (if ws.length < q then ws ++ [x] else ws) m q ∧ Fr [r, g] w w' := by
  have hl := h.lens
  have HR := Lib.hid (h.runs x)
  have HW := Lib.hid (fun (w1 : World) (F : Fr [] w w1) => (h.fr0 F).waiting)
  have HL := Lib.hid (fun (w1 : World) (F : Fr [] w w1) => (h.fr0 F).ring.len)
  have HP := Lib.hid (fun (w1 : World) (F : Fr [] w w1) => (h.fr0 F).ring.push x)
  rw [decide_eq_false hh] at HR
  have c0 := h.c0
  have c1 := h.c1
  have hlt := h.lt
  have hap := h.apart
  have hnd : (hs ++ (ws ++ [x])).Nodup := by
    have := h.nodup
    rw [← List.append_assoc, List.nodup_append]
    refine ⟨this, by simp, fun y hy z hz e => ?_⟩
    simp at hz; subst hz; subst e
    rcases List.mem_append.1 hy with h1 | h1
    · exact hh h1
    · exact hw h1
  have fin : ∀ (w4 w5 : World), Fr [] w w4 → IsRing w5 g (if ws.length < q then ws ++ [x] else ws) q → Fr [g] w4 w5 → IsBulk w5 b s r g hs (if ws.length < q then ws ++ [x] else ws) m q ∧ Fr [r, g] w w5 := by
    intro w4 w5 F4 R F
    have F6 : Fr [g] w w5 := (F4.mono (S' := [g]) (fun x hx => by cases hx)).trans F
    refine ⟨⟨F6.keep h.blk (by simp; exact hap.2.2.1), h.set.fr F6 (by simp; exact hap.2.2.2.2.1) (by simp; exact hap.2.2.2.2.2), R, ?_⟩, F6.mono (fun x hx => Or.inl (by simp at hx; simp [hx]))⟩
    split
    · exact hnd
    · exact h.nodup
  have FIN := Lib.hid fin
  have HB := Lib.hid h
  clear fin hnd
  have HX := Lib.hid hh
  have HY := Lib.hid hw
  clear hh hw
  have HPK := Lib.hid (fun (w1 : World) (F : Fr [] w w1) (hm : hs.length = m) (hq : ¬ ws.length < q) => (h.fr0 F).pick_no (Or.inl hm))
  by_cases hwe : ws = []
  · have hm : ¬ hs.length < m := fun e => hno ⟨e, hwe⟩
    have HT := Lib.hid (fun (w1 : World) (F : Fr [] w w1) => (h.fr0 F).set.take_no x 0 (Or.inl (by simp [own0]; omega)))
    subst hwe
    clear hno
    go_enter Tryz.func131, Tryz.ntmps131
    go_wp2_with fail
    refine (HR.out).mono ?_
    rintro e w1 ⟨rfl, F1⟩
    go_wp2_with fail
    refine (HW.out _ F1).mono ?_
    rintro e w2 ⟨v, rfl, V, F2⟩
    go_wp2_with fail
    refine (index_spec V.1 (by omega) x).mono ?_
    rintro e w3 ⟨rfl, rfl⟩
    rw [decide_eq_false (show x ∉ [] by simp)]
    have F3 := F1.trans F2
    have c0' := (F3.cell (p := ⟨b, 0, none⟩) hlt (by simp)).trans c0
    have c1' := (F3.cell (p := ⟨b, 1, none⟩) hlt (by simp)).trans c1
    clear F1 F2 V
    go_wp2_with fail
    go_region_with (first
      | (go_at_call 149; refine (HL.out _ (by first | exact F3.drew | assumption)).mono ?_; rintro e w1 ⟨rfl, rfl⟩)
      | (go_at_call 114; refine (own_spec x _).mono ?_; rintro e w4 ⟨rfl, F⟩; have F4 := F3.drew.trans F; have c0'' := (F4.cell (p := ⟨b, 0, none⟩) hlt (by simp)).trans c0; clear F)
      | (go_at_call 122; refine (HT.out _ F4).mono ?_; rintro e w5 ⟨rfl, F⟩; have F5 := F4.trans F; have c0'' := (F5.cell (p := ⟨b, 0, none⟩) hlt (by simp)).trans c0; have c1'' := (F5.cell (p := ⟨b, 1, none⟩) hlt (by simp)).trans c1; clear F))
    all_goals go_wp2_with fail
    all_goals (refine (HP.out _ F5).mono ?_; rintro e w6 ⟨rfl, R, F⟩)
    all_goals have K := FIN.out _ _ F5 R F
    all_goals
      by_cases hq : 0 < q
      · have hq' : ([] : List Int).length < q := hq
        rw [decide_eq_true hq']
        go_wp2
        go_ret2
        rw [if_pos hq'] at K
        exact ⟨rfl, K⟩
      · have hq' : ¬ ([] : List Int).length < q := hq
        rw [decide_eq_false hq']
        rw [if_neg hq'] at K
        have HK := Lib.hid (K.1.pick_no (Or.inl (show hs.length = m by omega)))
        go_wp2_with fail
        refine (HK.out).mono ?_
        rintro e w7 ⟨rfl, B, F7⟩
        go_wp2
        go_ret2
        exact ⟨rfl, B, K.2.trans F7⟩
  · have hlen : ((ws.length : Int) == 0) = false := by
      have : ws.length ≠ 0 := fun e => hwe (List.eq_nil_of_length_eq_zero e)
      simp; exact hwe
    clear hwe hno
    go_enter Tryz.func131, Tryz.ntmps131
    go_wp2_with fail
    refine (HR.out).mono ?_
    rintro e w1 ⟨rfl, F1⟩
    go_wp2_with fail
    refine (HW.out _ F1).mono ?_
    rintro e w2 ⟨v, rfl, V, F2⟩
    go_wp2_with fail
    refine (index_spec V.1 (by omega) x).mono ?_
    rintro e w3 ⟨rfl, rfl⟩
    rw [decide_eq_false HY.out]
    have F3 := F1.trans F2
    have c0' := (F3.cell (p := ⟨b, 0, none⟩) hlt (by simp)).trans c0
    have c1' := (F3.cell (p := ⟨b, 1, none⟩) hlt (by simp)).trans c1
    clear F1 F2 V
    go_wp2_with fail
    go_quiet ((go_at_call 149; exact Calls.quiet_of_same (HL.out _ (F3.drewN _))))
    have F5 := F3.drewN nq
    go_wp2_with fail
    refine (HP.out _ F5).mono ?_
    rintro e w6 ⟨rfl, R, F⟩
    have K := FIN.out _ _ F5 R F
    by_cases hq' : ws.length < q
    · rw [decide_eq_true hq']
      have HQ := Lib.hid hq'
      go_wp2
      go_ret2
      rw [if_pos hq'] at K
      exact ⟨rfl, K⟩
    · rw [decide_eq_false hq']
      rw [if_neg hq'] at K
      have HK := Lib.hid (K.1.pick_no (Or.inl (show hs.length = m by omega)))
      go_wp2_with fail
      refine (HK.out).mono ?_
      rintro e w7 ⟨rfl, B, F7⟩
      go_wp2
      go_ret2
      exact ⟨rfl, B, K.2.trans F7⟩
end
end Go.Proofs.YtcnkhjgpjchkeaaGreat

namespace Go.Proofs.YtcnkhjgpjchkeaaGreat
open Go.RowKit

/-- A slice of ints in a block of ints. -/
def IntT (w : World) (v : Value) : Prop := ∀ g, v.ownBlock = some g → ∃ cs, w.heap[g]? = some (.cells cs 3 (0, 0))
theorem IntT.nil (w : World) : IntT w (.slice none 0 0) := fun g h => by cases h
set_option maxHeartbeats 4000000 in
/-- The first one that waits runs, x waits. -/
theorem IsBulk.admit_turn {w : World} {b s r g : Nat} {hs ws : List Int} {m q : Nat} {y : Int} (h : IsBulk w b s r g hs (y :: ws) m q) (x : Int) (hh : x ∉ hs) (hw : x ∉ y :: ws) (hm : hs.length < m) (hq : ¬ (y :: ws).length < q) :
    Calls Tryz.prog 131 #[.pointer (some ⟨b, 0, none⟩), .int .i64 x] w fun e w' =>
      ∃ v, e = .returned (.tuple #[.int .i64 2, v]) ∧ Lst w' w.heap.size v [y] ∧ IsBulk w' b s r g (hs ++ [y]) (ws ++ [x]) m q ∧ Fr [r, g] w w' ∧ IntT w' v := by
  have hl := h.lens
  simp only [List.length_cons] at hl
  have HR := Lib.hid (h.runs x)
  have HW := Lib.hid (fun (w1 : World) (F : Fr [] w w1) => (h.fr0 F).waiting)
  have HL := Lib.hid (fun (w1 : World) (F : Fr [] w w1) => (h.fr0 F).ring.len)
  have HP := Lib.hid (fun (w1 : World) (F : Fr [] w w1) => (h.fr0 F).ring.push x)
  rw [decide_eq_false hh] at HR
  rw [if_neg hq, decide_eq_false hq] at HP
  have c0 := h.c0
  have c1 := h.c1
  have hlt := h.lt
  have hap := h.apart
  have hnd : (hs ++ [y] ++ (ws ++ [x])).Nodup := by
    have h1 : (hs ++ y :: ws).Nodup := h.nodup
    rw [show hs ++ [y] ++ (ws ++ [x]) = (hs ++ y :: ws) ++ [x] by simp, List.nodup_append]
    refine ⟨h1, by simp, fun z hz z' hz' e => ?_⟩
    simp at hz'; subst hz'; subst e
    rcases List.mem_append.1 hz with h1 | h1
    · exact hh h1
    · exact hw h1
  have HB := Lib.hid h
  have HY := Lib.hid hw
  have hq1 : ¬ ws.length + 1 < q := by simpa using hq
  have hlen : (((ws.length : Int) + 1) == 0) = false := by simp; omega
  have HPK := Lib.hid (fun (w1 : World) (B : IsBulk w1 b s r g hs (y :: ws) m q) => B.pick_yes hm)
  clear hh hw hq
  go_enter Tryz.func131, Tryz.ntmps131
  go_wp2_with fail
  refine (HR.out).mono ?_
  rintro e w1 ⟨rfl, F1⟩
  go_wp2_with fail
  refine (HW.out _ F1).mono ?_
  rintro e w2 ⟨v, rfl, V, F2⟩
  go_wp2_with fail
  refine (index_spec V.1 (by simp; omega) x).mono ?_
  rintro e w3 ⟨rfl, rfl⟩
  rw [decide_eq_false HY.out]
  have F3 := F1.trans F2
  have c0' := (F3.cell (p := ⟨b, 0, none⟩) hlt (by simp)).trans c0
  have c1' := (F3.cell (p := ⟨b, 1, none⟩) hlt (by simp)).trans c1
  clear F1 F2 V
  go_wp2_with fail
  go_quiet ((go_at_call 149; exact Calls.quiet_of_same (HL.out _ (F3.drewN _))))
  have F5 := F3.drewN nq
  go_wp2_with fail
  refine (HP.out _ F5).mono ?_
  rintro e w6 ⟨rfl, R, F⟩
  have F6 : Fr [g] w w6 := (F5.mono (S' := [g]) (fun x hx => by cases hx)).trans F
  have B6 : IsBulk w6 b s r g hs (y :: ws) m q := ⟨F6.keep HB.out.blk (by simp; exact hap.2.2.1), HB.out.set.fr F6 (by simp; exact hap.2.2.2.2.1) (by simp; exact hap.2.2.2.2.2), R, HB.out.nodup⟩
  clear R F F5 F3 c0' c1'
  go_wp2_with fail
  refine (HPK.out _ B6).mono ?_
  rintro e w7 ⟨rfl, B7, F7⟩
  have c1' := B7.c1
  have hl7 := B7.lens
  have HP7 := Lib.hid (B7.ring.push x)
  go_wp2_with fail
  refine (HP7.out).mono ?_
  rintro e w8 ⟨rfl, R8, F8⟩
  have hq8 : ws.length < q := by omega
  rw [if_pos hq8] at R8
  have F9 : Fr [r, g] w w8 := ((F6.mono (S' := [r, g]) (fun x hx => Or.inl (by simp at hx; simp [hx]))).trans F7).trans (F8.mono (fun x hx => Or.inl (by simp at hx; simp [hx])))
  have hs8 := F9.size
  go_wp2
  go_ret2
  refine ⟨_, rfl, ⟨⟨_, 1, rfl, by simp, fun e => by simp at e, fun j hj => ⟨w8.heap.size, 0, rfl, ?_⟩⟩, fun k hk => by simp [Value.ownBlock] at hk; omega⟩, ⟨?_, ?_, ?_, hnd⟩, F9.alloc _, fun k hk => by simp [Value.ownBlock] at hk; subst hk; exact ⟨_, block_alloc_new w8 _⟩⟩
  · have : j = 0 := by simpa using hj
    subst this
    exact World.cell?_alloc_new w8 _ _ 0
  · exact block_alloc (F8.keep B7.blk (by simp; exact hap.2.2.1)) _
  · exact (B7.set.fr F8 (by simp; exact hap.2.2.2.2.1) (by simp; exact hap.2.2.2.2.2)).fr ((Fr.refl [] _).alloc _) (by simp) (by simp)
  · exact R8.fr ((Fr.refl [] _).alloc _) (by simp)

/-- Admit, whatever the case. -/
theorem IsBulk.admitM {w : World} {b s r g : Nat} {hs ws : List Int} {m q : Nat} (h : IsBulk w b s r g hs ws m q) (x : Int) :
    Calls Tryz.prog 131 #[.pointer (some ⟨b, 0, none⟩), .int .i64 x] w fun e w' =>
      ∃ v, e = .returned (.tuple #[.int .i64 (admitM m q hs ws x).2.2.1, v]) ∧ Lst w' w.heap.size v (admitM m q hs ws x).2.2.2 ∧ IsBulk w' b s r g (admitM m q hs ws x).1 (admitM m q hs ws x).2.1 m q ∧ Fr [r, g] w w' ∧ IntT w' v := by
  have hl := h.lens
  unfold Proofs.YtcnkhjgpjchkeaaGreat.admitM
  by_cases h1 : x ∈ hs ∨ x ∈ ws
  · rw [if_pos h1]
    exact (h.admit_there x h1).mono fun e w' ⟨k1, k2⟩ => ⟨_, k1, Lst.nil _ _, h.fr0 k2, k2.mono (fun _ hx => by cases hx), IntT.nil _⟩
  · rw [if_neg h1]
    simp only [not_or] at h1
    by_cases h2 : hs.length < m ∧ ws = []
    · rw [if_pos h2]
      exact (h.admit_run x h1.1 h2.2 h2.1).mono fun e w' ⟨k1, k2, k3⟩ => ⟨_, k1, Lst.nil _ _, k2, k3, IntT.nil _⟩
    · rw [if_neg h2]
      by_cases h3 : ws.length < q
      · rw [if_pos h3]
        refine (h.admit_late x h1.1 h1.2 h2 (Or.inl h3)).mono fun e w' ⟨k1, k2, k3⟩ => ?_
        rw [if_pos h3] at k1 k2
        exact ⟨_, k1, Lst.nil _ _, k2, k3, IntT.nil _⟩
      · rw [if_neg h3]
        by_cases h4 : hs.length < m ∧ ws ≠ []
        · rw [if_pos h4]
          cases ws with
          | nil => exact absurd rfl h4.2
          | cons y ws => exact h.admit_turn x h1.1 h1.2 h4.1 h3
        · rw [if_neg h4]
          have hm : hs.length = m := by
            by_cases hm : hs.length < m
            · by_cases hw : ws = []
              · exact absurd ⟨hm, hw⟩ h2
              · exact absurd ⟨hm, hw⟩ h4
            · omega
          refine (h.admit_late x h1.1 h1.2 h2 (Or.inr hm)).mono fun e w' ⟨k1, k2, k3⟩ => ?_
          rw [if_neg h3] at k1 k2
          exact ⟨_, k1, Lst.nil _ _, k2, k3, IntT.nil _⟩
end Go.Proofs.YtcnkhjgpjchkeaaGreat
