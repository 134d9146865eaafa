/-
  Events that read alike are the same; few; shared.
-/
import Derived.Test.YtfegdmhfmhaneaaOu4
namespace Go.Proofs.Ytfegdmhfmhaneaa
open Go.RowKit

theorem Fr.on {S : List Nat} {w w' : World} (h : Fr S w w') {p : Addr} {v : Value} (hc : w.cell? p = some v) (hn : p.block ∉ S) : w'.cell? p = some v := (h.cell (World.block_lt_of_cell? _ _ hc) hn).trans hc
/-- The values of the events can be read. -/
def EvVals (w : World) (l : List Ev) : Prop := ∀ e ∈ l, e.vn ≤ 9223372036854775807 ∧ ∀ k, k < e.vn → ∃ b o x, e.va = some ⟨b, o, none⟩ ∧ w.cell? ⟨b, o + k, none⟩ = some (.int .i64 x)
theorem EvVals.fr {w w' : World} {l : List Ev} (h : EvVals w l) (F : Fr [] w w') : EvVals w' l := fun e he => ⟨(h e he).1, fun k hk => by
  obtain ⟨b, o, x, h1, h2⟩ := (h e he).2 k hk
  exact ⟨b, o, x, h1, (F.cell (World.block_lt_of_cell? _ _ h2) (by simp)).trans h2⟩⟩
theorem EvVals.sub {w : World} {l l' : List Ev} (h : EvVals w l) (hs : ∀ e ∈ l', e ∈ l) : EvVals w l' := fun e he => h e (hs e he)
theorem mem_getD {l : List Ev} {i : Nat} (h : i < l.length) : l.getD i default ∈ l := by
  have : l.getD i default = l[i] := by simp [List.getD, h]
  rw [this]
  exact List.getElem_mem h

set_option maxHeartbeats 4000000 in
set_option maxRecDepth 20000 in
theorem events_spec {w : World} {base base2 : Nat} {v u : Value} {l : List Ev} (hl : Evs w base v l) (hu : Evs w base2 u l) (hn : l.length ≤ 1000) (hv : EvVals w l) :
    Calls Try.prog 11 #[v, u] w fun e w' => e = .returned (.bool true) ∧ Fr [] w w' := by
  obtain ⟨ao, cap, rfl, hc, hnone, h4⟩ := hl
  obtain ⟨ao2, cap2, rfl, hc2, hnone2, h42⟩ := hu
  have H4 := Lib.hid h4
  have H42 := Lib.hid h42
  have HV := Lib.hid hv
  clear h4 hnone h42 hnone2 hv
  go_enter Try.func11, Try.ntmps11
  go_wp2_with fail
  go_loopw [5] (fun x wr => ∃ (i : Nat), i ≤ l.length ∧ x = .int .i64 i ∧ Hid (Fr [] w wr)) (fun x _ => l.length - (intOf x).toNat)
  case atStart => exact ⟨0, Nat.zero_le _, rfl, Lib.hid (Fr.refl _ _)⟩
  case round =>
    obtain ⟨i, hi2, rfl, HF⟩ := hrel
    by_cases hlt : i < l.length
    · obtain ⟨b, o, rfl, hb, h9⟩ := H4.out i hlt
      obtain ⟨b2, o2, rfl, hb2, h92⟩ := H42.out i hlt
      have h9r := h9.fr HF.out (by simp)
      have h92r := h92.fr HF.out (by simp)
      have HVI := Lib.hid (HV.out _ (mem_getD hlt))
      clear h9 h92
      generalize hev : l.getD i default = ev at *
      clear hev
      have h92a := h92r.fr (S := []) ((Fr.refl [] _).alloc ev.obj) (by simp)
      have hvn := HVI.out.1
      obtain ⟨kind, eid, dep, scope, arg, step, n, ok, va, vn, vc⟩ := ev
      simp only at hvn
      obtain ⟨k0, k1, k2, k3, k4, k5, k6, k7, k8⟩ := h9r
      obtain ⟨y0, y1, y2, y3, y4, y5, y6, y7, y8⟩ := h92r
      obtain ⟨z0, z1, z2, z3, z4, z5, z6, z7, z8⟩ := h92a
      simp only [Ev.obj] at k0 k1 k2 k3 k4 k5 k6 k7 k8 y0 y1 y2 y3 y4 y5 y6 y7 y8 z0 z1 z2 z3 z4 z5 z6 z7 z8
      obtain ⟨W2, hW2⟩ : ∃ W2, W2 = (wr.alloc (.cells #[.int .i64 kind, .int .i64 eid, .int .i64 dep, .int .i64 scope, .int .i64 arg, .int .i64 step, .int .u64 n, .bool ok, .slice va vn vc] 36)).alloc (.cells #[.int .i64 kind, .int .i64 eid, .int .i64 dep, .int .i64 scope, .int .i64 arg, .int .i64 step, .int .u64 n, .bool ok, .slice va vn vc] 36) := ⟨_, rfl⟩
      have HF2 : Hid (Fr [] w W2) := Lib.hid (by rw [hW2]; exact (HF.out.alloc _).alloc _)
      have j8 : W2.cell? ⟨wr.heap.size, 8, none⟩ = some (.slice va vn vc) := by rw [hW2]; simp
      have i8 : W2.cell? ⟨wr.heap.size + 1, 8, none⟩ = some (.slice va vn vc) := by rw [hW2]; simp
      have J8 := Lib.hid j8
      have I8 := Lib.hid i8
      clear j8 i8
      go_wp2_with fail
      simp only [← hW2]
      clear hW2 k0 k1 k2 k3 k4 k5 k6 k7 k8 y0 y1 y2 y3 y4 y5 y6 y7 y8 z0 z1 z2 z3 z4 z5 z6 z7 z8
      go_loopw [8] (fun x wk => ∃ (k : Nat), k ≤ vn ∧ x = .int .i64 k ∧ Hid (Fr [] W2 wk)) (fun x _ => vn - (intOf x).toNat)
      case atStart => exact ⟨0, Nat.zero_le _, rfl, Lib.hid (Fr.refl _ _)⟩
      case round =>
        obtain ⟨k, hk2, rfl, HFk⟩ := hrel
        have j8 := HFk.out.on J8.out (by simp)
        have i8 := HFk.out.on I8.out (by simp)
        by_cases hltk : k < vn
        · obtain ⟨b3, o3, x, hva, hx⟩ := HVI.out.2 k hltk
          subst hva
          have hx' := ((HF2.out.trans HFk.out).cell (World.block_lt_of_cell? _ _ hx) (by simp)).trans hx
          clear hx
          go_wp2_with fail
          go_quiet (fail)
          go_wp2_with fail
          go_roundw
          case rel => exact ⟨k + 1, by omega, by go_num, Lib.hid (HFk.out.drewN _)⟩
          case measure => simp [intOf]; omega
        · obtain rfl : k = vn := by omega
          clear hk2 hltk hvn
          go_wp2_with fail
          go_roundw
          case rel => exact ⟨i + 1, by omega, by go_num, Lib.hid (HF2.out.trans HFk.out)⟩
          case measure => simp [intOf]; omega
    · go_wp2_with fail
      go_ret
      exact ⟨rfl, HF.out⟩

set_option maxHeartbeats 2000000 in
theorem few_spec {w : World} {base : Nat} {v : Value} {l : List Ev} (hl : Evs w base v l) (hn : l.length ≤ 9223372036854775807) :
    Calls Try.prog 8 #[v] w fun e w' => (∃ b : Bool, e = .returned (.bool b) ∧ (b = true → l.length ≤ 80)) ∧ w' = w := by
  obtain ⟨ao, cap, rfl, hc, hnone, h4⟩ := hl
  have H4 := Lib.hid h4
  clear h4 hnone
  go_enter Try.func8, Try.ntmps8
  go_wp2_with fail
  go_loopw [3] (fun x wr => ∃ (i : Nat), i ≤ l.length ∧ i ≤ 81 ∧ x = .int .i64 i ∧ wr = w) (fun x _ => l.length - (intOf x).toNat)
  case atStart => exact ⟨0, Nat.zero_le _, by omega, rfl, by trivial⟩
  case round =>
    obtain ⟨i, hi2, hi3, rfl, rfl⟩ := hrel
    by_cases hlt : i < l.length
    · by_cases hlt2 : i < 81
      · obtain ⟨b, o, rfl, hb, h9⟩ := H4.out i hlt
        obtain ⟨k0, k1, k2, k3, k4, k5, k6, k7, k8⟩ := h9
        generalize (l.getD i default).vn = n at *
        by_cases hn20 : n ≤ 20
        · have hf : ¬ (20 : Int) < (n : Int) := by omega
          go_wp2_with fail
          go_roundw
          case rel => exact ⟨i + 1, by omega, by omega, by go_num, by trivial⟩
          case measure => simp [intOf]; omega
        · have hf : (20 : Int) < (n : Int) := by omega
          go_wp2_with fail
          go_ret
          exact ⟨⟨_, rfl, fun h => (by cases h)⟩, by trivial⟩
      · go_wp2_with fail
        go_ret
        exact ⟨⟨_, rfl, fun h => by have := of_decide_eq_true h; omega⟩, by trivial⟩
    · go_wp2_with fail
      go_ret
      exact ⟨⟨_, rfl, fun h => by have := of_decide_eq_true h; omega⟩, by trivial⟩

set_option maxHeartbeats 4000000 in
theorem shared_spec {w : World} {base : Nat} {v : Value} {l : List Ev} (hl : Evs w base v l) (hn : l.length ≤ 1000) :
    Calls Try.prog 17 #[v] w fun e w' => ∃ v', e = .returned v' ∧ Evs w' w.heap.size v' (l.filter sharedB) ∧ Fr [] w w' := by
  obtain ⟨i0, hi, hz0, hz1, hz2⟩ := info_parts9 Try.info_ev
  obtain ⟨ao, cap, rfl, hc, hnone, h4⟩ := hl
  have H4 := Lib.hid h4
  clear h4 hnone
  go_enter Try.func17, Try.ntmps17
  go_wp2_with fail
  go_loopw [3, 4] (fun rv x wr => ∃ (i : Nat) (k : List Ev), i ≤ l.length ∧ x = .int .i64 i ∧ k.length ≤ i ∧ Hid ((l.take i).filter sharedB = k) ∧ Hid (wr.ownsRow w.heap.size 36 9 rv k.length (k.flatMap Ev.cells)) ∧ Hid (Fr [] w wr)) (fun _ x _ => l.length - (intOf x).toNat)
  case atStart => exact ⟨0, [], Nat.zero_le _, rfl, Nat.le_refl _, Lib.hid rfl, Lib.hid (World.ownsRow_nil _ _ _ _), Lib.hid (Fr.refl _ _)⟩
  case round =>
    obtain ⟨i, k, hi2, rfl, hki, HK, HO, HF⟩ := hrel
    obtain ⟨ao2, cap2, hrv⟩ := ownsForm9 HO.out
    subst hrv
    by_cases hlt : i < l.length
    · obtain ⟨b, o, rfl, hb, h9⟩ := H4.out i hlt
      obtain ⟨k0, k1, k2, k3, k4, k5, k6, k7, k8⟩ := h9.fr HF.out (by simp)
      have HSN : Hid ((l.take (i + 1)).filter sharedB = k ++ [l.getD i default].filter sharedB) := Lib.hid (by rw [take_snoc_ev hlt, List.filter_append, HK.out])
      clear h9
      generalize hev : l.getD i default = ev at *
      clear hev
      obtain ⟨kind, eid, dep, scope, arg, step, n, ok, va, vn, vc⟩ := ev
      simp only at k0 k1 k2 k3 k4 k5 k6 k7 k8
      have hs1 := HF.out.size
      by_cases hp : kind = 2 ∨ kind = 6
      · have HK2 := Lib.hid (show (l.take (i + 1)).filter sharedB = k ++ [⟨kind, eid, dep, scope, arg, step, n, ok, va, vn, vc⟩] by rw [HSN.out]; simp [sharedB, hp])
        clear HSN
        rcases hp with hp | hp
        all_goals
          subst hp
          go_wp2_with (at_builtin; refine wpList_app rfl (.tmp 25) (.tmp 30) 22 rfl w.heap.size 36 i0 _ 9 88 Try.underlying22 hi hz0 hz1 hz2 rfl (by decide) (.slice ao2 k.length cap2) k.length _ rfl (ownsRow_fr HO.out ((Fr.refl [] _).alloc _) (by simp)) _ 1 _ rfl (Src.one9 wr ⟨_, eid, dep, scope, arg, step, n, ok, va, vn, vc⟩) (by unfold maxLen; omega) (by omega) (by simp; omega) ?_; intro v8 w8 hown hg)
          have HO8 := Lib.hid hown
          have HF8 := Lib.hid (Fr.of_grown9 (HF.out.alloc (Ev.obj ⟨_, eid, dep, scope, arg, step, n, ok, va, vn, vc⟩)) hg (fun q hq => .inr (World.ownsRow.lt HO.out q hq).1))
          clear hown hg
          go_wp2_with fail
          go_roundw
          case rel => exact ⟨i + 1, k ++ [⟨_, eid, dep, scope, arg, step, n, ok, va, vn, vc⟩], by omega, by go_num, by simp; omega, HK2, Lib.hid (by rw [List.flatMap_append, List.length_append]; simpa using HO8.out), HF8⟩
          case measure => simp [intOf]; omega
      · have HK2 := Lib.hid (show (l.take (i + 1)).filter sharedB = k by rw [HSN.out]; simp [sharedB, hp])
        have p2 : (kind == 2) = false := by simpa using fun h => hp (.inl h)
        have p6 : (kind == 6) = false := by simpa using fun h => hp (.inr h)
        clear HSN hp
        go_wp2_with fail
        go_roundw
        case rel => exact ⟨i + 1, k, by omega, by go_num, by omega, HK2, HO, HF⟩
        case measure => simp [intOf]; omega
    · go_wp2_with fail
      go_ret
      have e : l.filter sharedB = k := by
        have := HK.out
        rw [List.take_of_length_le (by omega)] at this
        exact this
      rw [e]
      exact ⟨_, rfl, Evs.of_owns HO.out, HF.out⟩
end Go.Proofs.Ytfegdmhfmhaneaa
