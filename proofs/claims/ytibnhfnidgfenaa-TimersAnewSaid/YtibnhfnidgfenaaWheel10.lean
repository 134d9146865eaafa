/-
  MinFunc by first; next.
-/
import Derived.Test.YtibnhfnidgfenaaWheel9
namespace Go.Proofs.Ytibnhfnidgfenaa
open Go.RowKit

theorem ahead_trans {a b c : Ent} (h : Ahead a b) (k : Ahead b c) : Ahead a c := by
  unfold Ahead at *
  omega
theorem ahead_irrefl (a : Ent) : ¬ Ahead a a := by
  unfold Ahead
  omega
instance : Inhabited Ent := ⟨⟨0, 0, 0, 0, 0⟩⟩
theorem getE_mem {l : List Ent} {i : Nat} (h : i < l.length) : l.getD i default ∈ l := by
  have : l.getD i default = l[i] := by simp [List.getD, h]
  rw [this]
  exact List.getElem_mem h
theorem getE_blk {l : List Ent} {i : Nat} (h : i < l.length) : (l.map (·.blk)).getD i 0 = (l.getD i default).blk := by
  simp [List.getD, h]

set_option maxHeartbeats 2000000 in
theorem min_spec {w : World} {g cap : Nat} {es : List Ent} (hP : PBlk w g (es.map (·.blk))) (hE : ∀ e ∈ es, w.heap[e.blk]? = some e.obj) (hne : 0 < es.length) (hn : es.length ≤ 100000) :
    Calls Try.prog 58 #[.slice (some ⟨g, 0, none⟩) es.length cap, .func (.func 59) #[] #[]] w fun r w' => (∃ e ∈ es, r = .returned (.pointer (some ⟨e.blk, 0, none⟩)) ∧ ∀ c ∈ es, ¬ Ahead c e) ∧ Fr [] w w' := by
  have HP := Lib.hid (fun t (ht : t < es.length) => (by
    have := hP.1 t (by simpa using ht)
    rwa [getE_blk ht] at this : w.cell? ⟨g, t, none⟩ = some (.pointer (some ⟨(es.getD t default).blk, 0, none⟩))))
  have HE := Lib.hid hE
  have hne' : ¬ (es.length : Int) < 1 := by omega
  have k00 := HP.out 0 hne
  have HM0 := Lib.hid (getE_mem hne)
  have HI0 : Hid (∀ t, t < 1 → ¬ Ahead (es.getD t default) (es.getD 0 default)) := Lib.hid (fun t ht => by
    have : t = 0 := by omega
    subst this
    exact ahead_irrefl _)
  clear hP hE
  generalize hx : es.getD 0 default = m0 at *
  clear hx
  go_enter Try.func58, Try.ntmps58
  go_wp2_with fail
  go_loopw [5, 6] (fun p v wr => ∃ (i : Nat) (m : Ent), p = .pointer (some ⟨m.blk, 0, none⟩) ∧ v = .int .i64 i ∧ 1 ≤ i ∧ i ≤ es.length ∧ Hid (m ∈ es) ∧ Hid (∀ t, t < i → ¬ Ahead (es.getD t default) m) ∧ Hid (Fr [] w wr)) (fun _ v _ => es.length - (intOf v).toNat)
  case atStart => exact ⟨1, m0, rfl, rfl, Nat.le_refl _, by omega, HM0, HI0, Lib.hid (Fr.refl _ _)⟩
  case round =>
    obtain ⟨i, m, rfl, rfl, hi1, hi2, HM, HI, HF⟩ := hrel
    by_cases hlt : i < es.length
    · have k0 := HF.out.on (HP.out i hlt) (by simp)
      have HMi := Lib.hid (getE_mem hlt)
      have HS := Lib.hid (fun (h : ¬ Ahead (es.getD i default) m) => (fun t (ht : t < i + 1) => if e : t = i then e ▸ h else HI.out t (by omega) : ∀ t, t < i + 1 → ¬ Ahead (es.getD t default) m))
      have HT := Lib.hid (fun (h : Ahead (es.getD i default) m) => (fun t (ht : t < i + 1) (h2 : Ahead (es.getD t default) (es.getD i default)) => if e : t = i then ahead_irrefl _ (e ▸ h2) else HI.out t (by omega) (ahead_trans h2 h) : ∀ t, t < i + 1 → ¬ Ahead (es.getD t default) (es.getD i default)))
      generalize hx : es.getD i default = x at *
      clear hx
      have HFS := Lib.hid (first_spec ((HF.out.keep (HE.out x HMi.out) (by simp))) (HF.out.keep (HE.out m HM.out) (by simp)))
      by_cases ha : Ahead x m
      · have hneg := firstI_neg.2 ha
        have HT := Lib.hid (HT.out ha)
        clear ha HS
        generalize firstI x m = fi at *
        go_wp2_with fail
        refine HFS.out.mono ?_
        rintro r w1 ⟨rfl, F⟩
        have k1 := F.on k0 (by simp)
        have HF1 := Lib.hid (HF.out.trans F)
        clear F k0
        go_wp2_with fail
        go_roundw
        case rel => exact ⟨i + 1, x, rfl, by go_num, by omega, by omega, HMi, HT, HF1⟩
        case measure => simp [intOf]; omega
      · have hneg : ¬ firstI x m < 0 := fun h => ha (firstI_neg.1 h)
        have HS := Lib.hid (HS.out ha)
        clear ha HT
        generalize firstI x m = fi at *
        go_wp2_with fail
        refine HFS.out.mono ?_
        rintro r w1 ⟨rfl, F⟩
        have HF1 := Lib.hid (HF.out.trans F)
        clear F k0
        go_wp2_with fail
        go_roundw
        case rel => exact ⟨i + 1, m, rfl, by go_num, by omega, by omega, HM, HS, HF1⟩
        case measure => simp [intOf]; omega
    · obtain rfl : i = es.length := by omega
      go_wp2_with fail
      go_ret
      refine ⟨⟨m, HM.out, rfl, fun c hc => ?_⟩, HF.out⟩
      obtain ⟨t, ht, rfl⟩ := List.getElem_of_mem hc
      have := HI.out t ht
      simpa [List.getD, ht] using this
end Go.Proofs.Ytibnhfnidgfenaa
