/-
  MetricsLine, as a contract of its function.
-/
import Derived.Test.YtfegdmhfmhaneaaDoorMet8
namespace Go.Proofs.YtfegdmhfmhaneaaDoor
open Go.RowKit

set_option maxHeartbeats 4000000 in
set_option maxRecDepth 20000 in
theorem metricsLine_spec (s : Sn) (hs : s.ok) (n : Nat) (hn : n < 18446744073709551616) (w : World) (ht : Tab w) :
    Calls Tryd.prog 3 #[.agg s.vals, .int .u64 n] w fun e w' => e = .returned (.bool true) ∧ Fr [] w w' := by
  have HA := Lib.hid (fun (w' : World) (F : Fr [] w w') => awake_spec w' (ht.fr F))
  have HM := Lib.hid (fun (w' : World) => made_spec s w')
  have HL := Lib.hid (fun (w' : World) (F : Fr [] w w') => line_spec s hs w' (ht.fr F))
  have HR := Lib.hid (fun (w' : World) => refline_spec s hs w')
  have HN := Lib.hid (fun (w' : World) (F : Fr [] w w') => num_spec n hn w' (ht.fr F))
  have HQ := Lib.hid (fun (w' : World) => refnum_spec n w' hn)
  have HB := Lib.hid (block_alloc_new w (.cells s.vals 25))
  have HF := Lib.hid ((Fr.refl [] w).alloc (.cells s.vals 25))
  clear hs hn ht
  generalize bs s.line = x at *
  generalize bs (Lib.decDigits n) = y at *
  obtain ⟨b, bw, f, c, br, k0, k1, k2, k3, k4, ha, al⟩ := s
  simp only [Sn.vals] at HB HF HM HL HR
  simp only [Sn.vals]
  go_enter Tryd.func3, Tryd.ntmps3
  go_wp2_with fail
  refine (HA.out _ HF.out).mono ?_
  rintro e w2 ⟨rfl, F⟩
  have HF2 := Lib.hid (HF.out.trans F)
  have KS : Hid (∀ w' : World, Fr [] w2 w' → w'.heap[w.heap.size]? = some (.cells #[.int .i64 b, .int .i64 bw, .int .i64 f, .int .i64 c, .int .i64 br, .int .u64 k0, .int .u64 k1, .int .u64 k2, .int .u64 k3, .int .u64 k4, .int .u64 ha, .int .u64 al] 25)) := Lib.hid (fun w' F' => F'.keep (F.keep HB.out (by simp)) (by simp))
  have hc1 : ∀ (w' : World) (i : Nat), w'.heap[w.heap.size]? = some (.cells #[.int .i64 b, .int .i64 bw, .int .i64 f, .int .i64 c, .int .i64 br, .int .u64 k0, .int .u64 k1, .int .u64 k2, .int .u64 k3, .int .u64 k4, .int .u64 ha, .int .u64 al] 25) → w'.cell? ⟨w.heap.size, i, none⟩ = #[.int .i64 b, .int .i64 bw, .int .i64 f, .int .i64 c, .int .i64 br, .int .u64 k0, .int .u64 k1, .int .u64 k2, .int .u64 k3, .int .u64 k4, .int .u64 ha, .int .u64 al][i]? := fun w' i h => cell_of_block h i
  clear F HB HA HF
  go_wp2_with fail
  have FX := Fr.refl [] w2
  go_region_held3 (fun w' => w'.heap[w.heap.size]? = some (.cells #[.int .i64 b, .int .i64 bw, .int .i64 f, .int .i64 c, .int .i64 br, .int .u64 k0, .int .u64 k1, .int .u64 k2, .int .u64 k3, .int .u64 k4, .int .u64 ha, .int .u64 al] 25))
    (with_reducible exact KS.out _ (by with_reducible repeat (first | exact FX | exact Fr.refl _ _ | apply Fr.drew | apply Fr.drewN | apply Fr.alloc)))
    (first
      | (go_at_call 11; refine (HM.out _).mono ?_; rintro e wA ⟨rfl, F⟩; have FX : Fr [] w2 wA := Fr.trans (by with_reducible repeat (first | exact FX | exact Fr.refl _ _ | apply Fr.drew | apply Fr.drewN | apply Fr.alloc)) F; clear F)
      | (go_at_call 10; refine (HL.out _ (HF2.out.trans (by with_reducible repeat (first | exact FX | exact Fr.refl _ _ | apply Fr.drew | apply Fr.drewN | apply Fr.alloc)))).mono ?_; rintro e wA ⟨rfl, F⟩; have FX : Fr [] w2 wA := Fr.trans (by with_reducible repeat (first | exact FX | exact Fr.refl _ _ | apply Fr.drew | apply Fr.drewN | apply Fr.alloc)) F; clear F)
      | (go_at_call 12; refine (HR.out _).mono ?_; rintro e wA ⟨rfl, F⟩; have FX : Fr [] w2 wA := Fr.trans (by with_reducible repeat (first | exact FX | exact Fr.refl _ _ | apply Fr.drew | apply Fr.drewN | apply Fr.alloc)) F; clear F)
      | (go_at_call 13; refine (HN.out _ (HF2.out.trans (by with_reducible repeat (first | exact FX | exact Fr.refl _ _ | apply Fr.drew | apply Fr.drewN | apply Fr.alloc)))).mono ?_; rintro e wA ⟨rfl, F⟩; have FX : Fr [] w2 wA := Fr.trans (by with_reducible repeat (first | exact FX | exact Fr.refl _ _ | apply Fr.drew | apply Fr.drewN | apply Fr.alloc)) F; clear F)
      | (go_at_call 14; refine (HQ.out _).mono ?_; rintro e wA ⟨rfl, F⟩; have FX : Fr [] w2 wA := Fr.trans (by with_reducible repeat (first | exact FX | exact Fr.refl _ _ | apply Fr.drew | apply Fr.drewN | apply Fr.alloc)) F; clear F))
  all_goals (
    clear KS hc1 HM HL HR HN HQ
    go_wp2_with fail
    go_ret
    exact ⟨rfl, HF2.out.trans (by with_reducible repeat (first | exact FX | exact Fr.refl _ _ | apply Fr.drew | apply Fr.drewN | apply Fr.alloc))⟩)
end Go.Proofs.YtfegdmhfmhaneaaDoor
