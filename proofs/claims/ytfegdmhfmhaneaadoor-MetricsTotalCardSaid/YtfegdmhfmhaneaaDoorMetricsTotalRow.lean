/-
  The statement of porpoiselaw20.MetricsTotal, and its tied card: for every input it answers true, and each argument reads behind the call as it read before.
-/
import Derived.Test.YtfegdmhfmhaneaaDoorMet13
import Derived.Test.YtfegdmhfmhaneaaDoorRowM3
import Derived.Test.YtfegdmhfmhaneaaDoorCards
import Derived.Test.YtfegdmhfmhaneaaDoorTie
import Derived.SevenTiedAt
namespace Go.Proofs.YtfegdmhfmhaneaaDoor.metricsTotal
open Go Go.ChangeShapes Go.WideShapes Go.ChangeAt Go.RowKit Go.Deep
open Go.ChangeMaps (open_string shut_string)
set_option linter.unusedVariables false

set_option maxRecDepth 100000 in
theorem lifted (os : Os) (started : os.Started) (H : Type) (enc : TypeId × Value → H) :
    ReturnsInHanded {} Tryd.checked os 4 .any (fun w args => (Rows.metricsTotalSpec.pre enc Tryd.prog Tryd.f4 [] false w args ∧ laidMetH Tryd.prog laidL w) ∧ sizedMet enc Tryd.prog Tryd.f4 (OpenSpec.ofChange Rows.metricsTotalSpec) false w args)
      (Rows.metricsTotalSpec.post enc Tryd.prog Tryd.f4 false true false false) := by
  refine returnsInHanded_of_change_and (C := Tryd.checked) (X := fun w _ => laidMetH Tryd.prog laidL w) (fun _ _ _ hh h => h.of_heap hh) own started (by kernel_rfl) Tryd.func4
    (ChangeSpec.witness_shaped (enc := enc) (C := Tryd.checked) (os := os) (X := fun w _ => laidMetH Tryd.prog laidL w) false (World.doorLaid Tryd.prog 400 os) #[.slice none 0 0] 8 rfl (World.shaped_of_RefB (by kernel_rfl) (by kernel_rfl)) (by kernel_rfl) (by kernel_rfl) (by kernel_rfl) (door_met os _)) ?_
  intro W base args ds gs before hval0 hW _ hsz hL _
  have hval : ∀ (j : Nat) t v, Tryd.f4.params[j]? = some t → args[j]? = some v → Value.okWide Tryd.prog W .any base t v := hval0
  have hW' := hW
  obtain ⟨p, q, hA0, hV, rfl, hfz, hnd⟩ := hW
  have hA : DataW.TrodAll enc Tryd.prog W 0 (fun _ => true) true Tryd.f4.params.toList args.toList ds p := hA0
  rw [Tryd.params4] at hA hval
  have ht := tab_of_laid hL
  obtain ⟨v0, vs0, d0, ds0, p0, q0, hargs, rfl, rfl, h0, r0⟩ := trodAll_cons hA
  obtain ⟨rfl, rfl, rfl⟩ := trodAll_nil r0
  obtain rfl : args = #[v0] := by cases args; simp_all
  obtain ⟨rfl, rfl⟩ := trodVars_none hV
  obtain ⟨l0, D0, V0, N0⟩ := open_ous Tryd.underlying33 Tryd.underlying35 ⟨rfl, rfl, rfl, rfl, rfl⟩ Tryd.underlying3 Tryd.underlying22 (by kernel_rfl) (by kernel_rfl) (hval 0 33 v0 rfl rfl) h0
  have S0 := ous_weight hsz (j := 0) rfl rfl D0 h0
  exact ((metricsTotal_spec D0 S0 ht)).mono fun e W' ⟨he, hF⟩ => ⟨_, he, law_post hW' (hF.below (Nat.le_refl _) (fun _ hx => by cases hx)) rfl rfl (by kernel_rfl) rfl rfl rfl⟩

theorem over : Rows.MetricsTotalSaid :=
  OpenClaim.holds_of_wide 4 Tryd.f4 rfl rfl rfl rfl rfl rfl rfl ⟨rfl, rfl, rfl, rfl, rfl⟩ rfl rfl rfl rfl rfl (by kernel_rfl) Tryd.func4 (by kernel_rfl)
    (of_decide_eq_true (by kernel_rfl)) (by unfold Func.isWrapper; first | (rw [if_pos (by decide +kernel)]; kernel_rfl) | (rw [if_neg (by decide +kernel)]; exact ⟨rfl, rfl⟩))
    (fun os started H enc _ => lifted os started H enc)

theorem proved : Rows.MetricsTotalCardSaid :=
  Claim7.holds_tied_plain_at .later [] [.data, .data, .data] true (true, "3a5446df49d0c9c423d61675cb1de6ae97422960b71f98b5f26eb6d60d87dde6") false
    over (fun _ h => by cases h) (by kernel_rfl) (fun _ h => by cases h) metricsTotal_row_tie rfl ⟨rfl, rfl⟩ (by kernel_rfl) rfl
    (fun f fn hf hfn => by
      obtain rfl : f = 4 := Option.some.inj ((show Tryd.prog.funcNamed "porpoise/porpoiselaw20.MetricsTotal" = some 4 by kernel_rfl).symm.trans hf) |>.symm
      obtain rfl : fn = Tryd.f4 := (Option.some.inj (Tryd.func4.symm.trans hfn)).symm
      exact ⟨by kernel_rfl, fun j t ht => by
        rw [Tryd.params4] at ht
        have hm : t ∈ [33] := by simpa using Array.mem_of_getElem? ht
        have hall : ([33].all fun u => !Tryd.prog.wantsStandIn u) = true := by kernel_rfl
        exact (show Tryd.prog.wantsStandIn t = false by simpa using List.all_eq_true.1 hall t hm)⟩)
    (by kernel_rfl)
#print axioms proved
end Go.Proofs.YtfegdmhfmhaneaaDoor.metricsTotal
