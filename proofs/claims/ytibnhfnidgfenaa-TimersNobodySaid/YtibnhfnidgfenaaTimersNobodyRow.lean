/-
  The statement of porpoiselaw18.TimersNobody: for every input it answers true, and each argument reads behind the call as it read before. No condition.
-/
import Derived.Test.YtibnhfnidgfenaaLaw18c
import Derived.Test.YtibnhfnidgfenaaRowDe
namespace Go.Proofs.Ytibnhfnidgfenaa.timersNobody
open Go.ChangeShapes Go.WideShapes Go.ChangeAt Go.RowKit Go.Deep
open Go.ChangeMaps (open_string shut_string)
set_option linter.unusedVariables false

set_option maxRecDepth 100000 in
theorem lifted (os : Os) (started : os.Started) (H : Type) (enc : TypeId × Value → H) :
    ReturnsInHanded {} Try.checked os 14 .any (Rows.timersNobodySpec.pre6 enc Try.prog Try.f14 Rows.timersNobodyRow.domain false) (Rows.timersNobodySpec.post enc Try.prog Try.f14 false true false false) := by
  refine returnsInHanded_of_change (C := Try.checked) own started (by kernel_rfl) Try.func14
    (ChangeSpec.witness6 (enc := enc) (C := Try.checked) false ⟨#[], #[.agg #[.int .i64 0, .int .i64 0], .int .u64 0], []⟩ 8 (by kernel_rfl) (by kernel_rfl) (by kernel_rfl) (by kernel_rfl)) ?_
  intro W base args ds gs before hval0 hW hcnd _
  have hval : ∀ (j : Nat) t v, Try.f14.params[j]? = some t → args[j]? = some v → Value.okWide Try.prog W .any base t v := hval0
  have hW' := hW
  obtain ⟨p, q, hA0, hV, rfl, hfz, hnd⟩ := hW
  have hA : DataW.TrodAll enc Try.prog W 0 (fun _ => true) true Try.f14.params.toList args.toList ds p := hA0
  rw [Try.params14] at hA hval
  obtain ⟨v0, vs0, d0, ds0, p0, q0, hargs, rfl, rfl, h0, r0⟩ := trodAll_cons hA
  obtain ⟨v1, vs1, d1, ds1, p1, q1, rfl, rfl, rfl, h1, r1⟩ := trodAll_cons r0
  obtain ⟨rfl, rfl, rfl⟩ := trodAll_nil r1
  obtain rfl : args = #[v0, v1] := by cases args; simp_all
  obtain ⟨rfl, rfl⟩ := trodVars_none hV
  obtain ⟨a0, b0, rfl⟩ := open_timer (hval 0 31 v0 rfl rfl) h0
  obtain ⟨a1, rfl, e1, _, w1⟩ := open_int Try.underlying22 (hval 1 22 v1 rfl rfl) h1
  obtain ⟨n1, rfl, hn1⟩ := u64_bounds w1
  exact (timersNobody_spec _ a0 b0 n1).mono fun e W' ⟨he, hF⟩ => ⟨_, he, law_post hW' (hF.below (Nat.le_refl _) (fun _ hx => by cases hx)) rfl rfl (by kernel_rfl) rfl rfl rfl⟩

theorem over : Rows.timersNobodyRow.holds Try.pinned (OpenSpec.ofChange Rows.timersNobodySpec) :=
  OpenClaim.holds_of_wide 14 Try.f14 rfl rfl rfl rfl rfl rfl rfl ⟨rfl, rfl, rfl, rfl, rfl⟩ rfl rfl rfl rfl rfl (by kernel_rfl) Try.func14 (by kernel_rfl)
    (of_decide_eq_true (by kernel_rfl)) (by unfold Func.isWrapper; first | (rw [if_pos (by decide +kernel)]; kernel_rfl) | (rw [if_neg (by decide +kernel)]; exact ⟨rfl, rfl⟩))
    (fun os started H enc _ => lifted os started H enc)

theorem proved : Rows.TimersNobodySaid :=
  over
#print axioms proved
end Go.Proofs.Ytibnhfnidgfenaa.timersNobody
