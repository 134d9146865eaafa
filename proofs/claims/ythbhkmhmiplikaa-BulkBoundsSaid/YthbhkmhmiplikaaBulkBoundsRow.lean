/-
  The statement of porpoiselaw10.BulkBounds: for every input it answers true, and each argument reads behind the call as it read before. No condition.
-/
import Derived.Test.YthbhkmhmiplikaaBulkLaws7
import Derived.Test.YthbhkmhmiplikaaRow2
import Derived.Test.YthbhkmhmiplikaaRow
namespace Go.Proofs.Ythbhkmhmiplikaa.bulkBounds
open Go.ChangeShapes Go.WideShapes Go.ChangeAt Go.RowKit Go.Deep
open Go.ChangeMaps (open_string shut_string)
set_option linter.unusedVariables false

set_option maxRecDepth 100000 in
theorem lifted (os : Os) (started : os.Started) (H : Type) (enc : TypeId × Value → H) :
    ReturnsInHanded {} Try.checked os 10 .any (Rows.bulkBoundsSpec.pre6 enc Try.prog Try.f10 Rows.bulkBoundsRow.domain false) (Rows.bulkBoundsSpec.post enc Try.prog Try.f10 false true false false) := by
  refine returnsInHanded_of_change (C := Try.checked) own started (by kernel_rfl) Try.func10
    (ChangeSpec.witness6 (enc := enc) (C := Try.checked) false ⟨#[], #[.agg #[.int .u8 0, .int .u8 0], .bool false, .slice none 0 0], []⟩ 8 (by kernel_rfl) (by kernel_rfl) (by kernel_rfl) (by kernel_rfl)) ?_
  intro W base args ds gs before hval0 hW hcnd _
  have hval : ∀ (j : Nat) t v, Try.f10.params[j]? = some t → args[j]? = some v → Value.okWide Try.prog W .any base t v := hval0
  have hW' := hW
  obtain ⟨p, q, hA0, hV, rfl, hfz, hnd⟩ := hW
  have hA : DataW.TrodAll enc Try.prog W 0 (fun _ => true) true Try.f10.params.toList args.toList ds p := hA0
  rw [Try.params10] at hA hval
  obtain ⟨v0, vs0, d0, ds0, p0, q0, hargs, rfl, rfl, h0, r0⟩ := trodAll_cons hA
  obtain ⟨v1, vs1, d1, ds1, p1, q1, rfl, rfl, rfl, h1, r1⟩ := trodAll_cons r0
  obtain ⟨v2, vs2, d2, ds2, p2, q2, rfl, rfl, rfl, h2, r2⟩ := trodAll_cons r1
  obtain ⟨rfl, rfl, rfl⟩ := trodAll_nil r2
  obtain rfl : args = #[v0, v1, v2] := by cases args; simp_all
  obtain ⟨rfl, rfl⟩ := trodVars_none hV
  obtain ⟨a0, b0, rfl, wa0, wb0⟩ := open_arr2 Try.underlying56 Try.underlying5 (by kernel_rfl) (by kernel_rfl) (hval 0 56 v0 rfl rfl) h0
  obtain ⟨n0, rfl, hn0⟩ := u8_bounds wa0
  obtain ⟨m0, rfl, hm0⟩ := u8_bounds wb0
  obtain ⟨a1, rfl, e1, _⟩ := open_bool Try.underlying4 (hval 1 4 v1 rfl rfl) h1
  obtain ⟨x2, D2, e2⟩ := open_deeds Try.underlying45 Try.underlying54 rfl rfl Try.underlying3 (by kernel_rfl) (by kernel_rfl) (hval 2 45 v2 rfl rfl) h2
  exact (bulkBounds_spec D2 a1 n0 m0 hn0 hm0).mono fun e W' ⟨he, hF⟩ => ⟨_, he, law_post hW' (hF.below (Nat.le_refl _) (fun _ hx => by cases hx)) rfl rfl (by kernel_rfl) rfl rfl rfl⟩

theorem over : Rows.bulkBoundsRow.holds Try.pinned (OpenSpec.ofChange Rows.bulkBoundsSpec) :=
  OpenClaim.holds_of_wide 10 Try.f10 rfl rfl rfl rfl rfl rfl rfl ⟨rfl, rfl, rfl, rfl, rfl⟩ rfl rfl rfl rfl rfl (by kernel_rfl) Try.func10 (by kernel_rfl)
    (of_decide_eq_true (by kernel_rfl)) (by unfold Func.isWrapper; first | (rw [if_pos (by decide +kernel)]; kernel_rfl) | (rw [if_neg (by decide +kernel)]; exact ⟨rfl, rfl⟩))
    (fun os started H enc _ => lifted os started H enc)

theorem proved : Rows.BulkBoundsSaid :=
  over
#print axioms proved
end Go.Proofs.Ythbhkmhmiplikaa.bulkBounds
