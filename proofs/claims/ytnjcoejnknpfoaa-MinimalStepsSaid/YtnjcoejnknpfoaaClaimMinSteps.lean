/-
  MinimalSteps: the claim.
-/
import Derived.Test.YtnjcoejnknpfoaaMinLawSteps
import Derived.Test.YtnjcoejnknpfoaaLawMin
namespace Go.Proofs.Ytnjcoejnknpfoaa
open Go.ChangeShapes Go.WideShapes Go.ChangeAt Go.RowKit

set_option maxRecDepth 100000 in
theorem minimalSteps_lifted (os : Os) (started : os.Started) (H : Type) (enc : TypeId × Value → H) :
    ReturnsInHanded {} Try.checked os 3 .any (Rows.minimalStepsSpec.pre6 enc Try.prog Try.f3 Rows.minimalStepsRow.domain false) (Rows.minimalStepsSpec.post enc Try.prog Try.f3 false true false false) := by
  refine law_lift started (by kernel_rfl) Try.func3 rfl rfl (by kernel_rfl) ?_ (ChangeSpec.witness6 (enc := enc) (C := Try.checked) false ⟨#[], #[.int .i64 0, .agg #[.int .i64 0, .slice none 0 0]], []⟩ 8 (by kernel_rfl) (by kernel_rfl) (by kernel_rfl) (by kernel_rfl)) ?_
  · intro ds h
    rw [Try.params3] at h
    match ds, h with
    | [_, _], _ => exact ⟨rfl, rfl, rfl⟩
  · intro W vs h
    rw [Try.params3] at h
    match vs, h with
    | [v0, v1], ⟨h0, h1, _⟩ =>
      obtain ⟨m, rfl, _⟩ := h0.int Try.underlying3
      obtain ⟨N, l, ao, n, cap, rfl, hK⟩ := h1.search
      exact LawSteps_any m N l n cap ao W hK

theorem minimalSteps_holds : Rows.MinimalStepsSaid :=
  OpenClaim.holds_of_wide 3 Try.f3 rfl rfl rfl rfl rfl rfl rfl ⟨rfl, rfl, rfl, rfl, rfl⟩ rfl rfl rfl rfl rfl (by kernel_rfl) Try.func3 (by kernel_rfl)
    (of_decide_eq_true (by kernel_rfl)) (by unfold Func.isWrapper; first | (rw [if_pos (by decide +kernel)]; kernel_rfl) | (rw [if_neg (by decide +kernel)]; exact ⟨rfl, rfl⟩))
    (fun os started H enc _ => minimalSteps_lifted os started H enc)
#print axioms minimalSteps_holds
end Go.Proofs.Ytnjcoejnknpfoaa
