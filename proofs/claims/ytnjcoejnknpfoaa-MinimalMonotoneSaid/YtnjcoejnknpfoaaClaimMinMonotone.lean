/-
  MinimalMonotone: the claim.
-/
import Derived.Test.YtnjcoejnknpfoaaMinLawMonotone
import Derived.Test.YtnjcoejnknpfoaaLawMin
namespace Go.Proofs.Ytnjcoejnknpfoaa
open Go.ChangeShapes Go.WideShapes Go.ChangeAt Go.RowKit

set_option maxRecDepth 100000 in
theorem minimalMonotone_lifted (os : Os) (started : os.Started) (H : Type) (enc : TypeId × Value → H) :
    ReturnsInHanded {} Try.checked os 7 .any (Rows.minimalMonotoneSpec.pre6 enc Try.prog Try.f7 Rows.minimalMonotoneRow.domain false) (Rows.minimalMonotoneSpec.post enc Try.prog Try.f7 false true false false) := by
  refine law_lift started (by kernel_rfl) Try.func7 rfl rfl (by kernel_rfl) ?_ (ChangeSpec.witness6 (enc := enc) (C := Try.checked) false ⟨#[], #[.int .u8 0, .slice none 0 0], []⟩ 8 (by kernel_rfl) (by kernel_rfl) (by kernel_rfl) (by kernel_rfl)) ?_
  · intro ds h
    rw [Try.params7] at h
    match ds, h with
    | [_, _], _ => exact ⟨rfl, rfl, rfl⟩
  · intro W vs h
    rw [Try.params7] at h
    match vs, h with
    | [v0, v1], ⟨h0, h1, _⟩ =>
      obtain ⟨q, rfl, hq⟩ := h0.int Try.underlying5
      obtain ⟨m, rfl, hm⟩ := u8_nat hq
      obtain ⟨L, ob, ok, oc, rfl, hG⟩ := h1.sets
      exact LawMonotone_any m hm L ok oc ob W hG

theorem minimalMonotone_holds : Rows.MinimalMonotoneSaid :=
  OpenClaim.holds_of_wide 7 Try.f7 rfl rfl rfl rfl rfl rfl rfl ⟨rfl, rfl, rfl, rfl, rfl⟩ rfl rfl rfl rfl rfl (by kernel_rfl) Try.func7 (by kernel_rfl)
    (of_decide_eq_true (by kernel_rfl)) (by unfold Func.isWrapper; first | (rw [if_pos (by decide +kernel)]; kernel_rfl) | (rw [if_neg (by decide +kernel)]; exact ⟨rfl, rfl⟩))
    (fun os started H enc _ => minimalMonotone_lifted os started H enc)
#print axioms minimalMonotone_holds
end Go.Proofs.Ytnjcoejnknpfoaa
