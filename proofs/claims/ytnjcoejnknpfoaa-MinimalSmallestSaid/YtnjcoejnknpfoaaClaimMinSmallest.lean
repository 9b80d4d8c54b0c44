/-
  MinimalSmallest: the claim.
-/
import Derived.Test.YtnjcoejnknpfoaaMinLawSmallest
import Derived.Test.YtnjcoejnknpfoaaLawMin
namespace Go.Proofs.Ytnjcoejnknpfoaa
open Go.ChangeShapes Go.WideShapes Go.ChangeAt Go.RowKit

set_option maxRecDepth 100000 in
theorem minimalSmallest_lifted (os : Os) (started : os.Started) (H : Type) (enc : TypeId × Value → H) :
    ReturnsInHanded {} Try.checked os 5 .any (Rows.minimalSmallestSpec.pre6 enc Try.prog Try.f5 Rows.minimalSmallestRow.domain false) (Rows.minimalSmallestSpec.post enc Try.prog Try.f5 false true false false) := by
  refine law_lift started (by kernel_rfl) Try.func5 rfl rfl (by kernel_rfl) ?_ (ChangeSpec.witness6 (enc := enc) (C := Try.checked) false ⟨#[], #[.int .u8 0, .agg #[.slice none 0 0, .int .u64 0, .int .u8 0]], []⟩ 8 (by kernel_rfl) (by kernel_rfl) (by kernel_rfl) (by kernel_rfl)) ?_
  · intro ds h
    rw [Try.params5] at h
    match ds, h with
    | [_, _], _ => exact ⟨rfl, rfl, rfl⟩
  · intro W vs h
    rw [Try.params5] at h
    match vs, h with
    | [v0, v1], ⟨h0, h1, _⟩ =>
      obtain ⟨q, rfl, hq⟩ := h0.int Try.underlying5
      obtain ⟨m, rfl, hm⟩ := u8_nat hq
      obtain ⟨L, ob, ok, oc, oq, oz, rfl, hG, hr⟩ := h1.oracle
      exact LawSmallest_any m hm L ok oc ob oq oz W hG hr

theorem minimalSmallest_holds : Rows.MinimalSmallestSaid :=
  OpenClaim.holds_of_wide 5 Try.f5 rfl rfl rfl rfl rfl rfl rfl ⟨rfl, rfl, rfl, rfl, rfl⟩ rfl rfl rfl rfl rfl (by kernel_rfl) Try.func5 (by kernel_rfl)
    (of_decide_eq_true (by kernel_rfl)) (by unfold Func.isWrapper; first | (rw [if_pos (by decide +kernel)]; kernel_rfl) | (rw [if_neg (by decide +kernel)]; exact ⟨rfl, rfl⟩))
    (fun os started H enc _ => minimalSmallest_lifted os started H enc)
#print axioms minimalSmallest_holds
end Go.Proofs.Ytnjcoejnknpfoaa
