/-
  MinimalStates: the claim.
-/
import Derived.Test.YtnjcoejnknpfoaaMinLawStates
import Derived.Test.YtnjcoejnknpfoaaLawMin
namespace Go.Proofs.Ytnjcoejnknpfoaa
open Go.ChangeShapes Go.WideShapes Go.ChangeAt Go.RowKit

set_option maxRecDepth 100000 in
theorem minimalStates_lifted (os : Os) (started : os.Started) (H : Type) (enc : TypeId × Value → H) :
    ReturnsInHanded {} Try.checked os 9 .any (Rows.minimalStatesSpec.pre6 enc Try.prog Try.f9 Rows.minimalStatesRow.domain false) (Rows.minimalStatesSpec.post enc Try.prog Try.f9 false true false false) := by
  refine law_lift started (by kernel_rfl) Try.func9 rfl rfl (by kernel_rfl) ?_ (ChangeSpec.witness6 (enc := enc) (C := Try.checked) false ⟨#[], #[.int .u8 0, .agg #[.slice none 0 0, .int .u64 0, .int .u8 0], .slice none 0 0], []⟩ 8 (by kernel_rfl) (by kernel_rfl) (by kernel_rfl) (by kernel_rfl)) ?_
  · intro ds h
    rw [Try.params9] at h
    match ds, h with
    | [_, _, _], _ => exact ⟨rfl, rfl, rfl⟩
  · intro W vs h
    rw [Try.params9] at h
    match vs, h with
    | [v0, v1, v2], ⟨h0, h1, h2, _⟩ =>
      obtain ⟨q, rfl, hq⟩ := h0.int Try.underlying5
      obtain ⟨m, rfl, hm⟩ := u8_nat hq
      obtain ⟨L, ob, ok, oc, oq, oz, rfl, hG, hr⟩ := h1.oracle
      obtain ⟨s, a2, n2, c2, rfl, hI⟩ := h2.ints
      exact LawStates_any m hm L ok oc ob oq oz s n2 c2 a2 W hG hr hI

theorem minimalStates_holds : Rows.MinimalStatesSaid :=
  OpenClaim.holds_of_wide 9 Try.f9 rfl rfl rfl rfl rfl rfl rfl ⟨rfl, rfl, rfl, rfl, rfl⟩ rfl rfl rfl rfl rfl (by kernel_rfl) Try.func9 (by kernel_rfl)
    (of_decide_eq_true (by kernel_rfl)) (by unfold Func.isWrapper; first | (rw [if_pos (by decide +kernel)]; kernel_rfl) | (rw [if_neg (by decide +kernel)]; exact ⟨rfl, rfl⟩))
    (fun os started H enc _ => minimalStates_lifted os started H enc)
#print axioms minimalStates_holds
end Go.Proofs.Ytnjcoejnknpfoaa
