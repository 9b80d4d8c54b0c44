/-
  MinimalWhole: the claim.
-/
import Derived.Test.YtnjcoejnknpfoaaMinLawWhole
import Derived.Test.YtnjcoejnknpfoaaLawMin
namespace Go.Proofs.Ytnjcoejnknpfoaa
open Go.ChangeShapes Go.WideShapes Go.ChangeAt Go.RowKit

set_option maxRecDepth 100000 in
theorem minimalWhole_lifted (os : Os) (started : os.Started) (H : Type) (enc : TypeId × Value → H) :
    ReturnsInHanded {} Try.checked os 10 .any (Rows.minimalWholeSpec.pre6 enc Try.prog Try.f10 Rows.minimalWholeRow.domain false) (Rows.minimalWholeSpec.post enc Try.prog Try.f10 false true false false) := by
  refine law_lift started (by kernel_rfl) Try.func10 rfl rfl (by kernel_rfl) ?_ (ChangeSpec.witness6 (enc := enc) (C := Try.checked) false ⟨#[], #[.int .u8 0], []⟩ 8 (by kernel_rfl) (by kernel_rfl) (by kernel_rfl) (by kernel_rfl)) ?_
  · intro ds h
    rw [Try.params10] at h
    match ds, h with
    | [_], _ => exact ⟨rfl, rfl, rfl⟩
  · intro W vs h
    rw [Try.params10] at h
    match vs, h with
    | [v0], ⟨h0, _⟩ =>
      obtain ⟨q, rfl, hq⟩ := h0.int Try.underlying5
      obtain ⟨m, rfl, hm⟩ := u8_nat hq
      exact LawWhole_any m hm W

theorem minimalWhole_holds : Rows.MinimalWholeSaid :=
  OpenClaim.holds_of_wide 10 Try.f10 rfl rfl rfl rfl rfl rfl rfl ⟨rfl, rfl, rfl, rfl, rfl⟩ rfl rfl rfl rfl rfl (by kernel_rfl) Try.func10 (by kernel_rfl)
    (of_decide_eq_true (by kernel_rfl)) (by unfold Func.isWrapper; first | (rw [if_pos (by decide +kernel)]; kernel_rfl) | (rw [if_neg (by decide +kernel)]; exact ⟨rfl, rfl⟩))
    (fun os started H enc _ => minimalWhole_lifted os started H enc)
#print axioms minimalWhole_holds
end Go.Proofs.Ytnjcoejnknpfoaa
