/-
  MinimalTell: the claim.
-/
import Derived.Test.YtnjcoejnknpfoaaMinLawTell
import Derived.Test.YtnjcoejnknpfoaaLawMin
namespace Go.Proofs.Ytnjcoejnknpfoaa
open Go.ChangeShapes Go.WideShapes Go.ChangeAt Go.RowKit

set_option maxRecDepth 100000 in
theorem minimalTell_lifted (os : Os) (started : os.Started) (H : Type) (enc : TypeId × Value → H) :
    ReturnsInHanded {} Try.checked os 4 .any (Rows.minimalTellSpec.pre6 enc Try.prog Try.f4 Rows.minimalTellRow.domain false) (Rows.minimalTellSpec.post enc Try.prog Try.f4 false true false false) := by
  refine law_lift started (by kernel_rfl) Try.func4 rfl rfl (by kernel_rfl) ?_ (ChangeSpec.witness6 (enc := enc) (C := Try.checked) false ⟨#[], #[.agg #[.int .i64 0, .slice none 0 0], .slice none 0 0, .bool false], []⟩ 8 (by kernel_rfl) (by kernel_rfl) (by kernel_rfl) (by kernel_rfl)) ?_
  · intro ds h
    rw [Try.params4] at h
    match ds, h with
    | [_, _, _], _ => exact ⟨rfl, rfl, rfl⟩
  · intro W vs h
    rw [Try.params4] at h
    match vs, h with
    | [v0, v1, v2], ⟨h0, h1, h2, _⟩ =>
      obtain ⟨N, l, ao, n, cap, rfl, hK⟩ := h0.search
      obtain ⟨s, a2, n2, c2, rfl, hI⟩ := h1.ints
      obtain ⟨b, rfl⟩ := h2.bool
      exact LawTell_any N l n cap ao s n2 c2 a2 b W hK hI

theorem minimalTell_holds : Rows.MinimalTellSaid :=
  OpenClaim.holds_of_wide 4 Try.f4 rfl rfl rfl rfl rfl rfl rfl ⟨rfl, rfl, rfl, rfl, rfl⟩ rfl rfl rfl rfl rfl (by kernel_rfl) Try.func4 (by kernel_rfl)
    (of_decide_eq_true (by kernel_rfl)) (by unfold Func.isWrapper; first | (rw [if_pos (by decide +kernel)]; kernel_rfl) | (rw [if_neg (by decide +kernel)]; exact ⟨rfl, rfl⟩))
    (fun os started H enc _ => minimalTell_lifted os started H enc)
#print axioms minimalTell_holds
end Go.Proofs.Ytnjcoejnknpfoaa
