/-
  LedgerProofs: the claim.
-/
import Derived.Test.YtnfekadnjblciaaLedLawProofs
import Derived.Test.YtnfekadnjblciaaLawLed
namespace Go.Proofs.Ytnfekadnjblciaa
open Go.ChangeShapes Go.WideShapes Go.ChangeAt Go.RowKit

set_option maxRecDepth 100000 in
theorem ledgerProofs_lifted (os : Os) (started : os.Started) (H : Type) (enc : TypeId × Value → H) :
    ReturnsInHanded {} Try.checked os 5 .any (Rows.ledgerProofsSpec.pre6 enc Try.prog Try.f5 Rows.ledgerProofsRow.domain false) (Rows.ledgerProofsSpec.post enc Try.prog Try.f5 false true false false) := by
  refine law_lift started (by kernel_rfl) Try.func5 rfl rfl (by kernel_rfl) ?_ (ChangeSpec.witness6 (enc := enc) (C := Try.checked) false ⟨#[], #[.agg #[.slice none 0 0], .int .i64 0], []⟩ 8 (by kernel_rfl) (by kernel_rfl) (by kernel_rfl) (by kernel_rfl)) ?_
  · intro ds h
    rw [Try.params5] at h
    match ds, h with
    | [_, _], _ => exact ⟨rfl, rfl, rfl⟩
  · intro W vs h
    rw [Try.params5] at h
    match vs, h with
    | [v0, v1], ⟨h0, h1, _⟩ =>
      obtain ⟨ao, n, cap, l, rfl, _, _, hs⟩ := h0.led
      obtain ⟨i, rfl, _⟩ := h1.int Try.underlying3
      exact LawProofs_any l i n cap ao W hs

theorem ledgerProofs_holds : Rows.LedgerProofsSaid :=
  OpenClaim.holds_of_wide 5 Try.f5 rfl rfl rfl rfl rfl rfl rfl ⟨rfl, rfl, rfl, rfl, rfl⟩ rfl rfl rfl rfl rfl (by kernel_rfl) Try.func5 (by kernel_rfl)
    (of_decide_eq_true (by kernel_rfl)) (by unfold Func.isWrapper; first | (rw [if_pos (by decide +kernel)]; kernel_rfl) | (rw [if_neg (by decide +kernel)]; exact ⟨rfl, rfl⟩))
    (fun os started H enc _ => ledgerProofs_lifted os started H enc)
#print axioms ledgerProofs_holds
end Go.Proofs.Ytnfekadnjblciaa
