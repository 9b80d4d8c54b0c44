/-
  LedgerGrowth: the claim.
-/
import Derived.Test.YtnfekadnjblciaaLedLawGrowth
import Derived.Test.YtnfekadnjblciaaLawLed
namespace Go.Proofs.Ytnfekadnjblciaa
open Go.ChangeShapes Go.WideShapes Go.ChangeAt Go.RowKit

set_option maxRecDepth 100000 in
theorem ledgerGrowth_lifted (os : Os) (started : os.Started) (H : Type) (enc : TypeId × Value → H) :
    ReturnsInHanded {} Try.checked os 8 .any (Rows.ledgerGrowthSpec.pre6 enc Try.prog Try.f8 Rows.ledgerGrowthRow.domain false) (Rows.ledgerGrowthSpec.post enc Try.prog Try.f8 false true false false) := by
  refine law_lift started (by kernel_rfl) Try.func8 rfl rfl (by kernel_rfl) ?_ (ChangeSpec.witness6 (enc := enc) (C := Try.checked) false ⟨#[], #[.agg #[.slice none 0 0]], []⟩ 8 (by kernel_rfl) (by kernel_rfl) (by kernel_rfl) (by kernel_rfl)) ?_
  · intro ds h
    rw [Try.params8] at h
    match ds, h with
    | [_], _ => exact ⟨rfl, rfl, rfl⟩
  · intro W vs h
    rw [Try.params8] at h
    match vs, h with
    | [v0], ⟨h0, _⟩ =>
      obtain ⟨ao, n, cap, l, rfl, hc, _, hs⟩ := h0.led
      exact LawGrowth_any l n cap ao W hc hs

theorem ledgerGrowth_holds : Rows.LedgerGrowthSaid :=
  OpenClaim.holds_of_wide 8 Try.f8 rfl rfl rfl rfl rfl rfl rfl ⟨rfl, rfl, rfl, rfl, rfl⟩ rfl rfl rfl rfl rfl (by kernel_rfl) Try.func8 (by kernel_rfl)
    (of_decide_eq_true (by kernel_rfl)) (by unfold Func.isWrapper; first | (rw [if_pos (by decide +kernel)]; kernel_rfl) | (rw [if_neg (by decide +kernel)]; exact ⟨rfl, rfl⟩))
    (fun os started H enc _ => ledgerGrowth_lifted os started H enc)
#print axioms ledgerGrowth_holds
end Go.Proofs.Ytnfekadnjblciaa
