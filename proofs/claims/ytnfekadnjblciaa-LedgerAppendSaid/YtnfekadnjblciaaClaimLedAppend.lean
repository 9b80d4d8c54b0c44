/-
  LedgerAppend: the claim.
-/
import Derived.Test.YtnfekadnjblciaaLedLawAppend
import Derived.Test.YtnfekadnjblciaaLawLedz
namespace Go.Proofs.Ytnfekadnjblciaa
open Go.ChangeShapes Go.WideShapes Go.ChangeAt Go.RowKit

set_option maxRecDepth 100000 in
theorem ledgerAppend_lifted (os : Os) (started : os.Started) (H : Type) (enc : TypeId × Value → H) :
    ReturnsInHanded {} Try.checked os 6 .any (Rows.ledgerAppendSpec.pre6 enc Try.prog Try.f6 Rows.ledgerAppendRow.domain false) (Rows.ledgerAppendSpec.post enc Try.prog Try.f6 false true false false) := by
  refine law_lift started (by kernel_rfl) Try.func6 rfl rfl (by kernel_rfl) ?_ (ChangeSpec.witness6 (enc := enc) (C := Try.checked) false ⟨#[], #[.agg #[.slice none 0 0], .agg #[.int .i64 0, .string ⟨#[]⟩, .string ⟨#[]⟩, .string ⟨#[]⟩]], []⟩ 8 (by kernel_rfl) (by kernel_rfl) (by kernel_rfl) (by kernel_rfl)) ?_
  · intro ds h
    rw [Try.params6] at h
    match ds, h with
    | [_, _], _ => exact ⟨rfl, rfl, rfl⟩
  · intro W vs h
    rw [Try.params6] at h
    match vs, h with
    | [v0, v1], ⟨h0, h1, _⟩ =>
      obtain ⟨ao, n, cap, l, rfl, hc, _, hs⟩ := h0.led; have hz : ao = none → cap = 0 := (fun e => by subst e; exact h0.ledz)
      obtain ⟨r, rfl, hr, _⟩ := h1.rec_
      exact LawAppend_any l r n cap ao W hs hz hr

theorem ledgerAppend_holds : Rows.LedgerAppendSaid :=
  OpenClaim.holds_of_wide 6 Try.f6 rfl rfl rfl rfl rfl rfl rfl ⟨rfl, rfl, rfl, rfl, rfl⟩ rfl rfl rfl rfl rfl (by kernel_rfl) Try.func6 (by kernel_rfl)
    (of_decide_eq_true (by kernel_rfl)) (by unfold Func.isWrapper; first | (rw [if_pos (by decide +kernel)]; kernel_rfl) | (rw [if_neg (by decide +kernel)]; exact ⟨rfl, rfl⟩))
    (fun os started H enc _ => ledgerAppend_lifted os started H enc)
#print axioms ledgerAppend_holds
end Go.Proofs.Ytnfekadnjblciaa
