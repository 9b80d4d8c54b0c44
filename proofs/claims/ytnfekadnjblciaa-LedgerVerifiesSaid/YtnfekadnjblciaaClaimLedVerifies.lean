/-
  LedgerVerifies: the claim.
-/
import Derived.Test.YtnfekadnjblciaaLedLawVerifies
import Derived.Test.YtnfekadnjblciaaLawLed
namespace Go.Proofs.Ytnfekadnjblciaa
open Go.ChangeShapes Go.WideShapes Go.ChangeAt Go.RowKit

set_option maxRecDepth 100000 in
theorem ledgerVerifies_lifted (os : Os) (started : os.Started) (H : Type) (enc : TypeId × Value → H) :
    ReturnsInHanded {} Try.checked os 7 .any (Rows.ledgerVerifiesSpec.pre6 enc Try.prog Try.f7 Rows.ledgerVerifiesRow.domain false) (Rows.ledgerVerifiesSpec.post enc Try.prog Try.f7 false true false false) := by
  refine law_lift started (by kernel_rfl) Try.func7 rfl rfl (by kernel_rfl) ?_ (ChangeSpec.witness6 (enc := enc) (C := Try.checked) false ⟨#[], #[.agg #[.int .u64 0, .int .u64 0], .agg #[.int .u64 0, .int .u64 0], .int .i64 0, .int .i64 0, .agg #[.int .i64 0, .string ⟨#[]⟩, .string ⟨#[]⟩, .string ⟨#[]⟩], .slice none 0 0], []⟩ 8 (by kernel_rfl) (by kernel_rfl) (by kernel_rfl) (by kernel_rfl)) ?_
  · intro ds h
    rw [Try.params7] at h
    match ds, h with
    | [_, _, _, _, _, _], _ => exact ⟨rfl, rfl, rfl⟩
  · intro W vs h
    rw [Try.params7] at h
    match vs, h with
    | [v0, v1, v2, v3, v4, v5], ⟨h0, h1, h2, h3, h4, h5, _⟩ =>
      obtain ⟨old, rfl⟩ := h0.dg
      obtain ⟨head, rfl⟩ := h1.dg
      obtain ⟨n, rfl, _⟩ := h2.int Try.underlying3
      obtain ⟨m, rfl, _⟩ := h3.int Try.underlying3
      obtain ⟨r, rfl, hr, _⟩ := h4.rec_
      obtain ⟨ao, len, cap, p, rfl, hp, hc, hm, hs⟩ := h5.dgs
      exact LawVerifies_any old head n m r p ao len cap W hr hp hc hm hs

theorem ledgerVerifies_holds : Rows.LedgerVerifiesSaid :=
  OpenClaim.holds_of_wide 7 Try.f7 rfl rfl rfl rfl rfl rfl rfl ⟨rfl, rfl, rfl, rfl, rfl⟩ rfl rfl rfl rfl rfl (by kernel_rfl) Try.func7 (by kernel_rfl)
    (of_decide_eq_true (by kernel_rfl)) (by unfold Func.isWrapper; first | (rw [if_pos (by decide +kernel)]; kernel_rfl) | (rw [if_neg (by decide +kernel)]; exact ⟨rfl, rfl⟩))
    (fun os started H enc _ => ledgerVerifies_lifted os started H enc)
#print axioms ledgerVerifies_holds
end Go.Proofs.Ytnfekadnjblciaa
