/-
  SprtRisks returns true for every trial and every number; what came in reads as before. No condition.
-/
import Derived.Test.YtmlkegopbdfiaaaLawSpr
import Derived.Test.YtmlkegopbdfiaaaSprLawRisks
namespace Go.Proofs.Ytmlkegopbdfiaaa
open Go.ChangeShapes Go.WideShapes Go.ChangeAt Go.RowKit

set_option maxRecDepth 100000 in
theorem sprtRisks_lifted (os : Os) (started : os.Started) (H : Type) (enc : TypeId × Value → H) :
    ReturnsInHanded {} Try.checked os 11 .any (Rows.sprtRisksSpec.pre6 enc Try.prog Try.f11 Rows.sprtRisksRow.domain false) (Rows.sprtRisksSpec.post enc Try.prog Try.f11 false true false false) := by
  refine law_lift started (by kernel_rfl) Try.func11 rfl rfl (by kernel_rfl) ?_ (ChangeSpec.witness6 (enc := enc) (C := Try.checked) false ⟨#[], #[.agg #[.int .i64 0, .int .i64 0, .int .i64 0, .int .i64 0, .int .i64 0, .int .i64 0, .int .i64 0, .int .i64 0], .int .u8 0], []⟩ 8 (by kernel_rfl) (by kernel_rfl) (by kernel_rfl) (by kernel_rfl)) ?_
  · intro ds h
    rw [Try.params11] at h
    match ds, h with
    | [_, _], _ => exact ⟨rfl, rfl, rfl⟩
  · intro W vs h
    rw [Try.params11] at h
    match vs, h with
    | [v0, v1], ⟨h0, h1, _⟩ =>
      obtain ⟨gn, gd, bn, bd, an, ad, en, ed, rfl⟩ := h0.trial
      obtain ⟨x, rfl, hx⟩ := h1.int Try.underlying5
      exact LawRisks_any gn gd bn bd an ad en ed x W (bounds_u8 hx).1 (by have := (bounds_u8 hx).2; omega)

theorem sprtRisks_holds : Rows.SprtRisksSaid :=
  OpenClaim.holds_of_wide 11 Try.f11 rfl rfl rfl rfl rfl rfl rfl ⟨rfl, rfl, rfl, rfl, rfl⟩ rfl rfl rfl rfl rfl (by kernel_rfl) Try.func11 (by kernel_rfl)
    (of_decide_eq_true (by kernel_rfl)) (by unfold Func.isWrapper; first | (rw [if_pos (by decide +kernel)]; kernel_rfl) | (rw [if_neg (by decide +kernel)]; exact ⟨rfl, rfl⟩))
    (fun os started H enc _ => sprtRisks_lifted os started H enc)
#print axioms sprtRisks_holds
end Go.Proofs.Ytmlkegopbdfiaaa
