/-
  SprtCheck returns true for every trial; what came in reads as before. No condition.
-/
import Derived.Test.YtmlkegopbdfiaaaLawSpr
import Derived.Test.YtmlkegopbdfiaaaSprLawOne
namespace Go.Proofs.Ytmlkegopbdfiaaa
open Go.ChangeShapes Go.WideShapes Go.ChangeAt Go.RowKit

set_option maxRecDepth 100000 in
theorem sprtCheck_lifted (os : Os) (started : os.Started) (H : Type) (enc : TypeId × Value → H) :
    ReturnsInHanded {} Try.checked os 3 .any (Rows.sprtCheckSpec.pre6 enc Try.prog Try.f3 Rows.sprtCheckRow.domain false) (Rows.sprtCheckSpec.post enc Try.prog Try.f3 false true false false) := by
  refine law_lift started (by kernel_rfl) Try.func3 rfl rfl (by kernel_rfl) ?_ (ChangeSpec.witness6 (enc := enc) (C := Try.checked) false ⟨#[], #[.agg #[.int .i64 0, .int .i64 0, .int .i64 0, .int .i64 0, .int .i64 0, .int .i64 0, .int .i64 0, .int .i64 0]], []⟩ 8 (by kernel_rfl) (by kernel_rfl) (by kernel_rfl) (by kernel_rfl)) ?_
  · intro ds h
    rw [Try.params3] at h
    match ds, h with
    | [_], _ => exact ⟨rfl, rfl, rfl⟩
  · intro W vs h
    rw [Try.params3] at h
    match vs, h with
    | [v0], ⟨h0, _⟩ =>
      obtain ⟨gn, gd, bn, bd, an, ad, en, ed, rfl⟩ := h0.trial
      exact LawCheck_any gn gd bn bd an ad en ed W

theorem sprtCheck_holds : Rows.SprtCheckSaid :=
  OpenClaim.holds_of_wide 3 Try.f3 rfl rfl rfl rfl rfl rfl rfl ⟨rfl, rfl, rfl, rfl, rfl⟩ rfl rfl rfl rfl rfl (by kernel_rfl) Try.func3 (by kernel_rfl)
    (of_decide_eq_true (by kernel_rfl)) (by unfold Func.isWrapper; first | (rw [if_pos (by decide +kernel)]; kernel_rfl) | (rw [if_neg (by decide +kernel)]; exact ⟨rfl, rfl⟩))
    (fun os started H enc _ => sprtCheck_lifted os started H enc)
#print axioms sprtCheck_holds
end Go.Proofs.Ytmlkegopbdfiaaa
