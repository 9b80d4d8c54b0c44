/-
  SprtDecide returns true for every trial and all numbers; what came in reads as before. No condition.
-/
import Derived.Test.YtmlkegopbdfiaaaLawSpr
import Derived.Test.YtmlkegopbdfiaaaSprLawOne
namespace Go.Proofs.Ytmlkegopbdfiaaa
open Go.ChangeShapes Go.WideShapes Go.ChangeAt Go.RowKit

set_option maxRecDepth 100000 in
theorem sprtDecide_lifted (os : Os) (started : os.Started) (H : Type) (enc : TypeId × Value → H) :
    ReturnsInHanded {} Try.checked os 4 .any (Rows.sprtDecideSpec.pre6 enc Try.prog Try.f4 Rows.sprtDecideRow.domain false) (Rows.sprtDecideSpec.post enc Try.prog Try.f4 false true false false) := by
  refine law_lift started (by kernel_rfl) Try.func4 rfl rfl (by kernel_rfl) ?_ (ChangeSpec.witness6 (enc := enc) (C := Try.checked) false ⟨#[], #[.agg #[.int .i64 0, .int .i64 0, .int .i64 0, .int .i64 0, .int .i64 0, .int .i64 0, .int .i64 0, .int .i64 0], .int .i64 0, .int .i64 0], []⟩ 8 (by kernel_rfl) (by kernel_rfl) (by kernel_rfl) (by kernel_rfl)) ?_
  · intro ds h
    rw [Try.params4] at h
    match ds, h with
    | [_, _, _], _ => exact ⟨rfl, rfl, rfl⟩
  · intro W vs h
    rw [Try.params4] at h
    match vs, h with
    | [v0, v1, v2], ⟨h0, h1, h2, _⟩ =>
      obtain ⟨gn, gd, bn, bd, an, ad, en, ed, rfl⟩ := h0.trial
      obtain ⟨p, rfl, _⟩ := h1.int Try.underlying3
      obtain ⟨f, rfl, _⟩ := h2.int Try.underlying3
      exact LawDecide_any gn gd bn bd an ad en ed p f W

theorem sprtDecide_holds : Rows.SprtDecideSaid :=
  OpenClaim.holds_of_wide 4 Try.f4 rfl rfl rfl rfl rfl rfl rfl ⟨rfl, rfl, rfl, rfl, rfl⟩ rfl rfl rfl rfl rfl (by kernel_rfl) Try.func4 (by kernel_rfl)
    (of_decide_eq_true (by kernel_rfl)) (by unfold Func.isWrapper; first | (rw [if_pos (by decide +kernel)]; kernel_rfl) | (rw [if_neg (by decide +kernel)]; exact ⟨rfl, rfl⟩))
    (fun os started H enc _ => sprtDecide_lifted os started H enc)
#print axioms sprtDecide_holds
end Go.Proofs.Ytmlkegopbdfiaaa
