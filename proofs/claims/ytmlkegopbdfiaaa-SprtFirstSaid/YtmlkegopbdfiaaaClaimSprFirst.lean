/-
  SprtFirst returns true for every trial and all outcomes; what came in reads as before. No condition.
-/
import Derived.Test.YtmlkegopbdfiaaaLawSpr
import Derived.Test.YtmlkegopbdfiaaaSprLawTwo
namespace Go.Proofs.Ytmlkegopbdfiaaa
open Go.ChangeShapes Go.WideShapes Go.ChangeAt Go.RowKit

set_option maxRecDepth 100000 in
theorem sprtFirst_lifted (os : Os) (started : os.Started) (H : Type) (enc : TypeId × Value → H) :
    ReturnsInHanded {} Try.checked os 6 .any (Rows.sprtFirstSpec.pre6 enc Try.prog Try.f6 Rows.sprtFirstRow.domain false) (Rows.sprtFirstSpec.post enc Try.prog Try.f6 false true false false) := by
  refine law_lift started (by kernel_rfl) Try.func6 rfl rfl (by kernel_rfl) ?_ (ChangeSpec.witness6 (enc := enc) (C := Try.checked) false ⟨#[], #[.agg #[.int .i64 0, .int .i64 0, .int .i64 0, .int .i64 0, .int .i64 0, .int .i64 0, .int .i64 0, .int .i64 0], .slice none 0 0], []⟩ 8 (by kernel_rfl) (by kernel_rfl) (by kernel_rfl) (by kernel_rfl)) ?_
  · intro ds h
    rw [Try.params6] at h
    match ds, h with
    | [_, _], _ => exact ⟨rfl, rfl, rfl⟩
  · intro W vs h
    rw [Try.params6] at h
    match vs, h with
    | [v0, v1], ⟨h0, h1, _⟩ =>
      obtain ⟨gn, gd, bn, bd, an, ad, en, ed, rfl⟩ := h0.trial
      obtain ⟨ao, n, cap, l, rfl, hn, hc, hm, hs⟩ := h1.bools
      exact LawFirst_any gn gd bn bd an ad en ed l n cap ao W hn (Nat.le_trans hc hm) hs

theorem sprtFirst_holds : Rows.SprtFirstSaid :=
  OpenClaim.holds_of_wide 6 Try.f6 rfl rfl rfl rfl rfl rfl rfl ⟨rfl, rfl, rfl, rfl, rfl⟩ rfl rfl rfl rfl rfl (by kernel_rfl) Try.func6 (by kernel_rfl)
    (of_decide_eq_true (by kernel_rfl)) (by unfold Func.isWrapper; first | (rw [if_pos (by decide +kernel)]; kernel_rfl) | (rw [if_neg (by decide +kernel)]; exact ⟨rfl, rfl⟩))
    (fun os started H enc _ => sprtFirst_lifted os started H enc)
#print axioms sprtFirst_holds
end Go.Proofs.Ytmlkegopbdfiaaa
