/-
  SprtMirror returns true for every trial and all numbers; what came in reads as before. No condition.
-/
import Derived.Test.YtmlkegopbdfiaaaLawSpr
import Derived.Test.YtmlkegopbdfiaaaSprMirror
namespace Go.Proofs.Ytmlkegopbdfiaaa
open Go.ChangeShapes Go.WideShapes Go.ChangeAt Go.RowKit

set_option maxRecDepth 100000 in
theorem sprtMirror_lifted (os : Os) (started : os.Started) (H : Type) (enc : TypeId × Value → H) :
    ReturnsInHanded {} Try.checked os 8 .any (Rows.sprtMirrorSpec.pre6 enc Try.prog Try.f8 Rows.sprtMirrorRow.domain false) (Rows.sprtMirrorSpec.post enc Try.prog Try.f8 false true false false) := by
  refine law_lift started (by kernel_rfl) Try.func8 rfl rfl (by kernel_rfl) ?_ (ChangeSpec.witness6 (enc := enc) (C := Try.checked) false ⟨#[], #[.agg #[.int .i64 0, .int .i64 0, .int .i64 0, .int .i64 0, .int .i64 0, .int .i64 0, .int .i64 0, .int .i64 0], .int .u8 0, .int .u8 0], []⟩ 8 (by kernel_rfl) (by kernel_rfl) (by kernel_rfl) (by kernel_rfl)) ?_
  · intro ds h
    rw [Try.params8] at h
    match ds, h with
    | [_, _, _], _ => exact ⟨rfl, rfl, rfl⟩
  · intro W vs h
    rw [Try.params8] at h
    match vs, h with
    | [v0, v1, v2], ⟨h0, h1, h2, _⟩ =>
      obtain ⟨gn, gd, bn, bd, an, ad, en, ed, rfl⟩ := h0.trial
      obtain ⟨x, rfl, hx⟩ := h1.int Try.underlying5
      obtain ⟨y, rfl, hy⟩ := h2.int Try.underlying5
      exact LawMirror_any gn gd bn bd an ad en ed x y W (bounds_u8 hx).1 (by have := (bounds_u8 hx).2; omega) (bounds_u8 hy).1 (by have := (bounds_u8 hy).2; omega)

theorem sprtMirror_holds : Rows.SprtMirrorSaid :=
  OpenClaim.holds_of_wide 8 Try.f8 rfl rfl rfl rfl rfl rfl rfl ⟨rfl, rfl, rfl, rfl, rfl⟩ rfl rfl rfl rfl rfl (by kernel_rfl) Try.func8 (by kernel_rfl)
    (of_decide_eq_true (by kernel_rfl)) (by unfold Func.isWrapper; first | (rw [if_pos (by decide +kernel)]; kernel_rfl) | (rw [if_neg (by decide +kernel)]; exact ⟨rfl, rfl⟩))
    (fun os started H enc _ => sprtMirror_lifted os started H enc)
#print axioms sprtMirror_holds
end Go.Proofs.Ytmlkegopbdfiaaa
