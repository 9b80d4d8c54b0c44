/-
  ObjectLinks: the claim.
-/
import Derived.Test.YtmkdcnkbhnegnaaObjLawLinks
import Derived.Test.YtmkdcnkbhnegnaaLawObj
namespace Go.Proofs.Ytmkdcnkbhnegnaa
open Go.ChangeShapes Go.WideShapes Go.ChangeAt Go.RowKit

set_option maxRecDepth 100000 in
theorem objectLinks_lifted (os : Os) (started : os.Started) (H : Type) (enc : TypeId × Value → H) :
    ReturnsInHanded {} Try.checked os 4 .any (Rows.objectLinksSpec.pre6 enc Try.prog Try.f4 Rows.objectLinksRow.domain false) (Rows.objectLinksSpec.post enc Try.prog Try.f4 false true false false) := by
  refine law_lift started (by kernel_rfl) Try.func4 rfl rfl (by kernel_rfl) ?_ (ChangeSpec.witness6 (enc := enc) (C := Try.checked) false ⟨#[], #[.agg #[.int .i64 0, .string ⟨#[]⟩, .slice none 0 0, .int .u64 0, .int .u64 0, .slice none 0 0, .string ⟨#[]⟩, .int .i64 0, .string ⟨#[]⟩]], []⟩ 8 (by kernel_rfl) (by kernel_rfl) (by kernel_rfl) (by kernel_rfl)) ?_
  · intro ds h
    rw [Try.params4] at h
    match ds, h with
    | [_], _ => exact ⟨rfl, rfl, rfl⟩
  · intro W vs h
    rw [Try.params4] at h
    match vs, h with
    | [v0], ⟨h0, _⟩ =>
      obtain ⟨o, ae, ap, ne, ce, np, cp, rfl, _, hc, _, _, hz, hA, _, _⟩ := h0.obj
      exact LawLinks_any o ae ap ne ce np cp W hA hc hz

theorem objectLinks_holds : Rows.ObjectLinksSaid :=
  OpenClaim.holds_of_wide 4 Try.f4 rfl rfl rfl rfl rfl rfl rfl ⟨rfl, rfl, rfl, rfl, rfl⟩ rfl rfl rfl rfl rfl (by kernel_rfl) Try.func4 (by kernel_rfl)
    (of_decide_eq_true (by kernel_rfl)) (by unfold Func.isWrapper; first | (rw [if_pos (by decide +kernel)]; kernel_rfl) | (rw [if_neg (by decide +kernel)]; exact ⟨rfl, rfl⟩))
    (fun os started H enc _ => objectLinks_lifted os started H enc)
#print axioms objectLinks_holds
end Go.Proofs.Ytmkdcnkbhnegnaa
