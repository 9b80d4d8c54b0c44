/-
  ObjectDecode: the claim.
-/
import Derived.Test.YtmkdcnkbhnegnaaObjDecB
import Derived.Test.YtmkdcnkbhnegnaaLawObj
namespace Go.Proofs.Ytmkdcnkbhnegnaa
open Go.ChangeShapes Go.WideShapes Go.ChangeAt Go.RowKit

set_option maxRecDepth 100000 in
theorem objectDecode_lifted (os : Os) (started : os.Started) (H : Type) (enc : TypeId × Value → H) :
    ReturnsInHanded {} Try.checked os 7 .any (Rows.objectDecodeSpec.pre6 enc Try.prog Try.f7 Rows.objectDecodeRow.domain false) (Rows.objectDecodeSpec.post enc Try.prog Try.f7 false true false false) := by
  refine law_lift started (by kernel_rfl) Try.func7 rfl rfl (by kernel_rfl) ?_ (ChangeSpec.witness6 (enc := enc) (C := Try.checked) false ⟨#[], #[.string ⟨#[]⟩], []⟩ 8 (by kernel_rfl) (by kernel_rfl) (by kernel_rfl) (by kernel_rfl)) ?_
  · intro ds h
    rw [Try.params7] at h
    match ds, h with
    | [_], _ => exact ⟨rfl, rfl, rfl⟩
  · intro W vs h
    rw [Try.params7] at h
    match vs, h with
    | [v0], ⟨h0, _⟩ =>
      obtain ⟨s, rfl, hs⟩ := h0.string Try.underlying9
      exact LawDecode_any s W hs

theorem objectDecode_holds : Rows.ObjectDecodeSaid :=
  OpenClaim.holds_of_wide 7 Try.f7 rfl rfl rfl rfl rfl rfl rfl ⟨rfl, rfl, rfl, rfl, rfl⟩ rfl rfl rfl rfl rfl (by kernel_rfl) Try.func7 (by kernel_rfl)
    (of_decide_eq_true (by kernel_rfl)) (by unfold Func.isWrapper; first | (rw [if_pos (by decide +kernel)]; kernel_rfl) | (rw [if_neg (by decide +kernel)]; exact ⟨rfl, rfl⟩))
    (fun os started H enc _ => objectDecode_lifted os started H enc)
#print axioms objectDecode_holds
end Go.Proofs.Ytmkdcnkbhnegnaa
