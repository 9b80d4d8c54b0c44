/-
  DigestFormat returns true for every digest and every string; what came in reads as before. No condition.
-/
import Derived.Test.YtchjmkmcgpbndaaLawDig
import Derived.Test.YtchjmkmcgpbndaaDigLawFormat
namespace Go.Proofs.Ytchjmkmcgpbndaa
open Go.ChangeShapes Go.WideShapes Go.ChangeAt Go.RowKit

set_option maxRecDepth 100000 in
theorem digestFormat_lifted (os : Os) (started : os.Started) (H : Type) (enc : TypeId × Value → H) :
    ReturnsInHanded {} Try.checked os 3 .any (Rows.digestFormatSpec.pre6 enc Try.prog Try.f3 Rows.digestFormatRow.domain false) (Rows.digestFormatSpec.post enc Try.prog Try.f3 false true false false) := by
  refine law_lift started (by kernel_rfl) Try.func3 rfl rfl (by kernel_rfl) ?_ (ChangeSpec.witness6 (enc := enc) (C := Try.checked) false ⟨#[], #[.agg #[.int .u64 0, .int .u64 0], .string ByteArray.empty], []⟩ 8 (by kernel_rfl) (by kernel_rfl) (by kernel_rfl) (by kernel_rfl)) ?_
  · intro ds h
    rw [Try.params3] at h
    match ds, h with
    | [_, _], _ => exact ⟨rfl, rfl, rfl⟩
  · intro W vs h
    rw [Try.params3] at h
    match vs, h with
    | [v0, v1], ⟨h0, h1, _⟩ =>
      obtain ⟨d, rfl⟩ := h0.dg
      obtain ⟨s, rfl, hs⟩ := h1.string Try.underlying9
      exact LawFormat_any d s W hs

theorem digestFormat_holds : Rows.DigestFormatSaid :=
  OpenClaim.holds_of_wide 3 Try.f3 rfl rfl rfl rfl rfl rfl rfl ⟨rfl, rfl, rfl, rfl, rfl⟩ rfl rfl rfl rfl rfl (by kernel_rfl) Try.func3 (by kernel_rfl)
    (of_decide_eq_true (by kernel_rfl)) (by unfold Func.isWrapper; first | (rw [if_pos (by decide +kernel)]; kernel_rfl) | (rw [if_neg (by decide +kernel)]; exact ⟨rfl, rfl⟩))
    (fun os started H enc _ => digestFormat_lifted os started H enc)
#print axioms digestFormat_holds
end Go.Proofs.Ytchjmkmcgpbndaa
