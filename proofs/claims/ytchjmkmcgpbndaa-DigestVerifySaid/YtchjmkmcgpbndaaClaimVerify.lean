/-
  DigestVerify returns true for every claim; what came in reads as before. No condition.
-/
import Derived.Test.YtchjmkmcgpbndaaLawDig
import Derived.Test.YtchjmkmcgpbndaaLawClaim
namespace Go.Proofs.Ytchjmkmcgpbndaa
open Go.ChangeShapes Go.WideShapes Go.ChangeAt Go.RowKit

set_option maxRecDepth 100000 in
theorem digestVerify_lifted (os : Os) (started : os.Started) (H : Type) (enc : TypeId × Value → H) :
    ReturnsInHanded {} Try.checked os 5 .any (Rows.digestVerifySpec.pre6 enc Try.prog Try.f5 Rows.digestVerifyRow.domain false) (Rows.digestVerifySpec.post enc Try.prog Try.f5 false true false false) := by
  refine law_lift started (by kernel_rfl) Try.func5 rfl rfl (by kernel_rfl) ?_ (ChangeSpec.witness6 (enc := enc) (C := Try.checked) false ⟨#[], #[.agg #[.int .u64 0, .int .u64 0, .int .i64 0, .int .i64 0, .int .u64 0, .int .u64 0, .slice none 0 0]], []⟩ 8 (by kernel_rfl) (by kernel_rfl) (by kernel_rfl) (by kernel_rfl)) ?_
  · intro ds h
    rw [Try.params5] at h
    match ds, h with
    | [_], _ => exact ⟨rfl, rfl, rfl⟩
  · intro W vs h
    rw [Try.params5] at h
    match vs, h with
    | [v0], ⟨h0, _⟩ =>
      obtain ⟨root, d, n, i, ao, len, cap, p, rfl, hp, hc, _, hs⟩ := h0.claim
      exact LawVerify_any root d n i p ao len cap W hp hc hs

theorem digestVerify_holds : Rows.DigestVerifySaid :=
  OpenClaim.holds_of_wide 5 Try.f5 rfl rfl rfl rfl rfl rfl rfl ⟨rfl, rfl, rfl, rfl, rfl⟩ rfl rfl rfl rfl rfl (by kernel_rfl) Try.func5 (by kernel_rfl)
    (of_decide_eq_true (by kernel_rfl)) (by unfold Func.isWrapper; first | (rw [if_pos (by decide +kernel)]; kernel_rfl) | (rw [if_neg (by decide +kernel)]; exact ⟨rfl, rfl⟩))
    (fun os started H enc _ => digestVerify_lifted os started H enc)
#print axioms digestVerify_holds
end Go.Proofs.Ytchjmkmcgpbndaa
