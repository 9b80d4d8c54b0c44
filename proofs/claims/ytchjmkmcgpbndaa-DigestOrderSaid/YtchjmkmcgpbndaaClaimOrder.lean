/-
  DigestOrder returns true for every two digests; what came in reads as before. No condition.
-/
import Derived.Test.YtchjmkmcgpbndaaLawDig
import Derived.Test.YtchjmkmcgpbndaaDigLawOrder
namespace Go.Proofs.Ytchjmkmcgpbndaa
open Go.ChangeShapes Go.WideShapes Go.ChangeAt Go.RowKit

set_option maxRecDepth 100000 in
theorem digestOrder_lifted (os : Os) (started : os.Started) (H : Type) (enc : TypeId × Value → H) :
    ReturnsInHanded {} Try.checked os 8 .any (Rows.digestOrderSpec.pre6 enc Try.prog Try.f8 Rows.digestOrderRow.domain false) (Rows.digestOrderSpec.post enc Try.prog Try.f8 false true false false) := by
  refine law_lift started (by kernel_rfl) Try.func8 rfl rfl (by kernel_rfl) ?_ (ChangeSpec.witness6 (enc := enc) (C := Try.checked) false ⟨#[], #[.agg #[.int .u64 0, .int .u64 0], .agg #[.int .u64 0, .int .u64 0]], []⟩ 8 (by kernel_rfl) (by kernel_rfl) (by kernel_rfl) (by kernel_rfl)) ?_
  · intro ds h
    rw [Try.params8] at h
    match ds, h with
    | [_, _], _ => exact ⟨rfl, rfl, rfl⟩
  · intro W vs h
    rw [Try.params8] at h
    match vs, h with
    | [v0, v1], ⟨h0, h1, _⟩ =>
      obtain ⟨a, rfl⟩ := h0.dg
      obtain ⟨b, rfl⟩ := h1.dg
      exact LawOrder_any a b W

theorem digestOrder_holds : Rows.DigestOrderSaid :=
  OpenClaim.holds_of_wide 8 Try.f8 rfl rfl rfl rfl rfl rfl rfl ⟨rfl, rfl, rfl, rfl, rfl⟩ rfl rfl rfl rfl rfl (by kernel_rfl) Try.func8 (by kernel_rfl)
    (of_decide_eq_true (by kernel_rfl)) (by unfold Func.isWrapper; first | (rw [if_pos (by decide +kernel)]; kernel_rfl) | (rw [if_neg (by decide +kernel)]; exact ⟨rfl, rfl⟩))
    (fun os started H enc _ => digestOrder_lifted os started H enc)
#print axioms digestOrder_holds
end Go.Proofs.Ytchjmkmcgpbndaa
