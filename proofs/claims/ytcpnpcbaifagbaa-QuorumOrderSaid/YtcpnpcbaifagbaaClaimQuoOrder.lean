/-
  QuorumOrder: the claim.
-/
import Derived.Test.YtcpnpcbaifagbaaQuoLawOrder
import Derived.Test.YtcpnpcbaifagbaaLawQuo
namespace Go.Proofs.Ytcpnpcbaifagbaa
open Go.ChangeShapes Go.WideShapes Go.ChangeAt Go.RowKit

set_option maxRecDepth 100000 in
theorem quorumOrder_lifted (os : Os) (started : os.Started) (H : Type) (enc : TypeId × Value → H) :
    ReturnsInHanded {} Try.checked os 4 .any (Rows.quorumOrderSpec.pre6 enc Try.prog Try.f4 Rows.quorumOrderRow.domain false) (Rows.quorumOrderSpec.post enc Try.prog Try.f4 false true false false) := by
  refine law_lift started (by kernel_rfl) Try.func4 rfl rfl (by kernel_rfl) ?_ (ChangeSpec.witness6 (enc := enc) (C := Try.checked) false ⟨#[], #[.agg #[.int .u64 0, .int .u64 0], .slice none 0 0], []⟩ 8 (by kernel_rfl) (by kernel_rfl) (by kernel_rfl) (by kernel_rfl)) ?_
  · intro ds h
    rw [Try.params4] at h
    match ds, h with
    | [_, _], _ => exact ⟨rfl, rfl, rfl⟩
  · intro W vs h
    rw [Try.params4] at h
    match vs, h with
    | [v0, v1], ⟨h0, h1, _⟩ =>
      obtain ⟨k, rfl⟩ := h0.dg
      obtain ⟨l, ao, n, cap, rfl, hV⟩ := h1.vts
      exact LawOrder_any l n cap ao k W hV

theorem quorumOrder_holds : Rows.QuorumOrderSaid :=
  OpenClaim.holds_of_wide 4 Try.f4 rfl rfl rfl rfl rfl rfl rfl ⟨rfl, rfl, rfl, rfl, rfl⟩ rfl rfl rfl rfl rfl (by kernel_rfl) Try.func4 (by kernel_rfl)
    (of_decide_eq_true (by kernel_rfl)) (by unfold Func.isWrapper; first | (rw [if_pos (by decide +kernel)]; kernel_rfl) | (rw [if_neg (by decide +kernel)]; exact ⟨rfl, rfl⟩))
    (fun os started H enc _ => quorumOrder_lifted os started H enc)
#print axioms quorumOrder_holds
end Go.Proofs.Ytcpnpcbaifagbaa
