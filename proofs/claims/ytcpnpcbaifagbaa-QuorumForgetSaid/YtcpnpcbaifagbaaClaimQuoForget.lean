/-
  QuorumForget: the claim.
-/
import Derived.Test.YtcpnpcbaifagbaaQuoLawForget
import Derived.Test.YtcpnpcbaifagbaaLawAsk
namespace Go.Proofs.Ytcpnpcbaifagbaa
open Go.ChangeShapes Go.WideShapes Go.ChangeAt Go.RowKit

set_option maxRecDepth 100000 in
theorem quorumForget_lifted (os : Os) (started : os.Started) (H : Type) (enc : TypeId × Value → H) :
    ReturnsInHanded {} Try.checked os 9 .any (Rows.quorumForgetSpec.pre6 enc Try.prog Try.f9 Rows.quorumForgetRow.domain false) (Rows.quorumForgetSpec.post enc Try.prog Try.f9 false true false false) := by
  refine law_lift started (by kernel_rfl) Try.func9 rfl rfl (by kernel_rfl) ?_ (ChangeSpec.witness6 (enc := enc) (C := Try.checked) false ⟨#[], #[.agg #[.slice none 0 0, .int .u64 0, .int .u64 0, .int .i64 0, .string ⟨#[]⟩, .string ⟨#[]⟩]], []⟩ 8 (by kernel_rfl) (by kernel_rfl) (by kernel_rfl) (by kernel_rfl)) ?_
  · intro ds h
    rw [Try.params9] at h
    match ds, h with
    | [_], _ => exact ⟨rfl, rfl, rfl⟩
  · intro W vs h
    rw [Try.params9] at h
    match vs, h with
    | [v0], ⟨h0, _⟩ =>
      obtain ⟨a, rfl, ha⟩ := h0.ask
      exact LawForget_any a W ha

theorem quorumForget_holds : Rows.QuorumForgetSaid :=
  OpenClaim.holds_of_wide 9 Try.f9 rfl rfl rfl rfl rfl rfl rfl ⟨rfl, rfl, rfl, rfl, rfl⟩ rfl rfl rfl rfl rfl (by kernel_rfl) Try.func9 (by kernel_rfl)
    (of_decide_eq_true (by kernel_rfl)) (by unfold Func.isWrapper; first | (rw [if_pos (by decide +kernel)]; kernel_rfl) | (rw [if_neg (by decide +kernel)]; exact ⟨rfl, rfl⟩))
    (fun os started H enc _ => quorumForget_lifted os started H enc)
#print axioms quorumForget_holds
end Go.Proofs.Ytcpnpcbaifagbaa
