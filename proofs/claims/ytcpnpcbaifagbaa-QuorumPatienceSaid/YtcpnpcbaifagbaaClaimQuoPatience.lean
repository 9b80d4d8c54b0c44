/-
  QuorumPatience: the claim.
-/
import Derived.Test.YtcpnpcbaifagbaaQuoLawPatience
import Derived.Test.YtcpnpcbaifagbaaLawQuo
namespace Go.Proofs.Ytcpnpcbaifagbaa
open Go.ChangeShapes Go.WideShapes Go.ChangeAt Go.RowKit

set_option maxRecDepth 100000 in
theorem quorumPatience_lifted (os : Os) (started : os.Started) (H : Type) (enc : TypeId × Value → H) :
    ReturnsInHanded {} Try.checked os 6 .any (Rows.quorumPatienceSpec.pre6 enc Try.prog Try.f6 Rows.quorumPatienceRow.domain false) (Rows.quorumPatienceSpec.post enc Try.prog Try.f6 false true false false) := by
  refine law_lift started (by kernel_rfl) Try.func6 rfl rfl (by kernel_rfl) ?_ (ChangeSpec.witness6 (enc := enc) (C := Try.checked) false ⟨#[], #[.agg #[.int .u64 0, .int .u64 0], .slice none 0 0, .int .u8 0], []⟩ 8 (by kernel_rfl) (by kernel_rfl) (by kernel_rfl) (by kernel_rfl)) ?_
  · intro ds h
    rw [Try.params6] at h
    match ds, h with
    | [_, _, _], _ => exact ⟨rfl, rfl, rfl⟩
  · intro W vs h
    rw [Try.params6] at h
    match vs, h with
    | [v0, v1, v2], ⟨h0, h1, h2, _⟩ =>
      obtain ⟨k, rfl⟩ := h0.dg
      obtain ⟨l, ao, n, cap, rfl, hV⟩ := h1.vts
      obtain ⟨q, rfl, hq⟩ := h2.int Try.underlying5
      obtain ⟨m, rfl, hm⟩ := u8_nat hq
      exact LawPatience_any l n cap ao k m W hV hm

theorem quorumPatience_holds : Rows.QuorumPatienceSaid :=
  OpenClaim.holds_of_wide 6 Try.f6 rfl rfl rfl rfl rfl rfl rfl ⟨rfl, rfl, rfl, rfl, rfl⟩ rfl rfl rfl rfl rfl (by kernel_rfl) Try.func6 (by kernel_rfl)
    (of_decide_eq_true (by kernel_rfl)) (by unfold Func.isWrapper; first | (rw [if_pos (by decide +kernel)]; kernel_rfl) | (rw [if_neg (by decide +kernel)]; exact ⟨rfl, rfl⟩))
    (fun os started H enc _ => quorumPatience_lifted os started H enc)
#print axioms quorumPatience_holds
end Go.Proofs.Ytcpnpcbaifagbaa
