/-
  QuorumLiars: the claim.
-/
import Derived.Test.YtcpnpcbaifagbaaQuoLawLiars
import Derived.Test.YtcpnpcbaifagbaaLawQuo
namespace Go.Proofs.Ytcpnpcbaifagbaa
open Go.ChangeShapes Go.WideShapes Go.ChangeAt Go.RowKit

set_option maxRecDepth 100000 in
theorem quorumLiars_lifted (os : Os) (started : os.Started) (H : Type) (enc : TypeId × Value → H) :
    ReturnsInHanded {} Try.checked os 5 .any (Rows.quorumLiarsSpec.pre6 enc Try.prog Try.f5 Rows.quorumLiarsRow.domain false) (Rows.quorumLiarsSpec.post enc Try.prog Try.f5 false true false false) := by
  refine law_lift started (by kernel_rfl) Try.func5 rfl rfl (by kernel_rfl) ?_ (ChangeSpec.witness6 (enc := enc) (C := Try.checked) false ⟨#[], #[.slice none 0 0, .string ⟨#[]⟩, .int .u8 0], []⟩ 8 (by kernel_rfl) (by kernel_rfl) (by kernel_rfl) (by kernel_rfl)) ?_
  · intro ds h
    rw [Try.params5] at h
    match ds, h with
    | [_, _, _], _ => exact ⟨rfl, rfl, rfl⟩
  · intro W vs h
    rw [Try.params5] at h
    match vs, h with
    | [v0, v1, v2], ⟨h0, h1, h2, _⟩ =>
      obtain ⟨l, ao, n, cap, rfl, hV⟩ := h0.vts
      obtain ⟨s, rfl, hs⟩ := h1.string Try.underlying9
      obtain ⟨q, rfl, hq⟩ := h2.int Try.underlying5
      obtain ⟨m, rfl, hm⟩ := u8_nat hq
      exact LawLiars_any l n cap ao s m W hV hs hm

theorem quorumLiars_holds : Rows.QuorumLiarsSaid :=
  OpenClaim.holds_of_wide 5 Try.f5 rfl rfl rfl rfl rfl rfl rfl ⟨rfl, rfl, rfl, rfl, rfl⟩ rfl rfl rfl rfl rfl (by kernel_rfl) Try.func5 (by kernel_rfl)
    (of_decide_eq_true (by kernel_rfl)) (by unfold Func.isWrapper; first | (rw [if_pos (by decide +kernel)]; kernel_rfl) | (rw [if_neg (by decide +kernel)]; exact ⟨rfl, rfl⟩))
    (fun os started H enc _ => quorumLiars_lifted os started H enc)
#print axioms quorumLiars_holds
end Go.Proofs.Ytcpnpcbaifagbaa
