/-
  DigestTree returns true for every list of digests and every index; what came in reads as before. No condition.
-/
import Derived.Test.YtchjmkmcgpbndaaLawDig
import Derived.Test.YtchjmkmcgpbndaaDigLawTree
namespace Go.Proofs.Ytchjmkmcgpbndaa
open Go.ChangeShapes Go.WideShapes Go.ChangeAt Go.RowKit

set_option maxRecDepth 100000 in
theorem digestTree_lifted (os : Os) (started : os.Started) (H : Type) (enc : TypeId × Value → H) :
    ReturnsInHanded {} Try.checked os 6 .any (Rows.digestTreeSpec.pre6 enc Try.prog Try.f6 Rows.digestTreeRow.domain false) (Rows.digestTreeSpec.post enc Try.prog Try.f6 false true false false) := by
  refine law_lift started (by kernel_rfl) Try.func6 rfl rfl (by kernel_rfl) ?_ (ChangeSpec.witness6 (enc := enc) (C := Try.checked) false ⟨#[], #[.slice none 0 0, .int .i64 0], []⟩ 8 (by kernel_rfl) (by kernel_rfl) (by kernel_rfl) (by kernel_rfl)) ?_
  · intro ds h
    rw [Try.params6] at h
    match ds, h with
    | [_, _], _ => exact ⟨rfl, rfl, rfl⟩
  · intro W vs h
    rw [Try.params6] at h
    match vs, h with
    | [v0, v1], ⟨h0, h1, _⟩ =>
      obtain ⟨ao, n, cap, l, rfl, hn, hc, hm, hs⟩ := h0.dgs
      obtain ⟨i, rfl, _⟩ := h1.int Try.underlying3
      exact LawTree_any l n ao cap i W hn hc hs

theorem digestTree_holds : Rows.DigestTreeSaid :=
  OpenClaim.holds_of_wide 6 Try.f6 rfl rfl rfl rfl rfl rfl rfl ⟨rfl, rfl, rfl, rfl, rfl⟩ rfl rfl rfl rfl rfl (by kernel_rfl) Try.func6 (by kernel_rfl)
    (of_decide_eq_true (by kernel_rfl)) (by unfold Func.isWrapper; first | (rw [if_pos (by decide +kernel)]; kernel_rfl) | (rw [if_neg (by decide +kernel)]; exact ⟨rfl, rfl⟩))
    (fun os started H enc _ => digestTree_lifted os started H enc)
#print axioms digestTree_holds
end Go.Proofs.Ytchjmkmcgpbndaa
