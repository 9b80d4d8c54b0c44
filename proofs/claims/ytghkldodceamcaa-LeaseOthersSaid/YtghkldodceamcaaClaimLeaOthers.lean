/-
  LeaseOthers: the claim.
-/
import Derived.Test.YtghkldodceamcaaLeaLawOth
import Derived.Test.YtghkldodceamcaaLawLea
namespace Go.Proofs.Ytghkldodceamcaa
open Go.ChangeShapes Go.WideShapes Go.ChangeAt Go.RowKit

set_option maxRecDepth 100000 in
theorem leaseOthers_lifted (os : Os) (started : os.Started) (H : Type) (enc : TypeId × Value → H) :
    ReturnsInHanded {} Try.checked os 8 .any (Rows.leaseOthersSpec.pre6 enc Try.prog Try.f8 Rows.leaseOthersRow.domain false) (Rows.leaseOthersSpec.post enc Try.prog Try.f8 false true false false) := by
  refine law_lift started (by kernel_rfl) Try.func8 rfl rfl (by kernel_rfl) ?_ (ChangeSpec.witness6 (enc := enc) (C := Try.checked) false ⟨#[], #[.agg #[.int .i64 0, .int .i64 0, .slice none 0 0], .int .u8 0, .int .u8 0, .int .i64 0], []⟩ 8 (by kernel_rfl) (by kernel_rfl) (by kernel_rfl) (by kernel_rfl)) ?_
  · intro ds h
    rw [Try.params8] at h
    match ds, h with
    | [_, _, _, _], _ => exact ⟨rfl, rfl, rfl⟩
  · intro W vs h
    rw [Try.params8] at h
    match vs, h with
    | [v0, v1, v2, v3], ⟨h0, h1, h2, h3, _⟩ =>
      obtain ⟨t, ao, n, cap, rfl, hc, hz, hA, _, _⟩ := h0.ls
      obtain ⟨m, rfl, hm⟩ := h1.int Try.underlying5
      obtain ⟨f, rfl, hf⟩ := h2.int Try.underlying5
      obtain ⟨b, rfl, hb⟩ := h3.int Try.underlying3
      exact by
        obtain ⟨m', rfl, hm'⟩ := u8_nat hm
        obtain ⟨f', rfl, hf'⟩ := u8_nat hf
        exact LawOthers_any t ao n cap m' f' b W hA hc hz hm' hf'

theorem leaseOthers_holds : Rows.LeaseOthersSaid :=
  OpenClaim.holds_of_wide 8 Try.f8 rfl rfl rfl rfl rfl rfl rfl ⟨rfl, rfl, rfl, rfl, rfl⟩ rfl rfl rfl rfl rfl (by kernel_rfl) Try.func8 (by kernel_rfl)
    (of_decide_eq_true (by kernel_rfl)) (by unfold Func.isWrapper; first | (rw [if_pos (by decide +kernel)]; kernel_rfl) | (rw [if_neg (by decide +kernel)]; exact ⟨rfl, rfl⟩))
    (fun os started H enc _ => leaseOthers_lifted os started H enc)
#print axioms leaseOthers_holds
end Go.Proofs.Ytghkldodceamcaa
