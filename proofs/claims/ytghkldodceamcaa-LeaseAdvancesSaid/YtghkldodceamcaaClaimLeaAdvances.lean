/-
  LeaseAdvances: the claim.
-/
import Derived.Test.YtghkldodceamcaaLeaLawAdv
import Derived.Test.YtghkldodceamcaaLawLea
namespace Go.Proofs.Ytghkldodceamcaa
open Go.ChangeShapes Go.WideShapes Go.ChangeAt Go.RowKit

set_option maxRecDepth 100000 in
theorem leaseAdvances_lifted (os : Os) (started : os.Started) (H : Type) (enc : TypeId × Value → H) :
    ReturnsInHanded {} Try.checked os 5 .any (Rows.leaseAdvancesSpec.pre6 enc Try.prog Try.f5 Rows.leaseAdvancesRow.domain false) (Rows.leaseAdvancesSpec.post enc Try.prog Try.f5 false true false false) := by
  refine law_lift started (by kernel_rfl) Try.func5 rfl rfl (by kernel_rfl) ?_ (ChangeSpec.witness6 (enc := enc) (C := Try.checked) false ⟨#[], #[.agg #[.int .i64 0, .int .i64 0, .slice none 0 0], .int .u16 0, .int .u16 0], []⟩ 8 (by kernel_rfl) (by kernel_rfl) (by kernel_rfl) (by kernel_rfl)) ?_
  · intro ds h
    rw [Try.params5] at h
    match ds, h with
    | [_, _, _], _ => exact ⟨rfl, rfl, rfl⟩
  · intro W vs h
    rw [Try.params5] at h
    match vs, h with
    | [v0, v1, v2], ⟨h0, h1, h2, _⟩ =>
      obtain ⟨t, ao, n, cap, rfl, hc, hz, hA, _, _⟩ := h0.ls
      obtain ⟨m, rfl, hm⟩ := h1.int Try.underlying42
      obtain ⟨b, rfl, hb⟩ := h2.int Try.underlying42
      exact by
        obtain ⟨m', rfl, hm'⟩ := u16_nat hm
        obtain ⟨b', rfl, hb'⟩ := u16_nat hb
        exact LawAdvances_any t ao n cap m' b' W hA hc hz hm' hb'

theorem leaseAdvances_holds : Rows.LeaseAdvancesSaid :=
  OpenClaim.holds_of_wide 5 Try.f5 rfl rfl rfl rfl rfl rfl rfl ⟨rfl, rfl, rfl, rfl, rfl⟩ rfl rfl rfl rfl rfl (by kernel_rfl) Try.func5 (by kernel_rfl)
    (of_decide_eq_true (by kernel_rfl)) (by unfold Func.isWrapper; first | (rw [if_pos (by decide +kernel)]; kernel_rfl) | (rw [if_neg (by decide +kernel)]; exact ⟨rfl, rfl⟩))
    (fun os started H enc _ => leaseAdvances_lifted os started H enc)
#print axioms leaseAdvances_holds
end Go.Proofs.Ytghkldodceamcaa
