/-
  LeaseGrant: the claim.
-/
import Derived.Test.YtghkldodceamcaaLeaLawOne
import Derived.Test.YtghkldodceamcaaLawLea
namespace Go.Proofs.Ytghkldodceamcaa
open Go.ChangeShapes Go.WideShapes Go.ChangeAt Go.RowKit

set_option maxRecDepth 100000 in
theorem leaseGrant_lifted (os : Os) (started : os.Started) (H : Type) (enc : TypeId × Value → H) :
    ReturnsInHanded {} Try.checked os 3 .any (Rows.leaseGrantSpec.pre6 enc Try.prog Try.f3 Rows.leaseGrantRow.domain false) (Rows.leaseGrantSpec.post enc Try.prog Try.f3 false true false false) := by
  refine law_lift started (by kernel_rfl) Try.func3 rfl rfl (by kernel_rfl) ?_ (ChangeSpec.witness6 (enc := enc) (C := Try.checked) false ⟨#[], #[.agg #[.int .i64 0, .int .i64 0, .slice none 0 0], .agg #[.int .u64 0, .int .u64 0], .string ⟨#[]⟩, .int .i64 0], []⟩ 8 (by kernel_rfl) (by kernel_rfl) (by kernel_rfl) (by kernel_rfl)) ?_
  · intro ds h
    rw [Try.params3] at h
    match ds, h with
    | [_, _, _, _], _ => exact ⟨rfl, rfl, rfl⟩
  · intro W vs h
    rw [Try.params3] at h
    match vs, h with
    | [v0, v1, v2, v3], ⟨h0, h1, h2, h3, _⟩ =>
      obtain ⟨t, ao, n, cap, rfl, hc, hz, hA, _, _⟩ := h0.ls
      obtain ⟨job, rfl⟩ := h1.dg
      obtain ⟨wk, rfl, _⟩ := h2.string Try.underlying9
      obtain ⟨m, rfl, _⟩ := h3.int Try.underlying3
      exact LawGrant_any t ao n cap job wk m W hA hc hz

theorem leaseGrant_holds : Rows.LeaseGrantSaid :=
  OpenClaim.holds_of_wide 3 Try.f3 rfl rfl rfl rfl rfl rfl rfl ⟨rfl, rfl, rfl, rfl, rfl⟩ rfl rfl rfl rfl rfl (by kernel_rfl) Try.func3 (by kernel_rfl)
    (of_decide_eq_true (by kernel_rfl)) (by unfold Func.isWrapper; first | (rw [if_pos (by decide +kernel)]; kernel_rfl) | (rw [if_neg (by decide +kernel)]; exact ⟨rfl, rfl⟩))
    (fun os started H enc _ => leaseGrant_lifted os started H enc)
#print axioms leaseGrant_holds
end Go.Proofs.Ytghkldodceamcaa
