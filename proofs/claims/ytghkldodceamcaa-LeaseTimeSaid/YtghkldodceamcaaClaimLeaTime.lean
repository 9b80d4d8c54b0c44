/-
  LeaseTime: the claim.
-/
import Derived.Test.YtghkldodceamcaaLeaLawTime
import Derived.Test.YtghkldodceamcaaLawLea
namespace Go.Proofs.Ytghkldodceamcaa
open Go.ChangeShapes Go.WideShapes Go.ChangeAt Go.RowKit

set_option maxRecDepth 100000 in
theorem leaseTime_lifted (os : Os) (started : os.Started) (H : Type) (enc : TypeId × Value → H) :
    ReturnsInHanded {} Try.checked os 4 .any (Rows.leaseTimeSpec.pre6 enc Try.prog Try.f4 Rows.leaseTimeRow.domain false) (Rows.leaseTimeSpec.post enc Try.prog Try.f4 false true false false) := by
  refine law_lift started (by kernel_rfl) Try.func4 rfl rfl (by kernel_rfl) ?_ (ChangeSpec.witness6 (enc := enc) (C := Try.checked) false ⟨#[], #[.agg #[.int .i64 0, .int .i64 0, .slice none 0 0], .agg #[.int .u64 0, .int .u64 0], .int .u8 0, .int .u8 0], []⟩ 8 (by kernel_rfl) (by kernel_rfl) (by kernel_rfl) (by kernel_rfl)) ?_
  · intro ds h
    rw [Try.params4] at h
    match ds, h with
    | [_, _, _, _], _ => exact ⟨rfl, rfl, rfl⟩
  · intro W vs h
    rw [Try.params4] at h
    match vs, h with
    | [v0, v1, v2, v3], ⟨h0, h1, h2, h3, _⟩ =>
      obtain ⟨t, ao, n, cap, rfl, hc, hz, hA, _, _⟩ := h0.ls
      obtain ⟨job, rfl⟩ := h1.dg
      obtain ⟨m, rfl, hm⟩ := h2.int Try.underlying5
      obtain ⟨b, rfl, hb⟩ := h3.int Try.underlying5
      exact by
        obtain ⟨m', rfl, hm'⟩ := u8_nat hm
        obtain ⟨b', rfl, hb'⟩ := u8_nat hb
        exact LawTime_any t ao n cap job m' b' W hA hc hz hm' hb'

theorem leaseTime_holds : Rows.LeaseTimeSaid :=
  OpenClaim.holds_of_wide 4 Try.f4 rfl rfl rfl rfl rfl rfl rfl ⟨rfl, rfl, rfl, rfl, rfl⟩ rfl rfl rfl rfl rfl (by kernel_rfl) Try.func4 (by kernel_rfl)
    (of_decide_eq_true (by kernel_rfl)) (by unfold Func.isWrapper; first | (rw [if_pos (by decide +kernel)]; kernel_rfl) | (rw [if_neg (by decide +kernel)]; exact ⟨rfl, rfl⟩))
    (fun os started H enc _ => leaseTime_lifted os started H enc)
#print axioms leaseTime_holds
end Go.Proofs.Ytghkldodceamcaa
