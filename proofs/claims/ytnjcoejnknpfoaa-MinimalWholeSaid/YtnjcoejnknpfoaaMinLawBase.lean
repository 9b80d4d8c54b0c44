/-
  How the laws over oracles begin.
-/
import Derived.Test.YtnjcoejnknpfoaaMinAwake
namespace Go.Proofs.Ytnjcoejnknpfoaa
open Go.RowKit Go.Shelf
theorem short_good {L : List Sw} (h : shortB L = true) : L.length ≤ 6 ∧ ∀ s ∈ L, s.vs.length ≤ 10 := by
  unfold shortB at h
  simp only [Bool.not_eq_true', Bool.or_eq_false_iff, decide_eq_false_iff_not, List.any_eq_false] at h
  refine ⟨by omega, fun s hs => ?_⟩
  have := h.2 s hs
  unfold longS at this
  simp at this
  omega
/-- The whole set is always bad. -/
theorem orc_whole (L : List Sw) (q r : Int) (n : Nat) : orcF L q r n (upto n) = true := by
  unfold orcF badB
  rw [upto_length, decide_eq_true rfl]
  rfl
theorem Trc.rlen {f : List Int → Bool} {n : Nat} {T : List (List Int)} {R : List Int} (h : Trc f n T R) : R.length ≤ n := by
  have := (h.leads T.length).len
  rwa [stAt_done] at this
end Go.Proofs.Ytnjcoejnknpfoaa
