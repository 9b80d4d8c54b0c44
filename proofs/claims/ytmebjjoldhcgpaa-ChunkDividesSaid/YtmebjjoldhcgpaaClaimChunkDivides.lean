/-
  ChunkDivides returns true for every string and all parameters; what came in reads as before. No condition.
-/
import Derived.Test.YtmebjjoldhcgpaaLawChk
import Derived.Test.YtmebjjoldhcgpaaChkLawDivides
namespace Go.Proofs.Ytmebjjoldhcgpaa
open Go.ChangeShapes Go.WideShapes Go.ChangeAt Go.RowKit

set_option maxRecDepth 100000 in
theorem chunkDivides_lifted (os : Os) (started : os.Started) (H : Type) (enc : TypeId × Value → H) :
    ReturnsInHanded {} Try.checked os 3 .any (Rows.chunkDividesSpec.pre6 enc Try.prog Try.f3 Rows.chunkDividesRow.domain false) (Rows.chunkDividesSpec.post enc Try.prog Try.f3 false true false false) := by
  refine law_lift started (by kernel_rfl) Try.func3 rfl rfl (by kernel_rfl) ?_ (ChangeSpec.witness6 (enc := enc) (C := Try.checked) false ⟨#[], #[.string ByteArray.empty, .agg #[.int .i64 0, .int .i64 0, .int .i64 0, .int .i64 0]], []⟩ 8 (by kernel_rfl) (by kernel_rfl) (by kernel_rfl) (by kernel_rfl)) ?_
  · intro ds h
    rw [Try.params3] at h
    match ds, h with
    | [_, _], _ => exact ⟨rfl, rfl, rfl⟩
  · intro W vs h
    rw [Try.params3] at h
    match vs, h with
    | [v0, v1], ⟨h0, h1, _⟩ =>
      obtain ⟨s, rfl, hs⟩ := h0.string Try.underlying9
      obtain ⟨l, m, u, b, rfl⟩ := h1.chunking
      exact LawDivides_any s l m u b W hs

theorem chunkDivides_holds : Rows.ChunkDividesSaid :=
  OpenClaim.holds_of_wide 3 Try.f3 rfl rfl rfl rfl rfl rfl rfl ⟨rfl, rfl, rfl, rfl, rfl⟩ rfl rfl rfl rfl rfl (by kernel_rfl) Try.func3 (by kernel_rfl)
    (of_decide_eq_true (by kernel_rfl)) (by unfold Func.isWrapper; first | (rw [if_pos (by decide +kernel)]; kernel_rfl) | (rw [if_neg (by decide +kernel)]; exact ⟨rfl, rfl⟩))
    (fun os started H enc _ => chunkDivides_lifted os started H enc)
#print axioms chunkDivides_holds
end Go.Proofs.Ytmebjjoldhcgpaa
