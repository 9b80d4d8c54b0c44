/-
  ChunkMeets returns true for all strings and all parameters; what came in reads as before. No condition.
-/
import Derived.Test.YtmebjjoldhcgpaaLawChk
import Derived.Test.YtmebjjoldhcgpaaChkLawMeets
namespace Go.Proofs.Ytmebjjoldhcgpaa
open Go.ChangeShapes Go.WideShapes Go.ChangeAt Go.RowKit

set_option maxRecDepth 100000 in
theorem chunkMeets_lifted (os : Os) (started : os.Started) (H : Type) (enc : TypeId × Value → H) :
    ReturnsInHanded {} Try.checked os 5 .any (Rows.chunkMeetsSpec.pre6 enc Try.prog Try.f5 Rows.chunkMeetsRow.domain false) (Rows.chunkMeetsSpec.post enc Try.prog Try.f5 false true false false) := by
  refine law_lift started (by kernel_rfl) Try.func5 rfl rfl (by kernel_rfl) ?_ (ChangeSpec.witness6 (enc := enc) (C := Try.checked) false ⟨#[], #[.string ByteArray.empty, .string ByteArray.empty, .string ByteArray.empty, .agg #[.int .i64 0, .int .i64 0, .int .i64 0, .int .i64 0]], []⟩ 8 (by kernel_rfl) (by kernel_rfl) (by kernel_rfl) (by kernel_rfl)) ?_
  · intro ds h
    rw [Try.params5] at h
    match ds, h with
    | [_, _, _, _], _ => exact ⟨rfl, rfl, rfl⟩
  · intro W vs h
    rw [Try.params5] at h
    match vs, h with
    | [v0, v1, v2, v3], ⟨h0, h1, h2, h3, _⟩ =>
      obtain ⟨a, rfl, ha⟩ := h0.string Try.underlying9
      obtain ⟨c, rfl, hc⟩ := h1.string Try.underlying9
      obtain ⟨r, rfl, hr⟩ := h2.string Try.underlying9
      obtain ⟨l, m, u, b, rfl⟩ := h3.chunking
      exact LawMeets_any a c r l m u b W ha hc hr

theorem chunkMeets_holds : Rows.ChunkMeetsSaid :=
  OpenClaim.holds_of_wide 5 Try.f5 rfl rfl rfl rfl rfl rfl rfl ⟨rfl, rfl, rfl, rfl, rfl⟩ rfl rfl rfl rfl rfl (by kernel_rfl) Try.func5 (by kernel_rfl)
    (of_decide_eq_true (by kernel_rfl)) (by unfold Func.isWrapper; first | (rw [if_pos (by decide +kernel)]; kernel_rfl) | (rw [if_neg (by decide +kernel)]; exact ⟨rfl, rfl⟩))
    (fun os started H enc _ => chunkMeets_lifted os started H enc)
#print axioms chunkMeets_holds
end Go.Proofs.Ytmebjjoldhcgpaa
