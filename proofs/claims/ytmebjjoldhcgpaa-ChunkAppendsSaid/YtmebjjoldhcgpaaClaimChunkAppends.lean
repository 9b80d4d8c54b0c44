/-
  ChunkAppends returns true for all strings and all parameters; what came in reads as before. No condition.
-/
import Derived.Test.YtmebjjoldhcgpaaLawChk
import Derived.Test.YtmebjjoldhcgpaaChkLawAppends
namespace Go.Proofs.Ytmebjjoldhcgpaa
open Go.ChangeShapes Go.WideShapes Go.ChangeAt Go.RowKit

set_option maxRecDepth 100000 in
theorem chunkAppends_lifted (os : Os) (started : os.Started) (H : Type) (enc : TypeId × Value → H) :
    ReturnsInHanded {} Try.checked os 7 .any (Rows.chunkAppendsSpec.pre6 enc Try.prog Try.f7 Rows.chunkAppendsRow.domain false) (Rows.chunkAppendsSpec.post enc Try.prog Try.f7 false true false false) := by
  refine law_lift started (by kernel_rfl) Try.func7 rfl rfl (by kernel_rfl) ?_ (ChangeSpec.witness6 (enc := enc) (C := Try.checked) false ⟨#[], #[.string ByteArray.empty, .string ByteArray.empty, .agg #[.int .i64 0, .int .i64 0, .int .i64 0, .int .i64 0]], []⟩ 8 (by kernel_rfl) (by kernel_rfl) (by kernel_rfl) (by kernel_rfl)) ?_
  · intro ds h
    rw [Try.params7] at h
    match ds, h with
    | [_, _, _], _ => exact ⟨rfl, rfl, rfl⟩
  · intro W vs h
    rw [Try.params7] at h
    match vs, h with
    | [v0, v1, v2], ⟨h0, h1, h2, _⟩ =>
      obtain ⟨a, rfl, ha⟩ := h0.string Try.underlying9
      obtain ⟨c, rfl, hc⟩ := h1.string Try.underlying9
      obtain ⟨l, m, u, b, rfl⟩ := h2.chunking
      exact LawAppends_any a c l m u b W ha hc

theorem chunkAppends_holds : Rows.ChunkAppendsSaid :=
  OpenClaim.holds_of_wide 7 Try.f7 rfl rfl rfl rfl rfl rfl rfl ⟨rfl, rfl, rfl, rfl, rfl⟩ rfl rfl rfl rfl rfl (by kernel_rfl) Try.func7 (by kernel_rfl)
    (of_decide_eq_true (by kernel_rfl)) (by unfold Func.isWrapper; first | (rw [if_pos (by decide +kernel)]; kernel_rfl) | (rw [if_neg (by decide +kernel)]; exact ⟨rfl, rfl⟩))
    (fun os started H enc _ => chunkAppends_lifted os started H enc)
#print axioms chunkAppends_holds
end Go.Proofs.Ytmebjjoldhcgpaa
