/-
  ChunkLocal returns true for every string, all parameters and every number; what came in reads as before. No condition.
-/
import Derived.Test.YtmebjjoldhcgpaaLawChk
import Derived.Test.YtmebjjoldhcgpaaChkLawLocal
namespace Go.Proofs.Ytmebjjoldhcgpaa
open Go.ChangeShapes Go.WideShapes Go.ChangeAt Go.RowKit

set_option maxRecDepth 100000 in
theorem chunkLocal_lifted (os : Os) (started : os.Started) (H : Type) (enc : TypeId × Value → H) :
    ReturnsInHanded {} Try.checked os 4 .any (Rows.chunkLocalSpec.pre6 enc Try.prog Try.f4 Rows.chunkLocalRow.domain false) (Rows.chunkLocalSpec.post enc Try.prog Try.f4 false true false false) := by
  refine law_lift started (by kernel_rfl) Try.func4 rfl rfl (by kernel_rfl) ?_ (ChangeSpec.witness6 (enc := enc) (C := Try.checked) false ⟨#[], #[.string ByteArray.empty, .agg #[.int .i64 0, .int .i64 0, .int .i64 0, .int .i64 0], .int .u16 0], []⟩ 8 (by kernel_rfl) (by kernel_rfl) (by kernel_rfl) (by kernel_rfl)) ?_
  · intro ds h
    rw [Try.params4] at h
    match ds, h with
    | [_, _, _], _ => exact ⟨rfl, rfl, rfl⟩
  · intro W vs h
    rw [Try.params4] at h
    match vs, h with
    | [v0, v1, v2], ⟨h0, h1, h2, _⟩ =>
      obtain ⟨s, rfl, hs⟩ := h0.string Try.underlying9
      obtain ⟨l, m, u, b, rfl⟩ := h1.chunking
      obtain ⟨n, rfl, hn⟩ := h2.int Try.underlying31; have hn' := bounds_u16 hn; obtain ⟨n, rfl⟩ : ∃ k : Nat, n = k := ⟨n.toNat, by omega⟩
      exact LawLocal_any s l m u b n W hs (by omega)

theorem chunkLocal_holds : Rows.ChunkLocalSaid :=
  OpenClaim.holds_of_wide 4 Try.f4 rfl rfl rfl rfl rfl rfl rfl ⟨rfl, rfl, rfl, rfl, rfl⟩ rfl rfl rfl rfl rfl (by kernel_rfl) Try.func4 (by kernel_rfl)
    (of_decide_eq_true (by kernel_rfl)) (by unfold Func.isWrapper; first | (rw [if_pos (by decide +kernel)]; kernel_rfl) | (rw [if_neg (by decide +kernel)]; exact ⟨rfl, rfl⟩))
    (fun os started H enc _ => chunkLocal_lifted os started H enc)
#print axioms chunkLocal_holds
end Go.Proofs.Ytmebjjoldhcgpaa
