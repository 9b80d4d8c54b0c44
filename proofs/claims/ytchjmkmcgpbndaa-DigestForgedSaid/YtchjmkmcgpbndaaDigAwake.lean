/-
  The examples of the chapter: the statements' awake returns true.
-/
import Derived.Test.YtchjmkmcgpbndaaDigVerify
namespace Go.Proofs.Ytchjmkmcgpbndaa
open Go.RowKit

theorem of_empty (w : World) : Calls Try.prog 22 #[.string ⟨#[]⟩] w fun e w' => e = .returned (.agg #[.int .u64 14695981039346656037, .int .u64 14695981039346656037]) ∧ Below w.heap.size w w' := by
  have h := of_any ⟨#[]⟩ w (by simp [ByteArray.size, maxLen])
  have e : ofU (ByteArray.mk #[]).data.toList = (14695981039346656037, 14695981039346656037) := by decide +kernel
  rw [e] at h
  exact h
theorem of_a (w : World) : Calls Try.prog 22 #[.string ⟨#[97]⟩] w fun e w' => e = .returned (.agg #[.int .u64 12638187200555641996, .int .u64 12638153115695167422]) ∧ Below w.heap.size w w' := by
  have h := of_any ⟨#[97]⟩ w (by simp [ByteArray.size, maxLen])
  have e : ofU (ByteArray.mk #[97]).data.toList = (12638187200555641996, 12638153115695167422) := by decide +kernel
  rw [e] at h
  exact h

set_option maxHeartbeats 400000 in
theorem awake_any (w : World) : Calls Try.prog 10 #[] w fun e w' => e = .returned (.bool true) ∧ Below w.heap.size w w' := by
  go_enter Try.func10, Try.ntmps10
  go_wp2_with fail
  (with_reducible refine (of_empty _).mono ?_); rintro e w1 ⟨rfl, hb1⟩
  go_wp2_with fail
  (with_reducible refine (of_a _).mono ?_); rintro e w2 ⟨rfl, hb2⟩
  go_wp2_with fail
  go_ret
  exact ⟨rfl, hb1.trans (hb2.mono hb1.size)⟩
end Go.Proofs.Ytchjmkmcgpbndaa
