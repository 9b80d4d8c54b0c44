/-
  The reference's Of returns ofU of its bytes too.
-/
import Derived.Test.YtmkdcnkbhnegnaaDigOf
namespace Go.Proofs.Ytmkdcnkbhnegnaa
open Go.RowKit
set_option maxHeartbeats 1000000 in
theorem refOf_any (s : ByteArray) (w : World) (hs : s.size ≤ maxLen) :
    Calls Try.prog 31 #[.string s] w fun e w' => e = .returned (.agg #[.int .u64 (ofU s.data.toList).1.toNat, .int .u64 (ofU s.data.toList).2.toNat]) ∧ Below w.heap.size w w' := by
  unfold maxLen at hs
  go_enter Try.func31, Try.ntmps31
  go_wp2
  go_loop [3, 4, 5] (fun a b i => ∃ k : Nat, k ≤ s.size ∧ i = .int .i64 k ∧ a = .int .u64 (hashU stepA (s.data.toList.take k)).toNat ∧ b = .int .u64 (hashU stepB (s.data.toList.take k)).toNat) (fun _ _ i => s.size - (intOf i).toNat)
  case atStart => exact ⟨0, Nat.zero_le _, rfl, rfl, rfl⟩
  case round =>
    obtain ⟨k, hk, rfl, rfl, rfl⟩ := hrel
    by_cases hlt : k < s.size
    · have HA : Hid (hashU stepA (s.data.toList.take (k + 1)) = stepA (hashU stepA (s.data.toList.take k)) (byteU s[k])) := by rw [List.take_succ_eq_append_getElem (by simpa using hlt), hashU_snoc]; rfl
      have HB : Hid (hashU stepB (s.data.toList.take (k + 1)) = stepB (hashU stepB (s.data.toList.take k)) (byteU s[k])) := by rw [List.take_succ_eq_append_getElem (by simpa using hlt), hashU_snoc]; rfl
      go_wp2
      go_round
      case rel => exact ⟨k + 1, by omega, by go_num, by rw [HA.out, ← stepA_val]; rfl, by rw [HB.out, ← stepB_val]; rfl⟩
      case measure => simp [intOf]; omega
    · have HE : Hid (s.data.toList.take k = s.data.toList) := by show _ = _; rw [List.take_of_length_le (by simp; omega)]
      go_wp2
      · have h1 : (hashU stepA (List.take k s.data.toList)).toNat = 0 := by assumption
        have h2 : (((hashU stepB (List.take k s.data.toList)).toNat : Int) == 0) = true := by assumption
        have E := ofU_zero (l := List.take k s.data.toList) ⟨by rw [h1]; rfl, h2⟩
        refine bodyPost_ret (v := .agg #[.int .u64 0, .int .u64 1]) (by simp [results, Try.results31, go_sem]) rfl ⟨by rw [← HE.out, ← E.1, ← E.2, h1]; rfl, (Below.refl _ _).alloc (Nat.le_refl _) _⟩
      · have h1 : (hashU stepA (List.take k s.data.toList)).toNat = 0 := by assumption
        have h2 : (((hashU stepB (List.take k s.data.toList)).toNat : Int) == 0) = false := by assumption
        have E := ofU_other (l := List.take k s.data.toList) (.inr h2)
        refine bodyPost_ret (v := .agg #[.int .u64 0, .int .u64 (hashU stepB (List.take k s.data.toList)).toNat]) (by simp [results, Try.results31, go_sem]) rfl ⟨by rw [HE.out] at E h1 ⊢; simp [E, h1], (Below.refl _ _).alloc (Nat.le_refl _) _⟩
      · have h1 : ¬ (hashU stepA (List.take k s.data.toList)).toNat = 0 := by assumption
        have E := ofU_other (l := List.take k s.data.toList) (.inl (by simpa using h1))
        refine bodyPost_ret (v := .agg #[.int .u64 (hashU stepA (List.take k s.data.toList)).toNat, .int .u64 (hashU stepB (List.take k s.data.toList)).toNat]) (by simp [results, Try.results31, go_sem]) rfl ⟨by rw [HE.out] at E ⊢; simp [E], (Below.refl _ _).alloc (Nat.le_refl _) _⟩
end Go.Proofs.Ytmkdcnkbhnegnaa
