/-
  digest.Of returns ofU of its bytes, and makes new memory alone.
-/
import Derived.Test.YtmkdcnkbhnegnaaRows
import Derived.Test.YtmkdcnkbhnegnaaDigSpec
import Derived.Test.YtmkdcnkbhnegnaaDigEq
import Derived.WalkKit
import Derived.WalkSpells
import Derived.WalkLawsBesides
namespace Go.Proofs.Ytmkdcnkbhnegnaa
open Go.RowKit

theorem ret_u64 {a b : Int} (h : a = b) : Ending.returned (.int .u64 a) = .returned (.int .u64 b) := by rw [h]

set_option maxHeartbeats 400000 in
theorem of1_any (h b : UInt64) (w : World) :
    Calls Try.prog 33 #[.int .u64 h.toNat, .int .u64 b.toNat] w fun e w' => e = .returned (.int .u64 (stepA h b).toNat) ∧ w = w' := by
  go_enter Try.func33, Try.ntmps33
  go_wp2
  go_ret
  exact ⟨ret_u64 (stepA_val h b), rfl⟩

set_option maxHeartbeats 400000 in
theorem of2_any (h b : UInt64) (w : World) :
    Calls Try.prog 34 #[.int .u64 h.toNat, .int .u64 b.toNat] w fun e w' => e = .returned (.int .u64 (stepB h b).toNat) ∧ w = w' := by
  go_enter Try.func34, Try.ntmps34
  go_wp2
  go_ret
  exact ⟨ret_u64 (stepB_val h b), rfl⟩

set_option maxHeartbeats 400000 in
theorem hash1_any (s : ByteArray) (w : World) (hs : s.size ≤ maxLen) :
    Calls Try.prog 32 #[.string s, .func (.func 33) #[] #[]] w fun e w' => e = .returned (.int .u64 (hashU stepA s.data.toList).toNat) ∧ w = w' := by
  unfold maxLen at hs
  go_enter Try.func32, Try.ntmps32
  go_wp2
  go_loop [5, 9] (fun h i => ∃ k : Nat, k ≤ s.size ∧ i = .int .i64 k ∧ h = .int .u64 (hashU stepA (s.data.toList.take k)).toNat) (fun _ i => s.size - (intOf i).toNat)
  case atStart => exact ⟨0, Nat.zero_le _, rfl, rfl⟩
  case round =>
    obtain ⟨k, hk, rfl, rfl⟩ := hrel
    by_cases hlt : k < s.size
    · have HS : Hid (hashU stepA (s.data.toList.take (k + 1)) = stepA (hashU stepA (s.data.toList.take k)) (byteU s[k])) := by rw [List.take_succ_eq_append_getElem (by simpa using hlt), hashU_snoc]; rfl
      go_wp2_with (go_at_call 33; refine (of1_any (hashU stepA (s.data.toList.take k)) (byteU s[k]) _).mono ?_; rintro e w' ⟨rfl, rfl⟩)
      go_round
      case rel => exact ⟨k + 1, by omega, by go_num, by rw [HS.out]⟩
      case measure => simp [intOf]; omega
    · go_wp2
      go_ret
      exact ⟨ret_u64 (by rw [List.take_of_length_le (by simp; omega)]), rfl⟩

set_option maxHeartbeats 400000 in
theorem hash2_any (s : ByteArray) (w : World) (hs : s.size ≤ maxLen) :
    Calls Try.prog 32 #[.string s, .func (.func 34) #[] #[]] w fun e w' => e = .returned (.int .u64 (hashU stepB s.data.toList).toNat) ∧ w = w' := by
  unfold maxLen at hs
  go_enter Try.func32, Try.ntmps32
  go_wp2
  go_loop [5, 9] (fun h i => ∃ k : Nat, k ≤ s.size ∧ i = .int .i64 k ∧ h = .int .u64 (hashU stepB (s.data.toList.take k)).toNat) (fun _ i => s.size - (intOf i).toNat)
  case atStart => exact ⟨0, Nat.zero_le _, rfl, rfl⟩
  case round =>
    obtain ⟨k, hk, rfl, rfl⟩ := hrel
    by_cases hlt : k < s.size
    · have HS : Hid (hashU stepB (s.data.toList.take (k + 1)) = stepB (hashU stepB (s.data.toList.take k)) (byteU s[k])) := by rw [List.take_succ_eq_append_getElem (by simpa using hlt), hashU_snoc]; rfl
      go_wp2_with (go_at_call 34; refine (of2_any (hashU stepB (s.data.toList.take k)) (byteU s[k]) _).mono ?_; rintro e w' ⟨rfl, rfl⟩)
      go_round
      case rel => exact ⟨k + 1, by omega, by go_num, by rw [HS.out]⟩
      case measure => simp [intOf]; omega
    · go_wp2
      go_ret
      exact ⟨ret_u64 (by rw [List.take_of_length_le (by simp; omega)]), rfl⟩

set_option maxHeartbeats 400000 in
theorem of_any (s : ByteArray) (w : World) (hs : s.size ≤ maxLen) :
    Calls Try.prog 22 #[.string s] w fun e w' => e = .returned (.agg #[.int .u64 (ofU s.data.toList).1.toNat, .int .u64 (ofU s.data.toList).2.toNat]) ∧ Below w.heap.size w w' := by
  go_enter Try.func22, Try.ntmps22
  go_wp2_with fail
  refine (hash1_any s _ hs).mono ?_; rintro e w' ⟨rfl, rfl⟩
  go_wp2_with fail
  refine (hash2_any s _ hs).mono ?_; rintro e w' ⟨rfl, rfl⟩
  go_wp2_with fail
  · have E := ofU_zero (l := s.data.toList) (by assumption)
    exact bodyPost_ret (v := .agg #[.int .u64 (hashU stepA s.data.toList).toNat, .int .u64 1]) (by simp [results, Try.results22, go_sem]) rfl ⟨by rw [← E.1, ← E.2], ((Below.refl _ _).alloc (Nat.le_refl _) _).alloc (by simp) _⟩
  · have E := ofU_other (l := s.data.toList) (by assumption)
    exact bodyPost_ret (v := .agg #[.int .u64 (hashU stepA s.data.toList).toNat, .int .u64 (hashU stepB s.data.toList).toNat]) (by simp [results, Try.results22, go_sem]) rfl ⟨by rw [E], ((Below.refl _ _).alloc (Nat.le_refl _) _).alloc (by simp) _⟩

end Go.Proofs.Ytmkdcnkbhnegnaa
