/-
  The reference's hash, divisible and end.
-/
import Derived.Test.YtmebjjoldhcgpaaRows
import Derived.Test.YtmebjjoldhcgpaaChkPlain
import Derived.Test.YtmebjjoldhcgpaaChkU32
import Derived.Test.YtmebjjoldhcgpaaRegion
import Derived.Lib.Strings
import Derived.Test.YtmebjjoldhcgpaaSl
namespace Go.Proofs.Ytmebjjoldhcgpaa
open Go.RowKit

theorem ret_u32 {a b : Int} (h : a = b) : Ending.returned (.int .u32 a) = .returned (.int .u32 b) := by rw [h]

def mixH (h : UInt32) : UInt32 := h ^^^ (h >>> 15)

set_option maxHeartbeats 400000 in
theorem refHash_any (s : ByteArray) (w : World) (hs : s.size ≤ maxLen) :
    Calls Try.prog 32 #[.string s] w fun e w' => e = .returned (.int .u32 (mixH (winH s.data.toList)).toNat) ∧ w = w' := by
  unfold maxLen at hs
  go_enter Try.func32, Try.ntmps32
  go_wp2
  go_loop [3, 4] (fun h i => ∃ k : Nat, k ≤ s.size ∧ i = .int .i64 k ∧ h = .int .u32 (winH (s.data.toList.take k)).toNat) (fun _ i => s.size - (intOf i).toNat)
  case atStart => exact ⟨0, Nat.zero_le _, rfl, rfl⟩
  case round =>
    obtain ⟨k, hk, rfl, rfl⟩ := hrel
    by_cases hlt : k < s.size
    · have HS : Hid (winH (s.data.toList.take (k + 1)) = winH (s.data.toList.take k) * 16777619 + byteW s[k] + 1) := by
        show _ = _
        rw [List.take_succ_eq_append_getElem (by simpa using hlt), winH_snoc]; rfl
      go_wp2
      go_round
      case rel => exact ⟨k + 1, by omega, by go_num, by rw [HS.out, ← step_out]; congr 1; omega⟩
      case measure => simp [intOf]; omega
    · go_wp2
      go_ret
      refine ⟨ret_u32 ?_, rfl⟩
      rw [List.take_of_length_le (by simp; omega)]
      rw [mixH, ← xorW, ← shrW]

/-- Divisible by a power of two? -/
def divP (x : UInt32) (b : Nat) : Bool := decide (x.toNat % 2 ^ b = 0)
theorem divP_succ_odd (x : Nat) (b : Nat) (h : x % 2 = 1) : x % 2 ^ (b + 1) ≠ 0 := by
  intro e
  have := Nat.mod_mod_of_dvd x (show 2 ∣ 2 ^ (b + 1) from ⟨2 ^ b, by rw [Nat.pow_succ, Nat.mul_comm]⟩)
  rw [e] at this
  simp at this
  omega
theorem divP_succ_even (x : Nat) (b : Nat) (h : ¬ x % 2 = 1) : (x % 2 ^ (b + 1) = 0) ↔ (x / 2 % 2 ^ b = 0) := by
  have h2 : x % 2 = 0 := by omega
  rw [← Nat.dvd_iff_mod_eq_zero, ← Nat.dvd_iff_mod_eq_zero, Nat.pow_succ]
  obtain ⟨y, rfl⟩ : ∃ y, x = y * 2 := ⟨x / 2, by omega⟩
  rw [Nat.mul_div_cancel _ (by omega)]
  exact Nat.mul_dvd_mul_iff_right (by omega)

set_option maxHeartbeats 400000 in
theorem refDiv_any (x : UInt32) (b : Nat) (w : World) (hb : b ≤ 16) :
    Calls Try.prog 31 #[.int .u32 x.toNat, .int .i64 b] w fun e w' => e = .returned (.bool (divP x b)) ∧ w = w' := by
  go_enter Try.func31, Try.ntmps31
  go_wp2
  go_loop [0, 5] (fun n i => ∃ (k y : Nat), k ≤ b ∧ i = .int .i64 k ∧ n = .int .u32 y ∧ y < 4294967296 ∧ Hid ((x.toNat % 2 ^ b = 0) ↔ (y % 2 ^ (b - k) = 0))) (fun _ i => b - (intOf i).toNat)
  case atStart => exact ⟨0, x.toNat, Nat.zero_le _, rfl, rfl, u32_lt x, lid Iff.rfl⟩
  case round =>
    obtain ⟨k, y, hk, rfl, rfl, hy, HY⟩ := hrel
    by_cases hlt : k < b
    · by_cases ho : y % 2 = 1
      · have hoB : (((y : Int) % 2 == 1)) = true := by rw [beq_iff_eq]; omega
        go_wp2
        go_ret
        refine ⟨ret_bool ?_, rfl⟩
        symm
        rw [divP, decide_eq_false_iff_not, HY.out, show b - k = (b - k - 1) + 1 by omega]
        exact divP_succ_odd _ _ ho
      · have hoB : (((y : Int) % 2 == 1)) = false := by rw [beq_eq_false_iff_ne]; omega
        have HZ : Hid ((x.toNat % 2 ^ b = 0) ↔ (y / 2 % 2 ^ (b - (k + 1)) = 0)) := by
          show _ ↔ _
          rw [HY.out, show b - k = (b - (k + 1)) + 1 by omega, divP_succ_even _ _ ho]
        go_wp2
        go_round
        case rel => exact ⟨k + 1, y / 2, by omega, by go_num, by go_num, by omega, HZ⟩
        case measure => simp [intOf]; omega
    · obtain rfl : k = b := by omega
      go_wp2
      go_ret
      refine ⟨ret_bool ?_, rfl⟩
      symm
      rw [divP, decide_eq_true_iff, HY.out]
      simp [Nat.mod_one]
theorem divB_divP (b : Nat) (h : UInt32) (hb : b ≤ 16) : divB b h = divP (mixH h) b := by
  unfold divB divP mixH
  generalize h ^^^ (h >>> 15) = x
  have hm : ∀ b : Fin 17, (1 <<< UInt32.ofNat b.1 - 1 : UInt32).toNat = 2 ^ b.1 - 1 := by decide
  rw [Bool.eq_iff_iff]
  simp only [beq_iff_eq, decide_eq_true_eq]
  rw [← UInt32.toNat_inj, UInt32.toNat_and, hm ⟨b, by omega⟩]
  simp only [Nat.and_two_pow_sub_one_eq_mod]
  rfl
end Go.Proofs.Ytmebjjoldhcgpaa
