/-
  Numbers and texts as bytes. No program in sight.
-/
import Derived.Test.YtghkldodceamcaaKit
namespace Go.Proofs.Ytghkldodceamcaa

/-- The bytes of a number: seven bits each, the least first. -/
def putN (n : Nat) : List UInt8 := if h : n < 128 then [UInt8.ofNat n] else UInt8.ofNat (n % 128 + 128) :: putN (n / 128)
termination_by n
decreasing_by omega
theorem putN_lo {n : Nat} (h : n < 128) : putN n = [UInt8.ofNat n] := by rw [putN, dif_pos h]
theorem putN_hi {n : Nat} (h : ¬ n < 128) : putN n = UInt8.ofNat (n % 128 + 128) :: putN (n / 128) := by rw [putN, dif_neg h]
theorem putN_ne (n : Nat) : putN n ≠ [] := by
  by_cases h : n < 128
  · rw [putN_lo h]; simp
  · rw [putN_hi h]; simp
theorem putN_len (k : Nat) : ∀ n, n < 128 ^ (k + 1) → (putN n).length ≤ k + 1 := by
  induction k with
  | zero => intro n h; rw [putN_lo (by simpa using h)]; simp
  | succ k ih =>
    intro n h
    by_cases h1 : n < 128
    · rw [putN_lo h1]; simp
    · rw [putN_hi h1, List.length_cons]
      have := ih (n / 128) (by rw [Nat.pow_succ] at h; omega)
      omega
theorem putN_six {n : Nat} (h : n ≤ 1099511627776) : (putN n).length ≤ 6 := putN_len 5 n (by omega)
/-- A text: its length, its bytes. -/
def putT (l : List UInt8) : List UInt8 := putN l.length ++ l
theorem ofNat_lo {m : Nat} (h : m < 128) : (UInt8.ofNat m).toNat = m := by simp; omega
theorem ofNat_hi (m : Nat) : (UInt8.ofNat (m % 128 + 128)).toNat = m % 128 + 128 := by simp; omega
end Go.Proofs.Ytghkldodceamcaa
