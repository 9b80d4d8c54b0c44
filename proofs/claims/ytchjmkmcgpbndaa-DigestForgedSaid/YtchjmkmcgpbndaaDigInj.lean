/-
  Plain law: a digest is known by its bytes; two nodes with the same bytes have the same digests.
-/
import Derived.Test.YtchjmkmcgpbndaaDigText
import Derived.Test.YtchjmkmcgpbndaaDigHash
import Derived.Test.YtchjmkmcgpbndaaKit
namespace Go.Proofs.Ytchjmkmcgpbndaa

def hexOf (l : List UInt8) : List UInt8 := l.flatMap fun c => [hexDigit (c.toNat / 16), hexDigit (c.toNat % 16)]
theorem hexU_hexOf_take (x y : UInt64) (k : Nat) (h : k ≤ 16) : (hexU x y).take (2 * k) = hexOf ((bytesU x y).take k) := by
  induction k with
  | zero => simp [hexOf]
  | succ k ih =>
    rw [hexU_take2 x y k (by omega), ih (by omega), bytesU_take x y k (by omega)]
    simp [hexOf]
theorem hexU_hexOf (x y : UInt64) : hexU x y = hexOf (bytesU x y) := by
  have h := hexU_hexOf_take x y 16 (Nat.le_refl _)
  rwa [List.take_of_length_le (by simp [hexU_length]), List.take_of_length_le (by simp [bytesU_length])] at h
theorem hexU_inj {a b : Dg} (h : hexU a.1 a.2 = hexU b.1 b.2) : a = b := by
  have h1 := parseE_hexU a.1 a.2
  rw [h, parseE_hexU] at h1
  simp only [Prod.mk.injEq, and_true] at h1
  exact Prod.ext h1.1.symm h1.2.symm
theorem bytesU_inj {a b : Dg} (h : bytesU a.1 a.2 = bytesU b.1 b.2) : a = b := hexU_inj (by rw [hexU_hexOf, hexU_hexOf, h])
theorem nodes_inj {a b c d : Dg} (h : bytesU a.1 a.2 ++ bytesU b.1 b.2 = bytesU c.1 c.2 ++ bytesU d.1 d.2) : a = c ∧ b = d := by
  have := List.append_inj h (by simp [bytesU_length])
  exact ⟨bytesU_inj this.1, bytesU_inj this.2⟩
theorem bstr_inj {a b : List UInt8} (h : bstr a = bstr b) : a = b := by
  have := congrArg (fun s : ByteArray => s.data.toList) h
  simpa using this

/-- Of a right proof: where no digest is left, one element is left. -/
theorem result_nil_one {n i : Nat} {d : Dg} (h : (resultD n i d []).2 = true) : n = 1 := by
  by_cases h1 : n = 1
  · exact h1
  · rw [resultD_nil h1] at h; simp at h
theorem result_one_nil {i : Nat} {d : Dg} {p : List Dg} (h : (resultD 1 i d p).2 = true) : p = [] := by
  rw [resultD_one] at h
  exact List.eq_nil_of_length_eq_zero (by simpa using h)
end Go.Proofs.Ytchjmkmcgpbndaa
