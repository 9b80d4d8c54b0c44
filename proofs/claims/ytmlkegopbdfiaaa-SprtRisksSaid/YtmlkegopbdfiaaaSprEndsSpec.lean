/-
  Plain laws: where sequences of outcomes end. No program in sight.
-/
import Derived.Test.YtmlkegopbdfiaaaSprRun
namespace Go.Proofs.Ytmlkegopbdfiaaa

section
variable (dec : Nat → Nat → Int)
/-- How many sequences of k outcomes with p passes have not ended before. -/
def cnt : Nat → Nat → Nat
  | 0, p => if p = 0 then 1 else 0
  | k + 1, 0 => if dec 0 k = 0 then cnt k 0 else 0
  | k + 1, p + 1 => (if dec (p + 1) (k - (p + 1)) = 0 then cnt k (p + 1) else 0) + (if dec p (k - p) = 0 then cnt k p else 0)
/-- What goes on from k outcomes with p passes. -/
def gon (k p : Nat) : Nat := if dec p (k - p) = 0 then cnt dec k p else 0
/-- The next row while the first P numbers of the row are counted. -/
def part (k P : Nat) : Nat → Nat
  | 0 => if 0 < P then gon dec k 0 else 0
  | q + 1 => (if q + 1 < P then gon dec k (q + 1) else 0) + (if q < P then gon dec k q else 0)
/-- The table while the first P numbers of row k are counted. -/
def cellv (k P j q : Nat) : Nat := if j ≤ k then cnt dec j q else if j = k + 1 then part dec k P q else 0
abbrev EndN := Nat × Nat × Int × Nat
/-- The ends in row k among the first P numbers. -/
def endAt (n k p : Nat) : List EndN := if cnt dec k p = 0 then [] else if dec p (k - p) = 0 ∧ k ≠ n then [] else [(p, k - p, dec p (k - p), cnt dec k p)]
def endsRow (n k P : Nat) : List EndN := (List.range P).flatMap (endAt dec n k)
def endsTo (n K : Nat) : List EndN := (List.range K).flatMap fun k => endsRow dec n k (k + 1)

theorem cnt_succ_zero (k : Nat) : cnt dec (k + 1) 0 = gon dec k 0 := by
  rw [cnt, gon, Nat.sub_zero]
theorem cnt_succ_succ (k p : Nat) : cnt dec (k + 1) (p + 1) = gon dec k (p + 1) + gon dec k p := by
  rw [cnt, gon, gon]
theorem cnt_big : ∀ k p : Nat, k < p → cnt dec k p = 0
  | 0, p, h => by rw [cnt, if_neg (by omega)]
  | k + 1, 0, h => by omega
  | k + 1, p + 1, h => by
    rw [cnt_succ_succ, gon, gon, cnt_big k (p + 1) (by omega), cnt_big k p (by omega)]
    simp
theorem gon_le (k p : Nat) : gon dec k p ≤ cnt dec k p := by unfold gon; split <;> omega
theorem cnt_le : ∀ k p : Nat, cnt dec k p ≤ 2 ^ k
  | 0, p => by rw [cnt]; split <;> omega
  | k + 1, 0 => by
    rw [cnt_succ_zero]
    have := gon_le dec k 0
    have := cnt_le k 0
    rw [Nat.pow_succ]
    omega
  | k + 1, p + 1 => by
    rw [cnt_succ_succ]
    have := gon_le dec k p
    have := gon_le dec k (p + 1)
    have := cnt_le k p
    have := cnt_le k (p + 1)
    rw [Nat.pow_succ]
    omega
theorem part_zero (k q : Nat) : part dec k 0 q = 0 := by
  cases q <;> simp [part]
theorem part_full (k q : Nat) : part dec k (k + 1) q = cnt dec (k + 1) q := by
  cases q with
  | zero => rw [part, cnt_succ_zero]; simp
  | succ q =>
    rw [part, cnt_succ_succ]
    congr 1
    · split
      · rfl
      · have := gon_le dec k (q + 1)
        rw [cnt_big dec k (q + 1) (by omega)] at this
        omega
    · split
      · rfl
      · have := gon_le dec k q
        rw [cnt_big dec k q (by omega)] at this
        omega
theorem part_le (k P q : Nat) : part dec k P q ≤ 2 ^ (k + 1) := by
  have h : ∀ p, gon dec k p ≤ 2 ^ k := fun p => Nat.le_trans (gon_le dec k p) (cnt_le dec k p)
  rw [Nat.pow_succ]
  cases q with
  | zero => rw [part]; have := h 0; split <;> omega
  | succ q => rw [part]; have := h q; have := h (q + 1); split <;> split <;> omega
/-- One number more. -/
theorem part_step_same (k P : Nat) : part dec k (P + 1) P = part dec k P P + gon dec k P := by
  cases P with
  | zero => simp [part]
  | succ P =>
    simp only [part]
    rw [if_pos (by omega), if_pos (by omega), if_neg (by omega), if_pos (by omega)]
    omega
theorem part_step_next (k P : Nat) : part dec k (P + 1) (P + 1) = part dec k P (P + 1) + gon dec k P := by
  simp only [part]
  rw [if_neg (by omega), if_pos (by omega), if_neg (by omega), if_neg (by omega)]
theorem part_step_other (k P q : Nat) (h1 : q ≠ P) (h2 : q ≠ P + 1) : part dec k (P + 1) q = part dec k P q := by
  cases q with
  | zero => simp only [part]; congr 1; simp; omega
  | succ q =>
    simp only [part]
    have e1 : (q + 1 < P + 1) = (q + 1 < P) := by simp; omega
    have e2 : (q < P + 1) = (q < P) := by simp; omega
    simp only [e1, e2]
theorem part_next_zero (k P : Nat) : part dec k P (P + 1) = 0 := by
  simp only [part]
  rw [if_neg (by omega), if_neg (by omega)]
theorem endsRow_succ (n k P : Nat) : endsRow dec n k (P + 1) = endsRow dec n k P ++ endAt dec n k P := by simp [endsRow, List.range_succ]
theorem endsTo_succ (n K : Nat) : endsTo dec n (K + 1) = endsTo dec n K ++ endsRow dec n K (K + 1) := by simp [endsTo, List.range_succ]
theorem endAt_length (n k p : Nat) : (endAt dec n k p).length ≤ 1 := by
  unfold endAt
  split
  · simp
  · split <;> simp
theorem endsRow_length (n k P : Nat) : (endsRow dec n k P).length ≤ P := by
  induction P with
  | zero => simp [endsRow]
  | succ P ih =>
    rw [endsRow_succ, List.length_append]
    have := endAt_length dec n k P
    omega
theorem endsTo_length (n K : Nat) (hK : K ≤ 31) : (endsTo dec n K).length ≤ 32 * K := by
  induction K with
  | zero => simp [endsTo]
  | succ K ih =>
    rw [endsTo_succ, List.length_append]
    have := endsRow_length dec n K (K + 1)
    have := ih (by omega)
    omega
end
end Go.Proofs.Ytmlkegopbdfiaaa
