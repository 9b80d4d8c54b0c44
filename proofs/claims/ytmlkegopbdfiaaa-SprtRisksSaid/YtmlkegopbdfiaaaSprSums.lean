/-
  Plain laws: the weights of the ends sum to one; the risks. No program in sight.
-/
import Derived.Test.YtmlkegopbdfiaaaSprLawTwo
import Derived.Test.YtmlkegopbdfiaaaSprEndsSpec
namespace Go.Proofs.Ytmlkegopbdfiaaa
section
variable (dec : Nat → Nat → Int)
/-- The weight of an end: its number, with x for a pass and y for a fail, and what may follow. -/
def wgt (x y n : Nat) (e : EndN) : Nat := e.2.2.2 * x ^ e.1 * y ^ e.2.1 * (x + y) ^ (n - e.1 - e.2.1)
def wsum (x y n : Nat) (l : List EndN) : Nat := (l.map (wgt x y n)).sum
theorem wsum_append (x y n : Nat) (a b : List EndN) : wsum x y n (a ++ b) = wsum x y n a + wsum x y n b := by simp [wsum]
/-- The sums over the beginning of a row. -/
def gsum (x y k : Nat) : Nat → Nat
  | 0 => 0
  | m + 1 => gsum x y k m + gon dec k m * x ^ m * y ^ (k - m)
def csum (x y k : Nat) : Nat → Nat
  | 0 => 0
  | m + 1 => csum x y k m + cnt dec k m * x ^ m * y ^ (k - m)
theorem csum_next (x y k : Nat) : ∀ m, m ≤ k + 1 → csum dec x y (k + 1) (m + 1) = (x + y) * gsum dec x y k m + gon dec k m * x ^ m * y ^ (k + 1 - m)
  | 0, _ => by simp [csum, gsum, cnt_succ_zero]
  | m + 1, h => by
    rw [csum, csum_next x y k m (by omega), gsum, cnt_succ_succ, show k + 1 - m = (k - m) + 1 by omega, show k + 1 - (m + 1) = k - m by omega]
    grind
theorem csum_full (x y k : Nat) : csum dec x y (k + 1) (k + 2) = (x + y) * gsum dec x y k (k + 1) := by
  rw [csum_next dec x y k (k + 1) (Nat.le_refl _)]
  have h : gon dec k (k + 1) = 0 := by
    have := gon_le dec k (k + 1)
    rw [cnt_big dec k (k + 1) (by omega)] at this
    omega
  rw [h]
  simp
theorem row_sum (x y n k : Nat) (hk : k < n) : ∀ P, P ≤ k + 1 → wsum x y n (endsRow dec n k P) + gsum dec x y k P * (x + y) ^ (n - k) = csum dec x y k P * (x + y) ^ (n - k)
  | 0, _ => by simp [endsRow, wsum, gsum, csum]
  | P + 1, h => by
    have ih := row_sum x y n k hk P (by omega)
    rw [endsRow_succ, wsum_append, gsum, csum]
    have : wsum x y n (endAt dec n k P) + gon dec k P * x ^ P * y ^ (k - P) * (x + y) ^ (n - k) = cnt dec k P * x ^ P * y ^ (k - P) * (x + y) ^ (n - k) := by
      unfold endAt gon
      by_cases h0 : cnt dec k P = 0
      · rw [if_pos h0, h0]; simp [wsum]
      · rw [if_neg h0]
        by_cases h1 : dec P (k - P) = 0
        · rw [if_pos ⟨h1, by omega⟩, if_pos h1]; simp [wsum]
        · rw [if_neg (fun hh => h1 hh.1), if_neg h1]
          simp [wsum, wgt, show n - P - (k - P) = n - k by omega]
    grind
theorem last_sum (x y n : Nat) : ∀ P, P ≤ n + 1 → wsum x y n (endsRow dec n n P) = csum dec x y n P
  | 0, _ => by simp [endsRow, wsum, csum]
  | P + 1, h => by
    have ih := last_sum x y n P (by omega)
    rw [endsRow_succ, wsum_append, csum, ih]
    congr 1
    unfold endAt
    by_cases h0 : cnt dec n P = 0
    · rw [if_pos h0, h0]; simp [wsum]
    · rw [if_neg h0, if_neg (fun hh => hh.2 rfl)]
      simp [wsum, wgt, show n - P - (n - P) = 0 by omega]
theorem part_sum (x y n : Nat) : ∀ K, K ≤ n → wsum x y n (endsTo dec n K) + csum dec x y K (K + 1) * (x + y) ^ (n - K) = (x + y) ^ n
  | 0, _ => by simp [endsTo, wsum, csum, cnt]
  | K + 1, h => by
    have ih := part_sum x y n K (by omega)
    have hr := row_sum dec x y n K (by omega) (K + 1) (Nat.le_refl _)
    rw [endsTo_succ, wsum_append, csum_full]
    rw [show n - K = (n - (K + 1)) + 1 by omega] at ih hr
    grind
/-- ALL SEQUENCES END. -/
theorem ends_sum (x y n : Nat) : wsum x y n (endsTo dec n (n + 1)) = (x + y) ^ n := by
  have h := part_sum dec x y n n (Nat.le_refl _)
  rw [endsTo_succ, wsum_append, last_sum dec x y n (n + 1) (Nat.le_refl _)]
  simpa using h
/-- What an end is. -/
theorem mem_ends {n : Nat} {e : EndN} (h : e ∈ endsTo dec n (n + 1)) : e.1 + e.2.1 ≤ n ∧ 1 ≤ e.2.2.2 ∧ e.2.2.2 ≤ 2 ^ n ∧ e.2.2.1 = dec e.1 e.2.1 ∧ (e.2.2.1 = 0 → e.1 + e.2.1 = n) := by
  unfold endsTo at h
  obtain ⟨k, hk, h⟩ := List.mem_flatMap.1 h
  unfold endsRow at h
  obtain ⟨p, hp, h⟩ := List.mem_flatMap.1 h
  have hk' := List.mem_range.1 hk
  have hp' := List.mem_range.1 hp
  unfold endAt at h
  split at h
  · cases h
  · rename_i h0
    split at h
    · cases h
    · rename_i h1
      simp only [List.mem_singleton] at h
      subst h
      refine ⟨by simp only; omega, by simp only; omega, Nat.le_trans (cnt_le dec k p) (Nat.pow_le_pow_right (by omega) (by omega)), rfl, ?_⟩
      intro h2
      simp only at h2 ⊢
      by_cases hkn : k = n
      · omega
      · exact absurd ⟨h2, hkn⟩ h1
/-- The weights of the ends with a decision. -/
def dsum (d : Int) (x y n : Nat) (l : List EndN) : Nat := wsum x y n (l.filter fun e => decide (e.2.2.1 = d))
theorem dsum_le (d : Int) (x y n : Nat) (l : List EndN) : dsum d x y n l ≤ wsum x y n l := by
  induction l with
  | nil => simp [dsum, wsum]
  | cons a l ih =>
    unfold dsum at *
    rw [List.filter_cons]
    split
    · simp only [wsum, List.map_cons, List.sum_cons] at *; omega
    · simp only [wsum, List.map_cons, List.sum_cons] at *; omega
/-- If at each end of a decision the one weight times A is at most the other times B, so are the sums. -/
theorem dsum_ratio (d : Int) (x y u v n A B : Nat) (l : List EndN) (h : ∀ e ∈ l, e.2.2.1 = d → wgt x y n e * A ≤ wgt u v n e * B) : dsum d x y n l * A ≤ dsum d u v n l * B := by
  induction l with
  | nil => simp [dsum, wsum]
  | cons a l ih =>
    have ih' := ih (fun e he => h e (List.mem_cons_of_mem _ he))
    have ha := h a List.mem_cons_self
    unfold dsum at *
    rw [List.filter_cons]
    split
    · rename_i hd
      have := ha (by simpa using hd)
      simp only [wsum, List.map_cons, List.sum_cons, Nat.add_mul] at *
      omega
    · exact ih'
end
section
variable {gn gd bn bd an ad en ed : Nat}
theorem pow_split (b n p f : Nat) (h : p + f ≤ n) : b ^ n = b ^ (n - p - f) * (b ^ p * b ^ f) := by
  rw [← Nat.pow_add, ← Nat.pow_add]
  congr 1
  omega
theorem wgt_refused {n : Nat} {e : EndN} (hg : gn ≤ gd) (hb : bn ≤ bd) (he : e.1 + e.2.1 ≤ n) (h : belowN gn gd bd e.1 e.2.1 * ((ed - en) * ad) ≤ aboveN gd bn bd e.1 e.2.1 * (ed * an)) :
    wgt gn (gd - gn) n e * (((ed - en) * ad) * bd ^ n) ≤ wgt bn (bd - bn) n e * ((ed * an) * gd ^ n) := by
  unfold wgt
  unfold belowN aboveN at h
  rw [Nat.add_sub_cancel' hg, Nat.add_sub_cancel' hb, pow_split bd n _ _ he, pow_split gd n _ _ he]
  simp only [Nat.mul_pow] at h
  have := Nat.mul_le_mul_left (e.2.2.2 * gd ^ (n - e.1 - e.2.1) * bd ^ (n - e.1 - e.2.1)) h
  generalize gd ^ (n - e.1 - e.2.1) = g1 at *
  generalize bd ^ (n - e.1 - e.2.1) = b1 at *
  generalize gd ^ e.1 = g2 at *
  generalize gd ^ e.2.1 = g3 at *
  generalize bd ^ e.1 = b2 at *
  generalize bd ^ e.2.1 = b3 at *
  generalize gn ^ e.1 = x1 at *
  generalize bn ^ e.1 = x2 at *
  generalize (gd - gn) ^ e.2.1 = y1 at *
  generalize (bd - bn) ^ e.2.1 = y2 at *
  generalize e.2.2.2 = c at *
  generalize (ed - en) * ad = A at *
  generalize ed * an = B at *
  grind
theorem wgt_accepted {n : Nat} {e : EndN} (hg : gn ≤ gd) (hb : bn ≤ bd) (he : e.1 + e.2.1 ≤ n) (h : aboveN gd bn bd e.1 e.2.1 * (ed * (ad - an)) ≤ belowN gn gd bd e.1 e.2.1 * (en * ad)) :
    wgt bn (bd - bn) n e * ((ed * (ad - an)) * gd ^ n) ≤ wgt gn (gd - gn) n e * ((en * ad) * bd ^ n) := by
  unfold wgt
  unfold belowN aboveN at h
  rw [Nat.add_sub_cancel' hg, Nat.add_sub_cancel' hb, pow_split bd n _ _ he, pow_split gd n _ _ he]
  simp only [Nat.mul_pow] at h
  have := Nat.mul_le_mul_left (e.2.2.2 * gd ^ (n - e.1 - e.2.1) * bd ^ (n - e.1 - e.2.1)) h
  generalize gd ^ (n - e.1 - e.2.1) = g1 at *
  generalize bd ^ (n - e.1 - e.2.1) = b1 at *
  generalize gd ^ e.1 = g2 at *
  generalize gd ^ e.2.1 = g3 at *
  generalize bd ^ e.1 = b2 at *
  generalize bd ^ e.2.1 = b3 at *
  generalize gn ^ e.1 = x1 at *
  generalize bn ^ e.1 = x2 at *
  generalize (gd - gn) ^ e.2.1 = y1 at *
  generalize (bd - bn) ^ e.2.1 = y2 at *
  generalize e.2.2.2 = c at *
  generalize ed * (ad - an) = A at *
  generalize en * ad = B at *
  grind
/-- THE RISK OF REFUSING WHAT IS GOOD. -/
theorem risk_good (hg : gn ≤ gd) (hb : bn ≤ bd) (hb0 : 0 < bd) (n : Nat) : dsum 2 gn (gd - gn) n (endsTo (decS gn gd bn bd an ad en ed) n (n + 1)) * ((ed - en) * ad) ≤ gd ^ n * (ed * an) := by
  have h := dsum_ratio 2 gn (gd - gn) bn (bd - bn) n (((ed - en) * ad) * bd ^ n) ((ed * an) * gd ^ n) (endsTo (decS gn gd bn bd an ad en ed) n (n + 1)) (fun e he hd => by
    obtain ⟨h1, -, -, h4, -⟩ := mem_ends _ he
    refine wgt_refused hg hb h1 (decS_refused.1 ?_)
    rw [← h4]
    exact hd)
  have h2 := dsum_le 2 bn (bd - bn) n (endsTo (decS gn gd bn bd an ad en ed) n (n + 1))
  rw [ends_sum, Nat.add_sub_cancel' hb] at h2
  have h3 := Nat.le_trans h (Nat.mul_le_mul_right ((ed * an) * gd ^ n) h2)
  have hp : 0 < bd ^ n := Nat.pow_pos hb0
  refine Nat.le_of_mul_le_mul_right (c := bd ^ n) ?_ hp
  grind
theorem risk_bad (hg : gn ≤ gd) (hb : bn ≤ bd) (hg0 : 0 < gd) (n : Nat) : dsum 1 bn (bd - bn) n (endsTo (decS gn gd bn bd an ad en ed) n (n + 1)) * ((ad - an) * ed) ≤ bd ^ n * (en * ad) := by
  have h := dsum_ratio 1 bn (bd - bn) gn (gd - gn) n ((ed * (ad - an)) * gd ^ n) ((en * ad) * bd ^ n) (endsTo (decS gn gd bn bd an ad en ed) n (n + 1)) (fun e he hd => by
    obtain ⟨h1, -, -, h4, -⟩ := mem_ends _ he
    refine wgt_accepted hg hb h1 (decS_accepted.1 ?_).2
    rw [← h4]
    exact hd)
  have h2 := dsum_le 1 gn (gd - gn) n (endsTo (decS gn gd bn bd an ad en ed) n (n + 1))
  rw [ends_sum, Nat.add_sub_cancel' hg] at h2
  have h3 := Nat.le_trans h (Nat.mul_le_mul_right ((en * ad) * bd ^ n) h2)
  have hp : 0 < gd ^ n := Nat.pow_pos hg0
  refine Nat.le_of_mul_le_mul_right (c := gd ^ n) ?_ hp
  grind
end
end Go.Proofs.Ytmlkegopbdfiaaa
