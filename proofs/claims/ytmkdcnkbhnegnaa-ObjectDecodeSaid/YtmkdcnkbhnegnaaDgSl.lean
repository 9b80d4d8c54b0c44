/-
  Slices of digests read as lists.
-/
import Derived.Test.YtmkdcnkbhnegnaaDigHash
import Derived.Test.YtmkdcnkbhnegnaaSl
namespace Go.Proofs.Ytmkdcnkbhnegnaa
open Go.RowKit
theorem dcells_at {l : List Dg} {j : Nat} (h : j < l.length) : (dcells l)[j * 2]? = some (.int .u64 (l[j]).1.toNat) ∧ (dcells l)[j * 2 + 1]? = some (.int .u64 (l[j]).2.toNat) := by
  induction l generalizing j with
  | nil => simp at h
  | cons d l ih =>
    cases j with
    | zero => simp [dcells]
    | succ j =>
      have := ih (j := j) (by simpa using h)
      rw [show (j + 1) * 2 = j * 2 + 2 by omega]
      simpa [dcells] using this
theorem dg_beq (a b : Dg) : (((a.1.toNat : Int) == (b.1.toNat : Int)) && ((a.2.toNat : Int) == (b.2.toNat : Int))) = decide (a = b) := by
  rw [Bool.eq_iff_iff]
  simp only [Bool.and_eq_true, beq_iff_eq, decide_eq_true_eq, Prod.ext_iff]
  rw [← UInt64.toNat_inj, ← UInt64.toNat_inj]
  omega
end Go.Proofs.Ytmkdcnkbhnegnaa
