/-
  digest.Verify and the reference's Verify: whether a proof shows a place.
-/
import Derived.Test.YtphjillihapbfaaGreatDoorGrpB
namespace Go.Proofs.YtphjillihapbfaaGreatDoor
open Go.RowKit

theorem ret_bool {a b : Bool} (h : a = b) : Ending.returned (.bool a) = .returned (.bool b) := by rw [h]
/-- Does the proof show that d has the place i of n? -/
def verifyD (root : Dg) (n i : Int) (d : Dg) (p : List Dg) : Bool :=
  if n < 1 ∨ 1099511627776 < n ∨ i < 0 ∨ n ≤ i then false else (resultD n.toNat i.toNat d p).2 && decide ((resultD n.toNat i.toNat d p).1 = root)
theorem verifyD_out (root d : Dg) (p : List Dg) {n i : Int} (h : n < 1 ∨ 1099511627776 < n ∨ i < 0 ∨ n ≤ i) : verifyD root n i d p = false := by unfold verifyD; rw [if_pos h]
theorem verifyD_in (root d : Dg) (p : List Dg) {n i : Int} (h : ¬ (n < 1 ∨ 1099511627776 < n ∨ i < 0 ∨ n ≤ i)) : verifyD root n i d p = ((resultD n.toNat i.toNat d p).2 && decide ((resultD n.toNat i.toNat d p).1 = root)) := by unfold verifyD; rw [if_neg h]
theorem beq_u64 (a b : UInt64) : ((a.toNat : Int) == (b.toNat : Int)) = decide (a = b) := by
  rw [Bool.eq_iff_iff]
  simp only [beq_iff_eq, decide_eq_true_eq]
  exact ⟨fun h => UInt64.toNat_inj.1 (Int.ofNat_inj.1 h), fun h => by rw [h]⟩
theorem beq_dg (a b : Dg) : (((a.1.toNat : Int) == (b.1.toNat : Int)) && ((a.2.toNat : Int) == (b.2.toNat : Int))) = decide (a = b) := by
  rw [beq_u64, beq_u64, Bool.eq_iff_iff]
  simp [Prod.ext_iff]

end Go.Proofs.YtphjillihapbfaaGreatDoor
