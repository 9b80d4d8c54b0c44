/-
  ledger.Prove and its reference.
-/
import Derived.Test.YtbghpjedldhnhaaLedHead
namespace Go.Proofs.Ytbghpjedldhnhaa
open Go.RowKit

/-- A result of Prove. -/
def RetP (x : List Dg × Int) (w : World) (e : Ending) (w' : World) : Prop :=
  ∃ ao' n' cap', e = .returned (.tuple #[.slice ao' n' cap', .int .i64 x.2]) ∧ x.1.length = n' ∧ n' ≤ cap' ∧ DSl w' ao' x.1 ∧ Below w.heap.size w w'

set_option maxRecDepth 100000 in
set_option maxHeartbeats 4000000 in
theorem Prove_any (l : List Rec) (i : Int) (n cap : Nat) (ao : Option Addr) (w : World) (h : LedA w ao n cap l) :
    Calls Try.prog 16 #[.agg #[.slice ao n cap], .int .i64 i] w fun e w' => RetP (proveE l i) w e w' := by
  have hb0 := ba w (Obj.cells #[.slice ao n cap] 26)
  have q0 := cell_new_at (w := w) rfl #[.slice ao n cap] 26 0
  have q0' : (w.alloc (Obj.cells #[.slice ao n cap] 26)).cell? ⟨w.heap.size, 0, none⟩ = some (.slice ao n cap) := q0
  have hlt : w.heap.size < (w.alloc (Obj.cells #[.slice ao n cap] 26)).heap.size := by simp
  have HA := lid (h.below hb0)
  have Q0 := lid q0'
  have hnm : n ≤ 9223372036854775807 := h.max
  clear h q0 q0'
  go_enter Try.func16, Try.ntmps16
  go_wp2_with fail
  (with_reducible refine (Check_any l n cap ao _ HA.out.len HA.out.sl HA.out.sizes HA.out.max).mono ?_); rintro e w2 ⟨rfl, hb2⟩
  have q2 := (bc hb2 hlt 0).trans Q0.out
  have HA2 := lid (HA.out.below hb2)
  have hw2 := hb0.trans (hb2.mono hb0.size)
  by_cases hc : checkL l = 0
  · have HV : Hid (proveE l i = proofE (l.map recD) i) := lid (by unfold proveE; rw [if_pos hc])
    have h10 : n ≤ 10000 := by have := check_len hc; rw [HA.out.len] at this; exact this
    rw [hc]
    clear hlt
    by_cases hi : 0 ≤ i ∧ i < n
    · obtain ⟨hi0, hi1⟩ := hi
      have hd1 : decide (i < 0) = false := by simp; omega
      have hd2 : decide ((n : Int) ≤ i) = false := by simp; omega
      go_wp2_with fail
      (with_reducible refine (digests_fn _ ao n cap _ rfl).mono ?_); rintro e w3 ⟨rfl, rfl⟩
      have hA3 := HA2.out.below (ba w2 (Obj.cells #[.slice ao n cap] 26))
      go_wp2_with fail
      (with_reducible refine (Collect_any w2.heap.size l n cap ao _ (by simp) (by simp) hA3.len hA3.sl hA3.sizes h10).mono ?_); rintro e w4 ⟨v', rfl, hown, hb4⟩
      have hs4 : Below w2.heap.size w2 w4 := (ba w2 _).trans (hb4.mono (by simp))
      obtain ⟨ao', cap', rfl, hl', hc', hs'⟩ := dsl_of_own hown
      have hw4 := hw2.trans (hs4.mono hw2.size)
      go_wp2_with fail
      (with_reducible refine (Proof_sl (l.map recD) n ao' cap' i _ hl' hc' (by omega) hs').mono ?_); rintro e w5 ⟨a5, n5, c5, rfl, g1, g2, g3, hb5⟩
      rw [← HV.out] at g1 g3 ⊢
      have hfin := hw4.trans (hb5.mono hw4.size)
      clear q2 hc
      go_wp2_with fail
      go_ret2
      exact ⟨a5, n5, c5, rfl, g1, g2, g3, hfin⟩
    · have HV2 : Hid (proveE l i = ([], 2)) := lid (by rw [HV.out]; unfold proofE; rw [if_pos (by rw [List.length_map, HA.out.len]; omega)])
      have hcase : i < 0 ∨ (0 ≤ i ∧ (n : Int) ≤ i) := by omega
      clear hi
      rcases hcase with h1 | ⟨h1, h2⟩
      all_goals
        go_wp2_with fail
        go_ret2
        exact ⟨none, 0, 0, by rw [HV2.out]; rfl, by rw [HV2.out]; rfl, Nat.le_refl _, by rw [HV2.out]; exact .inl rfl, hw2⟩
  · have HV : Hid (proveE l i = ([], checkL l)) := lid (by unfold proveE; rw [if_neg hc])
    have hc' : (checkL l != 0) = true := by simpa using hc
    generalize checkL l = C at *
    clear q2 hc
    go_wp2_with fail
    go_ret2
    exact ⟨none, 0, 0, by rw [HV.out]; rfl, by rw [HV.out]; rfl, Nat.le_refl _, by rw [HV.out]; exact .inl rfl, hw2⟩

end Go.Proofs.Ytbghpjedldhnhaa
