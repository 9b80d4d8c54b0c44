/-
  The reference's Same of two ledgers that read alike.
-/
import Derived.Test.YtnfekadnjblciaaLedHead
namespace Go.Proofs.Ytnfekadnjblciaa
open Go.RowKit

theorem eqGuardRec : Try.prog.eqGuardType Try.prog.depth 30 = false := by kernel_rfl
set_option maxRecDepth 100000 in
/-- '!=' of a record and itself, in a region. -/
theorem quiet_ne_rec {C : World → Prop} {K : Act → Prop} {a : Act} {o : Oper} (r : Rec) (x y : Operand) (h : o.op = .binOp .neq 30 x y 30)
    (hx : a.eval x = rv r) (hy : a.eval y = rv r) (hk : K (a.put o.dst (.bool false))) : o.quiet Try.prog a C K := by
  refine ⟨.bool false, fun w _ => ?_, hk⟩
  unfold Oper.quietAt execOp
  rw [h]
  simp only [hx, hy]
  simp [go_sem]

set_option maxRecDepth 100000 in
set_option maxHeartbeats 8000000 in
theorem Same_same (l : List Rec) (n n' cap cap' : Nat) (ao ao' : Option Addr) (w : World) (h : LedA w ao n cap l) (h' : LedA w ao' n' cap' l) :
    Calls Try.prog 26 #[.agg #[.slice ao n cap], .agg #[.slice ao' n' cap']] w fun e w' => e = .returned (.bool true) ∧ Below w.heap.size w w' := by
  obtain rfl : n = n' := h.len.symm.trans h'.len
  have HN := lid h.len
  have hm' : n ≤ 9223372036854775807 := h.max
  obtain ⟨W, hW⟩ : ∃ W, (w.alloc (Obj.cells #[.slice ao n cap] 24)).alloc (Obj.cells #[.slice ao' n cap'] 24) = W := ⟨_, rfl⟩
  have hb0 : Below w.heap.size w W := by rw [← hW]; exact ((Below.refl _ _).alloc (Nat.le_refl _) _).alloc (by simp) _
  have q0 : W.cell? ⟨w.heap.size, 0, none⟩ = some (.slice ao n cap) := by rw [← hW]; simp
  have q1 : W.cell? ⟨w.heap.size + 1, 0, none⟩ = some (.slice ao' n cap') := by
    have := cell_new_at (w := w.alloc (Obj.cells #[.slice ao n cap] 24)) rfl #[.slice ao' n cap'] 24 0
    rw [World.size_alloc] at this
    rw [← hW]
    exact this
  have hlt : w.heap.size + 1 < W.heap.size := by rw [← hW]; simp
  have HW := lid hW
  have HA := lid (h.below hb0)
  have HB := lid (h'.below hb0)
  clear hW h h'
  go_enter Try.func26, Try.ntmps26
  go_wp2_with fail
  rw [HW.out]
  clear HW
  have Q0 := lid q0
  have Q1 := lid q1
  go_wp2_with fail
  clear q0 q1
  go_loopw [5] (fun i wr => ∃ (k : Nat), k ≤ n ∧ i = .int .i64 k ∧ Below W.heap.size W wr) (fun i _ => n - (intOf i).toNat)
  case atStart => exact ⟨0, Nat.zero_le _, rfl, Below.refl _ _⟩
  case round =>
    obtain ⟨k, hk, rfl, hb⟩ := hrel
    have hq0 := (bc hb (by omega) 0).trans Q0.out
    have hq1 := (bc hb hlt 0).trans Q1.out
    have l0 : w.heap.size < wr.heap.size := by have := hb.size; omega
    have l1 : w.heap.size + 1 < wr.heap.size := by have := hb.size; omega
    by_cases hk' : k < n
    · have hkl : k < l.length := by rw [HN.out]; exact hk'
      obtain ⟨b1, o1, rfl, hlb1, hd1⟩ := (HA.out.below hb).sl.at_ hk'
      obtain ⟨b2, o2, rfl, hlb2, hd2⟩ := (HB.out.below hb).sl.at_ hk'
      have x0 := hd1 (k * 4 + 0) _ (rcells_at hkl).1
      have x1 := hd1 (k * 4 + 1) _ (rcells_at hkl).2.1
      have x2 := hd1 (k * 4 + 2) _ (rcells_at hkl).2.2.1
      have x3 := hd1 (k * 4 + 3) _ (rcells_at hkl).2.2.2
      have y0 := hd2 (k * 4 + 0) _ (rcells_at hkl).1
      have y1 := hd2 (k * 4 + 1) _ (rcells_at hkl).2.1
      have y2 := hd2 (k * 4 + 2) _ (rcells_at hkl).2.2.1
      have y3 := hd2 (k * 4 + 3) _ (rcells_at hkl).2.2.2
      rw [← Nat.add_assoc] at x1 x2 x3 y1 y2 y3
      rw [Nat.add_zero] at x0 y0
      clear hd1 hd2
      obtain ⟨r, hrk⟩ : ∃ r, l[k] = r := ⟨_, rfl⟩
      rw [hrk] at x0 x1 x2 x3 y0 y1 y2 y3
      clear hrk
      have hdk : decide ((k : Int) < n) = true := by simp; omega
      have hdk' : decide (k < n) = true := by simpa using hk'
      go_wp2_with fail
      refine wp_region_seq (fun w' => ∃ s : Since wr.heap.size wr, w' = s.world) [(0, true), (1, true), (2, true), (3, true), (4, true), (5, true), (6, true), (7, true), (8, true), (9, true), (10, true)] (by kernel_rfl) (by kernel_rfl) (by intro c d v a w h; cases d <;> exact h) (since (Below.refl _ _).drew) ?_
      iterate 10 (first | (refine seq_skip (by rfl) (by rfl) ?_; simp only [Act.put, List.setIfInBounds_toArray, List.set_cons_succ, List.set_cons_zero]) | (refine seq_float (by rfl) (by rfl) (by rfl) ?_; intro K hK; go_big_quiet_op; go_big_quiet_on))
      refine seq_float (by rfl) (by rfl) (by rfl) ?_; intro K hK
      refine quiet_ne_rec r _ _ rfl rfl rfl ?_
      simp only [Act.put, List.setIfInBounds_toArray, List.set_cons_succ, List.set_cons_zero]
      go_big_quiet_on
      refine seq_nil ?_
      go_wp2_with fail
      go_roundw
      case rel => exact ⟨k + 1, by omega, by go_num, hb.drew⟩
      case measure => simp [intOf]; omega
    · obtain rfl : k = n := by omega
      go_wp2_with fail
      go_ret
      exact ⟨rfl, hb0.trans (hb.mono hb0.size)⟩
end Go.Proofs.Ytnfekadnjblciaa
