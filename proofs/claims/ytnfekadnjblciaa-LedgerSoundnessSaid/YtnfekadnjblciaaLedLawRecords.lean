/-
  LedgerRecords: its walk ends in true.
-/
import Derived.Test.YtnfekadnjblciaaLedAwake
import Derived.Test.YtnfekadnjblciaaLedOwn
namespace Go.Proofs.Ytnfekadnjblciaa
open Go.RowKit

theorem prove_len {l : List Rec} (h : checkL l = 0) (i : Int) : (proveE l i).1.length ≤ 10000 := by
  have hl := check_len h
  unfold proveE
  rw [if_pos h]
  unfold proofE
  split
  · simp
  · have := proofD_length l.length (l.map recD) i.toNat (by simp)
    simp at this
    show (proofD _ _).length ≤ _
    omega

set_option maxRecDepth 100000 in
set_option maxHeartbeats 8000000 in
theorem LawRecords_any (l : List Rec) (n cap : Nat) (ao : Option Addr) (w : World) (hcap : n ≤ cap) (h : LedA w ao n cap l) :
    Calls Try.prog 3 #[.agg #[.slice ao n cap]] w fun e w' => e = .returned (.bool true) ∧ Below w.heap.size w w' := by
  have hb0 := ba w (Obj.cells #[.slice ao n cap] 24)
  have hlt0 : w.heap.size < (w.alloc (Obj.cells #[.slice ao n cap] 24)).heap.size := by simp
  have q0 := cell_new_at (w := w) rfl #[.slice ao n cap] 24 0
  have q0' : (w.alloc (Obj.cells #[.slice ao n cap] 24)).cell? ⟨w.heap.size, 0, none⟩ = some (.slice ao n cap) := q0
  have HA := lid (h.below hb0)
  have Q0 := lid q0'
  have HN := lid h.len
  have hnm : n ≤ 9223372036854775807 := h.max
  clear h q0 q0'
  go_enter Try.func3, Try.ntmps3
  have q1 := Q0.out
  go_wp2_with fail
  (with_reducible refine (Great_any l n cap ao _ HA.out.len HA.out.sl HA.out.max HA.out.sizes).mono ?_); rintro e w1 ⟨rfl, hb1⟩
  have hw1 := hb0.trans (hb1.mono hb0.size)
  have q2 := (bc hb1 hlt0 0).trans Q0.out
  have HA1 := lid (HA.out.below hb1)
  have hlt1 : w.heap.size < w1.heap.size := by have := hb1.size; omega
  cases hG : greatB l with
  | true =>
    clear hG q1
    go_wp2_with fail
    (with_reducible refine (awake_any _).mono ?_); rintro e w2 ⟨rfl, hb2⟩
    go_wp2_with fail
    go_ret
    exact ⟨rfl, hw1.trans (hb2.mono hw1.size)⟩
  | false =>
    clear hG q1
    go_wp2_with fail
    (with_reducible refine (Check_any l n cap ao _ HA1.out.len HA1.out.sl HA1.out.sizes HA1.out.max).mono ?_); rintro e w2 ⟨rfl, hb2⟩
    have hw2 := hw1.trans (hb2.mono hw1.size)
    have hw12 := hb1.trans (hb2.mono hb1.size)
    have q3 := (bc hb2 hlt1 0).trans q2
    have hlt2 : w.heap.size < w2.heap.size := by have := hb2.size; omega
    have HA2 := lid (HA1.out.below hb2)
    by_cases hc : checkL l = 0
    · have h10 : n ≤ 10000 := by have := check_len hc; rw [HN.out] at this; exact this
      have HC := lid hc
      rw [hc]
      clear hc q2
      have Q3 := lid q3
      go_wp2_with fail
      clear q3
      go_loopw [3, 4, 5, 6, 18] (fun _ _ _ _ i wr => ∃ (k : Nat), k ≤ n ∧ i = .int .i64 k ∧ Below w2.heap.size w2 wr) (fun _ _ _ _ i _ => n - (intOf i).toNat)
      case atStart => exact ⟨0, Nat.zero_le _, rfl, Below.refl _ _⟩
      case round =>
        obtain ⟨k, hk, rfl, hb⟩ := hrel
        by_cases hlt : k < n
        · have hkl : k < l.length := by rw [HN.out]; exact hlt
          have HAr := lid (HA2.out.below hb)
          obtain ⟨b1, o1, rfl, hlb, hcell⟩ := HAr.out.sl.at_ hlt
          have x0 := hcell (k * 4 + 0) _ (rcells_at hkl).1
          have x1 := hcell (k * 4 + 1) _ (rcells_at hkl).2.1
          have x2 := hcell (k * 4 + 2) _ (rcells_at hkl).2.2.1
          have x3 := hcell (k * 4 + 3) _ (rcells_at hkl).2.2.2
          rw [← Nat.add_assoc] at x1 x2 x3
          rw [Nat.add_zero] at x0
          have HRS := lid (HAr.out.sizes _ (List.getElem_mem hkl))
          have hOwn := own_holds HC.out k hkl
          have hOl := prove_len HC.out k
          have hq := (bc hb hlt2 0).trans Q3.out
          have hltr : w.heap.size < wr.heap.size := by have := hb.size; omega
          clear hcell
          obtain ⟨r, hrk⟩ : ∃ r, l[k] = r := ⟨_, rfl⟩
          rw [hrk] at x0 x1 x2 x3 HRS hOwn
          obtain ⟨t, a, b, d⟩ := r
          simp only at x0 x1 x2 x3
          rw [HN.out] at hOwn
          have HO := lid hOwn
          have HL := lid hOl
          clear hrk hOwn hOl
          go_wp2_with fail
          obtain ⟨W1, hW1⟩ : ∃ W1, wr.alloc (Obj.cells #[.int .i64 t, .string a, .string b, .string d] 30) = W1 := ⟨_, rfl⟩
          have hb1' : Below wr.heap.size wr W1 := by rw [← hW1]; exact ba _ _
          have y0 : W1.cell? ⟨wr.heap.size, 0, none⟩ = some (.int .i64 t) := by rw [← hW1]; simp
          have y1 : W1.cell? ⟨wr.heap.size, 1, none⟩ = some (.string a) := by rw [← hW1]; simp
          have y2 : W1.cell? ⟨wr.heap.size, 2, none⟩ = some (.string b) := by rw [← hW1]; simp
          have y3 : W1.cell? ⟨wr.heap.size, 3, none⟩ = some (.string d) := by rw [← hW1]; simp
          have hlr1 : wr.heap.size < W1.heap.size := by rw [← hW1]; simp
          rw [hW1]
          clear hW1 x0 x1 x2 x3
          have C1 := Prove_any l k n cap _ W1 (HAr.out.below hb1')
          have HO1 := lid HO.out.1
          have HO2 := lid HO.out.2
          clear HO
          generalize proveE l k = P at *
          (with_reducible refine (C1).mono ?_); rintro e w4 ⟨a4, n4, c4, rfl, g1, g2, g3, hb4⟩
          have hP2 : P.2 = 0 := by rw [HO1.out]
          rw [hP2]
          have h14 : Below wr.heap.size wr w4 := hb1'.trans (hb4.mono hb1'.size)
          have hq4 := (bc h14 hltr 0).trans hq
          have z0 := (bc hb4 hlr1 0).trans y0
          have z1 := (bc hb4 hlr1 1).trans y1
          have z2 := (bc hb4 hlr1 2).trans y2
          have z3 := (bc hb4 hlr1 3).trans y3
          have hl4 : w.heap.size < w4.heap.size := by have := h14.size; omega
          have hl4r : wr.heap.size < w4.heap.size := by have := hb4.size; omega
          have HA4 := lid (HAr.out.below h14)
          have hwr4 := hb.trans (h14.mono hb.size)
          have g10 : n4 ≤ 1000000 := by have := HL.out; omega
          have G1 := lid g1
          have G3 := lid g3
          clear hP2 y0 y1 y2 y3 hq g1 g3
          go_wp2_with fail
          refine wp_region_seq (fun w' => ∃ s : Since w4.heap.size w4, w' = s.world) [(0, true), (1, true), (2, true), (3, true), (5, true), (6, true), (7, true), (8, true), (9, true), (10, true), (4, false), (11, false), (12, true), (13, true)] (by kernel_rfl) (by kernel_rfl) (by intro c d v a w h; cases d <;> exact h) (since (Below.refl _ _).drew) ?_
          repeat (first | (refine seq_skip (by rfl) (by rfl) ?_; simp only [Act.put, List.setIfInBounds_toArray, List.set_cons_succ, List.set_cons_zero]) | (refine seq_float (by rfl) (by rfl) (by rfl) ?_; intro K hK; go_big_quiet_op; go_big_quiet_on))
          refine seq_chain (by rfl) ?_
          intro K hK
          go_wp2_with fail
          (with_reducible refine (Head_any l n cap _ _ (HA4.out.below (Below.refl _ _).drew)).mono ?_); rintro e w5 ⟨rfl, hb5⟩
          have h5 : Below w4.heap.size w4 w5 := (Below.refl _ _).drew.trans hb5
          go_wp2_with fail
          refine hK.out _ _ (since h5) ?_
          clear hK K
          repeat (first | (refine seq_skip (by rfl) (by rfl) ?_; simp only [Act.put, List.setIfInBounds_toArray, List.set_cons_succ, List.set_cons_zero]) | (refine seq_float (by rfl) (by rfl) (by rfl) ?_; intro K hK; go_big_quiet_op; go_big_quiet_on))
          refine seq_chain (by rfl) ?_
          intro K hK
          go_wp2_with fail
          have C5 := fun w' (h : Below w4.heap.size w4 w') => Holds_any (headD l) n k (t, a, b, d) P.1 a4 n4 c4 w' HRS.out G1.out g2 g10 (G3.out.below h)
          rw [HO2.out] at C5
          (with_reducible refine (C5 _ h5).mono ?_); rintro e w6 ⟨rfl, hb6⟩
          have h6 := h5.trans (hb6.mono h5.size)
          go_wp2_with fail
          refine hK.out _ _ (since h6) ?_
          clear hK K
          repeat (first | (refine seq_skip (by rfl) (by rfl) ?_; simp only [Act.put, List.setIfInBounds_toArray, List.set_cons_succ, List.set_cons_zero]) | (refine seq_float (by rfl) (by rfl) (by rfl) ?_; intro K hK; go_big_quiet_op; go_big_quiet_on))
          refine seq_nil ?_
          go_wp2_with fail
          go_roundw
          case rel => exact ⟨k + 1, by omega, by go_num, hwr4.trans (h6.mono hwr4.size)⟩
          case measure => simp [intOf]; omega
        · obtain rfl : k = n := by omega
          go_wp2_with fail
          (with_reducible refine (awake_any _).mono ?_); rintro e w5 ⟨rfl, hb5⟩
          have hwr := hw2.trans (hb.mono hw2.size)
          go_wp2_with fail
          go_ret
          exact ⟨rfl, hwr.trans (hb5.mono hwr.size)⟩
    · have hc' : (checkL l != 0) = true := by simpa using hc
      generalize checkL l = C at *
      clear q2 hc
      go_wp2_with fail
      (with_reducible refine (awake_any _).mono ?_); rintro e w3 ⟨rfl, hb3⟩
      go_wp2_with fail
      go_ret
      exact ⟨rfl, hw2.trans (hb3.mono hw2.size)⟩
end Go.Proofs.Ytnfekadnjblciaa
