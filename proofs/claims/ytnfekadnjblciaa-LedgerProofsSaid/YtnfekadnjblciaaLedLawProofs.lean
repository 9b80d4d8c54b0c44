/-
  LedgerProofs: its walk ends in true.
-/
import Derived.Test.YtnfekadnjblciaaLedAwake
import Derived.Test.YtnfekadnjblciaaLedEqual
namespace Go.Proofs.Ytnfekadnjblciaa
open Go.RowKit

theorem prove_few (l : List Rec) (i : Int) : (proveE l i).1.length ≤ 10001 := by
  unfold proveE
  split
  · rename_i h
    have hl := check_len h
    unfold proofE
    split
    · simp
    · have := proofD_length l.length (l.map recD) i.toNat (by simp)
      simp at this
      show (proofD _ _).length ≤ _
      omega
  · simp
theorem ext_few (l : List Rec) (i : Int) : (extE l i).1.length ≤ 10001 := by
  by_cases h : checkL l = 0
  · have hl := check_len h
    by_cases hi : 0 ≤ i ∧ i ≤ l.length
    · obtain ⟨k, rfl⟩ := Int.eq_ofNat_of_zero_le hi.1
      rcases Nat.eq_zero_or_pos k with rfl | hk
      · rw [show (((0 : Nat) : Int)) = 0 from rfl, extE_zero h]; simp
      · rw [extE_in h hk (by omega)]
        have := growD_length (l.map recD) k true
        simp at this
        show (growD _ _ _).length ≤ _
        omega
    · rw [extE_out h hi]; simp
  · rw [extE_bad h]; simp

set_option maxRecDepth 100000 in
set_option maxHeartbeats 8000000 in
theorem LawProofs_any (l : List Rec) (i : Int) (n cap : Nat) (ao : Option Addr) (w : World) (h : LedA w ao n cap l) :
    Calls Try.prog 5 #[.agg #[.slice ao n cap], .int .i64 i] w fun e w' => e = .returned (.bool true) ∧ Below w.heap.size w w' := by
  have hb0 := ba w (Obj.cells #[.slice ao n cap] 24)
  have hlt0 : w.heap.size < (w.alloc (Obj.cells #[.slice ao n cap] 24)).heap.size := by simp
  have q0 := cell_new_at (w := w) rfl #[.slice ao n cap] 24 0
  have q0' : (w.alloc (Obj.cells #[.slice ao n cap] 24)).cell? ⟨w.heap.size, 0, none⟩ = some (.slice ao n cap) := q0
  have HA := lid (h.below hb0)
  have Q0 := lid q0'
  clear h q0 q0'
  go_enter Try.func5, Try.ntmps5
  have q1 := Q0.out
  go_wp2_with fail
  (with_reducible refine (Great_any l n cap ao _ HA.out.len HA.out.sl HA.out.max HA.out.sizes).mono ?_); rintro e w1 ⟨rfl, hb1⟩
  have hw1 := hb0.trans (hb1.mono hb0.size)
  have q2 := (bc hb1 hlt0 0).trans Q0.out
  have HA1 := lid (HA.out.below hb1)
  have hlt1 : w.heap.size < w1.heap.size := by have := hb1.size; omega
  cases hG : greatB l with
  | true =>
    clear hG q1
    go_wp2_with fail
    (with_reducible refine (awake_any _).mono ?_); rintro e w2 ⟨rfl, hb2⟩
    go_wp2_with fail
    go_ret
    exact ⟨rfl, hw1.trans (hb2.mono hw1.size)⟩
  | false =>
    clear hG q1
    go_wp2_with fail
    have LP := lid (prove_few l i)
    have LE := lid (ext_few l i)
    have CP := lid (fun w' h => Prove_any l i n cap ao w' (HA1.out.below h))
    have CR := lid (fun w' h => refProve_any l i n cap ao w' (HA1.out.below h))
    have CE := lid (fun w' h => Extend_any l i n cap ao w' (HA1.out.below h))
    have CF := lid (fun w' h => refExtend_any l i n cap ao w' (HA1.out.below h))
    generalize proveE l i = P at *
    generalize extE l i = E at *
    (with_reducible refine (CP.out _ (Below.refl _ _)).mono ?_); rintro e w2 ⟨a2, n2, c2, rfl, g2, m2, s2, hb2⟩
    have q3 := (bc hb2 hlt1 0).trans q2
    have G2 := lid g2
    have M2 := lid m2
    clear g2 m2
    go_wp2_with fail
    (with_reducible refine (CR.out _ hb2).mono ?_); rintro e w3 ⟨a3, n3, c3, rfl, g3, m3, s3, hb3⟩
    have h3 := hb2.trans (hb3.mono hb2.size)
    have q4 := (bc h3 hlt1 0).trans q2
    have G3 := lid g3
    have M3 := lid m3
    clear q3 g3 m3
    go_wp2_with fail
    (with_reducible refine (CE.out _ h3).mono ?_); rintro e w4 ⟨a4, n4, c4, rfl, g4, m4, s4, hb4⟩
    have h4 := h3.trans (hb4.mono h3.size)
    have q5 := (bc h4 hlt1 0).trans q2
    have G4 := lid g4
    have M4 := lid m4
    clear q4 g4 m4
    go_wp2_with fail
    (with_reducible refine (CF.out _ h4).mono ?_); rintro e w5 ⟨a5, n5, c5, rfl, g5, m5, s5, hb5⟩
    have h5 := h4.trans (hb5.mono h4.size)
    have q6 := (bc h5 hlt1 0).trans q2
    have G5 := lid g5
    have M5 := lid m5
    have S2 := lid (s2.below (hb3.trans ((hb4.trans (hb5.mono hb4.size)).mono hb3.size)))
    have S3 := lid (s3.below (hb4.trans (hb5.mono hb4.size)))
    have S4 := lid (s4.below hb5)
    have S5 := lid s5
    have HA5 := lid (HA1.out.below h5)
    have l5 : w.heap.size < w5.heap.size := by have := h5.size; omega
    have hw5 := hw1.trans (h5.mono hw1.size)
    clear q5 q2 g5 m5 s2 s3 s4 s5 hb2 hb3 hb4 hb5 h3 h4 h5
    generalize hD : headD l = D
    have CH := lid (fun w' h => Head_any l n cap ao w' (HA5.out.below h))
    have CI := lid (fun w' h => refHead_any l n cap ao w' (HA5.out.below h))
    rw [hD] at CH CI
    clear hD
    obtain ⟨p1, p2⟩ := P
    obtain ⟨e1, e2⟩ := E
    go_wp2_with fail
    refine wp_region_seq (fun w' => ∃ s : Since w5.heap.size w5, w' = s.world) [(0, true), (2, true), (1, false), (3, false), (4, true), (5, true), (6, true), (7, true), (8, false), (9, true), (10, true), (11, true), (12, true), (13, true), (14, true), (15, true), (16, true), (17, true), (18, false), (19, true), (20, true), (21, true), (22, true), (23, true), (24, true), (25, true), (26, false), (27, true), (28, false)] (by kernel_rfl) (by kernel_rfl) (by intro c d v a w h; cases d <;> exact h) (since (Below.refl _ _).drew) ?_
    repeat (first | (refine seq_skip (by rfl) (by rfl) ?_; simp only [Act.put, List.setIfInBounds_toArray, List.set_cons_succ, List.set_cons_zero]) | (refine seq_float (by rfl) (by rfl) (by rfl) ?_; intro K hK; go_big_quiet_op; go_big_quiet_on))
    refine seq_chain (by rfl) ?_
    intro K hK
    go_wp2_with fail
    (with_reducible refine (CH.out _ (Below.refl _ _).drew).mono ?_); rintro e w6 ⟨rfl, hb6⟩
    have h6 : Below w5.heap.size w5 w6 := (Below.refl _ _).drew.trans hb6
    go_wp2_with fail
    refine hK.out _ _ (since h6) ?_
    clear hK K
    repeat (first | (refine seq_skip (by rfl) (by rfl) ?_; simp only [Act.put, List.setIfInBounds_toArray, List.set_cons_succ, List.set_cons_zero]) | (refine seq_float (by rfl) (by rfl) (by rfl) ?_; intro K hK; go_big_quiet_op; go_big_quiet_on))
    refine seq_chain (by rfl) ?_
    intro K hK
    go_wp2_with fail
    (with_reducible refine (CI.out _ h6).mono ?_); rintro e w7 ⟨rfl, hb7⟩
    have h7 := h6.trans (hb7.mono h6.size)
    go_wp2_with fail
    refine hK.out _ _ (since h7) ?_
    clear hK K
    repeat (first | (refine seq_skip (by rfl) (by rfl) ?_; simp only [Act.put, List.setIfInBounds_toArray, List.set_cons_succ, List.set_cons_zero]) | (refine seq_float (by rfl) (by rfl) (by rfl) ?_; intro K hK; go_big_quiet_op; go_big_quiet_on))
    refine seq_chain (by rfl) ?_
    intro K hK
    go_wp2_with fail
    (with_reducible refine (Equal_same p1 n2 n3 c2 c3 _ _ _ G2.out G3.out M2.out M3.out (by have := LP.out; have := G2.out; omega) (S2.out.below h7) (S3.out.below h7)).mono ?_); rintro e w8 ⟨rfl, hb8⟩
    have h8 := h7.trans (hb8.mono h7.size)
    go_wp2_with fail
    refine hK.out _ _ (since h8) ?_
    clear hK K
    repeat (first | (refine seq_skip (by rfl) (by rfl) ?_; simp only [Act.put, List.setIfInBounds_toArray, List.set_cons_succ, List.set_cons_zero]) | (refine seq_float (by rfl) (by rfl) (by rfl) ?_; intro K hK; go_big_quiet_op; go_big_quiet_on))
    refine seq_chain (by rfl) ?_
    intro K hK
    go_wp2_with fail
    (with_reducible refine (Equal_same e1 n4 n5 c4 c5 _ _ _ G4.out G5.out M4.out M5.out (by have := LE.out; have := G4.out; omega) (S4.out.below h8) (S5.out.below h8)).mono ?_); rintro e w9 ⟨rfl, hb9⟩
    have h9 := h8.trans (hb9.mono h8.size)
    go_wp2_with fail
    refine hK.out _ _ (since h9) ?_
    clear hK K
    repeat (first | (refine seq_skip (by rfl) (by rfl) ?_; simp only [Act.put, List.setIfInBounds_toArray, List.set_cons_succ, List.set_cons_zero]) | (refine seq_float (by rfl) (by rfl) (by rfl) ?_; intro K hK; go_big_quiet_op; go_big_quiet_on))
    refine seq_chain (by rfl) ?_
    intro K hK
    go_wp2_with fail
    (with_reducible refine (awake_any _).mono ?_); rintro e w10 ⟨rfl, hb10⟩
    have h10 := h9.trans (hb10.mono h9.size)
    go_wp2_with fail
    refine hK.out _ _ (since h10) ?_
    clear hK K
    repeat (first | (refine seq_skip (by rfl) (by rfl) ?_; simp only [Act.put, List.setIfInBounds_toArray, List.set_cons_succ, List.set_cons_zero]) | (refine seq_float (by rfl) (by rfl) (by rfl) ?_; intro K hK; go_big_quiet_op; go_big_quiet_on))
    refine seq_chain (by rfl) ?_
    intro K hK
    go_wp2_with fail
    refine hK.out _ _ (since h10) ?_
    clear hK K
    repeat (first | (refine seq_skip (by rfl) (by rfl) ?_; simp only [Act.put, List.setIfInBounds_toArray, List.set_cons_succ, List.set_cons_zero]) | (refine seq_float (by rfl) (by rfl) (by rfl) ?_; intro K hK; go_big_quiet_op; go_big_quiet_on))
    refine seq_nil ?_
    go_wp2_with fail
    go_ret
    exact ⟨rfl, hw5.trans (h10.mono hw5.size)⟩
end Go.Proofs.Ytnfekadnjblciaa
