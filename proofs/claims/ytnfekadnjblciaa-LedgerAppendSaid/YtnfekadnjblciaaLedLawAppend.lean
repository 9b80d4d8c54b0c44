/-
  LedgerAppend: its walk ends in true.
-/
import Derived.Test.YtnfekadnjblciaaLedAwake
import Derived.Test.YtnfekadnjblciaaLedAppend
import Derived.Test.YtnfekadnjblciaaLedSame
namespace Go.Proofs.Ytnfekadnjblciaa
open Go.RowKit

set_option maxRecDepth 100000 in
set_option maxHeartbeats 8000000 in
theorem LawAppend_any (l : List Rec) (r : Rec) (n cap : Nat) (ao : Option Addr) (w : World) (h : LedA w ao n cap l) (hz : ao = none → cap = 0) (hr : RecS r) :
    Calls Try.prog 6 #[.agg #[.slice ao n cap], rv r] w fun e w' => e = .returned (.bool true) ∧ Below w.heap.size w w' := by
  obtain ⟨t, a, b, d⟩ := r
  have HR := lid hr
  have HZ := lid hz
  obtain ⟨W, hW⟩ : ∃ W, (w.alloc (Obj.cells #[.slice ao n cap] 24)).alloc (Obj.cells #[.int .i64 t, .string a, .string b, .string d] 30) = W := ⟨_, rfl⟩
  have hw0 : Below w.heap.size w W := by rw [← hW]; exact ((Below.refl _ _).alloc (Nat.le_refl _) _).alloc (by simp) _
  have q0 : W.cell? ⟨w.heap.size, 0, none⟩ = some (.slice ao n cap) := by rw [← hW, cell_old_at (by simp), cell_new_at rfl]; rfl
  have r0 : W.cell? ⟨w.heap.size + 1, 0, none⟩ = some (.int .i64 t) := by rw [← hW, cell_new_at (by simp)]; rfl
  have r1 : W.cell? ⟨w.heap.size + 1, 1, none⟩ = some (.string a) := by rw [← hW, cell_new_at (by simp)]; rfl
  have r2 : W.cell? ⟨w.heap.size + 1, 2, none⟩ = some (.string b) := by rw [← hW, cell_new_at (by simp)]; rfl
  have r3 : W.cell? ⟨w.heap.size + 1, 3, none⟩ = some (.string d) := by rw [← hW, cell_new_at (by simp)]; rfl
  have hsz : w.heap.size + 2 = W.heap.size := by rw [← hW, World.size_alloc, World.size_alloc]
  have HA := lid (h.below hw0)
  have HW := lid hW
  clear hW h hz hr
  go_enter Try.func6, Try.ntmps6
  go_wp2_with fail
  rw [HW.out]
  clear HW
  (with_reducible refine (Great_any l n cap ao _ HA.out.len HA.out.sl HA.out.max HA.out.sizes).mono ?_); rintro e w1 ⟨rfl, hb1⟩
  have hw1 := hw0.trans (hb1.mono hw0.size)
  have l0 : w.heap.size < w1.heap.size := by have := hb1.size; omega
  have l1 : w.heap.size + 1 < w1.heap.size := by have := hb1.size; omega
  replace q0 := (bc hb1 (by omega) 0).trans q0
  replace r0 := (bc hb1 (by omega) 0).trans r0
  replace r1 := (bc hb1 (by omega) 1).trans r1
  replace r2 := (bc hb1 (by omega) 2).trans r2
  replace r3 := (bc hb1 (by omega) 3).trans r3
  replace HA := lid (HA.out.below hb1)
  clear hb1 hw0 hsz
  cases hG : greatB l with
  | true =>
    clear hG
    go_wp2_with fail
    (with_reducible refine (awake_any _).mono ?_); rintro e w2 ⟨rfl, hb2⟩
    go_wp2_with fail
    go_ret
    exact ⟨rfl, hw1.trans (hb2.mono hw1.size)⟩
  | false =>
    clear hG
    go_wp2_with fail
    obtain ⟨W1, hW1⟩ : ∃ W1, w1.alloc (Obj.cells #[.int .i64 t, .string a, .string b, .string d] 30) = W1 := ⟨_, rfl⟩
    have hb1 : Below w1.heap.size w1 W1 := by rw [← hW1]; exact ba _ _
    have hSl : Sl W1 4 (some ⟨w1.heap.size, 0, none⟩) 1 (rcells [(t, a, b, d)]) := by rw [← hW1]; exact sl_one (heap_alloc_new w1 _) rfl
    rw [hW1]
    clear hW1
    (with_reducible refine (Great_any [(t, a, b, d)] 1 1 (some ⟨w1.heap.size, 0, none⟩) W1 rfl hSl (by decide) (fun x hx => by rw [List.mem_singleton.1 hx]; exact HR.out)).mono ?_); rintro e w2 ⟨rfl, hb2⟩
    have hb12 := hb1.trans (hb2.mono hb1.size)
    have hw2 := hw1.trans (hb12.mono hw1.size)
    replace q0 := (bc hb12 l0 0).trans q0
    replace r0 := (bc hb12 l1 0).trans r0
    replace r1 := (bc hb12 l1 1).trans r1
    replace r2 := (bc hb12 l1 2).trans r2
    replace r3 := (bc hb12 l1 3).trans r3
    replace l0 : w.heap.size < w2.heap.size := by have := hb12.size; omega
    replace l1 : w.heap.size + 1 < w2.heap.size := by have := hb12.size; omega
    replace HA := lid (HA.out.below hb12)
    clear hSl hb1 hb2 hb12 hw1
    cases hG : greatB [(t, a, b, d)] with
    | true =>
      clear hG
      go_wp2_with fail
      (with_reducible refine (awake_any _).mono ?_); rintro e w3 ⟨rfl, hb3⟩
      go_wp2_with fail
      go_ret
      exact ⟨rfl, hw2.trans (hb3.mono hw2.size)⟩
    | false =>
      clear hG
      have CA := lid (fun w' (h : Below w2.heap.size w2 w') => Append_any l (t, a, b, d) n cap ao w' (HA.out.below h) HZ.out HR.out)
      have CB := lid (fun w' (h : Below w2.heap.size w2 w') => refAppend_any l (t, a, b, d) n cap ao w' (HA.out.below h) HZ.out HR.out)
      generalize appE l (t, a, b, d) = X at *
      go_wp2_with fail
      (with_reducible refine (CA.out _ (Below.refl _ _)).mono ?_); rintro e w3 ⟨a3, n3, c3, rfl, hc3, hA3, hb3⟩
      have m0 : w.heap.size < w3.heap.size := by have := hb3.size; omega
      have m1 : w.heap.size + 1 < w3.heap.size := by have := hb3.size; omega
      have q3 := (cell_old_at m0 (Obj.cells #[.slice a3 n3 c3] 24) 0).trans ((bc hb3 l0 0).trans q0)
      have s0 := (cell_old_at m1 (Obj.cells #[.slice a3 n3 c3] 24) 0).trans ((bc hb3 l1 0).trans r0)
      have s1 := (cell_old_at m1 (Obj.cells #[.slice a3 n3 c3] 24) 1).trans ((bc hb3 l1 1).trans r1)
      have s2 := (cell_old_at m1 (Obj.cells #[.slice a3 n3 c3] 24) 2).trans ((bc hb3 l1 2).trans r2)
      have s3 := (cell_old_at m1 (Obj.cells #[.slice a3 n3 c3] 24) 3).trans ((bc hb3 l1 3).trans r3)
      clear q0 r0 r1 r2 r3
      go_wp2_with fail
      obtain ⟨W3, hW3⟩ : ∃ W3, w3.alloc (Obj.cells #[.slice a3 n3 c3] 24) = W3 := ⟨_, rfl⟩
      have b3 : W3.cell? ⟨w3.heap.size, 0, none⟩ = some (.slice a3 n3 c3) := by rw [← hW3]; exact cell_new_at rfl _ _ _
      have j3 : w3.heap.size < W3.heap.size := by rw [← hW3]; simp
      have h3 : Below w2.heap.size w2 W3 := by rw [← hW3]; exact hb3.trans ((ba _ _).mono hb3.size)
      have hA3' := lid (show LedA W3 a3 n3 c3 X.1 by rw [← hW3]; exact hA3.below (ba _ _))
      rw [hW3] at q3 s0 s1 s2 s3 ⊢
      clear hW3 hA3 hb3
      (with_reducible refine (CB.out _ h3).mono ?_); rintro e w4 ⟨a4, n4, c4, rfl, hc4, hA4, hb4⟩
      have h4 := h3.trans (hb4.mono h3.size)
      have g0 : w.heap.size < w4.heap.size := by have := h4.size; omega
      have g3 : w3.heap.size < w4.heap.size := by have := hb4.size; omega
      have q4 := (bc hb4 (by have := h3.size; omega) 0).trans q3
      have b4 := (bc hb4 j3 0).trans b3
      have HA3 := lid (hA3'.out.below hb4)
      have HA4 := lid hA4
      have HL := lid (HA.out.below h4)
      clear s0 s1 s2 s3 q3 b3 hA3' hA4
      go_wp2_with fail
      obtain ⟨W4, hW4⟩ : ∃ W4, w4.alloc (Obj.cells #[.slice a4 n4 c4] 24) = W4 := ⟨_, rfl⟩
      have hb5 : Below w4.heap.size w4 W4 := by rw [← hW4]; exact ba _ _
      have d4 : W4.cell? ⟨w4.heap.size, 0, none⟩ = some (.slice a4 n4 c4) := by rw [← hW4]; exact cell_new_at rfl _ _ _
      have k4 : w4.heap.size < W4.heap.size := by rw [← hW4]; simp
      have k3 : w3.heap.size < W4.heap.size := by omega
      have k0 : w.heap.size < W4.heap.size := by omega
      replace q4 := (bc hb5 g0 0).trans q4
      replace b4 := (bc hb5 g3 0).trans b4
      replace HA3 := lid (HA3.out.below hb5)
      replace HA4 := lid (HA4.out.below hb5)
      replace HL := lid (HL.out.below hb5)
      have h5 := h4.trans (hb5.mono h4.size)
      have hw5 := hw2.trans (h5.mono hw2.size)
      rw [hW4]
      clear hW4
      have CC := lid (fun w' (h : Below W4.heap.size W4 w') => Check_any l n cap ao w' HL.out.len (HL.out.below h).sl HL.out.sizes HL.out.max)
      have CD := lid (fun w' (h : Below W4.heap.size W4 w') => refCheck_any l n cap ao w' HL.out.len (HL.out.below h).sl HL.out.sizes HL.out.max)
      have CE := lid (fun w' (h : Below W4.heap.size W4 w') => Same_same X.1 n3 n4 c3 c4 a3 a4 w' (HA3.out.below h) (HA4.out.below h))
      generalize checkL l = C at *
      refine wp_region_seq (fun w' => ∃ s : Since W4.heap.size W4, w' = s.world) [(0, true), (2, true), (1, false), (3, false), (4, true), (5, true), (6, true), (7, true), (8, false), (9, true), (10, true), (11, true), (12, true), (13, true), (14, true), (15, true), (16, false), (17, true), (18, false)] (by kernel_rfl) (by kernel_rfl) (by intro c d v a w h; cases d <;> exact h) (since (Below.refl _ _).drew) ?_
      repeat (first | (refine seq_skip (by rfl) (by rfl) ?_; simp only [Act.put, List.setIfInBounds_toArray, List.set_cons_succ, List.set_cons_zero]) | (refine seq_float (by rfl) (by rfl) (by rfl) ?_; intro K hK; go_big_quiet_op; go_big_quiet_on))
      refine seq_chain (by rfl) ?_
      intro K hK
      go_wp2_with fail
      (with_reducible refine (CC.out _ (Below.refl _ _).drew).mono ?_); rintro e w6 ⟨rfl, hb6⟩
      have h6 : Below W4.heap.size W4 w6 := (Below.refl _ _).drew.trans hb6
      go_wp2_with fail
      refine hK.out _ _ (since h6) ?_
      clear hK K
      repeat (first | (refine seq_skip (by rfl) (by rfl) ?_; simp only [Act.put, List.setIfInBounds_toArray, List.set_cons_succ, List.set_cons_zero]) | (refine seq_float (by rfl) (by rfl) (by rfl) ?_; intro K hK; go_big_quiet_op; go_big_quiet_on))
      refine seq_chain (by rfl) ?_
      intro K hK
      go_wp2_with fail
      (with_reducible refine (CD.out _ h6).mono ?_); rintro e w7 ⟨rfl, hb7⟩
      have h7 := h6.trans (hb7.mono h6.size)
      go_wp2_with fail
      refine hK.out _ _ (since h7) ?_
      clear hK K
      repeat (first | (refine seq_skip (by rfl) (by rfl) ?_; simp only [Act.put, List.setIfInBounds_toArray, List.set_cons_succ, List.set_cons_zero]) | (refine seq_float (by rfl) (by rfl) (by rfl) ?_; intro K hK; go_big_quiet_op; go_big_quiet_on))
      refine seq_chain (by rfl) ?_
      intro K hK
      go_wp2_with fail
      (with_reducible refine (CE.out _ h7).mono ?_); rintro e w8 ⟨rfl, hb8⟩
      have h8 := h7.trans (hb8.mono h7.size)
      go_wp2_with fail
      refine hK.out _ _ (since h8) ?_
      clear hK K
      repeat (first | (refine seq_skip (by rfl) (by rfl) ?_; simp only [Act.put, List.setIfInBounds_toArray, List.set_cons_succ, List.set_cons_zero]) | (refine seq_float (by rfl) (by rfl) (by rfl) ?_; intro K hK; go_big_quiet_op; go_big_quiet_on))
      refine seq_chain (by rfl) ?_
      intro K hK
      go_wp2_with fail
      (with_reducible refine (awake_any _).mono ?_); rintro e w9 ⟨rfl, hb9⟩
      have h9 := h8.trans (hb9.mono h8.size)
      go_wp2_with fail
      refine hK.out _ _ (since h9) ?_
      clear hK K
      repeat (first | (refine seq_skip (by rfl) (by rfl) ?_; simp only [Act.put, List.setIfInBounds_toArray, List.set_cons_succ, List.set_cons_zero]) | (refine seq_float (by rfl) (by rfl) (by rfl) ?_; intro K hK; go_big_quiet_op; go_big_quiet_on))
      refine seq_chain (by rfl) ?_
      intro K hK
      go_wp2_with fail
      refine hK.out _ _ (since h9) ?_
      clear hK K
      repeat (first | (refine seq_skip (by rfl) (by rfl) ?_; simp only [Act.put, List.setIfInBounds_toArray, List.set_cons_succ, List.set_cons_zero]) | (refine seq_float (by rfl) (by rfl) (by rfl) ?_; intro K hK; go_big_quiet_op; go_big_quiet_on))
      refine seq_nil ?_
      go_wp2_with fail
      go_ret
      exact ⟨rfl, hw5.trans (h9.mono hw5.size)⟩
end Go.Proofs.Ytnfekadnjblciaa
