/-
  The laws SprtCheck, SprtDecide and SprtRun return true and make new memory alone.
-/
import Derived.Test.YtmlkegopbdfiaaaSprAwake
namespace Go.Proofs.Ytmlkegopbdfiaaa
open Go.RowKit

set_option maxRecDepth 100000 in
set_option maxHeartbeats 4000000 in
theorem LawCheck_any (gn gd bn bd an ad en ed : Int) (w : World) :
    Calls Try.prog 3 #[.agg (tv gn gd bn bd an ad en ed)] w fun e w' => e = .returned (.bool true) ∧ Below w.heap.size w w' := by
  have hb0 : Below w.heap.size w (w.alloc (Obj.cells (tv gn gd bn bd an ad en ed) 25)) := ba _ _
  have hT0 := TC.new w gn gd bn bd an ad en ed 25
  generalize hE : trialE gn gd bn bd an ad en ed = E
  have HE := lid hE
  clear hE
  go_enter Try.func3, Try.ntmps3
  go_wp2_with fail
  obtain ⟨W0, hW0⟩ : ∃ W0, w.alloc (Obj.cells (tv gn gd bn bd an ad en ed) 25) = W0 := ⟨_, rfl⟩
  rw [hW0] at hT0 hb0 ⊢
  have hq : w.heap.size < W0.heap.size := by rw [← hW0]; simp
  clear hW0
  obtain ⟨t0, t1, t2, t3, t4, t5, t6, t7⟩ := hT0
  refine wp_region_seq (fun w' => ∃ s : Since W0.heap.size W0, w' = s.world) [(0, true), (2, true), (1, false), (3, false), (4, true), (5, true), (6, false), (7, true), (8, false)] (by kernel_rfl) (by kernel_rfl) (by intro c d v a w h; cases d <;> exact h) (since (Below.refl _ _).drew) ?_
  repeat (first | (refine seq_skip (by rfl) (by rfl) ?_; simp only [Act.put, List.setIfInBounds_toArray, List.set_cons_succ, List.set_cons_zero]) | (refine seq_float (by rfl) (by rfl) (by rfl) ?_; intro K hK; go_big_quiet_op; go_big_quiet_on))
  refine seq_chain (by rfl) ?_
  intro K hK
  go_wp2_with fail
  (with_reducible refine (Check_any gn gd bn bd an ad en ed _).mono ?_); rintro e w1 ⟨rfl, hb1⟩
  rw [HE.out]
  have hw1 : Below W0.heap.size W0 w1 := (Below.refl _ _).drew.trans hb1
  clear hb1
  go_wp2_with fail
  refine hK.out _ _ (since hw1) ?_
  clear hK K
  repeat (first | (refine seq_skip (by rfl) (by rfl) ?_; simp only [Act.put, List.setIfInBounds_toArray, List.set_cons_succ, List.set_cons_zero]) | (refine seq_float (by rfl) (by rfl) (by rfl) ?_; intro K hK; go_big_quiet_op; go_big_quiet_on))
  refine seq_chain (by rfl) ?_
  intro K hK
  go_wp2_with fail
  (with_reducible refine (refCheck_any gn gd bn bd an ad en ed _).mono ?_); rintro e w2 ⟨rfl, hb2⟩
  rw [HE.out]
  have hw2 := hw1.trans (hb2.mono hw1.size)
  clear hb2
  go_wp2_with fail
  refine hK.out _ _ (since hw2) ?_
  clear hK K
  repeat (first | (refine seq_skip (by rfl) (by rfl) ?_; simp only [Act.put, List.setIfInBounds_toArray, List.set_cons_succ, List.set_cons_zero]) | (refine seq_float (by rfl) (by rfl) (by rfl) ?_; intro K hK; go_big_quiet_op; go_big_quiet_on))
  refine seq_chain (by rfl) ?_
  intro K hK
  go_wp2_with fail
  (with_reducible refine (awake_any _).mono ?_); rintro e w3 ⟨rfl, hb3⟩
  have hw3 := hw2.trans (hb3.mono hw2.size)
  clear hb3
  go_wp2_with fail
  refine hK.out _ _ (since hw3) ?_
  clear hK K
  repeat (first | (refine seq_skip (by rfl) (by rfl) ?_; simp only [Act.put, List.setIfInBounds_toArray, List.set_cons_succ, List.set_cons_zero]) | (refine seq_float (by rfl) (by rfl) (by rfl) ?_; intro K hK; go_big_quiet_op; go_big_quiet_on))
  refine seq_chain (by rfl) ?_
  intro K hK
  go_wp2_with fail
  refine hK.out _ _ (since hw3) ?_
  clear hK K
  repeat (first | (refine seq_skip (by rfl) (by rfl) ?_; simp only [Act.put, List.setIfInBounds_toArray, List.set_cons_succ, List.set_cons_zero]) | (refine seq_float (by rfl) (by rfl) (by rfl) ?_; intro K hK; go_big_quiet_op; go_big_quiet_on))
  refine seq_nil ?_
  go_wp2_with fail
  go_ret
  exact ⟨rfl, hb0.trans (hw3.mono hb0.size)⟩

set_option maxRecDepth 100000 in
set_option maxHeartbeats 4000000 in
theorem LawDecide_any (gn gd bn bd an ad en ed : Int) (p f : Int) (w : World) :
    Calls Try.prog 4 #[.agg (tv gn gd bn bd an ad en ed), .int .i64 p, .int .i64 f] w fun e w' => e = .returned (.bool true) ∧ Below w.heap.size w w' := by
  have hb0 : Below w.heap.size w (w.alloc (Obj.cells (tv gn gd bn bd an ad en ed) 25)) := ba _ _
  have hT0 := TC.new w gn gd bn bd an ad en ed 25
  generalize hE : decE gn gd bn bd an ad en ed p f = E
  generalize hD : decD gn gd bn bd an ad en ed p f = D
  have HE := lid hE
  have HD := lid hD
  clear hE hD
  go_enter Try.func4, Try.ntmps4
  go_wp2_with fail
  (with_reducible refine (Decide_any gn gd bn bd an ad en ed p f _).mono ?_); rintro e w1 ⟨rfl, hb1⟩
  rw [HE.out, HD.out]
  have hw1 := hb0.trans (hb1.mono (by simp))
  obtain ⟨t0, t1, t2, t3, t4, t5, t6, t7⟩ := hT0.below hb1 (by simp)
  clear hb1 hT0
  go_wp2_with fail
  (with_reducible refine (refDecide2_any gn gd bn bd an ad en ed p f _).mono ?_); rintro e w2 ⟨rfl, hb2⟩
  rw [HE.out, HD.out]
  have hw2 := hw1.trans (hb2.mono hw1.size)
  clear hb2
  go_wp2_with fail
  (with_reducible refine (awake_any _).mono ?_); rintro e w3 ⟨rfl, hb3⟩
  go_wp2_with fail
  go_ret
  exact ⟨rfl, hw2.trans (hb3.mono hw2.size)⟩

set_option maxRecDepth 100000 in
set_option maxHeartbeats 4000000 in
theorem LawRun_any (gn gd bn bd an ad en ed : Int) (l : List Bool) (n cap : Nat) (ao : Option Addr) (w : World) (hn : l.length = n) (hmax : n ≤ maxLen) (hs : Sl w 1 ao n (cvals l)) :
    Calls Try.prog 5 #[.agg (tv gn gd bn bd an ad en ed), .slice ao n cap] w fun e w' => e = .returned (.bool true) ∧ Below w.heap.size w w' := by
  have hb0 : Below w.heap.size w (w.alloc (Obj.cells (tv gn gd bn bd an ad en ed) 25)) := ba _ _
  have hT0 := TC.new w gn gd bn bd an ad en ed 25
  generalize hE : runE gn gd bn bd an ad en ed n = E
  generalize hR : runR gn gd bn bd an ad en ed l = R
  obtain ⟨D, N⟩ := R
  have HE := lid hE
  have HR := lid hR
  have HS := lid hs
  have HN := lid hn
  have hmax' : n ≤ 9223372036854775807 := hmax
  clear hE hR hs hn hmax
  by_cases h50 : n ≤ 50
  · have h50a : (n : Int) ≤ 50 := by omega
    have h50b : decide ((50 : Int) < n) = false := by simp; omega
    have h100 : n ≤ 100000 := by omega
    go_enter Try.func5, Try.ntmps5
    go_wp2_with fail
    (with_reducible refine (Run_any gn gd bn bd an ad en ed l n cap ao _ HN.out h100 (HS.out.below hb0)).mono ?_); rintro e w1 ⟨rfl, hb1⟩
    rw [HE.out, HR.out]
    have hw1 := hb0.trans (hb1.mono (by simp))
    obtain ⟨t0, t1, t2, t3, t4, t5, t6, t7⟩ := hT0.below hb1 (by simp)
    clear hb1 hT0
    go_wp2_with fail
    (with_reducible refine (refRun_any gn gd bn bd an ad en ed l n cap ao _ HN.out h100 (HS.out.below hw1)).mono ?_); rintro e w2 ⟨rfl, hb2⟩
    rw [HE.out, HR.out]
    have hw2 := hw1.trans (hb2.mono hw1.size)
    clear hb2
    go_wp2_with fail
    (with_reducible refine (awake_any _).mono ?_); rintro e w3 ⟨rfl, hb3⟩
    go_wp2_with fail
    go_ret
    exact ⟨rfl, hw2.trans (hb3.mono hw2.size)⟩
  · have h50a : 50 < (n : Int) := by omega
    have h50b : decide ((50 : Int) < n) = true := by simp; omega
    go_enter Try.func5, Try.ntmps5
    go_wp2_with fail
    (with_reducible refine (awake_any _).mono ?_); rintro e w3 ⟨rfl, hb3⟩
    go_wp2_with fail
    go_ret
    exact ⟨rfl, hb0.trans (hb3.mono (by simp))⟩
end Go.Proofs.Ytmlkegopbdfiaaa
