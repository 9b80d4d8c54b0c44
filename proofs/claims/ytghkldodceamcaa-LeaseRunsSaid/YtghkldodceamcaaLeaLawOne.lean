/-
  LeaseGrant, LeaseChanges: the law walks.
-/
import Derived.Test.YtghkldodceamcaaLeaMc
namespace Go.Proofs.Ytghkldodceamcaa
open Go.RowKit

theorem same_self (t : Ls) (ao bo : Option Addr) (n cn k ck : Nat) (w : World) (h : LsA w ao n t) (h2 : LsA w bo k t) (hn : t.l.length ≤ 1000000) :
    Calls Try.prog 16 #[.agg (tcells t ao n cn), .agg (tcells t bo k ck)] w fun e w' => e = .returned (.bool true) ∧ Below w.heap.size w w' := by
  have := leaSame_any t t ao bo n cn k ck w h h2 (by have := h.len; omega) (by have := h2.len; omega)
  simpa using this
theorem grantL_len (t : Ls) (job : Dg) (wk : ByteArray) (m : Int) : (grantL t job wk m).l.length ≤ t.l.length + 1 := by
  unfold grantL withL ls0
  split <;> simp
theorem renewL_len (t : Ls) (x : Lz) (m : Int) : (renewL t x m).l.length ≤ t.l.length + 1 := by
  unfold renewL withL ls0
  split
  · simp; exact lessL_le _ _
  · simp
theorem releaseL_len (t : Ls) (x : Lz) : (releaseL t x).l.length ≤ t.l.length := by
  unfold releaseL ls0
  split
  · exact lessL_le _ _
  · simp
theorem advL_len (t : Ls) (c : Int) : (advL t c).l.length ≤ t.l.length := by
  unfold advL ls0
  split
  · exact List.length_filter_le _ _
  · simp
theorem advG_len (t : Ls) (c : Int) : (advG t c).length ≤ t.l.length := by
  unfold advG
  split
  · exact List.length_filter_le _ _
  · simp
theorem small12 {t : Ls} (h : smallLs t = true) : t.l.length ≤ 12 := by
  unfold smallLs at h
  rw [Bool.and_eq_true] at h
  simpa using h.1

set_option maxRecDepth 100000 in
set_option maxHeartbeats 16000000 in
theorem LawGrant_any (t : Ls) (ao : Option Addr) (n cap : Nat) (job : Dg) (wk : ByteArray) (m : Int) (w : World) (h : LsA w ao n t) (hcap : n ≤ cap) (hz : ao = none → cap = 0) :
    Calls Try.prog 3 #[.agg (tcells t ao n cap), dv job, .string wk, .int .i64 m] w fun e w' => e = .returned (.bool true) ∧ Below w.heap.size w w' := by
  have hb : Below w.heap.size w w := Below.refl _ _
  have HA := lid (show LsB w 0 ao n cap t from ⟨h, hcap, hz, fun _ _ => Nat.zero_le _⟩)
  clear h hcap hz
  go_enter Try.func3, Try.ntmps3
  go_wp2_with fail
  have bw : w.heap.size ≤ w.heap.size := hb.size
  obtain ⟨W0, hW⟩ : ∃ y, (w.alloc (.cells (tcells t ao n cap) 24)).alloc (.cells #[.int .u64 job.1.toNat, .int .u64 job.2.toNat] 27) = y := ⟨_, rfl⟩
  rw [hW]
  have hbW : Below w.heap.size w W0 := by rw [← hW]; exact (((Below.refl w.heap.size w).alloc (Nat.le_refl _) _).alloc (by simp only [World.size_alloc]; omega) _)
  have gW0 : w.heap.size + 1 < W0.heap.size := by rw [← hW]; simp only [World.size_alloc]; omega
  have BT : Hid (W0.heap[w.heap.size]? = some (.cells (tcells t ao n cap) 24 (0, 0))) := lid (by
    rw [← hW]
    iterate 1 rw [Below.heap_alloc _ _ _ (by simp only [World.size_alloc]; omega)]
    have := heap_alloc_new w (.cells (tcells t ao n cap) 24)
    exact this)
  have BJ : Hid (W0.heap[w.heap.size + 1]? = some (.cells #[.int .u64 job.1.toNat, .int .u64 job.2.toNat] 27 (0, 0))) := lid (by
    rw [← hW]
    have := heap_alloc_new (w.alloc (.cells (tcells t ao n cap) 24)) (.cells #[.int .u64 job.1.toNat, .int .u64 job.2.toNat] 27)
    simp only [World.size_alloc] at this
    exact this)
  clear hW
  replace HA := lid (HA.out.below hbW)
  replace hb := hb.trans (hbW.mono hb.size)
  have mW0 := hbW.size
  clear hbW
  (with_reducible refine (leaGreat_any t ao n cap W0 HA.out.A).mono ?_); rintro e w1 ⟨rfl, hb1⟩
  replace HA := lid (HA.out.below hb1)
  replace BT := lid ((hb1.block _ (row_lt BT.out)).trans BT.out)
  replace BJ := lid ((hb1.block _ (row_lt BJ.out)).trans BJ.out)
  replace hb := hb.trans (hb1.mono hb.size)
  have mw1 := hb1.size
  clear hb1
  cases hS : smallLs t with
  | false =>
    clear hS
    simp only [Bool.not_false]
    go_wp2_with fail
    (with_reducible refine (awake_any _).mono ?_); rintro e wa ⟨rfl, hb1⟩
    have hfin := hb.trans (hb1.mono hb.size)
    go_wp2_with fail
    go_ret
    exact ⟨rfl, hfin⟩
  | true =>
  have HSM := lid hS
  clear hS
  simp only [Bool.not_true]
  by_cases hwk : 100 < wk.size
  case pos =>
    have d1 : decide ((100 : Int) < (wk.size : Int)) = true := by simp; omega
    go_wp2_with fail
    (with_reducible refine (awake_any _).mono ?_); rintro e wa ⟨rfl, hb1⟩
    have hfin := hb.trans (hb1.mono hb.size)
    go_wp2_with fail
    go_ret
    exact ⟨rfl, hfin⟩
  have d1 : decide ((100 : Int) < (wk.size : Int)) = false := by simp; omega
  have hwl : wk.size ≤ maxLen := by simp only [maxLen]; omega
  have hw7 : wk.size ≤ 9223372036854775807 := hwl
  have q1 := row_cell BT.out 0
  have q2 := row_cell BT.out 1
  have q3 := row_cell BT.out 2
  have q4 := row_cell BJ.out 0
  have q5 := row_cell BJ.out 1
  have q6 := row_lt BT.out
  have q7 := row_lt BJ.out
  go_wp2_with fail
  clear q1 q2 q3 q4 q5 q6 q7
  clear d1
  obtain ⟨T, hT⟩ : ∃ T, grantL t job wk m = T := ⟨_, rfl⟩
  obtain ⟨X, hX⟩ : ∃ X, grantX t job wk m = X := ⟨_, rfl⟩
  obtain ⟨E, hE⟩ : ∃ E, grantE t job wk m = E := ⟨_, rfl⟩
  have CG1 := lid (fun w h hc hz => grant_any t ao n cap job wk m w h hc hz hwl)
  have CG2 := lid (fun w h hz => refGrant_any t ao n cap job wk m w h hz hwl)
  rw [hT, hX, hE] at CG1 CG2
  have HTL : Hid (T.l.length ≤ 1000000) := lid (by have h1 := grantL_len t job wk m; have h2 := small12 HSM.out; rw [hT] at h1; omega)
  clear hT hX hE
  (with_reducible refine (CG1.out w1 HA.out.A HA.out.le HA.out.z).mono ?_); rintro e w2 ⟨_, rfl, ⟨ao1, n1, cap1, rfl, hA⟩, hb1⟩
  replace HA := lid (HA.out.below hb1)
  replace BT := lid ((hb1.block _ (row_lt BT.out)).trans BT.out)
  replace BJ := lid ((hb1.block _ (row_lt BJ.out)).trans BJ.out)
  replace hb := hb.trans (hb1.mono hb.size)
  have mw2 := hb1.size
  clear hb1
  have HA1 := lid hA
  clear hA
  have q8 := row_cell BT.out 0
  have q9 := row_cell BT.out 1
  have q10 := row_cell BT.out 2
  have q11 := row_cell BJ.out 0
  have q12 := row_cell BJ.out 1
  have q13 := row_lt BT.out
  have q14 := row_lt BJ.out
  go_wp2_with fail
  clear q8 q9 q10 q11 q12 q13 q14
  have lBTw2 := row_lt BT.out
  have lBJw2 := row_lt BJ.out
  have bw2 : w.heap.size ≤ w2.heap.size := hb.size
  obtain ⟨W2, hW⟩ : ∃ y, (w2.alloc (.cells (tcells T ao1 n1 cap1) 24)).alloc (.cells (lzc X) 31) = y := ⟨_, rfl⟩
  rw [hW]
  have hbW : Below w2.heap.size w2 W2 := by rw [← hW]; exact (((Below.refl w2.heap.size w2).alloc (Nat.le_refl _) _).alloc (by simp only [World.size_alloc]; omega) _)
  have gW2 : w2.heap.size + 1 < W2.heap.size := by rw [← hW]; simp only [World.size_alloc]; omega
  have BT1 : Hid (W2.heap[w2.heap.size]? = some (.cells (tcells T ao1 n1 cap1) 24 (0, 0))) := lid (by
    rw [← hW]
    iterate 1 rw [Below.heap_alloc _ _ _ (by simp only [World.size_alloc]; omega)]
    have := heap_alloc_new w2 (.cells (tcells T ao1 n1 cap1) 24)
    exact this)
  have BX1 : Hid (W2.heap[w2.heap.size + 1]? = some (.cells (lzc X) 31 (0, 0))) := lid (by
    rw [← hW]
    have := heap_alloc_new (w2.alloc (.cells (tcells T ao1 n1 cap1) 24)) (.cells (lzc X) 31)
    simp only [World.size_alloc] at this
    exact this)
  clear hW
  replace HA := lid (HA.out.below hbW)
  replace BT := lid ((hbW.block _ (row_lt BT.out)).trans BT.out)
  replace BJ := lid ((hbW.block _ (row_lt BJ.out)).trans BJ.out)
  replace HA1 := lid (HA1.out.below hbW)
  replace hb := hb.trans (hbW.mono hb.size)
  have mW2 := hbW.size
  clear hbW
  (with_reducible refine (CG2.out W2 HA.out.A HA.out.z).mono ?_); rintro e w3 ⟨_, rfl, ⟨ao2, n2, cap2, rfl, hA⟩, hb1⟩
  replace HA := lid (HA.out.below hb1)
  replace BT := lid ((hb1.block _ (row_lt BT.out)).trans BT.out)
  replace BJ := lid ((hb1.block _ (row_lt BJ.out)).trans BJ.out)
  replace HA1 := lid (HA1.out.below hb1)
  replace BT1 := lid ((hb1.block _ (row_lt BT1.out)).trans BT1.out)
  replace BX1 := lid ((hb1.block _ (row_lt BX1.out)).trans BX1.out)
  replace hb := hb.trans (hb1.mono hb.size)
  have mw3 := hb1.size
  clear hb1
  have HA2 := lid hA
  clear hA
  go_wp2_with fail
  have lBTw3 := row_lt BT.out
  have lBJw3 := row_lt BJ.out
  have lBT1w3 := row_lt BT1.out
  have lBX1w3 := row_lt BX1.out
  have bw3 : w.heap.size ≤ w3.heap.size := hb.size
  obtain ⟨W3, hW⟩ : ∃ y, (w3.alloc (.cells (tcells T ao2 n2 cap2) 24)).alloc (.cells (lzc X) 31) = y := ⟨_, rfl⟩
  rw [hW]
  have hbW : Below w3.heap.size w3 W3 := by rw [← hW]; exact (((Below.refl w3.heap.size w3).alloc (Nat.le_refl _) _).alloc (by simp only [World.size_alloc]; omega) _)
  have gW3 : w3.heap.size + 1 < W3.heap.size := by rw [← hW]; simp only [World.size_alloc]; omega
  have BT2 : Hid (W3.heap[w3.heap.size]? = some (.cells (tcells T ao2 n2 cap2) 24 (0, 0))) := lid (by
    rw [← hW]
    iterate 1 rw [Below.heap_alloc _ _ _ (by simp only [World.size_alloc]; omega)]
    have := heap_alloc_new w3 (.cells (tcells T ao2 n2 cap2) 24)
    exact this)
  have BX2 : Hid (W3.heap[w3.heap.size + 1]? = some (.cells (lzc X) 31 (0, 0))) := lid (by
    rw [← hW]
    have := heap_alloc_new (w3.alloc (.cells (tcells T ao2 n2 cap2) 24)) (.cells (lzc X) 31)
    simp only [World.size_alloc] at this
    exact this)
  clear hW
  replace HA := lid (HA.out.below hbW)
  replace BT := lid ((hbW.block _ (row_lt BT.out)).trans BT.out)
  replace BJ := lid ((hbW.block _ (row_lt BJ.out)).trans BJ.out)
  replace HA1 := lid (HA1.out.below hbW)
  replace BT1 := lid ((hbW.block _ (row_lt BT1.out)).trans BT1.out)
  replace BX1 := lid ((hbW.block _ (row_lt BX1.out)).trans BX1.out)
  replace HA2 := lid (HA2.out.below hbW)
  replace hb := hb.trans (hbW.mono hb.size)
  have mW3 := hbW.size
  clear hbW
  have q15 := row_cell BT.out 0
  have q16 := row_cell BT.out 1
  have q17 := row_cell BT.out 2
  have q18 := row_cell BT1.out 0
  have q19 := row_cell BT1.out 1
  have q20 := row_cell BT1.out 2
  have q21 := row_cell BX1.out 0
  have q22 := row_cell BX1.out 1
  have q23 := row_cell BX1.out 2
  have q24 := row_cell BX1.out 3
  have q25 := row_cell BX1.out 4
  have q26 := row_cell BT2.out 0
  have q27 := row_cell BT2.out 1
  have q28 := row_cell BT2.out 2
  have q29 := row_cell BX2.out 0
  have q30 := row_cell BX2.out 1
  have q31 := row_cell BX2.out 2
  have q32 := row_cell BX2.out 3
  have q33 := row_cell BX2.out 4
  have q34 := row_lt BT.out
  have q35 := row_lt BT1.out
  have q36 := row_lt BX1.out
  have q37 := row_lt BT2.out
  have q38 := row_lt BX2.out
  refine wp_region_seq (fun w' => ∃ s : Since W3.heap.size W3, w' = s.world) [(0, true), (2, true), (1, false), (3, false), (4, true), (5, true), (6, true), (7, true), (8, false), (9, true), (10, true), (11, true), (12, true), (13, true), (14, true), (15, true), (16, true), (17, true), (18, true), (19, true), (20, true), (21, false), (22, true), (23, false)] (by kernel_rfl) (by kernel_rfl) (by intro c d v a w h; cases d <;> exact h) (since (Below.refl _ _).drew) ?_
  repeat (first | (refine seq_skip (by rfl) (by rfl) ?_; simp only [Act.put, List.setIfInBounds_toArray, List.set_cons_succ, List.set_cons_zero]) | (refine seq_float (by rfl) (by rfl) (by rfl) ?_; intro K hK; go_big_quiet_op; go_big_quiet_on))
  refine seq_chain (by rfl) ?_
  intro K hK
  go_wp2_with fail
  (with_reducible refine (leaCheck_any t ao n cap _ (HA.out.A.below (Below.refl _ _).drew) HA.out.le).mono ?_); rintro e w4 ⟨rfl, hb4⟩
  have hs4 : Below W3.heap.size W3 w4 := (Below.refl _ _).drew.trans hb4
  go_wp2_with fail
  refine hK.out _ _ (since hs4) ?_
  clear hK K
  repeat (first | (refine seq_skip (by rfl) (by rfl) ?_; simp only [Act.put, List.setIfInBounds_toArray, List.set_cons_succ, List.set_cons_zero]) | (refine seq_float (by rfl) (by rfl) (by rfl) ?_; intro K hK; go_big_quiet_op; go_big_quiet_on))
  refine seq_chain (by rfl) ?_
  intro K hK
  go_wp2_with fail
  (with_reducible refine (refLeaCheck_any t ao n cap _ (HA.out.A.below hs4)).mono ?_); rintro e w5 ⟨rfl, hb5⟩
  have hs5 := hs4.trans (hb5.mono hs4.size)
  go_wp2_with fail
  refine hK.out _ _ (since hs5) ?_
  clear hK K
  repeat (first | (refine seq_skip (by rfl) (by rfl) ?_; simp only [Act.put, List.setIfInBounds_toArray, List.set_cons_succ, List.set_cons_zero]) | (refine seq_float (by rfl) (by rfl) (by rfl) ?_; intro K hK; go_big_quiet_op; go_big_quiet_on))
  refine seq_chain (by rfl) ?_
  intro K hK
  go_wp2_with fail
  (with_reducible refine (same_self T ao1 ao2 n1 cap1 n2 cap2 _ (HA1.out.A.below hs5) (HA2.out.A.below hs5) HTL.out).mono ?_); rintro e w6 ⟨rfl, hb6⟩
  have hs6 := hs5.trans (hb6.mono hs5.size)
  go_wp2_with fail
  refine hK.out _ _ (since hs6) ?_
  clear hK K
  iterate 4 (first | (refine seq_skip (by rfl) (by rfl) ?_; simp only [Act.put, List.setIfInBounds_toArray, List.set_cons_succ, List.set_cons_zero]) | (refine seq_float (by rfl) (by rfl) (by rfl) ?_; intro K hK; go_big_quiet_op; go_big_quiet_on))
  refine seq_float (by rfl) (by rfl) (by rfl) ?_; intro K hK
  refine quiet_eq_lz X X true _ _ rfl rfl rfl (decide_eq_true rfl) ?_
  simp only [Act.put, List.setIfInBounds_toArray, List.set_cons_succ, List.set_cons_zero]
  go_big_quiet_on
  repeat (first | (refine seq_skip (by rfl) (by rfl) ?_; simp only [Act.put, List.setIfInBounds_toArray, List.set_cons_succ, List.set_cons_zero]) | (refine seq_float (by rfl) (by rfl) (by rfl) ?_; intro K hK; go_big_quiet_op; go_big_quiet_on))
  refine seq_chain (by rfl) ?_
  intro K hK
  go_wp2_with fail
  (with_reducible refine (awake_any _).mono ?_); rintro e w7 ⟨rfl, hb7⟩
  have hs7 := hs6.trans (hb7.mono hs6.size)
  go_wp2_with fail
  refine hK.out _ _ (since hs7) ?_
  clear hK K
  repeat (first | (refine seq_skip (by rfl) (by rfl) ?_; simp only [Act.put, List.setIfInBounds_toArray, List.set_cons_succ, List.set_cons_zero]) | (refine seq_float (by rfl) (by rfl) (by rfl) ?_; intro K hK; go_big_quiet_op; go_big_quiet_on))
  refine seq_chain (by rfl) ?_
  intro K hK
  go_wp2_with fail
  refine hK.out _ _ (since hs7) ?_
  clear hK K
  repeat (first | (refine seq_skip (by rfl) (by rfl) ?_; simp only [Act.put, List.setIfInBounds_toArray, List.set_cons_succ, List.set_cons_zero]) | (refine seq_float (by rfl) (by rfl) (by rfl) ?_; intro K hK; go_big_quiet_op; go_big_quiet_on))
  refine seq_nil ?_
  go_wp2_with fail
  go_ret
  exact ⟨rfl, hb.trans (hs7.mono hb.size)⟩
set_option maxRecDepth 100000 in
set_option maxHeartbeats 16000000 in
theorem LawChanges_any (t : Ls) (ao : Option Addr) (n cap : Nat) (x : Lz) (m k : Int) (w : World) (h : LsA w ao n t) (hcap : n ≤ cap) (hz : ao = none → cap = 0) :
    Calls Try.prog 6 #[.agg (tcells t ao n cap), .agg (lzc x), .int .i64 m, .int .i64 k] w fun e w' => e = .returned (.bool true) ∧ Below w.heap.size w w' := by
  have hb : Below w.heap.size w w := Below.refl _ _
  have HA := lid (show LsB w 0 ao n cap t from ⟨h, hcap, hz, fun _ _ => Nat.zero_le _⟩)
  clear h hcap hz
  go_enter Try.func6, Try.ntmps6
  go_wp2_with fail
  have bw : w.heap.size ≤ w.heap.size := hb.size
  obtain ⟨W0, hW⟩ : ∃ y, (w.alloc (.cells (tcells t ao n cap) 24)).alloc (.cells (lzc x) 31) = y := ⟨_, rfl⟩
  rw [hW]
  have hbW : Below w.heap.size w W0 := by rw [← hW]; exact (((Below.refl w.heap.size w).alloc (Nat.le_refl _) _).alloc (by simp only [World.size_alloc]; omega) _)
  have gW0 : w.heap.size + 1 < W0.heap.size := by rw [← hW]; simp only [World.size_alloc]; omega
  have BT : Hid (W0.heap[w.heap.size]? = some (.cells (tcells t ao n cap) 24 (0, 0))) := lid (by
    rw [← hW]
    iterate 1 rw [Below.heap_alloc _ _ _ (by simp only [World.size_alloc]; omega)]
    have := heap_alloc_new w (.cells (tcells t ao n cap) 24)
    exact this)
  have BX : Hid (W0.heap[w.heap.size + 1]? = some (.cells (lzc x) 31 (0, 0))) := lid (by
    rw [← hW]
    have := heap_alloc_new (w.alloc (.cells (tcells t ao n cap) 24)) (.cells (lzc x) 31)
    simp only [World.size_alloc] at this
    exact this)
  clear hW
  replace HA := lid (HA.out.below hbW)
  replace hb := hb.trans (hbW.mono hb.size)
  have mW0 := hbW.size
  clear hbW
  (with_reducible refine (leaGreat_any t ao n cap W0 HA.out.A).mono ?_); rintro e w1 ⟨rfl, hb1⟩
  replace HA := lid (HA.out.below hb1)
  replace BT := lid ((hb1.block _ (row_lt BT.out)).trans BT.out)
  replace BX := lid ((hb1.block _ (row_lt BX.out)).trans BX.out)
  replace hb := hb.trans (hb1.mono hb.size)
  have mw1 := hb1.size
  clear hb1
  cases hS : smallLs t with
  | false =>
    clear hS
    simp only [Bool.not_false]
    have q1 := row_cell BX.out 0
    have q2 := row_cell BX.out 1
    have q3 := row_cell BX.out 2
    have q4 := row_cell BX.out 3
    have q5 := row_cell BX.out 4
    have q6 := row_lt BX.out
    go_wp2_with fail
    clear q1 q2 q3 q4 q5 q6
    (with_reducible refine (awake_any _).mono ?_); rintro e wa ⟨rfl, hb1⟩
    have hfin := hb.trans (hb1.mono hb.size)
    go_wp2_with fail
    go_ret
    exact ⟨rfl, hfin⟩
  | true =>
  have HSM := lid hS
  clear hS
  simp only [Bool.not_true]
  by_cases hwk : 100 < x.2.1.size
  case pos =>
    have d1 : decide ((100 : Int) < (x.2.1.size : Int)) = true := by simp; omega
    have q1 := row_cell BX.out 0
    have q2 := row_cell BX.out 1
    have q3 := row_cell BX.out 2
    have q4 := row_cell BX.out 3
    have q5 := row_cell BX.out 4
    have q6 := row_lt BX.out
    go_wp2_with fail
    clear q1 q2 q3 q4 q5 q6
    (with_reducible refine (awake_any _).mono ?_); rintro e wa ⟨rfl, hb1⟩
    have hfin := hb.trans (hb1.mono hb.size)
    go_wp2_with fail
    go_ret
    exact ⟨rfl, hfin⟩
  have d1 : decide ((100 : Int) < (x.2.1.size : Int)) = false := by simp; omega
  have hwl : x.2.1.size ≤ maxLen := by simp only [maxLen]; omega
  have hw7 : x.2.1.size ≤ 9223372036854775807 := hwl
  have q1 := row_cell BT.out 0
  have q2 := row_cell BT.out 1
  have q3 := row_cell BT.out 2
  have q4 := row_cell BX.out 0
  have q5 := row_cell BX.out 1
  have q6 := row_cell BX.out 2
  have q7 := row_cell BX.out 3
  have q8 := row_cell BX.out 4
  have q9 := row_lt BT.out
  have q10 := row_lt BX.out
  go_wp2_with fail
  clear q1 q2 q3 q4 q5 q6 q7 q8 q9 q10
  clear d1
  obtain ⟨T, hT⟩ : ∃ T, renewL t x m = T := ⟨_, rfl⟩
  obtain ⟨X, hX⟩ : ∃ X, renewX t x m = X := ⟨_, rfl⟩
  obtain ⟨E, hE⟩ : ∃ E, renewE t x m = E := ⟨_, rfl⟩
  have CG1 := lid (fun w h hc hz => renew_any t ao n cap x m w h hc hz hwl)
  have CG2 := lid (fun w h hz => refRenew_any t ao n cap x m w h hz hwl)
  rw [hT, hX, hE] at CG1 CG2
  have h12 := lid (small12 HSM.out)
  have HTL : Hid (T.l.length ≤ 1000000) := lid (by have h1 := renewL_len t x m; have h2 := h12.out; rw [hT] at h1; omega)
  clear hT hX hE
  (with_reducible refine (CG1.out w1 HA.out.A HA.out.le HA.out.z).mono ?_); rintro e w2 ⟨_, rfl, ⟨ao1, n1, cap1, rfl, hA⟩, hb1⟩
  replace HA := lid (HA.out.below hb1)
  replace BT := lid ((hb1.block _ (row_lt BT.out)).trans BT.out)
  replace BX := lid ((hb1.block _ (row_lt BX.out)).trans BX.out)
  replace hb := hb.trans (hb1.mono hb.size)
  have mw2 := hb1.size
  clear hb1
  have HA1 := lid hA
  clear hA
  have q11 := row_cell BT.out 0
  have q12 := row_cell BT.out 1
  have q13 := row_cell BT.out 2
  have q14 := row_cell BX.out 0
  have q15 := row_cell BX.out 1
  have q16 := row_cell BX.out 2
  have q17 := row_cell BX.out 3
  have q18 := row_cell BX.out 4
  have q19 := row_lt BT.out
  have q20 := row_lt BX.out
  go_wp2_with fail
  clear q11 q12 q13 q14 q15 q16 q17 q18 q19 q20
  have new2HA := lid HA.out.hi
  have new2HA1 := lid HA1.out.hi
  have lBTw2 := row_lt BT.out
  have lBXw2 := row_lt BX.out
  have bw2 : w.heap.size ≤ w2.heap.size := hb.size
  obtain ⟨W2, hW⟩ : ∃ y, (w2.alloc (.cells (tcells T ao1 n1 cap1) 24)).alloc (.cells (lzc X) 31) = y := ⟨_, rfl⟩
  rw [hW]
  have hbW : Below w2.heap.size w2 W2 := by rw [← hW]; exact (((Below.refl w2.heap.size w2).alloc (Nat.le_refl _) _).alloc (by simp only [World.size_alloc]; omega) _)
  have gW2 : w2.heap.size + 1 < W2.heap.size := by rw [← hW]; simp only [World.size_alloc]; omega
  have BT1 : Hid (W2.heap[w2.heap.size]? = some (.cells (tcells T ao1 n1 cap1) 24 (0, 0))) := lid (by
    rw [← hW]
    iterate 1 rw [Below.heap_alloc _ _ _ (by simp only [World.size_alloc]; omega)]
    have := heap_alloc_new w2 (.cells (tcells T ao1 n1 cap1) 24)
    exact this)
  have BX1 : Hid (W2.heap[w2.heap.size + 1]? = some (.cells (lzc X) 31 (0, 0))) := lid (by
    rw [← hW]
    have := heap_alloc_new (w2.alloc (.cells (tcells T ao1 n1 cap1) 24)) (.cells (lzc X) 31)
    simp only [World.size_alloc] at this
    exact this)
  clear hW
  replace HA := lid (HA.out.below hbW)
  replace BT := lid ((hbW.block _ (row_lt BT.out)).trans BT.out)
  replace BX := lid ((hbW.block _ (row_lt BX.out)).trans BX.out)
  replace HA1 := lid (HA1.out.below hbW)
  replace hb := hb.trans (hbW.mono hb.size)
  have mW2 := hbW.size
  clear hbW
  (with_reducible refine (CG2.out W2 HA.out.A HA.out.z).mono ?_); rintro e w3 ⟨_, rfl, ⟨ao2, n2, cap2, rfl, hA⟩, hb1⟩
  replace HA := lid (HA.out.below hb1)
  replace BT := lid ((hb1.block _ (row_lt BT.out)).trans BT.out)
  replace BX := lid ((hb1.block _ (row_lt BX.out)).trans BX.out)
  replace HA1 := lid (HA1.out.below hb1)
  replace BT1 := lid ((hb1.block _ (row_lt BT1.out)).trans BT1.out)
  replace BX1 := lid ((hb1.block _ (row_lt BX1.out)).trans BX1.out)
  replace hb := hb.trans (hb1.mono hb.size)
  have mw3 := hb1.size
  clear hb1
  have HA2 := lid hA
  clear hA
  have q21 := row_cell BT1.out 0
  have q22 := row_cell BT1.out 1
  have q23 := row_cell BT1.out 2
  have q24 := row_lt BT1.out
  go_wp2_with fail
  clear q21 q22 q23 q24
  have new3HA := lid HA.out.hi
  have new3HA1 := lid HA1.out.hi
  have new3HA2 := lid HA2.out.hi
  have lBTw3 := row_lt BT.out
  have lBXw3 := row_lt BX.out
  have lBT1w3 := row_lt BT1.out
  have lBX1w3 := row_lt BX1.out
  have bw3 : w.heap.size ≤ w3.heap.size := hb.size
  obtain ⟨W3, hW⟩ : ∃ y, (w3.alloc (.cells (tcells T ao2 n2 cap2) 24)).alloc (.cells (lzc X) 31) = y := ⟨_, rfl⟩
  rw [hW]
  have hbW : Below w3.heap.size w3 W3 := by rw [← hW]; exact (((Below.refl w3.heap.size w3).alloc (Nat.le_refl _) _).alloc (by simp only [World.size_alloc]; omega) _)
  have gW3 : w3.heap.size + 1 < W3.heap.size := by rw [← hW]; simp only [World.size_alloc]; omega
  have BT2 : Hid (W3.heap[w3.heap.size]? = some (.cells (tcells T ao2 n2 cap2) 24 (0, 0))) := lid (by
    rw [← hW]
    iterate 1 rw [Below.heap_alloc _ _ _ (by simp only [World.size_alloc]; omega)]
    have := heap_alloc_new w3 (.cells (tcells T ao2 n2 cap2) 24)
    exact this)
  have BX2 : Hid (W3.heap[w3.heap.size + 1]? = some (.cells (lzc X) 31 (0, 0))) := lid (by
    rw [← hW]
    have := heap_alloc_new (w3.alloc (.cells (tcells T ao2 n2 cap2) 24)) (.cells (lzc X) 31)
    simp only [World.size_alloc] at this
    exact this)
  clear hW
  replace HA := lid (HA.out.below hbW)
  replace BT := lid ((hbW.block _ (row_lt BT.out)).trans BT.out)
  replace BX := lid ((hbW.block _ (row_lt BX.out)).trans BX.out)
  replace HA1 := lid (HA1.out.below hbW)
  replace BT1 := lid ((hbW.block _ (row_lt BT1.out)).trans BT1.out)
  replace BX1 := lid ((hbW.block _ (row_lt BX1.out)).trans BX1.out)
  replace HA2 := lid (HA2.out.below hbW)
  replace hb := hb.trans (hbW.mono hb.size)
  have mW3 := hbW.size
  clear hbW
  clear CG1 CG2
  (with_reducible refine (same_self T ao1 ao2 n1 cap1 n2 cap2 W3 HA1.out.A HA2.out.A HTL.out).mono ?_); rintro e w4 ⟨rfl, hb1⟩
  replace HA := lid (HA.out.below hb1)
  replace BT := lid ((hb1.block _ (row_lt BT.out)).trans BT.out)
  replace BX := lid ((hb1.block _ (row_lt BX.out)).trans BX.out)
  replace HA1 := lid (HA1.out.below hb1)
  replace BT1 := lid ((hb1.block _ (row_lt BT1.out)).trans BT1.out)
  replace BX1 := lid ((hb1.block _ (row_lt BX1.out)).trans BX1.out)
  replace HA2 := lid (HA2.out.below hb1)
  replace BT2 := lid ((hb1.block _ (row_lt BT2.out)).trans BT2.out)
  replace BX2 := lid ((hb1.block _ (row_lt BX2.out)).trans BX2.out)
  replace hb := hb.trans (hb1.mono hb.size)
  have mw4 := hb1.size
  clear hb1
  have q25 := row_cell BX1.out 0
  have q26 := row_cell BX1.out 1
  have q27 := row_cell BX1.out 2
  have q28 := row_cell BX1.out 3
  have q29 := row_cell BX1.out 4
  have q30 := row_cell BX2.out 0
  have q31 := row_cell BX2.out 1
  have q32 := row_cell BX2.out 2
  have q33 := row_cell BX2.out 3
  have q34 := row_cell BX2.out 4
  have q35 := row_cell BT.out 0
  have q36 := row_cell BT.out 1
  have q37 := row_cell BT.out 2
  have q38 := row_cell BX.out 0
  have q39 := row_cell BX.out 1
  have q40 := row_cell BX.out 2
  have q41 := row_cell BX.out 3
  have q42 := row_cell BX.out 4
  have q43 := row_lt BX1.out
  have q44 := row_lt BX2.out
  have q45 := row_lt BT.out
  have q46 := row_lt BX.out
  go_wp2_with fail
  clear q25 q26 q27 q28 q29 q30 q31 q32 q33 q34 q35 q36 q37 q38 q39 q40 q41 q42 q43 q44 q45 q46
  obtain ⟨U, hU⟩ : ∃ T, releaseL t x = T := ⟨_, rfl⟩
  obtain ⟨F, hF⟩ : ∃ E, releaseE t x = E := ⟨_, rfl⟩
  have CR1 := lid (fun w h hc hz => release_any t ao n cap x w h hc hz)
  have CR2 := lid (fun w h hz => refRelease_any t ao n cap x w h hz)
  rw [hU, hF] at CR1 CR2
  have HUL : Hid (U.l.length ≤ 1000000) := lid (by have h1 := releaseL_len t x; have h2 := h12.out; rw [hU] at h1; omega)
  clear hU hF
  (with_reducible refine (CR1.out w4 HA.out.A HA.out.le HA.out.z).mono ?_); rintro e w5 ⟨_, rfl, ⟨ao3, n3, cap3, rfl, hA⟩, hb1⟩
  replace HA := lid (HA.out.below hb1)
  replace BT := lid ((hb1.block _ (row_lt BT.out)).trans BT.out)
  replace BX := lid ((hb1.block _ (row_lt BX.out)).trans BX.out)
  replace HA1 := lid (HA1.out.below hb1)
  replace BT1 := lid ((hb1.block _ (row_lt BT1.out)).trans BT1.out)
  replace BX1 := lid ((hb1.block _ (row_lt BX1.out)).trans BX1.out)
  replace HA2 := lid (HA2.out.below hb1)
  replace BT2 := lid ((hb1.block _ (row_lt BT2.out)).trans BT2.out)
  replace BX2 := lid ((hb1.block _ (row_lt BX2.out)).trans BX2.out)
  replace hb := hb.trans (hb1.mono hb.size)
  have mw5 := hb1.size
  clear hb1
  have HA3 := lid hA
  clear hA
  have q47 := row_cell BT.out 0
  have q48 := row_cell BT.out 1
  have q49 := row_cell BT.out 2
  have q50 := row_cell BX.out 0
  have q51 := row_cell BX.out 1
  have q52 := row_cell BX.out 2
  have q53 := row_cell BX.out 3
  have q54 := row_cell BX.out 4
  have q55 := row_lt BT.out
  have q56 := row_lt BX.out
  have q57 := row_cell BT1.out 0
  have q58 := row_cell BT1.out 1
  have q59 := row_cell BT1.out 2
  have q60 := row_fz BT1.out 0
  have q61 := row_fz BT1.out 1
  have q62 := row_fz BT1.out 2
  have q63 := row_lt BT1.out
  go_wp2_with fail
  clear q47 q48 q49 q50 q51 q52 q53 q54 q55 q56 q57 q58 q59 q60 q61 q62 q63
  have lBT1w5 := row_lt BT1.out
  obtain ⟨W5, hW⟩ : ∃ y, ((w5.setCell ⟨w2.heap.size, 0, none⟩ (.int .i64 U.clock)).setCell ⟨w2.heap.size, 1, none⟩ (.int .i64 U.epoch)).setCell ⟨w2.heap.size, 2, none⟩ (.slice ao3 n3 cap3) = y := ⟨_, rfl⟩
  rw [hW]
  have zW5 : Hid (W5.heap.size = w5.heap.size) := lid (by rw [← hW]; simp only [World.size_setCell])
  have gW5 : w5.heap.size ≤ W5.heap.size := by rw [zW5.out]; exact Nat.le_refl _
  replace HA := lid ((((HA.out.setHi (X := w2.heap.size) (o := 0) (u := (.int .i64 U.clock)) new2HA.out (by omega)).setHi (X := w2.heap.size) (o := 1) (u := (.int .i64 U.epoch)) new2HA.out (by omega)).setHi (X := w2.heap.size) (o := 2) (u := (.slice ao3 n3 cap3)) new2HA.out (by omega)))
  rw [hW] at HA
  replace BT : Hid (W5.heap[w.heap.size]? = some (.cells (tcells t ao n cap) 24 (0, 0))) := lid (by rw [← hW]; exact row_other (row_other (row_other BT.out (by omega)) (by omega)) (by omega))
  replace BX : Hid (W5.heap[w.heap.size + 1]? = some (.cells (lzc x) 31 (0, 0))) := lid (by rw [← hW]; exact row_other (row_other (row_other BX.out (by omega)) (by omega)) (by omega))
  replace HA1 := lid ((((HA1.out.setHi (X := w2.heap.size) (o := 0) (u := (.int .i64 U.clock)) new2HA1.out (by omega)).setHi (X := w2.heap.size) (o := 1) (u := (.int .i64 U.epoch)) new2HA1.out (by omega)).setHi (X := w2.heap.size) (o := 2) (u := (.slice ao3 n3 cap3)) new2HA1.out (by omega)))
  rw [hW] at HA1
  replace BT1 : Hid (W5.heap[w2.heap.size]? = some (.cells (tcells U ao3 n3 cap3) 24 (0, 0))) := lid (by rw [← hW]; exact row_set (row_set (row_set BT1.out 0 _) 1 _) 2 _)
  replace BX1 : Hid (W5.heap[w2.heap.size + 1]? = some (.cells (lzc X) 31 (0, 0))) := lid (by rw [← hW]; exact row_other (row_other (row_other BX1.out (by omega)) (by omega)) (by omega))
  replace HA2 := lid ((((HA2.out.set (X := w2.heap.size) (o := 0) (u := (.int .i64 U.clock)) (by omega)).set (X := w2.heap.size) (o := 1) (u := (.int .i64 U.epoch)) (by omega)).set (X := w2.heap.size) (o := 2) (u := (.slice ao3 n3 cap3)) (by omega)))
  rw [hW] at HA2
  replace BT2 : Hid (W5.heap[w3.heap.size]? = some (.cells (tcells T ao2 n2 cap2) 24 (0, 0))) := lid (by rw [← hW]; exact row_other (row_other (row_other BT2.out (by omega)) (by omega)) (by omega))
  replace BX2 : Hid (W5.heap[w3.heap.size + 1]? = some (.cells (lzc X) 31 (0, 0))) := lid (by rw [← hW]; exact row_other (row_other (row_other BX2.out (by omega)) (by omega)) (by omega))
  replace HA3 := lid ((((HA3.out.set (X := w2.heap.size) (o := 0) (u := (.int .i64 U.clock)) (by omega)).set (X := w2.heap.size) (o := 1) (u := (.int .i64 U.epoch)) (by omega)).set (X := w2.heap.size) (o := 2) (u := (.slice ao3 n3 cap3)) (by omega)))
  rw [hW] at HA3
  replace hb : Below w.heap.size w W5 := by rw [← hW]; exact (((hb.setCell (p := ⟨w2.heap.size, 0, none⟩) (by have := hb.size; simp only; omega) _).setCell (p := ⟨w2.heap.size, 1, none⟩) (by have := hb.size; simp only; omega) _).setCell (p := ⟨w2.heap.size, 2, none⟩) (by have := hb.size; simp only; omega) _)
  clear hW
  (with_reducible refine (CR2.out W5 HA.out.A HA.out.z).mono ?_); rintro e w6 ⟨_, rfl, ⟨ao4, n4, cap4, rfl, hA⟩, hb1⟩
  replace HA := lid (HA.out.below hb1)
  replace BT := lid ((hb1.block _ (row_lt BT.out)).trans BT.out)
  replace BX := lid ((hb1.block _ (row_lt BX.out)).trans BX.out)
  replace HA1 := lid (HA1.out.below hb1)
  replace BT1 := lid ((hb1.block _ (row_lt BT1.out)).trans BT1.out)
  replace BX1 := lid ((hb1.block _ (row_lt BX1.out)).trans BX1.out)
  replace HA2 := lid (HA2.out.below hb1)
  replace BT2 := lid ((hb1.block _ (row_lt BT2.out)).trans BT2.out)
  replace BX2 := lid ((hb1.block _ (row_lt BX2.out)).trans BX2.out)
  replace HA3 := lid (HA3.out.below hb1)
  replace hb := hb.trans (hb1.mono hb.size)
  have mw6 := hb1.size
  clear hb1
  have HA4 := lid hA
  clear hA
  have q64 := row_cell BT1.out 0
  have q65 := row_cell BT1.out 1
  have q66 := row_cell BT1.out 2
  have q67 := row_lt BT1.out
  have q68 := row_cell BT2.out 0
  have q69 := row_cell BT2.out 1
  have q70 := row_cell BT2.out 2
  have q71 := row_fz BT2.out 0
  have q72 := row_fz BT2.out 1
  have q73 := row_fz BT2.out 2
  have q74 := row_lt BT2.out
  go_wp2_with fail
  clear q64 q65 q66 q67 q68 q69 q70 q71 q72 q73 q74
  have lBT2w6 := row_lt BT2.out
  obtain ⟨W6, hW⟩ : ∃ y, ((w6.setCell ⟨w3.heap.size, 0, none⟩ (.int .i64 U.clock)).setCell ⟨w3.heap.size, 1, none⟩ (.int .i64 U.epoch)).setCell ⟨w3.heap.size, 2, none⟩ (.slice ao4 n4 cap4) = y := ⟨_, rfl⟩
  rw [hW]
  have zW6 : Hid (W6.heap.size = w6.heap.size) := lid (by rw [← hW]; simp only [World.size_setCell])
  have gW6 : w6.heap.size ≤ W6.heap.size := by rw [zW6.out]; exact Nat.le_refl _
  replace HA := lid ((((HA.out.setHi (X := w3.heap.size) (o := 0) (u := (.int .i64 U.clock)) new3HA.out (by omega)).setHi (X := w3.heap.size) (o := 1) (u := (.int .i64 U.epoch)) new3HA.out (by omega)).setHi (X := w3.heap.size) (o := 2) (u := (.slice ao4 n4 cap4)) new3HA.out (by omega)))
  rw [hW] at HA
  replace BT : Hid (W6.heap[w.heap.size]? = some (.cells (tcells t ao n cap) 24 (0, 0))) := lid (by rw [← hW]; exact row_other (row_other (row_other BT.out (by omega)) (by omega)) (by omega))
  replace BX : Hid (W6.heap[w.heap.size + 1]? = some (.cells (lzc x) 31 (0, 0))) := lid (by rw [← hW]; exact row_other (row_other (row_other BX.out (by omega)) (by omega)) (by omega))
  replace HA1 := lid ((((HA1.out.setHi (X := w3.heap.size) (o := 0) (u := (.int .i64 U.clock)) new3HA1.out (by omega)).setHi (X := w3.heap.size) (o := 1) (u := (.int .i64 U.epoch)) new3HA1.out (by omega)).setHi (X := w3.heap.size) (o := 2) (u := (.slice ao4 n4 cap4)) new3HA1.out (by omega)))
  rw [hW] at HA1
  replace BT1 : Hid (W6.heap[w2.heap.size]? = some (.cells (tcells U ao3 n3 cap3) 24 (0, 0))) := lid (by rw [← hW]; exact row_other (row_other (row_other BT1.out (by omega)) (by omega)) (by omega))
  replace BX1 : Hid (W6.heap[w2.heap.size + 1]? = some (.cells (lzc X) 31 (0, 0))) := lid (by rw [← hW]; exact row_other (row_other (row_other BX1.out (by omega)) (by omega)) (by omega))
  replace HA2 := lid ((((HA2.out.setHi (X := w3.heap.size) (o := 0) (u := (.int .i64 U.clock)) new3HA2.out (by omega)).setHi (X := w3.heap.size) (o := 1) (u := (.int .i64 U.epoch)) new3HA2.out (by omega)).setHi (X := w3.heap.size) (o := 2) (u := (.slice ao4 n4 cap4)) new3HA2.out (by omega)))
  rw [hW] at HA2
  replace BT2 : Hid (W6.heap[w3.heap.size]? = some (.cells (tcells U ao4 n4 cap4) 24 (0, 0))) := lid (by rw [← hW]; exact row_set (row_set (row_set BT2.out 0 _) 1 _) 2 _)
  replace BX2 : Hid (W6.heap[w3.heap.size + 1]? = some (.cells (lzc X) 31 (0, 0))) := lid (by rw [← hW]; exact row_other (row_other (row_other BX2.out (by omega)) (by omega)) (by omega))
  replace HA3 := lid ((((HA3.out.set (X := w3.heap.size) (o := 0) (u := (.int .i64 U.clock)) (by omega)).set (X := w3.heap.size) (o := 1) (u := (.int .i64 U.epoch)) (by omega)).set (X := w3.heap.size) (o := 2) (u := (.slice ao4 n4 cap4)) (by omega)))
  rw [hW] at HA3
  replace HA4 := lid ((((HA4.out.set (X := w3.heap.size) (o := 0) (u := (.int .i64 U.clock)) (by omega)).set (X := w3.heap.size) (o := 1) (u := (.int .i64 U.epoch)) (by omega)).set (X := w3.heap.size) (o := 2) (u := (.slice ao4 n4 cap4)) (by omega)))
  rw [hW] at HA4
  replace hb : Below w.heap.size w W6 := by rw [← hW]; exact (((hb.setCell (p := ⟨w3.heap.size, 0, none⟩) (by have := hb.size; simp only; omega) _).setCell (p := ⟨w3.heap.size, 1, none⟩) (by have := hb.size; simp only; omega) _).setCell (p := ⟨w3.heap.size, 2, none⟩) (by have := hb.size; simp only; omega) _)
  clear hW
  clear CR1 CR2
  (with_reducible refine (same_self U ao3 ao4 n3 cap3 n4 cap4 W6 HA3.out.A HA4.out.A HUL.out).mono ?_); rintro e w7 ⟨rfl, hb1⟩
  replace HA := lid (HA.out.below hb1)
  replace BT := lid ((hb1.block _ (row_lt BT.out)).trans BT.out)
  replace BX := lid ((hb1.block _ (row_lt BX.out)).trans BX.out)
  replace HA1 := lid (HA1.out.below hb1)
  replace BT1 := lid ((hb1.block _ (row_lt BT1.out)).trans BT1.out)
  replace BX1 := lid ((hb1.block _ (row_lt BX1.out)).trans BX1.out)
  replace HA2 := lid (HA2.out.below hb1)
  replace BT2 := lid ((hb1.block _ (row_lt BT2.out)).trans BT2.out)
  replace BX2 := lid ((hb1.block _ (row_lt BX2.out)).trans BX2.out)
  replace HA3 := lid (HA3.out.below hb1)
  replace HA4 := lid (HA4.out.below hb1)
  replace hb := hb.trans (hb1.mono hb.size)
  have mw7 := hb1.size
  clear hb1
  have q75 := row_cell BT.out 0
  have q76 := row_cell BT.out 1
  have q77 := row_cell BT.out 2
  have q78 := row_lt BT.out
  go_wp2_with fail
  clear q75 q76 q77 q78
  obtain ⟨V, hV⟩ : ∃ T, advL t k = T := ⟨_, rfl⟩
  obtain ⟨J, hJ⟩ : ∃ G, advG t k = G := ⟨_, rfl⟩
  obtain ⟨F2, hF⟩ : ∃ E, advE t k = E := ⟨_, rfl⟩
  have CA1 := lid (fun w h hc hz => advance_any t ao n cap k w h hc hz)
  have CA2 := lid (fun w h => refAdvance_any t ao n cap k w h)
  rw [hV, hJ, hF] at CA1 CA2
  have HVL : Hid (V.l.length ≤ 1000000) := lid (by have h1 := advL_len t k; have h2 := h12.out; rw [hV] at h1; omega)
  have HJL : Hid (J.length ≤ 1000000) := lid (by have h1 := advG_len t k; have h2 := h12.out; rw [hJ] at h1; omega)
  clear hV hJ hF
  (with_reducible refine (CA1.out w7 HA.out.A HA.out.le HA.out.z).mono ?_); rintro e w8 ⟨_, _, rfl, ⟨ao5, n5, cap5, rfl, hA⟩, ⟨aog5, ng5, capg5, rfl, hG⟩, hb1⟩
  replace HA := lid (HA.out.below hb1)
  replace BT := lid ((hb1.block _ (row_lt BT.out)).trans BT.out)
  replace BX := lid ((hb1.block _ (row_lt BX.out)).trans BX.out)
  replace HA1 := lid (HA1.out.below hb1)
  replace BT1 := lid ((hb1.block _ (row_lt BT1.out)).trans BT1.out)
  replace BX1 := lid ((hb1.block _ (row_lt BX1.out)).trans BX1.out)
  replace HA2 := lid (HA2.out.below hb1)
  replace BT2 := lid ((hb1.block _ (row_lt BT2.out)).trans BT2.out)
  replace BX2 := lid ((hb1.block _ (row_lt BX2.out)).trans BX2.out)
  replace HA3 := lid (HA3.out.below hb1)
  replace HA4 := lid (HA4.out.below hb1)
  replace hb := hb.trans (hb1.mono hb.size)
  have mw8 := hb1.size
  clear hb1
  have HA5 := lid hA
  have HG5 := lid hG
  clear hA hG
  have q79 := row_cell BT.out 0
  have q80 := row_cell BT.out 1
  have q81 := row_cell BT.out 2
  have q82 := row_lt BT.out
  have q83 := row_cell BT1.out 0
  have q84 := row_cell BT1.out 1
  have q85 := row_cell BT1.out 2
  have q86 := row_fz BT1.out 0
  have q87 := row_fz BT1.out 1
  have q88 := row_fz BT1.out 2
  have q89 := row_lt BT1.out
  go_wp2_with fail
  clear q79 q80 q81 q82 q83 q84 q85 q86 q87 q88 q89
  have lBT1w8 := row_lt BT1.out
  obtain ⟨W8, hW⟩ : ∃ y, ((w8.setCell ⟨w2.heap.size, 0, none⟩ (.int .i64 V.clock)).setCell ⟨w2.heap.size, 1, none⟩ (.int .i64 V.epoch)).setCell ⟨w2.heap.size, 2, none⟩ (.slice ao5 n5 cap5) = y := ⟨_, rfl⟩
  rw [hW]
  have zW8 : Hid (W8.heap.size = w8.heap.size) := lid (by rw [← hW]; simp only [World.size_setCell])
  have gW8 : w8.heap.size ≤ W8.heap.size := by rw [zW8.out]; exact Nat.le_refl _
  replace HA := lid ((((HA.out.setHi (X := w2.heap.size) (o := 0) (u := (.int .i64 V.clock)) new2HA.out (by omega)).setHi (X := w2.heap.size) (o := 1) (u := (.int .i64 V.epoch)) new2HA.out (by omega)).setHi (X := w2.heap.size) (o := 2) (u := (.slice ao5 n5 cap5)) new2HA.out (by omega)))
  rw [hW] at HA
  replace BT : Hid (W8.heap[w.heap.size]? = some (.cells (tcells t ao n cap) 24 (0, 0))) := lid (by rw [← hW]; exact row_other (row_other (row_other BT.out (by omega)) (by omega)) (by omega))
  replace BX : Hid (W8.heap[w.heap.size + 1]? = some (.cells (lzc x) 31 (0, 0))) := lid (by rw [← hW]; exact row_other (row_other (row_other BX.out (by omega)) (by omega)) (by omega))
  replace HA1 := lid ((((HA1.out.setHi (X := w2.heap.size) (o := 0) (u := (.int .i64 V.clock)) new2HA1.out (by omega)).setHi (X := w2.heap.size) (o := 1) (u := (.int .i64 V.epoch)) new2HA1.out (by omega)).setHi (X := w2.heap.size) (o := 2) (u := (.slice ao5 n5 cap5)) new2HA1.out (by omega)))
  rw [hW] at HA1
  replace BT1 : Hid (W8.heap[w2.heap.size]? = some (.cells (tcells V ao5 n5 cap5) 24 (0, 0))) := lid (by rw [← hW]; exact row_set (row_set (row_set BT1.out 0 _) 1 _) 2 _)
  replace BX1 : Hid (W8.heap[w2.heap.size + 1]? = some (.cells (lzc X) 31 (0, 0))) := lid (by rw [← hW]; exact row_other (row_other (row_other BX1.out (by omega)) (by omega)) (by omega))
  replace HA2 := lid ((((HA2.out.set (X := w2.heap.size) (o := 0) (u := (.int .i64 V.clock)) (by omega)).set (X := w2.heap.size) (o := 1) (u := (.int .i64 V.epoch)) (by omega)).set (X := w2.heap.size) (o := 2) (u := (.slice ao5 n5 cap5)) (by omega)))
  rw [hW] at HA2
  replace BT2 : Hid (W8.heap[w3.heap.size]? = some (.cells (tcells U ao4 n4 cap4) 24 (0, 0))) := lid (by rw [← hW]; exact row_other (row_other (row_other BT2.out (by omega)) (by omega)) (by omega))
  replace BX2 : Hid (W8.heap[w3.heap.size + 1]? = some (.cells (lzc X) 31 (0, 0))) := lid (by rw [← hW]; exact row_other (row_other (row_other BX2.out (by omega)) (by omega)) (by omega))
  replace HA3 := lid ((((HA3.out.set (X := w2.heap.size) (o := 0) (u := (.int .i64 V.clock)) (by omega)).set (X := w2.heap.size) (o := 1) (u := (.int .i64 V.epoch)) (by omega)).set (X := w2.heap.size) (o := 2) (u := (.slice ao5 n5 cap5)) (by omega)))
  rw [hW] at HA3
  replace HA4 := lid ((((HA4.out.set (X := w2.heap.size) (o := 0) (u := (.int .i64 V.clock)) (by omega)).set (X := w2.heap.size) (o := 1) (u := (.int .i64 V.epoch)) (by omega)).set (X := w2.heap.size) (o := 2) (u := (.slice ao5 n5 cap5)) (by omega)))
  rw [hW] at HA4
  replace HA5 := lid ((((HA5.out.set (X := w2.heap.size) (o := 0) (u := (.int .i64 V.clock)) (by omega)).set (X := w2.heap.size) (o := 1) (u := (.int .i64 V.epoch)) (by omega)).set (X := w2.heap.size) (o := 2) (u := (.slice ao5 n5 cap5)) (by omega)))
  rw [hW] at HA5
  replace HG5 := lid ((((HG5.out.set (X := w2.heap.size) (o := 0) (u := (.int .i64 V.clock)) (by omega)).set (X := w2.heap.size) (o := 1) (u := (.int .i64 V.epoch)) (by omega)).set (X := w2.heap.size) (o := 2) (u := (.slice ao5 n5 cap5)) (by omega)))
  rw [hW] at HG5
  replace hb : Below w.heap.size w W8 := by rw [← hW]; exact (((hb.setCell (p := ⟨w2.heap.size, 0, none⟩) (by have := hb.size; simp only; omega) _).setCell (p := ⟨w2.heap.size, 1, none⟩) (by have := hb.size; simp only; omega) _).setCell (p := ⟨w2.heap.size, 2, none⟩) (by have := hb.size; simp only; omega) _)
  clear hW
  (with_reducible refine (CA2.out W8 HA.out.A).mono ?_); rintro e w9 ⟨_, _, rfl, ⟨ao6, n6, cap6, rfl, hA⟩, ⟨aog6, ng6, capg6, rfl, hG⟩, hb1⟩
  replace HA := lid (HA.out.below hb1)
  replace BT := lid ((hb1.block _ (row_lt BT.out)).trans BT.out)
  replace BX := lid ((hb1.block _ (row_lt BX.out)).trans BX.out)
  replace HA1 := lid (HA1.out.below hb1)
  replace BT1 := lid ((hb1.block _ (row_lt BT1.out)).trans BT1.out)
  replace BX1 := lid ((hb1.block _ (row_lt BX1.out)).trans BX1.out)
  replace HA2 := lid (HA2.out.below hb1)
  replace BT2 := lid ((hb1.block _ (row_lt BT2.out)).trans BT2.out)
  replace BX2 := lid ((hb1.block _ (row_lt BX2.out)).trans BX2.out)
  replace HA3 := lid (HA3.out.below hb1)
  replace HA4 := lid (HA4.out.below hb1)
  replace HA5 := lid (HA5.out.below hb1)
  replace HG5 := lid (HG5.out.below hb1)
  replace hb := hb.trans (hb1.mono hb.size)
  have mw9 := hb1.size
  clear hb1
  have HA6 := lid hA
  have HG6 := lid hG
  clear hA hG
  have q90 := row_cell BT2.out 0
  have q91 := row_cell BT2.out 1
  have q92 := row_cell BT2.out 2
  have q93 := row_fz BT2.out 0
  have q94 := row_fz BT2.out 1
  have q95 := row_fz BT2.out 2
  have q96 := row_lt BT2.out
  go_wp2_with fail
  clear q90 q91 q92 q93 q94 q95 q96
  have lBT2w9 := row_lt BT2.out
  obtain ⟨W9, hW⟩ : ∃ y, ((w9.setCell ⟨w3.heap.size, 0, none⟩ (.int .i64 V.clock)).setCell ⟨w3.heap.size, 1, none⟩ (.int .i64 V.epoch)).setCell ⟨w3.heap.size, 2, none⟩ (.slice ao6 n6 cap6) = y := ⟨_, rfl⟩
  rw [hW]
  have zW9 : Hid (W9.heap.size = w9.heap.size) := lid (by rw [← hW]; simp only [World.size_setCell])
  have gW9 : w9.heap.size ≤ W9.heap.size := by rw [zW9.out]; exact Nat.le_refl _
  replace HA := lid ((((HA.out.setHi (X := w3.heap.size) (o := 0) (u := (.int .i64 V.clock)) new3HA.out (by omega)).setHi (X := w3.heap.size) (o := 1) (u := (.int .i64 V.epoch)) new3HA.out (by omega)).setHi (X := w3.heap.size) (o := 2) (u := (.slice ao6 n6 cap6)) new3HA.out (by omega)))
  rw [hW] at HA
  replace BT : Hid (W9.heap[w.heap.size]? = some (.cells (tcells t ao n cap) 24 (0, 0))) := lid (by rw [← hW]; exact row_other (row_other (row_other BT.out (by omega)) (by omega)) (by omega))
  replace BX : Hid (W9.heap[w.heap.size + 1]? = some (.cells (lzc x) 31 (0, 0))) := lid (by rw [← hW]; exact row_other (row_other (row_other BX.out (by omega)) (by omega)) (by omega))
  replace HA1 := lid ((((HA1.out.setHi (X := w3.heap.size) (o := 0) (u := (.int .i64 V.clock)) new3HA1.out (by omega)).setHi (X := w3.heap.size) (o := 1) (u := (.int .i64 V.epoch)) new3HA1.out (by omega)).setHi (X := w3.heap.size) (o := 2) (u := (.slice ao6 n6 cap6)) new3HA1.out (by omega)))
  rw [hW] at HA1
  replace BT1 : Hid (W9.heap[w2.heap.size]? = some (.cells (tcells V ao5 n5 cap5) 24 (0, 0))) := lid (by rw [← hW]; exact row_other (row_other (row_other BT1.out (by omega)) (by omega)) (by omega))
  replace BX1 : Hid (W9.heap[w2.heap.size + 1]? = some (.cells (lzc X) 31 (0, 0))) := lid (by rw [← hW]; exact row_other (row_other (row_other BX1.out (by omega)) (by omega)) (by omega))
  replace HA2 := lid ((((HA2.out.setHi (X := w3.heap.size) (o := 0) (u := (.int .i64 V.clock)) new3HA2.out (by omega)).setHi (X := w3.heap.size) (o := 1) (u := (.int .i64 V.epoch)) new3HA2.out (by omega)).setHi (X := w3.heap.size) (o := 2) (u := (.slice ao6 n6 cap6)) new3HA2.out (by omega)))
  rw [hW] at HA2
  replace BT2 : Hid (W9.heap[w3.heap.size]? = some (.cells (tcells V ao6 n6 cap6) 24 (0, 0))) := lid (by rw [← hW]; exact row_set (row_set (row_set BT2.out 0 _) 1 _) 2 _)
  replace BX2 : Hid (W9.heap[w3.heap.size + 1]? = some (.cells (lzc X) 31 (0, 0))) := lid (by rw [← hW]; exact row_other (row_other (row_other BX2.out (by omega)) (by omega)) (by omega))
  replace HA3 := lid ((((HA3.out.set (X := w3.heap.size) (o := 0) (u := (.int .i64 V.clock)) (by omega)).set (X := w3.heap.size) (o := 1) (u := (.int .i64 V.epoch)) (by omega)).set (X := w3.heap.size) (o := 2) (u := (.slice ao6 n6 cap6)) (by omega)))
  rw [hW] at HA3
  replace HA4 := lid ((((HA4.out.set (X := w3.heap.size) (o := 0) (u := (.int .i64 V.clock)) (by omega)).set (X := w3.heap.size) (o := 1) (u := (.int .i64 V.epoch)) (by omega)).set (X := w3.heap.size) (o := 2) (u := (.slice ao6 n6 cap6)) (by omega)))
  rw [hW] at HA4
  replace HA5 := lid ((((HA5.out.set (X := w3.heap.size) (o := 0) (u := (.int .i64 V.clock)) (by omega)).set (X := w3.heap.size) (o := 1) (u := (.int .i64 V.epoch)) (by omega)).set (X := w3.heap.size) (o := 2) (u := (.slice ao6 n6 cap6)) (by omega)))
  rw [hW] at HA5
  replace HG5 := lid ((((HG5.out.set (X := w3.heap.size) (o := 0) (u := (.int .i64 V.clock)) (by omega)).set (X := w3.heap.size) (o := 1) (u := (.int .i64 V.epoch)) (by omega)).set (X := w3.heap.size) (o := 2) (u := (.slice ao6 n6 cap6)) (by omega)))
  rw [hW] at HG5
  replace HA6 := lid ((((HA6.out.set (X := w3.heap.size) (o := 0) (u := (.int .i64 V.clock)) (by omega)).set (X := w3.heap.size) (o := 1) (u := (.int .i64 V.epoch)) (by omega)).set (X := w3.heap.size) (o := 2) (u := (.slice ao6 n6 cap6)) (by omega)))
  rw [hW] at HA6
  replace HG6 := lid ((((HG6.out.set (X := w3.heap.size) (o := 0) (u := (.int .i64 V.clock)) (by omega)).set (X := w3.heap.size) (o := 1) (u := (.int .i64 V.epoch)) (by omega)).set (X := w3.heap.size) (o := 2) (u := (.slice ao6 n6 cap6)) (by omega)))
  rw [hW] at HG6
  replace hb : Below w.heap.size w W9 := by rw [← hW]; exact (((hb.setCell (p := ⟨w3.heap.size, 0, none⟩) (by have := hb.size; simp only; omega) _).setCell (p := ⟨w3.heap.size, 1, none⟩) (by have := hb.size; simp only; omega) _).setCell (p := ⟨w3.heap.size, 2, none⟩) (by have := hb.size; simp only; omega) _)
  clear hW
  clear CA1 CA2
  have q97 := row_cell BT.out 0
  have q98 := row_cell BT.out 1
  have q99 := row_cell BT.out 2
  have q100 := row_cell BX.out 0
  have q101 := row_cell BX.out 1
  have q102 := row_cell BX.out 2
  have q103 := row_cell BX.out 3
  have q104 := row_cell BX.out 4
  have q105 := row_cell BT1.out 0
  have q106 := row_cell BT1.out 1
  have q107 := row_cell BT1.out 2
  have q108 := row_cell BT2.out 0
  have q109 := row_cell BT2.out 1
  have q110 := row_cell BT2.out 2
  have q111 := row_lt BT.out
  have q112 := row_lt BX.out
  have q113 := row_lt BT1.out
  have q114 := row_lt BT2.out
  refine wp_region_seq (fun w' => ∃ s : Since W9.heap.size W9, w' = s.world) [(0, true), (1, true), (2, false), (3, true), (4, true), (5, true), (6, false), (7, true), (8, true), (9, true), (10, true), (11, true), (12, true), (13, true), (14, true), (15, true), (17, true), (18, true), (16, false), (19, false), (20, true), (21, true), (22, true), (23, false), (24, true), (25, false)] (by kernel_rfl) (by kernel_rfl) (by intro c d v a w h; cases d <;> exact h) (since (Below.refl _ _).drew) ?_
  repeat (first | (refine seq_skip (by rfl) (by rfl) ?_; simp only [Act.put, List.setIfInBounds_toArray, List.set_cons_succ, List.set_cons_zero]) | (refine seq_float (by rfl) (by rfl) (by rfl) ?_; intro K hK; go_big_quiet_op; go_big_quiet_on))
  refine seq_chain (by rfl) ?_
  intro K hK
  go_wp2_with fail
  (with_reducible refine (same_self V ao5 ao6 n5 cap5 n6 cap6 _ (HA5.out.A.below (Below.refl _ _).drew) (HA6.out.A.below (Below.refl _ _).drew) HVL.out).mono ?_); rintro e v1 ⟨rfl, hv1⟩
  have hs1 : Below W9.heap.size W9 v1 := (Below.refl _ _).drew.trans hv1
  go_wp2_with fail
  refine hK.out _ _ (since hs1) ?_
  clear hK K
  repeat (first | (refine seq_skip (by rfl) (by rfl) ?_; simp only [Act.put, List.setIfInBounds_toArray, List.set_cons_succ, List.set_cons_zero]) | (refine seq_float (by rfl) (by rfl) (by rfl) ?_; intro K hK; go_big_quiet_op; go_big_quiet_on))
  have CL := lid (SameLeases_any J J ng5 capg5 ng6 capg6 aog5 aog6 v1 HG5.out.len HG6.out.len (HG5.out.sl.below hs1) (HG6.out.sl.below hs1) (by have h1 := HG5.out.len; have h2 := HJL.out; omega) (by have h1 := HG6.out.len; have h2 := HJL.out; omega))
  rw [show decide (J = J) = true from decide_eq_true rfl] at CL
  refine seq_chain (by rfl) ?_
  intro K hK
  go_wp2_with fail
  (with_reducible refine (CL.out).mono ?_); rintro e v2 ⟨rfl, hv2⟩
  have hs2 := hs1.trans (hv2.mono hs1.size)
  go_wp2_with fail
  refine hK.out _ _ (since hs2) ?_
  clear hK K
  repeat (first | (refine seq_skip (by rfl) (by rfl) ?_; simp only [Act.put, List.setIfInBounds_toArray, List.set_cons_succ, List.set_cons_zero]) | (refine seq_float (by rfl) (by rfl) (by rfl) ?_; intro K hK; go_big_quiet_op; go_big_quiet_on))
  refine seq_chain (by rfl) ?_
  intro K hK
  go_wp2_with fail
  (with_reducible refine (holds_any t ao n cap x _ (HA.out.A.below hs2) HA.out.le).mono ?_); rintro e v3 ⟨rfl, hv3⟩
  have hs3 := hs2.trans (hv3.mono hs2.size)
  go_wp2_with fail
  refine hK.out _ _ (since hs3) ?_
  clear hK K
  repeat (first | (refine seq_skip (by rfl) (by rfl) ?_; simp only [Act.put, List.setIfInBounds_toArray, List.set_cons_succ, List.set_cons_zero]) | (refine seq_float (by rfl) (by rfl) (by rfl) ?_; intro K hK; go_big_quiet_op; go_big_quiet_on))
  refine seq_chain (by rfl) ?_
  intro K hK
  go_wp2_with fail
  (with_reducible refine (refHolds_any t ao n cap x _ (HA.out.A.below hs3)).mono ?_); rintro e v4 ⟨rfl, hv4⟩
  have hs4 := hs3.trans (hv4.mono hs3.size)
  go_wp2_with fail
  refine hK.out _ _ (since hs4) ?_
  clear hK K
  repeat (first | (refine seq_skip (by rfl) (by rfl) ?_; simp only [Act.put, List.setIfInBounds_toArray, List.set_cons_succ, List.set_cons_zero]) | (refine seq_float (by rfl) (by rfl) (by rfl) ?_; intro K hK; go_big_quiet_op; go_big_quiet_on))
  refine seq_chain (by rfl) ?_
  intro K hK
  go_wp2_with fail
  (with_reducible refine (awake_any _).mono ?_); rintro e v5 ⟨rfl, hv5⟩
  have hs5 := hs4.trans (hv5.mono hs4.size)
  go_wp2_with fail
  refine hK.out _ _ (since hs5) ?_
  clear hK K
  repeat (first | (refine seq_skip (by rfl) (by rfl) ?_; simp only [Act.put, List.setIfInBounds_toArray, List.set_cons_succ, List.set_cons_zero]) | (refine seq_float (by rfl) (by rfl) (by rfl) ?_; intro K hK; go_big_quiet_op; go_big_quiet_on))
  refine seq_chain (by rfl) ?_
  intro K hK
  go_wp2_with fail
  refine hK.out _ _ (since hs5) ?_
  clear hK K
  repeat (first | (refine seq_skip (by rfl) (by rfl) ?_; simp only [Act.put, List.setIfInBounds_toArray, List.set_cons_succ, List.set_cons_zero]) | (refine seq_float (by rfl) (by rfl) (by rfl) ?_; intro K hK; go_big_quiet_op; go_big_quiet_on))
  refine seq_nil ?_
  go_wp2_with fail
  go_ret
  exact ⟨rfl, hb.trans (hs5.mono hb.size)⟩
end Go.Proofs.Ytghkldodceamcaa
