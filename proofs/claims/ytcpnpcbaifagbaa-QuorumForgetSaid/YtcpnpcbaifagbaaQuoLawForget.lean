/-
  QuorumForget: the law's walk.
-/
import Derived.Test.YtcpnpcbaifagbaaQuoLawDecide
import Derived.Test.YtcpnpcbaifagbaaQuoLawLiars
import Derived.Test.YtcpnpcbaifagbaaQuoDelS
import Derived.Test.YtcpnpcbaifagbaaQuoPlain4
namespace Go.Proofs.Ytcpnpcbaifagbaa
open Go.RowKit
set_option maxRecDepth 100000 in
set_option maxHeartbeats 32000000 in
theorem LawForget_any (a : Ask) (w : World) (h : AskOk w a) :
    Calls Try.prog 9 #[.agg (askc a)] w fun e w' => e = .returned (.bool true) ∧ Below w.heap.size w w' := by
  have HA := lid h
  clear h
  go_enter Try.func9, Try.ntmps9
  go_wp2_with fail
  obtain ⟨W0, hW0⟩ : ∃ y, w.alloc (.cells (askc a) 51) = y := ⟨_, rfl⟩
  rw [hW0]
  have XA : Hid (W0.heap[w.heap.size]? = some (.cells (askc a) 51 (0, 0))) := lid (by rw [← hW0]; exact heap_alloc_new _ _)
  have hb0 : Below w.heap.size w W0 := by rw [← hW0]; exact ba _ _
  clear hW0
  replace HA := lid (HA.out.below hb0)
  have CF := lid (fine_any a W0 HA.out)
  have p0 := row_cell XA.out 0
  have p1 := row_cell XA.out 1
  have p2 := row_cell XA.out 2
  have p3 := row_cell XA.out 3
  have p4 := row_cell XA.out 4
  have p5 := row_cell XA.out 5
  go_wp2_with fail
  cases hf : fineB a with
  | false =>
    rw [hf] at CF
    clear hf
    (with_reducible refine (CF.out).mono ?_); rintro e w1 ⟨rfl, hb1⟩
    clear p0 p1 p2 p3 p4 p5
    go_wp2_with fail
    (with_reducible refine (awake_any _).mono ?_); rintro e w2 ⟨rfl, hb2⟩
    have h2 := hb1.trans (hb2.mono hb1.size)
    go_wp2_with fail
    go_ret
    exact ⟨rfl, hb0.trans (h2.mono hb0.size)⟩
  | true =>
    have HF := lid (fine_yes HA.out hf)
    rw [hf] at CF
    clear hf
    (with_reducible refine (CF.out).mono ?_); rintro e w1 ⟨rfl, hb1⟩
    clear CF p0 p1 p2 p3 p4 p5
    replace XA := lid ((hb1.block _ (row_lt XA.out)).trans XA.out)
    replace HA := lid (HA.out.below hb1)
    replace hb0 := hb0.trans (hb1.mono hb0.size)
    clear hb1
    have HBO := lid (checkB_ok.1 HF.out.2.2.1)
    have HSR := lid (srtR_of HBO.out)
    have hn8 : a.n ≤ 8 := HF.out.1
    have HV1 : Hid (∀ r ∈ a.bs, r.vs.length ≤ 1000000) := lid (fun r hr => by have := HF.out.2.1 r hr; omega)
    have HV2 : Hid (∀ r ∈ a.bs, r.vs.length ≤ 100000) := lid (fun r hr => by have := HF.out.2.1 r hr; omega)
    have hs60 : ¬ 65536 < a.out.size := by have := HF.out.2.2.2.2; omega
    have HFG := lid (forgets (k := a.key) (wk := a.wk) HF.out.2.2.1 hs60)
    have HFB := lid (forgetB_bound (B := a.bs.map Rw.bal) (wk := a.wk) (N := 8) (M := 10) (by rw [List.length_map, HA.out.ba.len]; exact hn8) (fun b hb => by
      obtain ⟨r, hr, rfl⟩ := List.mem_map.1 hb
      exact HF.out.2.1 r hr))
    have C1 := lid (Forget_any a.bs a.n a.cap a.ao a.wk w1 (by omega) HA.out.ba HV2.out)
    clear hs60
    have p0 := row_cell XA.out 0
    have p1 := row_cell XA.out 1
    have p2 := row_cell XA.out 2
    have p3 := row_cell XA.out 3
    have p4 := row_cell XA.out 4
    have p5 := row_cell XA.out 5
    go_wp2_with fail
    (with_reducible refine (C1.out).mono ?_); rintro e w2 ⟨r2, a2, n2, c2, rfl, hM2, hB2, hb2⟩
    clear C1 p0 p1 p2 p3 p4 p5
    have HB2 := lid hB2
    have HM2 := lid hM2
    have HN2 := lid (rows_bound hB2 hM2 HFB.out.1 HFB.out.2)
    clear hB2 hM2
    replace XA := lid ((hb2.block _ (row_lt XA.out)).trans XA.out)
    replace HA := lid (HA.out.below hb2)
    replace hb0 := hb0.trans (hb2.mono hb0.size)
    clear hb2
    have hn2 : n2 ≤ 8 := HN2.out.1
    have HV3 : Hid (∀ r ∈ r2, r.vs.length ≤ 100000) := lid (fun r hr => by have := HN2.out.2 r hr; omega)
    have HV4 : Hid (∀ r ∈ r2, r.vs.length ≤ 1000000) := lid (fun r hr => by have := HN2.out.2 r hr; omega)
    have HS2 : Hid (SrtR r2) := lid (srtR_of (by rw [HM2.out]; exact checkB_ok.1 HFG.out.1))
    have C3 : Hid (∀ w', Below w2.heap.size w2 w' → Calls Try.prog 14 #[.slice a2 n2 c2] w' fun e w'' => e = .returned (.int .i64 0) ∧ Below w'.heap.size w' w'') := lid (fun w' hw' => by
      have := Check_any r2 n2 c2 a2 w' (by omega) (HB2.out.below hw') HV4.out
      rw [HM2.out, HFG.out.1] at this
      exact this)
    have C4 := lid (fun w' (hw' : Below w2.heap.size w2 w') => Against_any r2 n2 c2 a2 a.key a.out w' (by omega) (HB2.out.below hw') HV4.out HS2.out)
    have C5 := lid (fun w' (hw' : Below w2.heap.size w2 w') => Forget_any r2 n2 c2 a2 a.wk w' (by omega) (HB2.out.below hw') HV3.out)
    have HTW : Hid (forgetB (r2.map Rw.bal) a.wk = r2.map Rw.bal) := lid (by rw [HM2.out]; exact HFG.out.2.2.1)
    have HIN : Hid (inS (againstB (aboutB (r2.map Rw.bal) a.key) a.out) a.wk = false) := lid (by rw [HM2.out]; exact HFG.out.2.1)
    have HAG : Hid (againstB (aboutB (r2.map Rw.bal) a.key) a.out = (againstB (aboutB (a.bs.map Rw.bal) a.key) a.out).filter (fun v => !decide (v = a.wk))) := lid (by rw [HM2.out]; exact HFG.out.2.2.2.1)
    have HAL : Hid ((againstB (aboutB (r2.map Rw.bal) a.key) a.out).length ≤ 1000000) := lid (Nat.le_trans (against_len _ _) (about_len HV4.out))
    obtain ⟨G, hG⟩ : ∃ y, againstB (aboutB (r2.map Rw.bal) a.key) a.out = y := ⟨_, rfl⟩
    rw [hG] at HIN HAL HAG
    replace C4 := lid (by have := C4.out; simp only [hG] at this; exact this)
    replace C5 := lid (by have := C5.out; simp only [HTW.out] at this; exact this)
    clear hG
    have p0 := row_cell XA.out 0
    have p1 := row_cell XA.out 1
    have p2 := row_cell XA.out 2
    have p3 := row_cell XA.out 3
    have p4 := row_cell XA.out 4
    have p5 := row_cell XA.out 5
    have lX : w.heap.size < w2.heap.size := row_lt XA.out
    go_wp2_with fail
    refine wp_region_seq (fun w' => ∃ s : Since w2.heap.size w2, w' = s.world) [(0, true), (1, false), (2, true), (3, true), (4, true), (5, true), (6, true), (7, true), (8, true), (10, true), (11, true), (9, false), (12, false), (13, true), (14, true), (15, true), (16, true), (17, true), (19, true), (18, false), (20, false), (21, true), (22, true)] (by kernel_rfl) (by kernel_rfl) (by intro c d v a w h; cases d <;> exact h) (since (Below.refl _ _).drew) ?_
    repeat (first | (refine seq_skip (by rfl) (by rfl) ?_; simp only [Act.put, List.setIfInBounds_toArray, List.set_cons_succ, List.set_cons_zero]) | (refine seq_float (by rfl) (by rfl) (by rfl) ?_; intro K hK; go_big_quiet_op; go_big_quiet_on))
    refine seq_chain (by rfl) ?_
    intro K hK
    go_wp2_with fail
    (with_reducible refine (C3.out _ (Below.refl _ _).drew).mono ?_); rintro e w4 ⟨rfl, hb4⟩
    have g4 : Below w2.heap.size w2 w4 := (Below.refl _ _).drew.trans hb4
    go_wp2_with fail
    refine hK.out _ _ (since g4) ?_
    clear hK K
    repeat (first | (refine seq_skip (by rfl) (by rfl) ?_; simp only [Act.put, List.setIfInBounds_toArray, List.set_cons_succ, List.set_cons_zero]) | (refine seq_float (by rfl) (by rfl) (by rfl) ?_; intro K hK; go_big_quiet_op; go_big_quiet_on))
    refine seq_chain (by rfl) ?_
    intro K hK
    go_wp2_with fail
    (with_reducible refine (C4.out _ g4).mono ?_); rintro e w5 ⟨S5, ao5, n5, c5, rfl, hS5, hA5, hb5⟩
    have g5 := g4.trans (hb5.mono g4.size)
    have HS5 := lid hS5
    have HA5 := lid hA5
    clear hS5 hA5
    go_wp2_with fail
    refine hK.out _ _ (since g5) ?_
    clear hK K
    repeat (first | (refine seq_skip (by rfl) (by rfl) ?_; simp only [Act.put, List.setIfInBounds_toArray, List.set_cons_succ, List.set_cons_zero]) | (refine seq_float (by rfl) (by rfl) (by rfl) ?_; intro K hK; go_big_quiet_op; go_big_quiet_on))
    refine seq_chain (by rfl) ?_
    intro K hK
    go_wp2_with fail
    have CC := lid (Contains_any S5 n5 c5 ao5 a.wk w5 (by rw [← HA5.out.len, HS5.out]; exact HAL.out) HA5.out)
    rw [HS5.out, HIN.out] at CC
    (with_reducible refine (CC.out).mono ?_); rintro e w6 ⟨rfl, rfl⟩
    clear CC
    go_wp2_with fail
    refine hK.out _ _ (since g5) ?_
    clear hK K
    repeat (first | (refine seq_skip (by rfl) (by rfl) ?_; simp only [Act.put, List.setIfInBounds_toArray, List.set_cons_succ, List.set_cons_zero]) | (refine seq_float (by rfl) (by rfl) (by rfl) ?_; intro K hK; go_big_quiet_op; go_big_quiet_on))
    refine seq_chain (by rfl) ?_
    intro K hK
    go_wp2_with fail
    (with_reducible refine (C5.out _ g5).mono ?_); rintro e w7 ⟨r7, a7, n7, c7, rfl, hM7, hB7, hb7⟩
    have g7 := g5.trans (hb7.mono g5.size)
    have HM7 := lid hM7
    have HB7 := lid hB7
    have HN7 := lid (rows_bound (N := 8) (M := 10) hB7 hM7 (by rw [HM2.out]; exact HFB.out.1) (by rw [HM2.out]; exact HFB.out.2))
    clear hM7 hB7
    go_wp2_with fail
    refine hK.out _ _ (since g7) ?_
    clear hK K
    repeat (first | (refine seq_skip (by rfl) (by rfl) ?_; simp only [Act.put, List.setIfInBounds_toArray, List.set_cons_succ, List.set_cons_zero]) | (refine seq_float (by rfl) (by rfl) (by rfl) ?_; intro K hK; go_big_quiet_op; go_big_quiet_on))
    refine seq_chain (by rfl) ?_
    intro K hK
    go_wp2_with fail
    have CS := lid (refSame_any r7 r2 n7 c7 n2 c2 a7 a2 w7 (by have := HN7.out.1; omega) (by omega) HB7.out (HB2.out.below g7) (fun r hr => by have := HN7.out.2 r hr; omega) HV4.out)
    rw [decide_eq_true HM7.out] at CS
    (with_reducible refine (CS.out).mono ?_); rintro e w8 ⟨rfl, hb8⟩
    have g8 := g7.trans (hb8.mono g7.size)
    clear CS
    go_wp2_with fail
    refine hK.out _ _ (since g8) ?_
    clear hK K
    repeat (first | (refine seq_skip (by rfl) (by rfl) ?_; simp only [Act.put, List.setIfInBounds_toArray, List.set_cons_succ, List.set_cons_zero]) | (refine seq_float (by rfl) (by rfl) (by rfl) ?_; intro K hK; go_big_quiet_op; go_big_quiet_on))
    refine seq_nil ?_
    clear p0 p1 p2 p3 p4 p5 C3 C5 HS5 HA5 HM7 HB7 HN7 hb4 hb5 hb7 hb8 g4 g5 g7 lX
    replace XA := lid ((g8.block _ (row_lt XA.out)).trans XA.out)
    replace HA := lid (HA.out.below g8)
    replace HB2 := lid (HB2.out.below g8)
    replace hb0 := hb0.trans (g8.mono hb0.size)
    replace C4 := lid (fun w' (hw' : Below w8.heap.size w8 w') => C4.out w' (g8.trans (hw'.mono g8.size)))
    clear g8
    have p0 := row_cell XA.out 0
    have p1 := row_cell XA.out 1
    have p2 := row_cell XA.out 2
    have p3 := row_cell XA.out 3
    have p4 := row_cell XA.out 4
    have p5 := row_cell XA.out 5
    have CG := lid (Against_any a.bs a.n a.cap a.ao a.key a.out w8 (by omega) HA.out.ba HV1.out HSR.out)
    have HGL : Hid ((againstB (aboutB (a.bs.map Rw.bal) a.key) a.out).length ≤ 1000000) := lid (Nat.le_trans (against_len _ _) (about_len HV1.out))
    obtain ⟨T, hT⟩ : ∃ y, againstB (aboutB (a.bs.map Rw.bal) a.key) a.out = y := ⟨_, rfl⟩
    rw [hT] at CG HGL HAG
    clear hT
    go_wp2_with fail
    (with_reducible refine (CG.out).mono ?_); rintro e w9 ⟨S9, ao9, n9, c9, rfl, hS9, hA9, hb9⟩
    clear CG p0 p1 p2 p3 p4 p5
    subst hS9
    have HA9 := lid hA9
    clear hA9
    have HN9 : Hid (n9 ≤ 1000000) := lid (by rw [← HA9.out.len]; exact HGL.out)
    have CCL := lid (Clone_str S9 n9 c9 ao9 w9 HA9.out.len HA9.out.sl HA9.out.z HN9.out)
    go_wp2_with fail
    (with_reducible refine (CCL.out).mono ?_); rintro e wA ⟨vA, rfl, hownA, hbA⟩
    clear CCL
    have h8A := hb9.trans (hbA.mono hb9.size)
    have CD := lid (DeleteFuncS S9 vA n9 w.heap.size (fun v => decide (v = a.wk)) w9.heap.size wA HA9.out.len HN9.out hownA hbA.size (fun w' hw' => forgetS_asks w.heap.size a w' (by
      rw [hw'.block _ (Nat.lt_of_lt_of_le (row_lt XA.out) hb9.size), h8A.block _ (row_lt XA.out)]
      exact XA.out)))
    go_wp2_with fail
    (with_reducible refine (CD.out).mono ?_); rintro e wB ⟨vB, rfl, hownB, hbB⟩
    clear CD
    have h8B := hb9.trans ((hbA.trans hbB).mono hb9.size)
    obtain ⟨aoB, cB, rfl, hSB⟩ := SA.of_own hownB (fun v hv => HA9.out.sz v (List.mem_filter.1 hv).1)
    rw [← HAG.out] at hSB
    have HSB := lid hSB
    obtain ⟨nB, hnB⟩ : ∃ y, G.length = y := ⟨_, rfl⟩
    rw [← HAG.out, hnB]
    replace HSB : Hid (SA wB aoB nB cB G) := lid (by rw [← hnB]; exact HSB.out)
    have HNB : Hid (nB ≤ 1000000) := lid (by rw [← hnB]; exact HAL.out)
    clear hownA hownB hSB hnB h8A hb9 hbA hbB HA9 HN9 HGL
    replace XA := lid ((h8B.block _ (row_lt XA.out)).trans XA.out)
    replace HA := lid (HA.out.below h8B)
    replace HB2 := lid (HB2.out.below h8B)
    replace hb0 := hb0.trans (h8B.mono hb0.size)
    replace C4 := lid (fun w' (hw' : Below wB.heap.size wB w') => C4.out w' (h8B.trans (hw'.mono h8B.size)))
    clear h8B
    have CV := lid (Vote_any r2 n2 c2 a2 a.key a.wk a.out wB (by omega) HB2.out HV3.out HA.out.wk HA.out.out)
    rw [HM2.out] at CV
    have HVE := lid HFG.out.2.2.2.2
    obtain ⟨E, hE⟩ : ∃ y, voteE (forgetB (a.bs.map Rw.bal) a.wk) a.key a.wk a.out = y := ⟨_, rfl⟩
    rw [hE] at CV HVE
    clear hE
    have p0 := row_cell XA.out 0
    have p1 := row_cell XA.out 1
    have p2 := row_cell XA.out 2
    have p3 := row_cell XA.out 3
    have p4 := row_cell XA.out 4
    have p5 := row_cell XA.out 5
    go_wp2_with fail
    (with_reducible refine (CV.out).mono ?_); rintro e wC ⟨_, a3, n3, c3, rfl, _, _, hbC⟩
    clear CV p0 p1 p2 p3 p4 p5
    replace XA := lid ((hbC.block _ (row_lt XA.out)).trans XA.out)
    replace HSB := lid (HSB.out.below hbC)
    replace hb0 := hb0.trans (hbC.mono hb0.size)
    replace C4 := lid (fun w' (hw' : Below wC.heap.size wC w') => C4.out w' (hbC.trans (hw'.mono hbC.size)))
    clear hbC
    have p0 := row_cell XA.out 0
    have p1 := row_cell XA.out 1
    have p2 := row_cell XA.out 2
    have p3 := row_cell XA.out 3
    have p4 := row_cell XA.out 4
    have p5 := row_cell XA.out 5
    go_wp2_with fail
    (with_reducible refine (C4.out _ (Below.refl _ _)).mono ?_); rintro e wD ⟨SD, aoD, nD, cD, rfl, hSD, hAD, hbD⟩
    clear C4
    have HSD := lid hSD
    have HAD := lid hAD
    clear hSD hAD p0 p1 p2 p3 p4 p5
    have CE := lid (Equal_any SD G nD cD nB cB aoD aoB wD (by rw [← HAD.out.len, HSD.out]; exact HAL.out) HNB.out HAD.out (HSB.out.below hbD))
    rw [decide_eq_true HSD.out] at CE
    go_wp2_with fail
    (with_reducible refine (CE.out).mono ?_); rintro e wE ⟨rfl, hbE⟩
    clear CE
    have hDE := hbD.trans (hbE.mono hbD.size)
    rcases HVE.out with rfl | rfl
    all_goals
      go_wp2_with fail
      (with_reducible refine (awake_any _).mono ?_); rintro e wF ⟨rfl, hbF⟩
      go_wp2_with fail
      go_ret
      exact ⟨rfl, hb0.trans ((hDE.trans (hbF.mono hDE.size)).mono hb0.size)⟩
end Go.Proofs.Ytcpnpcbaifagbaa
