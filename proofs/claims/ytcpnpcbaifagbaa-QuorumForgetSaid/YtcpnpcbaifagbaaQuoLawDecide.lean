/-
  QuorumDecide: the law's walk.
-/
import Derived.Test.YtcpnpcbaifagbaaQuoPlain2
namespace Go.Proofs.Ytcpnpcbaifagbaa
open Go.RowKit
theorem forgetB_bound {B : List Bal} {wk : ByteArray} {N M : Nat} (h1 : B.length ≤ N) (h2 : ∀ b ∈ B, b.2.length ≤ M) : (forgetB B wk).length ≤ N ∧ ∀ b ∈ forgetB B wk, b.2.length ≤ M := by
  unfold forgetB
  refine ⟨Nat.le_trans (List.length_filter_le _ _) (by rw [List.length_map]; exact h1), fun b hb => ?_⟩
  obtain ⟨x, hx, rfl⟩ := List.mem_map.1 (List.mem_filter.1 hb).1
  exact Nat.le_trans (forgetV_len _ _) (h2 x hx)

set_option maxRecDepth 100000 in
set_option maxHeartbeats 32000000 in
theorem LawDecide_any (a : Ask) (w : World) (h : AskOk w a) :
    Calls Try.prog 8 #[.agg (askc a)] w fun e w' => e = .returned (.bool true) ∧ Below w.heap.size w w' := by
  have HA := lid h
  clear h
  go_enter Try.func8, Try.ntmps8
  go_wp2_with fail
  obtain ⟨W0, hW0⟩ : ∃ y, w.alloc (.cells (askc a) 51) = y := ⟨_, rfl⟩
  rw [hW0]
  have XA : Hid (W0.heap[w.heap.size]? = some (.cells (askc a) 51 (0, 0))) := lid (by rw [← hW0]; exact heap_alloc_new _ _)
  have hb0 : Below w.heap.size w W0 := by rw [← hW0]; exact ba _ _
  clear hW0
  replace HA := lid (HA.out.below hb0)
  have CF := lid (fine_any a W0 HA.out)
  have p0 := row_cell XA.out 0
  have p1 := row_cell XA.out 1
  have p2 := row_cell XA.out 2
  have p3 := row_cell XA.out 3
  have p4 := row_cell XA.out 4
  have p5 := row_cell XA.out 5
  go_wp2_with fail
  cases hf : fineB a with
  | false =>
    rw [hf] at CF
    clear hf
    (with_reducible refine (CF.out).mono ?_); rintro e w1 ⟨rfl, hb1⟩
    clear p0 p1 p2 p3 p4 p5
    go_wp2_with fail
    (with_reducible refine (awake_any _).mono ?_); rintro e w2 ⟨rfl, hb2⟩
    have h2 := hb1.trans (hb2.mono hb1.size)
    go_wp2_with fail
    go_ret
    exact ⟨rfl, hb0.trans (h2.mono hb0.size)⟩
  | true =>
    have HF := lid (fine_yes HA.out hf)
    rw [hf] at CF
    clear hf
    (with_reducible refine (CF.out).mono ?_); rintro e w1 ⟨rfl, hb1⟩
    clear CF p0 p1 p2 p3 p4 p5
    replace XA := lid ((hb1.block _ (row_lt XA.out)).trans XA.out)
    replace HA := lid (HA.out.below hb1)
    replace hb0 := hb0.trans (hb1.mono hb0.size)
    clear hb1
    have HBO := lid (checkB_ok.1 HF.out.2.2.1)
    have HSR := lid (srtR_of HBO.out)
    have hn8 : a.n ≤ 8 := HF.out.1
    have HV1 : Hid (∀ r ∈ a.bs, r.vs.length ≤ 1000000) := lid (fun r hr => by have := HF.out.2.1 r hr; omega)
    have HV2 : Hid (∀ r ∈ a.bs, r.vs.length ≤ 100000) := lid (fun r hr => by have := HF.out.2.1 r hr; omega)
    have C1 := lid (Decide_any a.bs a.n a.cap a.ao a.key a.q w1 (by omega) HA.out.ba HV1.out HSR.out)
    have C2 := lid (fun w' (hw' : Below w1.heap.size w1 w') => refDecide_any a.bs a.n a.cap a.ao a.key a.q w' (by omega) (HA.out.ba.below hw') HV1.out)
    have C3 := lid (fun w' (hw' : Below w1.heap.size w1 w') => Missing_any a.bs a.n a.cap a.ao a.key a.q w' (by omega) (HA.out.ba.below hw') HV1.out HSR.out HA.out.q1 HA.out.q2)
    have C4 := lid (fun w' (hw' : Below w1.heap.size w1 w') => refMissing_any a.bs a.n a.cap a.ao a.key a.q w' (by omega) (HA.out.ba.below hw') HV1.out HA.out.q1 HA.out.q2)
    have C5 := lid (fun w' (hw' : Below w1.heap.size w1 w') => Against_any a.bs a.n a.cap a.ao a.key a.out w' (by omega) (HA.out.ba.below hw') HV1.out HSR.out)
    have C6 := lid (fun w' (hw' : Below w1.heap.size w1 w') => refAgainst_any a.bs a.n a.cap a.ao a.key a.out w' (by omega) (HA.out.ba.below hw') HV1.out)
    have C7 := lid (fun w' (hw' : Below w1.heap.size w1 w') => Forget_any a.bs a.n a.cap a.ao a.wk w' (by omega) (HA.out.ba.below hw') HV2.out)
    have C8 := lid (fun w' (hw' : Below w1.heap.size w1 w') => refForget_any a.bs a.n a.cap a.ao a.wk w' (by omega) (HA.out.ba.below hw') HV2.out)
    have HAL : Hid ((againstB (aboutB (a.bs.map Rw.bal) a.key) a.out).length ≤ 1000000) := lid (Nat.le_trans (against_len _ _) (about_len HV1.out))
    have HFB := lid (forgetB_bound (B := a.bs.map Rw.bal) (wk := a.wk) (N := 8) (M := 10) (by rw [List.length_map, HA.out.ba.len]; exact hn8) (fun b hb => by
      obtain ⟨r, hr, rfl⟩ := List.mem_map.1 hb
      exact HF.out.2.1 r hr))
    obtain ⟨R, hR⟩ : ∃ y, decB (aboutB (a.bs.map Rw.bal) a.key) a.q = y := ⟨_, rfl⟩
    obtain ⟨M, hM⟩ : ∃ y, missB (aboutB (a.bs.map Rw.bal) a.key) a.q = y := ⟨_, rfl⟩
    obtain ⟨G, hG⟩ : ∃ y, againstB (aboutB (a.bs.map Rw.bal) a.key) a.out = y := ⟨_, rfl⟩
    obtain ⟨Q, hQ⟩ : ∃ y, forgetB (a.bs.map Rw.bal) a.wk = y := ⟨_, rfl⟩
    rw [hR] at C1
    rw [hG] at HAL
    rw [hQ] at HFB
    replace C2 := lid (by have := C2.out; simp only [hR] at this; exact this)
    replace C3 := lid (by have := C3.out; simp only [hM] at this; exact this)
    replace C4 := lid (by have := C4.out; simp only [hM] at this; exact this)
    replace C5 := lid (by have := C5.out; simp only [hG] at this; exact this)
    replace C6 := lid (by have := C6.out; simp only [hG] at this; exact this)
    replace C7 := lid (by have := C7.out; simp only [hQ] at this; exact this)
    replace C8 := lid (by have := C8.out; simp only [hQ] at this; exact this)
    obtain ⟨Rs, Rb⟩ := R
    clear hR hM hG hQ HV1 HV2 HBO HSR
    have p0 := row_cell XA.out 0
    have p1 := row_cell XA.out 1
    have p2 := row_cell XA.out 2
    have p3 := row_cell XA.out 3
    have p4 := row_cell XA.out 4
    have p5 := row_cell XA.out 5
    go_wp2_with fail
    (with_reducible refine (C1.out).mono ?_); rintro e w2 ⟨rfl, hb2⟩
    have HX2 := lid ((hb2.block _ (row_lt XA.out)).trans XA.out)
    clear C1 p0 p1 p2 p3 p4 p5
    have p0 := row_cell HX2.out 0
    have p1 := row_cell HX2.out 1
    have p2 := row_cell HX2.out 2
    have p3 := row_cell HX2.out 3
    have p4 := row_cell HX2.out 4
    have p5 := row_cell HX2.out 5
    go_wp2_with fail
    (with_reducible refine (C2.out _ hb2).mono ?_); rintro e w3 ⟨rfl, hb3⟩
    have h3 := hb2.trans (hb3.mono hb2.size)
    have HX3 := lid ((h3.block _ (row_lt XA.out)).trans XA.out)
    have l3 := row_lt HX3.out
    have h13 := h3.size
    clear C2 p0 p1 p2 p3 p4 p5 hb2 hb3 HX2
    have p0 := row_cell HX3.out 0
    have p1 := row_cell HX3.out 1
    have p2 := row_cell HX3.out 2
    have p3 := row_cell HX3.out 3
    have p4 := row_cell HX3.out 4
    have p5 := row_cell HX3.out 5
    go_wp2_with fail
    refine wp_region_seq (fun w' => ∃ s : Since w3.heap.size w3, w' = s.world) [(0, true), (1, true), (2, true), (3, true), (4, true), (5, true), (6, true), (7, true), (8, true), (9, true), (10, true), (11, true), (12, true), (13, true), (14, true), (16, true), (17, true), (18, true), (19, true), (20, true), (21, true), (15, false), (22, false), (23, true), (24, true), (25, true), (26, true), (27, true), (28, true), (29, true), (30, true), (31, true), (33, true), (34, true), (35, true), (36, true), (37, true), (38, true), (32, false), (39, false), (40, false), (41, true), (42, true), (43, true), (44, true), (45, true), (46, true), (48, true), (49, true), (50, true), (51, true), (47, false), (52, false), (53, false), (54, true), (55, true), (56, false), (57, true), (58, false)] (by kernel_rfl) (by kernel_rfl) (by intro c d v a w h; cases d <;> exact h) (since (Below.refl _ _).drew) ?_
    repeat (first | (refine seq_skip (by rfl) (by rfl) ?_; simp only [Act.put, List.setIfInBounds_toArray, List.set_cons_succ, List.set_cons_zero]) | (refine seq_float (by rfl) (by rfl) (by rfl) ?_; intro K hK; go_big_quiet_op; go_big_quiet_on))
    refine seq_chain (by rfl) ?_
    intro K hK
    go_wp2_with fail
    (with_reducible refine (C3.out _ h3.drew).mono ?_); rintro e w4 ⟨rfl, hb4⟩
    have g4 : Below w3.heap.size w3 w4 := (Below.refl _ _).drew.trans hb4
    go_wp2_with fail
    refine hK.out _ _ (since g4) ?_
    clear hK K
    repeat (first | (refine seq_skip (by rfl) (by rfl) ?_; simp only [Act.put, List.setIfInBounds_toArray, List.set_cons_succ, List.set_cons_zero]) | (refine seq_float (by rfl) (by rfl) (by rfl) ?_; intro K hK; go_big_quiet_op; go_big_quiet_on))
    refine seq_chain (by rfl) ?_
    intro K hK
    go_wp2_with fail
    (with_reducible refine (C4.out _ (h3.trans (g4.mono h13))).mono ?_); rintro e w5 ⟨rfl, hb5⟩
    have g5 := g4.trans (hb5.mono g4.size)
    go_wp2_with fail
    refine hK.out _ _ (since g5) ?_
    clear hK K
    repeat (first | (refine seq_skip (by rfl) (by rfl) ?_; simp only [Act.put, List.setIfInBounds_toArray, List.set_cons_succ, List.set_cons_zero]) | (refine seq_float (by rfl) (by rfl) (by rfl) ?_; intro K hK; go_big_quiet_op; go_big_quiet_on))
    refine seq_chain (by rfl) ?_
    intro K hK
    go_wp2_with fail
    (with_reducible refine (C5.out _ (h3.trans (g5.mono h13))).mono ?_); rintro e w6 ⟨S6, ao6, n6, c6, rfl, hS6, hA6, hb6⟩
    have g6 := g5.trans (hb6.mono g5.size)
    have HS6 := lid hS6
    have HA6 := lid hA6
    clear hS6 hA6
    go_wp2_with fail
    refine hK.out _ _ (since g6) ?_
    clear hK K
    repeat (first | (refine seq_skip (by rfl) (by rfl) ?_; simp only [Act.put, List.setIfInBounds_toArray, List.set_cons_succ, List.set_cons_zero]) | (refine seq_float (by rfl) (by rfl) (by rfl) ?_; intro K hK; go_big_quiet_op; go_big_quiet_on))
    refine seq_chain (by rfl) ?_
    intro K hK
    go_wp2_with fail
    (with_reducible refine (C6.out _ (h3.trans (g6.mono h13))).mono ?_); rintro e w7 ⟨S7, ao7, n7, c7, rfl, hS7, hA7, hb7⟩
    have g7 := g6.trans (hb7.mono g6.size)
    have HS7 := lid hS7
    have HA7 := lid hA7
    have HA6' := lid (HA6.out.below hb7)
    clear hS7 hA7
    have CE := lid (Equal_any S6 S7 n6 c6 n7 c7 ao6 ao7 w7 (by rw [← HA6.out.len, HS6.out]; exact HAL.out) (by rw [← HA7.out.len, HS7.out]; exact HAL.out) HA6'.out HA7.out)
    rw [decide_eq_true (HS6.out.trans HS7.out.symm)] at CE
    go_wp2_with fail
    refine hK.out _ _ (since g7) ?_
    clear hK K
    repeat (first | (refine seq_skip (by rfl) (by rfl) ?_; simp only [Act.put, List.setIfInBounds_toArray, List.set_cons_succ, List.set_cons_zero]) | (refine seq_float (by rfl) (by rfl) (by rfl) ?_; intro K hK; go_big_quiet_op; go_big_quiet_on))
    refine seq_chain (by rfl) ?_
    intro K hK
    go_wp2_with fail
    (with_reducible refine (CE.out).mono ?_); rintro e w8 ⟨rfl, hb8⟩
    have g8 := g7.trans (hb8.mono g7.size)
    clear CE
    go_wp2_with fail
    refine hK.out _ _ (since g8) ?_
    clear hK K
    repeat (first | (refine seq_skip (by rfl) (by rfl) ?_; simp only [Act.put, List.setIfInBounds_toArray, List.set_cons_succ, List.set_cons_zero]) | (refine seq_float (by rfl) (by rfl) (by rfl) ?_; intro K hK; go_big_quiet_op; go_big_quiet_on))
    refine seq_chain (by rfl) ?_
    intro K hK
    go_wp2_with fail
    (with_reducible refine (C7.out _ (h3.trans (g8.mono h13))).mono ?_); rintro e w9 ⟨r9, ao9, n9, c9, rfl, hS9, hA9, hb9⟩
    have g9 := g8.trans (hb9.mono g8.size)
    have HS9 := lid hS9
    have HA9 := lid hA9
    have HN9 := lid (rows_bound hA9 hS9 HFB.out.1 HFB.out.2)
    clear hS9 hA9
    go_wp2_with fail
    refine hK.out _ _ (since g9) ?_
    clear hK K
    repeat (first | (refine seq_skip (by rfl) (by rfl) ?_; simp only [Act.put, List.setIfInBounds_toArray, List.set_cons_succ, List.set_cons_zero]) | (refine seq_float (by rfl) (by rfl) (by rfl) ?_; intro K hK; go_big_quiet_op; go_big_quiet_on))
    refine seq_chain (by rfl) ?_
    intro K hK
    go_wp2_with fail
    (with_reducible refine (C8.out _ (h3.trans (g9.mono h13))).mono ?_); rintro e wA ⟨rA, aoA, nA, cA, rfl, hSA, hAA, hbA⟩
    have gA := g9.trans (hbA.mono g9.size)
    have HSA := lid hSA
    have HAA := lid hAA
    have HNA := lid (rows_bound hAA hSA HFB.out.1 HFB.out.2)
    replace HA9 := lid (HA9.out.below hbA)
    clear hSA hAA
    have CS := lid (refSame_any r9 rA n9 c9 nA cA ao9 aoA wA (by have := HN9.out.1; omega) (by have := HNA.out.1; omega) HA9.out HAA.out (fun r hr => by have := HN9.out.2 r hr; omega) (fun r hr => by have := HNA.out.2 r hr; omega))
    rw [decide_eq_true (HS9.out.trans HSA.out.symm)] at CS
    go_wp2_with fail
    refine hK.out _ _ (since gA) ?_
    clear hK K
    repeat (first | (refine seq_skip (by rfl) (by rfl) ?_; simp only [Act.put, List.setIfInBounds_toArray, List.set_cons_succ, List.set_cons_zero]) | (refine seq_float (by rfl) (by rfl) (by rfl) ?_; intro K hK; go_big_quiet_op; go_big_quiet_on))
    refine seq_chain (by rfl) ?_
    intro K hK
    go_wp2_with fail
    (with_reducible refine (CS.out).mono ?_); rintro e wB ⟨rfl, hbB⟩
    have gB := gA.trans (hbB.mono gA.size)
    clear CS
    go_wp2_with fail
    refine hK.out _ _ (since gB) ?_
    clear hK K
    repeat (first | (refine seq_skip (by rfl) (by rfl) ?_; simp only [Act.put, List.setIfInBounds_toArray, List.set_cons_succ, List.set_cons_zero]) | (refine seq_float (by rfl) (by rfl) (by rfl) ?_; intro K hK; go_big_quiet_op; go_big_quiet_on))
    refine seq_chain (by rfl) ?_
    intro K hK
    go_wp2_with fail
    (with_reducible refine (awake_any _).mono ?_); rintro e wC ⟨rfl, hbC⟩
    have gC := gB.trans (hbC.mono gB.size)
    go_wp2_with fail
    refine hK.out _ _ (since gC) ?_
    clear hK K
    repeat (first | (refine seq_skip (by rfl) (by rfl) ?_; simp only [Act.put, List.setIfInBounds_toArray, List.set_cons_succ, List.set_cons_zero]) | (refine seq_float (by rfl) (by rfl) (by rfl) ?_; intro K hK; go_big_quiet_op; go_big_quiet_on))
    refine seq_chain (by rfl) ?_
    intro K hK
    go_wp2_with fail
    refine hK.out _ _ (since gC) ?_
    clear hK K
    repeat (first | (refine seq_skip (by rfl) (by rfl) ?_; simp only [Act.put, List.setIfInBounds_toArray, List.set_cons_succ, List.set_cons_zero]) | (refine seq_float (by rfl) (by rfl) (by rfl) ?_; intro K hK; go_big_quiet_op; go_big_quiet_on))
    refine seq_nil ?_
    go_wp2_with fail
    go_ret
    exact ⟨rfl, hb0.trans ((h3.trans (gC.mono h13)).mono hb0.size)⟩
end Go.Proofs.Ytcpnpcbaifagbaa
