/-
  QuorumOnce: the law's walk.
-/
import Derived.Test.YtcpnpcbaifagbaaQuoLawDecide
import Derived.Test.YtcpnpcbaifagbaaQuoLawLiars
import Derived.Test.YtcpnpcbaifagbaaQuoPlain3
namespace Go.Proofs.Ytcpnpcbaifagbaa
open Go.RowKit
set_option maxRecDepth 100000 in
set_option maxHeartbeats 32000000 in
theorem LawOnce_any (a : Ask) (s : ByteArray) (k : Dg) (w : World) (h : AskOk w a) (hs : s.size ≤ maxLen) :
    Calls Try.prog 7 #[.agg (askc a), .string s, dv k] w fun e w' => e = .returned (.bool true) ∧ Below w.heap.size w w' := by
  have HA := lid h
  have hss : s.size ≤ 9223372036854775807 := hs
  have HSM := lid hs
  clear h hs
  unfold dv
  go_enter Try.func7, Try.ntmps7
  go_wp2_with fail
  obtain ⟨W1, hW1⟩ : ∃ y, w.alloc (.cells (askc a) 51) = y := ⟨_, rfl⟩
  obtain ⟨W0, hW0⟩ : ∃ y, W1.alloc (.cells #[.int .u64 k.1.toNat, .int .u64 k.2.toNat] 25) = y := ⟨_, rfl⟩
  have hz1 : W1.heap.size = w.heap.size + 1 := by rw [← hW1]; simp
  rw [hW1, hW0]
  have KB : Hid (W0.heap[w.heap.size + 1]? = some (.cells #[.int .u64 k.1.toNat, .int .u64 k.2.toNat] 25 (0, 0))) := lid (by rw [← hW0, ← hz1]; exact heap_alloc_new _ _)
  have hb1 : Below w.heap.size w W1 := by rw [← hW1]; exact ba _ _
  have hb2 : Below W1.heap.size W1 W0 := by rw [← hW0]; exact ba _ _
  have XA : Hid (W0.heap[w.heap.size]? = some (.cells (askc a) 51 (0, 0))) := lid ((hb2.block _ (by omega)).trans (by rw [← hW1]; exact heap_alloc_new _ _))
  have hb0 : Below w.heap.size w W0 := hb1.trans (hb2.mono hb1.size)
  clear hW0 hW1 hb1 hb2 hz1 W1
  replace HA := lid (HA.out.below hb0)
  have CF := lid (fine_any a W0 HA.out)
  have p0 := row_cell XA.out 0
  have p1 := row_cell XA.out 1
  have p2 := row_cell XA.out 2
  have p3 := row_cell XA.out 3
  have p4 := row_cell XA.out 4
  have p5 := row_cell XA.out 5
  go_wp2_with fail
  cases hf : fineB a with
  | false =>
    rw [hf] at CF
    clear hf
    (with_reducible refine (CF.out).mono ?_); rintro e w1 ⟨rfl, hb1⟩
    clear p0 p1 p2 p3 p4 p5
    go_wp2_with fail
    (with_reducible refine (awake_any _).mono ?_); rintro e w2 ⟨rfl, hb2⟩
    have h2 := hb1.trans (hb2.mono hb1.size)
    go_wp2_with fail
    go_ret
    exact ⟨rfl, hb0.trans (h2.mono hb0.size)⟩
  | true =>
    have HF := lid (fine_yes HA.out hf)
    rw [hf] at CF
    clear hf
    (with_reducible refine (CF.out).mono ?_); rintro e w1 ⟨rfl, hb1⟩
    clear CF p0 p1 p2 p3 p4 p5
    replace XA := lid ((hb1.block _ (row_lt XA.out)).trans XA.out)
    replace KB := lid ((hb1.block _ (row_lt KB.out)).trans KB.out)
    replace HA := lid (HA.out.below hb1)
    replace hb0 := hb0.trans (hb1.mono hb0.size)
    clear hb1
    by_cases h60 : 60 < s.size
    · have d60 : decide ((60 : Int) < (s.size : Int)) = true := by simp; omega
      clear h60
      go_wp2_with fail
      (with_reducible refine (awake_any _).mono ?_); rintro e w2 ⟨rfl, hb2⟩
      go_wp2_with fail
      go_ret
      exact ⟨rfl, hb0.trans (hb2.mono hb0.size)⟩
    have d60 : decide ((60 : Int) < (s.size : Int)) = false := by simp; omega
    have hs60 : ¬ 65536 < s.size := by omega
    clear h60
    have HBO := lid (checkB_ok.1 HF.out.2.2.1)
    have HSR := lid (srtR_of HBO.out)
    have hn8 : a.n ≤ 8 := HF.out.1
    have HV1 : Hid (∀ r ∈ a.bs, r.vs.length ≤ 1000000) := lid (fun r hr => by have := HF.out.2.1 r hr; omega)
    have HV2 : Hid (∀ r ∈ a.bs, r.vs.length ≤ 100000) := lid (fun r hr => by have := HF.out.2.1 r hr; omega)
    have HVB := lid (voteL_bound (B := a.bs.map Rw.bal) (k := a.key) (wk := a.wk) (o := a.out) (N := 8) (M := 10) (by rw [List.length_map, HA.out.ba.len]; exact hn8) (fun b hb => by
      obtain ⟨r, hr, rfl⟩ := List.mem_map.1 hb
      exact HF.out.2.1 r hr))
    have HON := lid (fun e => once (B := a.bs.map Rw.bal) (k := a.key) (wk := a.wk) (o := a.out) (s := s) e hs60)
    have C1 := lid (Vote_any a.bs a.n a.cap a.ao a.key a.wk a.out w1 (by omega) HA.out.ba HV2.out HA.out.wk HA.out.out)
    obtain ⟨E, hE⟩ : ∃ y, voteE (a.bs.map Rw.bal) a.key a.wk a.out = y := ⟨_, rfl⟩
    obtain ⟨VL, hVL⟩ : ∃ y, voteL (a.bs.map Rw.bal) a.key a.wk a.out = y := ⟨_, rfl⟩
    rw [hE, hVL] at C1 HON
    rw [hVL] at HVB
    clear hE hVL hs60
    have p0 := row_cell XA.out 0
    have p1 := row_cell XA.out 1
    have p2 := row_cell XA.out 2
    have p3 := row_cell XA.out 3
    have p4 := row_cell XA.out 4
    have p5 := row_cell XA.out 5
    go_wp2_with fail
    (with_reducible refine (C1.out).mono ?_); rintro e w2 ⟨r2, a2, n2, c2, rfl, hB2, hM2, hb2⟩
    clear C1 p0 p1 p2 p3 p4 p5
    have HB2 := lid hB2
    have HM2 := lid hM2
    have HN2 := lid (rows_bound hB2 hM2 HVB.out.1 HVB.out.2)
    clear hB2 hM2
    replace XA := lid ((hb2.block _ (row_lt XA.out)).trans XA.out)
    replace KB := lid ((hb2.block _ (row_lt KB.out)).trans KB.out)
    replace HA := lid (HA.out.below hb2)
    replace hb0 := hb0.trans (hb2.mono hb0.size)
    clear hb2
    by_cases hE0 : E = 0
    case neg =>
      have dE : (E == 0) = false := by simpa using hE0
      clear hE0
      go_wp2_with fail
      (with_reducible refine (awake_any _).mono ?_); rintro e w3 ⟨rfl, hb3⟩
      go_wp2_with fail
      go_ret
      exact ⟨rfl, hb0.trans (hb3.mono hb0.size)⟩
    replace HON := lid (HON.out hE0)
    subst hE0
    have hn2 : n2 ≤ 9 := HN2.out.1
    have HV3 : Hid (∀ r ∈ r2, r.vs.length ≤ 1000000) := lid (fun r hr => by have := HN2.out.2 r hr; omega)
    have HS2 : Hid (SrtR r2) := lid (srtR_of (by rw [HM2.out]; exact checkB_ok.1 HON.out.2.1))
    have C2 : Hid (Calls Try.prog 12 #[.slice a2 n2 c2, dv a.key, .string a.wk, .string s] w2 fun e w' => ∃ (l' : List Rw) (ao' : Option Addr) (n' cap' : Nat), e = .returned (.tuple #[.slice ao' n' cap', .int .i64 7]) ∧ Below w2.heap.size w2 w') := lid (by
      refine (Vote_any r2 n2 c2 a2 a.key a.wk s w2 (by omega) HB2.out (fun r hr => by have := HN2.out.2 r hr; omega) HA.out.wk HSM.out).mono ?_
      rintro e w' ⟨l', ao', n', cap', rfl, _, _, hb⟩
      exact ⟨l', ao', n', cap', by rw [HM2.out, HON.out.1], hb⟩)
    have p0 := row_cell XA.out 0
    have p1 := row_cell XA.out 1
    have p2 := row_cell XA.out 2
    have p3 := row_cell XA.out 3
    have p4 := row_cell XA.out 4
    have p5 := row_cell XA.out 5
    go_wp2_with fail
    (with_reducible refine (C2.out).mono ?_); rintro e w3 ⟨_, a3, n3, c3, rfl, hb3⟩
    clear C2 p0 p1 p2 p3 p4 p5
    replace XA := lid ((hb3.block _ (row_lt XA.out)).trans XA.out)
    replace KB := lid ((hb3.block _ (row_lt KB.out)).trans KB.out)
    replace HA := lid (HA.out.below hb3)
    replace HB2 := lid (HB2.out.below hb3)
    replace hb0 := hb0.trans (hb3.mono hb0.size)
    clear hb3
    have C3 : Hid (∀ w', Below w3.heap.size w3 w' → Calls Try.prog 14 #[.slice a2 n2 c2] w' fun e w'' => e = .returned (.int .i64 0) ∧ Below w'.heap.size w' w'') := lid (fun w' hw' => by
      have := Check_any r2 n2 c2 a2 w' (by omega) (HB2.out.below hw') HV3.out
      rw [HM2.out, HON.out.2.1] at this
      exact this)
    have C4 := lid (fun w' (hw' : Below w3.heap.size w3 w') => Against_any r2 n2 c2 a2 a.key a.out w' (by omega) (HB2.out.below hw') HV3.out HS2.out)
    have HIN : Hid (inS (againstB (aboutB (r2.map Rw.bal) a.key) a.out) a.wk = false) := lid (by rw [HM2.out]; exact HON.out.2.2.1)
    have HAL : Hid ((againstB (aboutB (r2.map Rw.bal) a.key) a.out).length ≤ 1000000) := lid (Nat.le_trans (against_len _ _) (about_len HV3.out))
    obtain ⟨G, hG⟩ : ∃ y, againstB (aboutB (r2.map Rw.bal) a.key) a.out = y := ⟨_, rfl⟩
    rw [hG] at HIN HAL
    replace C4 := lid (by have := C4.out; simp only [hG] at this; exact this)
    clear hG
    have p0 := row_cell XA.out 0
    have p1 := row_cell XA.out 1
    have p2 := row_cell XA.out 2
    have p3 := row_cell XA.out 3
    have p4 := row_cell XA.out 4
    have p5 := row_cell XA.out 5
    have lX : w.heap.size < w3.heap.size := row_lt XA.out
    have h13 := hb0.size
    go_wp2_with fail
    refine wp_region_seq (fun w' => ∃ s : Since w3.heap.size w3, w' = s.world) [(0, true), (1, true), (2, true), (3, true), (4, false), (5, true), (6, true), (7, true), (8, true), (9, true), (10, true), (11, true), (12, true), (14, true), (15, true), (13, false), (16, false), (17, true)] (by kernel_rfl) (by kernel_rfl) (by intro c d v a w h; cases d <;> exact h) (since (Below.refl _ _).drew) ?_
    repeat (first | (refine seq_skip (by rfl) (by rfl) ?_; simp only [Act.put, List.setIfInBounds_toArray, List.set_cons_succ, List.set_cons_zero]) | (refine seq_float (by rfl) (by rfl) (by rfl) ?_; intro K hK; go_big_quiet_op; go_big_quiet_on))
    refine seq_chain (by rfl) ?_
    intro K hK
    go_wp2_with fail
    (with_reducible refine (C3.out _ (Below.refl _ _).drew).mono ?_); rintro e w4 ⟨rfl, hb4⟩
    have g4 : Below w3.heap.size w3 w4 := (Below.refl _ _).drew.trans hb4
    go_wp2_with fail
    refine hK.out _ _ (since g4) ?_
    clear hK K
    repeat (first | (refine seq_skip (by rfl) (by rfl) ?_; simp only [Act.put, List.setIfInBounds_toArray, List.set_cons_succ, List.set_cons_zero]) | (refine seq_float (by rfl) (by rfl) (by rfl) ?_; intro K hK; go_big_quiet_op; go_big_quiet_on))
    refine seq_chain (by rfl) ?_
    intro K hK
    go_wp2_with fail
    (with_reducible refine (C4.out _ g4).mono ?_); rintro e w5 ⟨S5, ao5, n5, c5, rfl, hS5, hA5, hb5⟩
    have g5 := g4.trans (hb5.mono g4.size)
    have HS5 := lid hS5
    have HA5 := lid hA5
    clear hS5 hA5
    go_wp2_with fail
    refine hK.out _ _ (since g5) ?_
    clear hK K
    repeat (first | (refine seq_skip (by rfl) (by rfl) ?_; simp only [Act.put, List.setIfInBounds_toArray, List.set_cons_succ, List.set_cons_zero]) | (refine seq_float (by rfl) (by rfl) (by rfl) ?_; intro K hK; go_big_quiet_op; go_big_quiet_on))
    refine seq_chain (by rfl) ?_
    intro K hK
    go_wp2_with fail
    have CC := lid (Contains_any S5 n5 c5 ao5 a.wk w5 (by rw [← HA5.out.len, HS5.out]; exact HAL.out) HA5.out)
    rw [HS5.out, HIN.out] at CC
    (with_reducible refine (CC.out).mono ?_); rintro e w6 ⟨rfl, rfl⟩
    clear CC
    go_wp2_with fail
    refine hK.out _ _ (since g5) ?_
    clear hK K
    repeat (first | (refine seq_skip (by rfl) (by rfl) ?_; simp only [Act.put, List.setIfInBounds_toArray, List.set_cons_succ, List.set_cons_zero]) | (refine seq_float (by rfl) (by rfl) (by rfl) ?_; intro K hK; go_big_quiet_op; go_big_quiet_on))
    refine seq_nil ?_
    clear p0 p1 p2 p3 p4 p5 C3 C4 HIN HAL HS5 HA5 hb4 hb5 g4 lX h13
    replace XA := lid ((g5.block _ (row_lt XA.out)).trans XA.out)
    replace KB := lid ((g5.block _ (row_lt KB.out)).trans KB.out)
    replace HA := lid (HA.out.below g5)
    replace HB2 := lid (HB2.out.below g5)
    replace hb0 := hb0.trans (g5.mono hb0.size)
    clear g5
    have p0 := row_cell XA.out 0
    have p1 := row_cell XA.out 1
    have p2 := row_cell XA.out 2
    have p3 := row_cell XA.out 3
    have p4 := row_cell XA.out 4
    have p5 := row_cell XA.out 5
    have q0 := row_cell KB.out 0
    have q1 := row_cell KB.out 1
    by_cases hk : k = a.key
    · have dk : (((k.1.toNat : Int) == (a.key.1.toNat : Int)) && ((k.2.toNat : Int) == (a.key.2.toNat : Int))) = true := by rw [dg_beq]; simpa using hk
      clear hk
      go_wp2_with fail
      (with_reducible refine (awake_any _).mono ?_); rintro e w7 ⟨rfl, hb7⟩
      go_wp2_with fail
      go_ret
      exact ⟨rfl, hb0.trans (hb7.mono hb0.size)⟩
    have dk : (((k.1.toNat : Int) == (a.key.1.toNat : Int)) && ((k.2.toNat : Int) == (a.key.2.toNat : Int))) = false := by rw [dg_beq]; simpa using hk
    have HKO : Hid (aboutB (r2.map Rw.bal) k = aboutB (a.bs.map Rw.bal) k) := lid (by rw [HM2.out]; exact HON.out.2.2.2 k hk)
    clear hk
    have D1 := lid (Decide_any r2 n2 c2 a2 k a.q w5 (by omega) HB2.out HV3.out HS2.out)
    have D2 := lid (fun w' (hw' : Below w5.heap.size w5 w') => Decide_any a.bs a.n a.cap a.ao k a.q w' (by omega) (HA.out.ba.below hw') HV1.out HSR.out)
    have D3 := lid (fun w' (hw' : Below w5.heap.size w5 w') => Against_any r2 n2 c2 a2 k a.out w' (by omega) (HB2.out.below hw') HV3.out HS2.out)
    have D4 := lid (fun w' (hw' : Below w5.heap.size w5 w') => Against_any a.bs a.n a.cap a.ao k a.out w' (by omega) (HA.out.ba.below hw') HV1.out HSR.out)
    have HAL : Hid ((againstB (aboutB (a.bs.map Rw.bal) k) a.out).length ≤ 1000000) := lid (Nat.le_trans (against_len _ _) (about_len HV1.out))
    rw [HKO.out] at D1
    replace D3 := lid (by have := D3.out; simp only [HKO.out] at this; exact this)
    obtain ⟨R, hR⟩ : ∃ y, decB (aboutB (a.bs.map Rw.bal) k) a.q = y := ⟨_, rfl⟩
    obtain ⟨G, hG⟩ : ∃ y, againstB (aboutB (a.bs.map Rw.bal) k) a.out = y := ⟨_, rfl⟩
    rw [hR] at D1
    rw [hG] at HAL
    replace D2 := lid (by have := D2.out; simp only [hR] at this; exact this)
    replace D3 := lid (by have := D3.out; simp only [hG] at this; exact this)
    replace D4 := lid (by have := D4.out; simp only [hG] at this; exact this)
    clear hR hG
    obtain ⟨Rs, Rb⟩ := R
    go_wp2_with fail
    (with_reducible refine (D1.out).mono ?_); rintro e w6 ⟨rfl, hb6⟩
    have HX6 := lid ((hb6.block _ (row_lt XA.out)).trans XA.out)
    have HK6 := lid ((hb6.block _ (row_lt KB.out)).trans KB.out)
    clear D1 p0 p1 p2 p3 p4 p5 q0 q1
    have p0 := row_cell HX6.out 0
    have p1 := row_cell HX6.out 1
    have p2 := row_cell HX6.out 2
    have p3 := row_cell HX6.out 3
    have p4 := row_cell HX6.out 4
    have p5 := row_cell HX6.out 5
    have q0 := row_cell HK6.out 0
    have q1 := row_cell HK6.out 1
    go_wp2_with fail
    (with_reducible refine (D2.out _ hb6).mono ?_); rintro e w7 ⟨rfl, hb7⟩
    have h7 := hb6.trans (hb7.mono hb6.size)
    have HX7 := lid ((h7.block _ (row_lt XA.out)).trans XA.out)
    have HK7 := lid ((h7.block _ (row_lt KB.out)).trans KB.out)
    have l7 := row_lt HX7.out
    have m7 := row_lt HK7.out
    have h57 := h7.size
    clear D2 p0 p1 p2 p3 p4 p5 q0 q1 HX6 HK6 hb6 hb7
    have p0 := row_cell HX7.out 0
    have p1 := row_cell HX7.out 1
    have p2 := row_cell HX7.out 2
    have p3 := row_cell HX7.out 3
    have p4 := row_cell HX7.out 4
    have p5 := row_cell HX7.out 5
    have q0 := row_cell HK7.out 0
    have q1 := row_cell HK7.out 1
    go_wp2_with fail
    refine wp_region_seq (fun w' => ∃ s : Since w7.heap.size w7, w' = s.world) [(0, true), (1, true), (2, true), (3, true), (4, true), (5, true), (6, true), (7, true), (8, true), (9, true), (10, true), (11, true), (12, true), (14, true), (15, true), (16, true), (17, true), (18, true), (13, false), (19, false), (20, false), (21, true), (22, true)] (by kernel_rfl) (by kernel_rfl) (by intro c d v a w h; cases d <;> exact h) (since (Below.refl _ _).drew) ?_
    repeat (first | (refine seq_skip (by rfl) (by rfl) ?_; simp only [Act.put, List.setIfInBounds_toArray, List.set_cons_succ, List.set_cons_zero]) | (refine seq_float (by rfl) (by rfl) (by rfl) ?_; intro K hK; go_big_quiet_op; go_big_quiet_on))
    refine seq_chain (by rfl) ?_
    intro K hK
    go_wp2_with fail
    (with_reducible refine (D3.out _ h7.drew).mono ?_); rintro e w8 ⟨S8, ao8, n8, c8, rfl, hS8, hA8, hb8⟩
    have g8 : Below w7.heap.size w7 w8 := (Below.refl _ _).drew.trans hb8
    have HS8 := lid hS8
    have HA8 := lid hA8
    clear hS8 hA8
    go_wp2_with fail
    refine hK.out _ _ (since g8) ?_
    clear hK K
    repeat (first | (refine seq_skip (by rfl) (by rfl) ?_; simp only [Act.put, List.setIfInBounds_toArray, List.set_cons_succ, List.set_cons_zero]) | (refine seq_float (by rfl) (by rfl) (by rfl) ?_; intro K hK; go_big_quiet_op; go_big_quiet_on))
    refine seq_chain (by rfl) ?_
    intro K hK
    go_wp2_with fail
    (with_reducible refine (D4.out _ (h7.trans (g8.mono h57))).mono ?_); rintro e w9 ⟨S9, ao9, n9, c9, rfl, hS9, hA9, hb9⟩
    have g9 := g8.trans (hb9.mono g8.size)
    have HS9 := lid hS9
    have HA9 := lid hA9
    have HA8' := lid (HA8.out.below hb9)
    clear hS9 hA9
    go_wp2_with fail
    refine hK.out _ _ (since g9) ?_
    clear hK K
    repeat (first | (refine seq_skip (by rfl) (by rfl) ?_; simp only [Act.put, List.setIfInBounds_toArray, List.set_cons_succ, List.set_cons_zero]) | (refine seq_float (by rfl) (by rfl) (by rfl) ?_; intro K hK; go_big_quiet_op; go_big_quiet_on))
    refine seq_chain (by rfl) ?_
    intro K hK
    go_wp2_with fail
    have CE := lid (Equal_any S8 S9 n8 c8 n9 c9 ao8 ao9 w9 (by rw [← HA8.out.len, HS8.out]; exact HAL.out) (by rw [← HA9.out.len, HS9.out]; exact HAL.out) HA8'.out HA9.out)
    rw [decide_eq_true (HS8.out.trans HS9.out.symm)] at CE
    (with_reducible refine (CE.out).mono ?_); rintro e wA ⟨rfl, hbA⟩
    have gA := g9.trans (hbA.mono g9.size)
    clear CE
    go_wp2_with fail
    refine hK.out _ _ (since gA) ?_
    clear hK K
    repeat (first | (refine seq_skip (by rfl) (by rfl) ?_; simp only [Act.put, List.setIfInBounds_toArray, List.set_cons_succ, List.set_cons_zero]) | (refine seq_float (by rfl) (by rfl) (by rfl) ?_; intro K hK; go_big_quiet_op; go_big_quiet_on))
    refine seq_nil ?_
    go_wp2_with fail
    (with_reducible refine (awake_any _).mono ?_); rintro e wB ⟨rfl, hbB⟩
    have gB := gA.trans (hbB.mono gA.size)
    go_wp2_with fail
    go_ret
    exact ⟨rfl, hb0.trans ((h7.trans (gB.mono h57)).mono hb0.size)⟩
end Go.Proofs.Ytcpnpcbaifagbaa
