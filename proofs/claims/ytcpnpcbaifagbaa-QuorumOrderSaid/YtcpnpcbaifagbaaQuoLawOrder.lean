/-
  QuorumOrder: the law's walk.
-/
import Derived.Test.YtcpnpcbaifagbaaQuoSeen
import Derived.Test.YtcpnpcbaifagbaaQuoRev
import Derived.Test.YtcpnpcbaifagbaaQuoLawLiars
namespace Go.Proofs.Ytcpnpcbaifagbaa
open Go.RowKit
theorem seen_snoc {l : List Vt} {i : Nat} (hi : i < l.length) (h : (l.take i).Pairwise fun a b => a.1 ≠ b.1) (hn : hasS (l[i]).1 ((l.take i).map (·.1)) = false) : (l.take (i + 1)).Pairwise fun a b => a.1 ≠ b.1 := by
  rw [List.take_succ_eq_append_getElem hi, List.pairwise_append]
  refine ⟨h, by simp, fun a ha b hb => ?_⟩
  rw [List.mem_singleton.1 hb]
  exact hasS_no hn _ (List.mem_map.2 ⟨a, ha, rfl⟩)
theorem votes_rev {l : List Vt} (k : Dg) (h : l.Pairwise fun a b => a.1 ≠ b.1) : votesL k l = votesL k l.reverse :=
  votes_turn h (List.pairwise_reverse.2 (h.imp fun e => e.symm)) (fun _ => List.mem_reverse.symm)
set_option maxRecDepth 100000 in
set_option maxHeartbeats 16000000 in
theorem LawOrder_any (l : List Vt) (n cap : Nat) (ao : Option Addr) (k : Dg) (w : World) (h : VA w ao n cap l) :
    Calls Try.prog 4 #[dv k, .slice ao n cap] w fun e w' => e = .returned (.bool true) ∧ Below w.heap.size w w' := by
  have HVA := lid h
  clear h
  unfold dv
  have hmm := @run_makeMap Try.prog
  go_enter Try.func4, Try.ntmps4
  go_wp2_with fail
  obtain ⟨W0, hW0⟩ : ∃ y, w.alloc (.cells #[.int .u64 k.1.toNat, .int .u64 k.2.toNat] 25) = y := ⟨_, rfl⟩
  rw [hW0]
  have KB : Hid (W0.heap[w.heap.size]? = some (.cells #[.int .u64 k.1.toNat, .int .u64 k.2.toNat] 25 (0, 0))) := lid (by rw [← hW0]; exact heap_alloc_new _ _)
  have hb0 : Below w.heap.size w W0 := by rw [← hW0]; exact ba _ _
  clear hW0
  replace HVA := lid (HVA.out.below hb0)
  have CF := lid (few_any l n cap ao W0 HVA.out)
  cases hf : fewB l with
  | false =>
    rw [hf] at CF
    clear hf
    (with_reducible refine (CF.out).mono ?_); rintro e w1 ⟨rfl, hb1⟩
    go_wp2_with fail
    (with_reducible refine (awake_any _).mono ?_); rintro e w2 ⟨rfl, hb2⟩
    have h2 := hb1.trans (hb2.mono hb1.size)
    go_wp2_with fail
    go_ret
    exact ⟨rfl, hb0.trans (h2.mono hb0.size)⟩
  | true =>
    have HF := lid (few_yes hf)
    rw [hf] at CF
    clear hf
    have hn10 : n ≤ 10 := by rw [← HVA.out.len]; exact HF.out.1
    (with_reducible refine (CF.out).mono ?_); rintro e w1 ⟨rfl, hb1⟩
    clear CF
    replace KB := lid ((hb1.block _ (row_lt KB.out)).trans KB.out)
    replace HVA := lid (HVA.out.below hb1)
    replace hb0 := hb0.trans (hb1.mono hb0.size)
    clear hb1
    have HM := lid (World.ownsMap_made (H := Unit) w1 Try.prog 9 (plainElem Try.prog 4))
    have HN := lid HVA.out.len
    go_wp2_with fail
    go_loopw [7, 16] (fun _ i wr => ∃ (j : Nat), j ≤ n ∧ i = .int .i64 j ∧ Hid (OwnSet wr w1.heap.size j ((l.take j).map (·.1))) ∧ Hid ((l.take j).Pairwise fun a b => a.1 ≠ b.1) ∧ Below w1.heap.size w1 wr) (fun _ i _ => n - (intOf i).toNat)
    case atStart => exact ⟨0, Nat.zero_le _, rfl, HM, lid (by simp), ba _ _⟩
    case round =>
      obtain ⟨j, hj, rfl, HO, HP, hb⟩ := hrel
      by_cases hlt : j < n
      · have hkl : j < l.length := by rw [HN.out]; exact hlt
        have HVb := lid (HVA.out.below hb)
        obtain ⟨b1, o1, rfl, hlb, hcell⟩ := HVb.out.sl.at_ hlt
        have x0 := hcell (j * 2 + 0) _ (vcells_at hkl).1
        have x1 := hcell (j * 2 + 1) _ (vcells_at hkl).2
        rw [← Nat.add_assoc] at x1
        rw [Nat.add_zero] at x0
        have HT : Hid ((l.take (j + 1)).map (·.1) = (l.take j).map (·.1) ++ [(l[j]).1]) := lid (by rw [List.take_succ_eq_append_getElem hkl, List.map_append]; rfl)
        have HPS := lid (fun e => seen_snoc hkl HP.out e)
        have HSZ := lid (HVA.out.sz _ (List.getElem_mem hkl)).1
        have dk : decide ((j : Int) < (n : Int)) = true := by simp; omega
        obtain ⟨x, hx⟩ : ∃ x, l[j] = x := ⟨_, rfl⟩
        rw [hx] at x0 x1 HT HSZ HPS
        obtain ⟨q, hq⟩ : ∃ q, hasS x.1 ((l.take j).map (·.1)) = q := ⟨_, rfl⟩
        have HL := lid (fun (W : World) (h : OwnSet W w1.heap.size j ((l.take j).map (·.1))) => h.look x.1 HSZ.out)
        rw [hq] at HL HPS
        clear hcell hx hq HVb
        cases q with
        | true =>
          go_wp2_with (at_lookup; go_must (refine wpList_look _ rfl _ _ 38 rfl _ _ _ rfl rfl (HL.out _ (HO.out.alloc _)) ?_))
          (with_reducible refine (awake_any _).mono ?_); rintro e w2 ⟨rfl, hb2⟩
          have h2 := (hb.alloc hb.size (.cells (vtc x) 27)).trans (hb2.mono (by have := hb.size; simp; omega))
          go_wp2_with fail
          go_ret
          exact ⟨rfl, hb0.trans (h2.mono hb0.size)⟩
        | false =>
          go_wp2_with (first | (at_lookup; go_must (refine wpList_look _ rfl _ _ 38 rfl _ _ _ rfl rfl (HL.out _ (HO.out.alloc _)) ?_)) | (at_mapUpdate; go_must (refine wpList_mapUpdate_own _ rfl _ _ _ 38 rfl 9 4 kstr Try.underlying38 (plainElem Try.prog 4) w1.heap.size j _ rfl (HO.out.alloc _) (by simp only [maxLen]; omega) _ _ (keyS x.1) rfl rfl (key_of HSZ.out) (.lit (.bool true)) [] (plainElem_bool Try.underlying4 true) ?_)))
          intro w3 hown3 hg3
          have HO3 : Hid (OwnSet w3 w1.heap.size (j + 1) ((l.take (j + 1)).map (·.1))) := lid (by rw [HT.out, OwnSet, setD_snoc, List.map_take]; exact hown3)
          have HP3 := lid (HPS.out trivial)
          have hb3 := ((hb.alloc hb.size _).grown hg3 (by have := hb.size; simp; omega) (fun j hj => by cases hj; exact Nat.le_refl _))
          clear hown3 hg3 x0 x1
          go_wp2_with fail
          go_roundw
          case rel => exact ⟨j + 1, by omega, by go_num, HO3, HP3, hb3⟩
          case measure => simp [intOf]; omega
      · obtain rfl : j = n := by omega
        have HTK : Hid (l.take j = l) := lid (List.take_of_length_le (Nat.le_of_eq HN.out))
        rw [HTK.out] at HP
        have dk : decide ((j : Int) < (j : Int)) = false := by simp
        replace KB := lid ((hb.block _ (row_lt KB.out)).trans KB.out)
        replace HVA := lid (HVA.out.below hb)
        replace hb0 := hb0.trans (hb.mono hb0.size)
        obtain ⟨wq, rfl⟩ : ∃ y, y = wr := ⟨_, rfl⟩
        clear HO hb HM
        have CC := lid (Clone_vote l j cap ao wq HN.out HVA.out.sl HVA.out.z (by omega))
        go_wp2_with fail
        (with_reducible refine (CC.out).mono ?_); rintro e w2 ⟨v2, rfl, hown2, hb2⟩
        clear CC
        have CR := lid (Reverse_own l v2 j _ w2 HN.out (by omega) hown2)
        go_wp2_with fail
        (with_reducible refine (CR.out).mono ?_); rintro e w3 ⟨rfl, hown3, hb3⟩
        clear CR hown2
        have h3 := hb2.trans (hb3.mono (Nat.le_refl _))
        replace KB := lid ((h3.block _ (row_lt KB.out)).trans KB.out)
        replace HVA := lid (HVA.out.below h3)
        replace hb0 := hb0.trans (h3.mono hb0.size)
        obtain ⟨a4, c4, rfl, hV4⟩ := VA.of_own hown3 (fun _ hv => HVA.out.sz _ (List.mem_reverse.1 hv))
        have HV4 := lid hV4
        have HEQ := lid (votes_rev k HP.out)
        have HRL : Hid (l.reverse.length ≤ 10) := lid (by rw [List.length_reverse, HN.out]; omega)
        have HLL : Hid (l.length ≤ 10) := lid (by rw [HN.out]; omega)
        clear hown3 hV4 hb2 hb3 h3 dk
        have p0 := row_cell KB.out 0
        have p1 := row_cell KB.out 1
        have lK : w.heap.size < w3.heap.size := row_lt KB.out
        go_wp2_with fail
        refine wp_region_seq (fun w' => ∃ s : Since w3.heap.size w3, w' = s.world) [(0, true), (1, true), (3, true), (4, true), (2, false), (5, false), (6, false), (7, true), (8, false), (9, true), (10, false)] (by kernel_rfl) (by kernel_rfl) (by intro c d v a w h; cases d <;> exact h) (since (Below.refl _ _).drew) ?_
        repeat (first | (refine seq_skip (by rfl) (by rfl) ?_; simp only [Act.put, List.setIfInBounds_toArray, List.set_cons_succ, List.set_cons_zero]) | (refine seq_float (by rfl) (by rfl) (by rfl) ?_; intro K hK; go_big_quiet_op; go_big_quiet_on))
        refine seq_chain (by rfl) ?_
        intro K hK
        go_wp2_with fail
        (with_reducible refine ((votes_any l j cap ao k w3.drew (by omega) (HVA.out.below (Below.refl _ _).drew))).mono ?_); rintro e w5 ⟨r5, a5, n5, c5, rfl, hM5, hB5, hb5⟩
        have g5 : Below w3.heap.size w3 w5 := (Below.refl _ _).drew.trans hb5
        have HM5 := lid hM5
        have HB5 := lid hB5
        have HR5 := lid (votes_rows hB5 hM5 HLL.out)
        clear hM5 hB5 hb5
        go_wp2_with fail
        refine hK.out _ _ (since g5) ?_
        clear hK K
        repeat (first | (refine seq_skip (by rfl) (by rfl) ?_; simp only [Act.put, List.setIfInBounds_toArray, List.set_cons_succ, List.set_cons_zero]) | (refine seq_float (by rfl) (by rfl) (by rfl) ?_; intro K hK; go_big_quiet_op; go_big_quiet_on))
        refine seq_chain (by rfl) ?_
        intro K hK
        go_wp2_with fail
        (with_reducible refine ((votes_any l.reverse j c4 a4 k w5 (by omega) (HV4.out.below g5))).mono ?_); rintro e w6 ⟨r6, a6, n6, c6, rfl, hM6, hB6, hb6⟩
        have g6 := g5.trans (hb6.mono g5.size)
        have HM6 := lid hM6
        have HB6 := lid hB6
        have HR6 := lid (votes_rows hB6 hM6 HRL.out)
        replace HB5 := lid (HB5.out.below hb6)
        clear hM6 hB6 hb6
        go_wp2_with fail
        refine hK.out _ _ (since g6) ?_
        clear hK K
        repeat (first | (refine seq_skip (by rfl) (by rfl) ?_; simp only [Act.put, List.setIfInBounds_toArray, List.set_cons_succ, List.set_cons_zero]) | (refine seq_float (by rfl) (by rfl) (by rfl) ?_; intro K hK; go_big_quiet_op; go_big_quiet_on))
        refine seq_chain (by rfl) ?_
        intro K hK
        go_wp2_with fail
        have CS := lid (refSame_any r5 r6 n5 c5 n6 c6 a5 a6 w6 (by have := HR5.out.2.1; omega) (by have := HR6.out.2.1; omega) HB5.out HB6.out (fun r hr => by have := HR5.out.2.2 r hr; omega) (fun r hr => by have := HR6.out.2.2 r hr; omega))
        rw [decide_eq_true (HM5.out.trans (HEQ.out.trans HM6.out.symm))] at CS
        (with_reducible refine (CS.out).mono ?_); rintro e w7 ⟨rfl, hb7⟩
        have g7 := g6.trans (hb7.mono g6.size)
        clear CS
        go_wp2_with fail
        refine hK.out _ _ (since g7) ?_
        clear hK K
        repeat (first | (refine seq_skip (by rfl) (by rfl) ?_; simp only [Act.put, List.setIfInBounds_toArray, List.set_cons_succ, List.set_cons_zero]) | (refine seq_float (by rfl) (by rfl) (by rfl) ?_; intro K hK; go_big_quiet_op; go_big_quiet_on))
        refine seq_chain (by rfl) ?_
        intro K hK
        go_wp2_with fail
        (with_reducible refine (awake_any _).mono ?_); rintro e w8 ⟨rfl, hb8⟩
        have g8 := g7.trans (hb8.mono g7.size)
        go_wp2_with fail
        refine hK.out _ _ (since g8) ?_
        clear hK K
        repeat (first | (refine seq_skip (by rfl) (by rfl) ?_; simp only [Act.put, List.setIfInBounds_toArray, List.set_cons_succ, List.set_cons_zero]) | (refine seq_float (by rfl) (by rfl) (by rfl) ?_; intro K hK; go_big_quiet_op; go_big_quiet_on))
        refine seq_chain (by rfl) ?_
        intro K hK
        go_wp2_with fail
        refine hK.out _ _ (since g8) ?_
        clear hK K
        repeat (first | (refine seq_skip (by rfl) (by rfl) ?_; simp only [Act.put, List.setIfInBounds_toArray, List.set_cons_succ, List.set_cons_zero]) | (refine seq_float (by rfl) (by rfl) (by rfl) ?_; intro K hK; go_big_quiet_op; go_big_quiet_on))
        refine seq_nil ?_
        go_wp2_with fail
        go_ret
        exact ⟨rfl, hb0.trans (g8.mono hb0.size)⟩
end Go.Proofs.Ytcpnpcbaifagbaa
