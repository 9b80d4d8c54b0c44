/-
  digest.proof returns a new slice of the digests of proofD.
-/
import Derived.Test.YtbghpjedldhnhaaDigRoot
namespace Go.Proofs.Ytbghpjedldhnhaa
open Go.RowKit
theorem info_dg : (Try.prog.info? 32).map (fun i => (i.zero, i.size, i.bytes)) = some (some (.agg #[.int .u64 0, .int .u64 0]), 2, 16) := by kernel_rfl

set_option maxHeartbeats 1000000 in
theorem proof_any (m : Nat) : ∀ (l : List Dg) (n b off cap : Nat) (i : Int) (w : World), l.length = n → n ≤ m → 1 ≤ n → n ≤ cap → n ≤ 1099511627776 → b < w.heap.size → DCells w b off l → 0 ≤ i → i < n →
    Calls Try.prog 46 #[.slice (some ⟨b, off, none⟩) n cap, .int .i64 i] w fun e w' => ∃ v, e = .returned v ∧ w'.ownsRow w.heap.size 32 2 v (proofD l i.toNat).length (dcells (proofD l i.toNat)) ∧ Below w.heap.size w w' := by
  induction m with
  | zero => intro l n b off cap i w h1 h2; omega
  | succ m ih =>
    intro l n b off cap i w hn hm h1 hcap hl hb hc hi0 hi1
    have IH := lid ih
    clear ih
    by_cases h2 : 2 ≤ n
    · have hk0 := halfN_pos n
      have hk1 := halfN_lt h2
      have HT : Hid ((l.take (halfN n)).length = halfN n) := by show _ = _; simp; omega
      have HD : Hid ((l.drop (halfN n)).length = n - halfN n) := by show _ = _; simp; omega
      have HN := lid hn
      clear hn
      have hd : Below w.heap.size w w.drew := (Below.refl _ _).drew
      have hz0 : w.heap.size ≤ w.drew.heap.size := Nat.le_refl _
      have hbd : b < w.drew.heap.size := hb
      by_cases hi : i < halfN n
      · have HP : Hid (proofD l i.toNat = proofD (l.take (halfN n)) i.toNat ++ [rootD (l.drop (halfN n))]) := by
          show _ = _
          have := HN.out
          subst this
          exact proofD_lo h2 (by omega)
        have HL : Hid ((proofD (l.take (halfN n)) i.toNat).length ≤ 1099511627776) := lid (Nat.le_trans (proofD_length _ _ _ (Nat.le_refl _)) (by have := HT.out; omega))
        go_enter Try.func46, Try.ntmps46
        go_wp2_with fail
        (with_reducible refine (half_any n _ h2 hl).mono ?_); rintro e w1 ⟨rfl, rfl⟩
        go_wp2_with fail
        refine wp_region_seq (fun w' => ∃ s : Since w.heap.size w, w' = s.world) [(0, true), (1, true), (2, true), (3, true), (5, true), (6, true), (7, true), (4, false), (8, false), (9, false), (10, false), (11, false)] (by kernel_rfl) (by kernel_rfl) (by intro c d v a w h; cases d <;> exact h) (since (Below.refl _ _).drew) ?_
        repeat (first | (refine seq_skip (by rfl) (by rfl) ?_; simp only [Act.put, List.setIfInBounds_toArray, List.set_cons_succ, List.set_cons_zero]) | (refine seq_float (by rfl) (by rfl) (by rfl) ?_; intro K hK; go_big_quiet_op; go_big_quiet_on))
        refine seq_chain (by rfl) ?_
        intro K hK
        go_wp2_with fail
        (with_reducible refine (IH.out (l.take (halfN n)) _ b _ _ i w.drew HT.out (by omega) (by omega) (by omega) (by omega) hbd ((hc.take _).below hd hb) (by omega) (by omega)).mono ?_); rintro e w1 ⟨v1, rfl, hown1, hb1⟩
        have hs1 : Below w.heap.size w w1 := hd.trans (hb1.mono (by omega))
        have hz1 : w.heap.size ≤ w1.heap.size := Nat.le_trans hz0 hb1.size
        go_wp2_with fail
        refine hK.out _ _ (since hs1) ?_
        clear hK K
        repeat (first | (refine seq_skip (by rfl) (by rfl) ?_; simp only [Act.put, List.setIfInBounds_toArray, List.set_cons_succ, List.set_cons_zero]) | (refine seq_float (by rfl) (by rfl) (by rfl) ?_; intro K hK; go_big_quiet_op; go_big_quiet_on))
        refine seq_chain (by rfl) ?_
        intro K hK
        go_wp2_with fail
        (with_reducible refine (root_any n (l.drop (halfN n)) _ b _ _ _ HD.out (by omega) (by omega) (by omega) (by omega) (by omega) ((hc.drop _).below hs1 hb)).mono ?_); rintro e w2 ⟨rfl, hb2⟩
        have hs2 : Below w.heap.size w w2 := hs1.trans (hb2.mono hz1)
        have hz2 : w.heap.size ≤ w2.heap.size := Nat.le_trans hz1 hb2.size
        have hown2 := ownsRow_below hown1 hb2
        go_wp2_with fail
        refine hK.out _ _ (since hs2) ?_
        clear hK K
        repeat (first | (refine seq_skip (by rfl) (by rfl) ?_; simp only [Act.put, List.setIfInBounds_toArray, List.set_cons_succ, List.set_cons_zero]) | (refine seq_float (by rfl) (by rfl) (by rfl) ?_; intro K hK; go_big_quiet_op; go_big_quiet_on))
        refine seq_chain (by rfl) ?_
        intro K hK
        go_wp2_with fail
        refine hK.out _ _ (since (hs2.alloc hz2 _)) ?_
        clear hK K
        repeat (first | (refine seq_skip (by rfl) (by rfl) ?_; simp only [Act.put, List.setIfInBounds_toArray, List.set_cons_succ, List.set_cons_zero]) | (refine seq_float (by rfl) (by rfl) (by rfl) ?_; intro K hK; go_big_quiet_op; go_big_quiet_on))
        refine seq_chain (by rfl) ?_
        intro K hK
        go_wp2_with (at_builtin; go_must (refine wpList_append_new #[.int .u64 (rootD (l.drop (halfN n))).1.toNat, .int .u64 (rootD (l.drop (halfN n))).2.toNat] rfl _ _ 23 rfl w.heap.size 32 (.agg #[.int .u64 0, .int .u64 0]) 2 16 info_dg Try.underlying23 rfl (by decide) v1 _ _ hown2 rfl rfl rfl (by simp [Value.oneCell']) (by have := HL.out; unfold maxLen; omega) (by have := HL.out; omega) hz2 ?_))
        intro v3 w3 hown3 hb3 _
        have hs3 := hs2.trans hb3
        go_wp2_with fail
        refine hK.out _ _ (since hs3) ?_
        clear hK K
        repeat (first | (refine seq_skip (by rfl) (by rfl) ?_; simp only [Act.put, List.setIfInBounds_toArray, List.set_cons_succ, List.set_cons_zero]) | (refine seq_float (by rfl) (by rfl) (by rfl) ?_; intro K hK; go_big_quiet_op; go_big_quiet_on))
        refine seq_chain (by rfl) ?_
        intro K hK
        go_wp2_with fail
        go_wp2_with fail
        refine hK.out _ _ (since hs3) ?_
        clear hK K
        refine seq_nil ?_
        go_wp2_with fail
        go_ret
        refine ⟨v3, rfl, ?_, hs3⟩
        rw [HP.out, List.length_append, dcells_append]
        exact hown3
      · have HP : Hid (proofD l i.toNat = proofD (l.drop (halfN n)) (i - halfN n).toNat ++ [rootD (l.take (halfN n))]) := by
          show _ = _
          have := HN.out
          subst this
          rw [proofD_hi h2 (by omega)]
          congr 2
          omega
        have HL : Hid ((proofD (l.drop (halfN n)) (i - halfN n).toNat).length ≤ 1099511627776) := lid (Nat.le_trans (proofD_length _ _ _ (Nat.le_refl _)) (by have := HD.out; omega))
        go_enter Try.func46, Try.ntmps46
        go_wp2_with fail
        (with_reducible refine (half_any n _ h2 hl).mono ?_); rintro e w1 ⟨rfl, rfl⟩
        go_wp2_with fail
        refine wp_region_seq (fun w' => ∃ s : Since w.heap.size w, w' = s.world) [(0, true), (1, true), (2, true), (3, true), (4, true), (5, true), (7, true), (8, true), (9, true), (6, false), (10, false), (11, false), (12, false), (13, false)] (by kernel_rfl) (by kernel_rfl) (by intro c d v a w h; cases d <;> exact h) (since (Below.refl _ _).drew) ?_
        repeat (first | (refine seq_skip (by rfl) (by rfl) ?_; simp only [Act.put, List.setIfInBounds_toArray, List.set_cons_succ, List.set_cons_zero]) | (refine seq_float (by rfl) (by rfl) (by rfl) ?_; intro K hK; go_big_quiet_op; go_big_quiet_on))
        refine seq_chain (by rfl) ?_
        intro K hK
        go_wp2_with fail
        (with_reducible refine (IH.out (l.drop (halfN n)) _ b _ _ (i - halfN n) w.drew HD.out (by omega) (by omega) (by omega) (by omega) hbd ((hc.drop _).below hd hb) (by omega) (by omega)).mono ?_); rintro e w1 ⟨v1, rfl, hown1, hb1⟩
        have hs1 : Below w.heap.size w w1 := hd.trans (hb1.mono (by omega))
        have hz1 : w.heap.size ≤ w1.heap.size := Nat.le_trans hz0 hb1.size
        go_wp2_with fail
        refine hK.out _ _ (since hs1) ?_
        clear hK K
        repeat (first | (refine seq_skip (by rfl) (by rfl) ?_; simp only [Act.put, List.setIfInBounds_toArray, List.set_cons_succ, List.set_cons_zero]) | (refine seq_float (by rfl) (by rfl) (by rfl) ?_; intro K hK; go_big_quiet_op; go_big_quiet_on))
        refine seq_chain (by rfl) ?_
        intro K hK
        go_wp2_with fail
        (with_reducible refine (root_any n (l.take (halfN n)) _ b _ _ _ HT.out (by omega) (by omega) (by omega) (by omega) (by omega) ((hc.take _).below hs1 hb)).mono ?_); rintro e w2 ⟨rfl, hb2⟩
        have hs2 : Below w.heap.size w w2 := hs1.trans (hb2.mono hz1)
        have hz2 : w.heap.size ≤ w2.heap.size := Nat.le_trans hz1 hb2.size
        have hown2 := ownsRow_below hown1 hb2
        go_wp2_with fail
        refine hK.out _ _ (since hs2) ?_
        clear hK K
        repeat (first | (refine seq_skip (by rfl) (by rfl) ?_; simp only [Act.put, List.setIfInBounds_toArray, List.set_cons_succ, List.set_cons_zero]) | (refine seq_float (by rfl) (by rfl) (by rfl) ?_; intro K hK; go_big_quiet_op; go_big_quiet_on))
        refine seq_chain (by rfl) ?_
        intro K hK
        go_wp2_with fail
        refine hK.out _ _ (since (hs2.alloc hz2 _)) ?_
        clear hK K
        repeat (first | (refine seq_skip (by rfl) (by rfl) ?_; simp only [Act.put, List.setIfInBounds_toArray, List.set_cons_succ, List.set_cons_zero]) | (refine seq_float (by rfl) (by rfl) (by rfl) ?_; intro K hK; go_big_quiet_op; go_big_quiet_on))
        refine seq_chain (by rfl) ?_
        intro K hK
        go_wp2_with (at_builtin; go_must (refine wpList_append_new #[.int .u64 (rootD (l.take (halfN n))).1.toNat, .int .u64 (rootD (l.take (halfN n))).2.toNat] rfl _ _ 23 rfl w.heap.size 32 (.agg #[.int .u64 0, .int .u64 0]) 2 16 info_dg Try.underlying23 rfl (by decide) v1 _ _ hown2 rfl rfl rfl (by simp [Value.oneCell']) (by have := HL.out; unfold maxLen; omega) (by have := HL.out; omega) hz2 ?_))
        intro v3 w3 hown3 hb3 _
        have hs3 := hs2.trans hb3
        go_wp2_with fail
        refine hK.out _ _ (since hs3) ?_
        clear hK K
        repeat (first | (refine seq_skip (by rfl) (by rfl) ?_; simp only [Act.put, List.setIfInBounds_toArray, List.set_cons_succ, List.set_cons_zero]) | (refine seq_float (by rfl) (by rfl) (by rfl) ?_; intro K hK; go_big_quiet_op; go_big_quiet_on))
        refine seq_chain (by rfl) ?_
        intro K hK
        go_wp2_with fail
        go_wp2_with fail
        refine hK.out _ _ (since hs3) ?_
        clear hK K
        refine seq_nil ?_
        go_wp2_with fail
        go_ret
        refine ⟨v3, rfl, ?_, hs3⟩
        rw [HP.out, List.length_append, dcells_append]
        rw [show (i - (halfN n : Int)).toNat = i.toNat - halfN n by omega]
        exact hown3
    · obtain rfl : n = 1 := by omega
      have HP := lid (proofD_few (l := l) (by omega) i.toNat)
      clear hn
      go_enter Try.func46, Try.ntmps46
      go_wp2_with fail
      go_ret
      refine ⟨_, rfl, ?_, Below.refl _ _⟩
      rw [HP.out]
      exact World.ownsRow_nil _ _ _ _
end Go.Proofs.Ytbghpjedldhnhaa
