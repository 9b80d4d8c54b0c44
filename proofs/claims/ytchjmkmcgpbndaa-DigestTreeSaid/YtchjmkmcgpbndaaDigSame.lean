/-
  The reference's Same: equality of lists of digests.
-/
import Derived.Test.YtchjmkmcgpbndaaDigProofs
import Derived.Test.YtchjmkmcgpbndaaDigVerify
namespace Go.Proofs.Ytchjmkmcgpbndaa
open Go.RowKit

theorem getElem_dcells (l : List Dg) (j : Nat) (h : j < l.length) : (dcells l)[j * 2]? = some (.int .u64 (l[j]).1.toNat) ∧ (dcells l)[j * 2 + 1]? = some (.int .u64 (l[j]).2.toNat) := by
  induction l generalizing j with
  | nil => simp at h
  | cons d l ih =>
    cases j with
    | zero => simp [dcells]
    | succ j =>
      have := ih j (by simpa using h)
      rw [show (j + 1) * 2 = j * 2 + 2 by omega]
      simpa [dcells] using this

theorem dsl_of_own {w : World} {base : Nat} {v : Value} {n : Nat} {l : List Dg} (h : w.ownsRow base 24 2 v n (dcells l)) : ∃ ao cap, v = .slice ao n cap ∧ l.length = n ∧ n ≤ cap ∧ DSl w ao l := by
  have hl : l.length = n := by
    have := h.1
    rw [dcells_length] at this
    omega
  rcases h.2 with ⟨rfl, rfl⟩ | ⟨g, cap, cur, rfl, hg, hc, hn, hm, hsz, htk⟩
  · exact ⟨none, 0, rfl, hl, Nat.le_refl _, .inl hl⟩
  · refine ⟨some ⟨g, 0, none⟩, cap, rfl, hl, hn, .inr ⟨g, 0, rfl, (h.lt g rfl).2, ?_⟩⟩
    intro j hj
    obtain ⟨h1, h2⟩ := getElem_dcells l j hj
    rw [Nat.zero_add]
    rw [h.cellAt (j * 2) (by omega), h.cellAt (j * 2 + 1) (by omega)]
    exact ⟨h1, h2⟩

theorem Proof_sl (l : List Dg) (n : Nat) (ao : Option Addr) (cap : Nat) (i : Int) (w : World) (hn : l.length = n) (hcap : n ≤ cap) (hl : n ≤ 1000000) (hs : DSl w ao l) :
    Calls Try.prog 17 #[.slice ao n cap, .int .i64 i] w fun e w' => ∃ ao' n' cap', e = .returned (.tuple #[.slice ao' n' cap', .int .i64 (proofE l i).2]) ∧ (proofE l i).1.length = n' ∧ n' ≤ cap' ∧ DSl w' ao' (proofE l i).1 ∧ Below w.heap.size w w' :=
  (Proof_any l n ao cap i w hn hcap hl hs).mono fun _ _ ⟨_, he, hown, hb⟩ => by
    obtain ⟨ao', cap', rfl, h1, h2, h3⟩ := dsl_of_own hown
    exact ⟨ao', _, cap', he, rfl, h2, h3, hb⟩
theorem refProof_sl (l : List Dg) (n : Nat) (ao : Option Addr) (cap : Nat) (i : Int) (w : World) (hn : l.length = n) (hcap : n ≤ cap) (hl : n ≤ 1000000) (hs : DSl w ao l) :
    Calls Try.prog 18 #[.slice ao n cap, .int .i64 i] w fun e w' => ∃ ao' n' cap', e = .returned (.tuple #[.slice ao' n' cap', .int .i64 (proofE l i).2]) ∧ (proofE l i).1.length = n' ∧ n' ≤ cap' ∧ DSl w' ao' (proofE l i).1 ∧ Below w.heap.size w w' :=
  (refProof_any l n ao cap i w hn hcap hl hs).mono fun _ _ ⟨_, he, hown, hb⟩ => by
    obtain ⟨ao', cap', rfl, h1, h2, h3⟩ := dsl_of_own hown
    exact ⟨ao', _, cap', he, rfl, h2, h3, hb⟩

set_option maxHeartbeats 1000000 in
theorem Same_any (l1 l2 : List Dg) (n1 n2 : Nat) (a1 a2 : Option Addr) (c1 c2 : Nat) (w : World) (hn1 : l1.length = n1) (hn2 : l2.length = n2) (hc1 : n1 ≤ c1) (_hc2 : n2 ≤ c2) (hl1 : n1 ≤ 1099511627776) (hs1 : DSl w a1 l1) (hs2 : DSl w a2 l2) :
    Calls Try.prog 21 #[.slice a1 n1 c1, .slice a2 n2 c2] w fun e w' => e = .returned (.bool (decide (l1 = l2))) ∧ Below w.heap.size w w' := by
  have HN1 := lid hn1
  have HN2 := lid hn2
  have HS1 := lid hs1
  have HS2 := lid hs2
  by_cases hne : n1 = n2
  · have HE := lid hne
    have hne' : ((n1 : Int) != (n2 : Int)) = false := by simp; omega
    clear hs1 hs2 hn1 hn2 hne
    go_enter Try.func21, Try.ntmps21
    go_wp2
    go_loopw [5] (fun i wr => ∃ k : Nat, k ≤ n1 ∧ i = .int .i64 k ∧ Hid (l1.take k = l2.take k) ∧ Below w.heap.size w wr) (fun i _ => n1 - (intOf i).toNat)
    case atStart => exact ⟨0, Nat.zero_le _, rfl, lid rfl, Below.refl _ _⟩
    case round =>
      obtain ⟨k, hk, rfl, HT, hb⟩ := hrel
      by_cases hlt : k < n1
      · have h1l : k < l1.length := by have := HN1.out; omega
        have h2l : k < l2.length := by have := HN2.out; have := HE.out; omega
        have hk2 : k < n2 := by have := HE.out; omega
        obtain ⟨b1, o1, rfl, hb1, hd1⟩ := HS1.out.resolve_left (by omega)
        obtain ⟨b2, o2, rfl, hb2, hd2⟩ := HS2.out.resolve_left (by omega)
        obtain ⟨x0, x1⟩ := (hd1.below hb hb1).at h1l
        obtain ⟨y0, y1⟩ := (hd2.below hb hb2).at h2l
        have hbz1 := Nat.lt_of_lt_of_le hb1 hb.size
        have hbz2 := Nat.lt_of_lt_of_le hb2 hb.size
        have HK : Hid (l1.take (k + 1) = l1.take k ++ [l1[k]] ∧ l2.take (k + 1) = l2.take k ++ [l2[k]]) := lid ⟨List.take_succ_eq_append_getElem h1l, List.take_succ_eq_append_getElem h2l⟩
        clear hd1 hd2
        generalize hd : l1[k] = d1 at *
        generalize he : l2[k] = d2 at *
        have HD := lid hd
        have HE2 := lid he
        clear hd he
        by_cases hq : d1 = d2
        · have hq' : (((d1.1.toNat : Int) == (d2.1.toNat : Int)) && ((d1.2.toNat : Int) == (d2.2.toNat : Int))) = true := by rw [beq_dg]; simpa using hq
          have HQ := lid hq
          clear hq
          go_wp2_with fail
          refine wp_region_seq (fun w' => ∃ s : Since wr.heap.size wr, w' = s.world) [(0, true), (1, true), (2, true), (3, true), (4, true), (5, true), (6, true), (7, true), (8, true)] (by kernel_rfl) (by kernel_rfl) (by intro c d v a w h; cases d <;> exact h) (since (Below.refl _ _).drew) ?_
          repeat (refine seq_float (by rfl) (by rfl) (by rfl) ?_; intro K hK; go_big_quiet_op; go_big_quiet_on)
          refine seq_nil ?_
          go_wp2_with fail
          go_roundw
          case rel => exact ⟨k + 1, by omega, by go_num, lid (by rw [HK.out.1, HK.out.2, HT.out, HQ.out]), hb.drew⟩
          case measure => simp [intOf]; omega
        · have hq' : (((d1.1.toNat : Int) == (d2.1.toNat : Int)) && ((d1.2.toNat : Int) == (d2.2.toNat : Int))) = false := by rw [beq_dg]; simpa using hq
          have HQ := lid hq
          clear hq
          go_wp2_with fail
          refine wp_region_seq (fun w' => ∃ s : Since wr.heap.size wr, w' = s.world) [(0, true), (1, true), (2, true), (3, true), (4, true), (5, true), (6, true), (7, true), (8, true)] (by kernel_rfl) (by kernel_rfl) (by intro c d v a w h; cases d <;> exact h) (since (Below.refl _ _).drew) ?_
          repeat (refine seq_float (by rfl) (by rfl) (by rfl) ?_; intro K hK; go_big_quiet_op; go_big_quiet_on)
          refine seq_nil ?_
          go_wp2_with fail
          go_ret
          refine ⟨ret_bool ?_, hb.drew⟩
          symm
          rw [decide_eq_false_iff_not]
          rintro rfl
          exact HQ.out (HD.out.symm.trans HE2.out)
      · obtain rfl : k = n1 := by omega
        go_wp2_with fail
        go_ret
        refine ⟨ret_bool ?_, hb⟩
        symm
        rw [decide_eq_true_iff]
        have := HT.out
        rw [List.take_of_length_le (by have := HN1.out; omega), List.take_of_length_le (by have := HN2.out; have := HE.out; omega)] at this
        exact this
  · have hne' : ((n1 : Int) != (n2 : Int)) = true := by simp; omega
    have HE := lid hne
    clear hs1 hs2 hn1 hn2 hne
    go_enter Try.func21, Try.ntmps21
    go_wp2
    go_ret
    refine ⟨ret_bool ?_, Below.refl _ _⟩
    symm
    rw [decide_eq_false_iff_not]
    rintro rfl
    exact HE.out (HN1.out.symm.trans HN2.out)
end Go.Proofs.Ytchjmkmcgpbndaa
