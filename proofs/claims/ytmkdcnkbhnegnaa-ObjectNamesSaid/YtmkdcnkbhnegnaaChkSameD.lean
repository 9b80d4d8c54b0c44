/-
  The reference's equality of lists of digests.
-/
import Derived.Test.YtmkdcnkbhnegnaaRows
import Derived.Test.YtmkdcnkbhnegnaaDgSl
import Derived.Test.YtmkdcnkbhnegnaaDigEq
import Derived.Test.YtmkdcnkbhnegnaaRegion
namespace Go.Proofs.Ytmkdcnkbhnegnaa
open Go.RowKit

set_option maxHeartbeats 1000000 in
theorem SameDigests_any (l1 l2 : List Dg) (n1 n2 : Nat) (a1 a2 : Option Addr) (c1 c2 : Nat) (w : World) (hn1 : l1.length = n1) (hn2 : l2.length = n2) (hl1 : n1 ≤ 1099511627776) (hs1 : Sl w 2 a1 n1 (dcells l1)) (hs2 : Sl w 2 a2 n2 (dcells l2)) :
    Calls Try.prog 14 #[.slice a1 n1 c1, .slice a2 n2 c2] w fun e w' => e = .returned (.bool (decide (l1 = l2))) ∧ Below w.heap.size w w' := by
  have HN1 := lid hn1
  have HN2 := lid hn2
  have HS1 := lid hs1
  have HS2 := lid hs2
  by_cases hne : n1 = n2
  · have HE := lid hne
    have hne' : ((n1 : Int) != (n2 : Int)) = false := by simp; omega
    clear hs1 hs2 hn1 hn2 hne
    go_enter Try.func14, Try.ntmps14
    go_wp2
    go_loopw [5] (fun i wr => ∃ k : Nat, k ≤ n1 ∧ i = .int .i64 k ∧ Hid (l1.take k = l2.take k) ∧ Below w.heap.size w wr) (fun i _ => n1 - (intOf i).toNat)
    case atStart => exact ⟨0, Nat.zero_le _, rfl, lid rfl, Below.refl _ _⟩
    case round =>
      obtain ⟨k, hk, rfl, HT, hb⟩ := hrel
      by_cases hlt : k < n1
      · have h1l : k < l1.length := by have := HN1.out; omega
        have h2l : k < l2.length := by have := HN2.out; have := HE.out; omega
        have hk2 : k < n2 := by have := HE.out; omega
        obtain ⟨b1, o1, rfl, hb1, hd1⟩ := (HS1.out.below hb).at_ hlt
        obtain ⟨b2, o2, rfl, hb2, hd2⟩ := (HS2.out.below hb).at_ hk2
        have x0 := hd1 (k * 2) _ (dcells_at h1l).1
        have y0 := hd2 (k * 2) _ (dcells_at h2l).1
        have x1 := hd1 (k * 2 + 1) _ (dcells_at h1l).2
        have y1 := hd2 (k * 2 + 1) _ (dcells_at h2l).2
        rw [← Nat.add_assoc] at x1 y1
        have HK : Hid (l1.take (k + 1) = l1.take k ++ [l1[k]] ∧ l2.take (k + 1) = l2.take k ++ [l2[k]]) := lid ⟨List.take_succ_eq_append_getElem h1l, List.take_succ_eq_append_getElem h2l⟩
        clear hd1 hd2
        generalize hd : l1[k] = d1 at *
        generalize he : l2[k] = d2 at *
        have HD := lid hd
        have HE2 := lid he
        clear hd he
        by_cases hq : d1 = d2
        · have hq' : (((d1.1.toNat : Int) == (d2.1.toNat : Int)) && ((d1.2.toNat : Int) == (d2.2.toNat : Int))) = true := by rw [dg_beq]; simpa using hq
          have hq'' : True := True.intro
          have HQ := lid hq
          clear hq
          go_wp2_with fail
          refine wp_region_seq (fun w' => ∃ s : Since wr.heap.size wr, w' = s.world) [(0, true), (1, true), (2, true), (3, true), (4, true), (5, true), (6, true), (7, true), (8, true)] (by kernel_rfl) (by kernel_rfl) (by intro c d v a w h; cases d <;> exact h) (since (Below.refl _ _).drew) ?_
          repeat (first | (refine seq_skip (by rfl) (by rfl) ?_; simp only [Act.put, List.setIfInBounds_toArray, List.set_cons_succ, List.set_cons_zero]) | (refine seq_float (by rfl) (by rfl) (by rfl) ?_; intro K hK; go_big_quiet_op; go_big_quiet_on))
          refine seq_nil ?_
          go_wp2_with fail
          go_roundw
          case rel => exact ⟨k + 1, by omega, by go_num, lid (by rw [HK.out.1, HK.out.2, HT.out, HQ.out]), hb.drew⟩
          case measure => simp [intOf]; omega
        · have hq' : (((d1.1.toNat : Int) == (d2.1.toNat : Int)) && ((d1.2.toNat : Int) == (d2.2.toNat : Int))) = false := by rw [dg_beq]; simpa using hq
          have hq'' : True := True.intro
          have HQ := lid hq
          clear hq
          go_wp2_with fail
          refine wp_region_seq (fun w' => ∃ s : Since wr.heap.size wr, w' = s.world) [(0, true), (1, true), (2, true), (3, true), (4, true), (5, true), (6, true), (7, true), (8, true)] (by kernel_rfl) (by kernel_rfl) (by intro c d v a w h; cases d <;> exact h) (since (Below.refl _ _).drew) ?_
          repeat (first | (refine seq_skip (by rfl) (by rfl) ?_; simp only [Act.put, List.setIfInBounds_toArray, List.set_cons_succ, List.set_cons_zero]) | (refine seq_float (by rfl) (by rfl) (by rfl) ?_; intro K hK; go_big_quiet_op; go_big_quiet_on))
          refine seq_nil ?_
          go_wp2_with fail
          go_ret
          refine ⟨ret_bool ?_, hb.drew⟩
          symm
          rw [decide_eq_false_iff_not]
          rintro rfl
          exact HQ.out (HD.out.symm.trans HE2.out)
      · obtain rfl : k = n1 := by omega
        go_wp2_with fail
        go_ret
        refine ⟨ret_bool ?_, hb⟩
        symm
        rw [decide_eq_true_iff]
        have := HT.out
        rw [List.take_of_length_le (by have := HN1.out; omega), List.take_of_length_le (by have := HN2.out; have := HE.out; omega)] at this
        exact this
  · have hne' : ((n1 : Int) != (n2 : Int)) = true := by simp; omega
    have HE := lid hne
    clear hs1 hs2 hn1 hn2 hne
    go_enter Try.func14, Try.ntmps14
    go_wp2
    go_ret
    refine ⟨ret_bool ?_, Below.refl _ _⟩
    symm
    rw [decide_eq_false_iff_not]
    rintro rfl
    exact HE.out (HN1.out.symm.trans HN2.out)
end Go.Proofs.Ytmkdcnkbhnegnaa
