/-
  The reference's end: the length of the first chunk.
-/
import Derived.Test.YtmebjjoldhcgpaaChkRef
namespace Go.Proofs.Ytmebjjoldhcgpaa
open Go.RowKit

theorem first_end {l m v b : Nat} {s : List UInt8} {k : Nat} (hl : 1 ≤ l) (hne : 1 ≤ s.length) (hlk : l ≤ k) (hkm : k ≤ m) (hJ : ∀ j, l ≤ j → j < k → j < s.length ∧ j < m ∧ divB b (winH ((s.take j).drop (j - v))) = false)
    (hk : s.length ≤ k ∨ k = m ∨ divB b (winH ((s.take k).drop (k - v))) = true) : firstLen l m v b s = min k s.length := by
  refine firstLen_eq (by omega) (by omega) ?_ ?_
  · unfold stopAt
    simp only [Bool.or_eq_true, Bool.and_eq_true, decide_eq_true_eq]
    rcases Nat.lt_or_ge k s.length with h | h
    · rw [Nat.min_eq_left (by omega)]
      rcases hk with hk | hk | hk
      · omega
      · exact .inl (.inr hk)
      · exact .inl (.inl ⟨hlk, hk⟩)
    · right; omega
  · intro j h1 h2
    unfold stopAt
    simp only [Bool.or_eq_false_iff, Bool.and_eq_false_iff, decide_eq_false_iff_not]
    refine ⟨⟨?_, by omega⟩, by omega⟩
    rcases Nat.lt_or_ge j l with h | h
    · left; omega
    · exact .inr (hJ j h (by omega)).2.2

set_option maxHeartbeats 2000000 in
theorem refEnd_any (s : ByteArray) (l m v b : Nat) (w : World) (hv1 : 1 ≤ v) (hvl : v ≤ l) (hlm : l ≤ m) (_hm : m ≤ 65536) (hb16 : b ≤ 16) (hs : s.size ≤ 65536) (hne : 1 ≤ s.size) :
    Calls Try.prog 27 #[.string s, .agg #[.int .i64 l, .int .i64 m, .int .i64 v, .int .i64 b]] w fun e w' => e = .returned (.int .i64 (firstLen l m v b s.data.toList)) ∧ Below w.heap.size w w' := by
  go_enter Try.func27, Try.ntmps27
  go_wp2
  obtain ⟨W0, hW0⟩ : ∃ W0, w.alloc (Obj.cells #[Value.int .i64 l, .int .i64 m, .int .i64 v, .int .i64 b] 23) = W0 := ⟨_, rfl⟩
  have hsz : w.heap.size + 1 ≤ W0.heap.size := by rw [← hW0]; simp
  have c1 : W0.cell? ⟨w.heap.size, 1, none⟩ = some (.int .i64 m) := by rw [← hW0]; simp
  have c2 : W0.cell? ⟨w.heap.size, 2, none⟩ = some (.int .i64 v) := by rw [← hW0]; simp
  have c3 : W0.cell? ⟨w.heap.size, 3, none⟩ = some (.int .i64 b) := by rw [← hW0]; simp
  have hbW : Below w.heap.size w W0 := by rw [← hW0]; exact (Below.refl _ _).alloc (Nat.le_refl _) _
  rw [hW0]
  clear hW0
  go_loopw [5] (fun i wr => ∃ k : Nat, l ≤ k ∧ k ≤ m ∧ i = .int .i64 k ∧ Hid (∀ j, l ≤ j → j < k → j < s.size ∧ j < m ∧ divB b (winH ((s.data.toList.take j).drop (j - v))) = false) ∧ Below W0.heap.size W0 wr) (fun i _ => m - (intOf i).toNat)
  case atStart => exact ⟨l, Nat.le_refl _, hlm, rfl, lid (fun j h1 h2 => by omega), Below.refl _ _⟩
  case round =>
    obtain ⟨k, hlk, hkm, rfl, HJ, hb⟩ := hrel
    have hzr := hb.size
    have hq : w.heap.size < wr.heap.size := by omega
    have d1 := (bc hb (by omega : w.heap.size < W0.heap.size) 1).trans c1
    have d2 := (bc hb (by omega : w.heap.size < W0.heap.size) 2).trans c2
    have d3 := (bc hb (by omega : w.heap.size < W0.heap.size) 3).trans c3
    by_cases hgo : k < s.size ∧ k < m
    · obtain ⟨h1, h2⟩ := hgo
      have h1b : decide ((k : Int) < (s.size : Int)) = true := by simpa using h1
      have h2b : decide ((k : Int) < (m : Int)) = true := by simpa using h2
      have h3 : (0 : Int) ≤ (k : Int) - v := by omega
      have h4 : (k : Int) - v ≤ k := by omega
      have h5 : (k : Int) ≤ s.size := by omega
      have h6 : IntKind.i64.wrap ((k : Int) - v) = (k : Int) - v := IntWalk.i64_in _ (by omega)
      have hwin : (s.extract (k - v) k).data.toList = (s.data.toList.take k).drop (k - v) := by rw [Lib.extract_data, List.drop_take]
      have hwz : (s.extract (k - v) k).size ≤ maxLen := by simp [ByteArray.size_extract, maxLen]; omega
      go_wp2_with fail
      refine wp_region_seq (fun w' => ∃ s : Since wr.heap.size wr, w' = s.world) [(0, true), (1, true), (2, true), (3, true), (4, true), (5, true), (6, true), (7, true), (8, true), (9, true), (10, true), (11, true), (12, true), (13, true), (14, true), (15, true), (16, true), (17, true), (19, true), (20, true), (18, false), (21, false), (22, true), (23, true)] (by kernel_rfl) (by kernel_rfl) (by intro c d v a w h; cases d <;> exact h) (since (Below.refl _ _).drew) ?_
      repeat (first | (refine seq_skip (by rfl) (by rfl) ?_; simp only [Act.put, List.setIfInBounds_toArray, List.set_cons_succ, List.set_cons_zero]) | (refine seq_float (by rfl) (by rfl) (by rfl) ?_; intro K hK; go_big_quiet_op; go_big_quiet_on))
      refine seq_chain (by rfl) ?_
      intro K hK
      go_wp2_with fail
      (with_reducible refine (refHash_any (s.extract (k - v) k) _ hwz).mono ?_); rintro e w1 ⟨rfl, rfl⟩
      rw [hwin]
      generalize hX : winH ((s.data.toList.take k).drop (k - v)) = X
      have HX := lid hX
      clear hX
      go_wp2_with fail
      refine hK.out _ _ (since (Below.refl _ _).drew) ?_
      clear hK K
      repeat (first | (refine seq_skip (by rfl) (by rfl) ?_; simp only [Act.put, List.setIfInBounds_toArray, List.set_cons_succ, List.set_cons_zero]) | (refine seq_float (by rfl) (by rfl) (by rfl) ?_; intro K hK; go_big_quiet_op; go_big_quiet_on))
      refine seq_chain (by rfl) ?_
      intro K hK
      go_wp2_with fail
      (with_reducible refine (refDiv_any (mixH X) b _ hb16).mono ?_); rintro e w1 ⟨rfl, rfl⟩
      have HD : Hid (divB b (winH ((s.data.toList.take k).drop (k - v))) = divP (mixH X) b) := by
        show _ = _
        rw [divB_divP _ _ hb16, HX.out]
      cases hd : divP (mixH X) b with
      | false =>
        have HD2 := lid hd
        clear hd
        go_wp2_with fail
        refine hK.out _ _ (since (Below.refl _ _).drew) ?_
        clear hK K
        repeat (first | (refine seq_skip (by rfl) (by rfl) ?_; simp only [Act.put, List.setIfInBounds_toArray, List.set_cons_succ, List.set_cons_zero]) | (refine seq_float (by rfl) (by rfl) (by rfl) ?_; intro K hK; go_big_quiet_op; go_big_quiet_on))
        refine seq_nil ?_
        go_wp2_with fail
        go_roundw
        case rel =>
          refine ⟨k + 1, by omega, by omega, by go_num, lid (fun j hj1 hj2 => ?_), hb.drew⟩
          rcases Nat.lt_or_ge j k with h | h
          · exact HJ.out j hj1 h
          · obtain rfl : j = k := by omega
            exact ⟨h1, h2, HD.out.trans HD2.out⟩
        case measure => simp [intOf]; omega
      | true =>
        have HD2 := lid hd
        clear hd
        go_wp2_with fail
        refine hK.out _ _ (since (Below.refl _ _).drew) ?_
        clear hK K
        repeat (first | (refine seq_skip (by rfl) (by rfl) ?_; simp only [Act.put, List.setIfInBounds_toArray, List.set_cons_succ, List.set_cons_zero]) | (refine seq_float (by rfl) (by rfl) (by rfl) ?_; intro K hK; go_big_quiet_op; go_big_quiet_on))
        refine seq_nil ?_
        go_wp2_with fail
        go_ret
        refine ⟨ret_i64 ?_, hbW.trans ((hb.drew).mono (by omega))⟩
        have hF := first_end (l := l) (m := m) (v := v) (b := b) (s := s.data.toList) (k := k) (by omega) hne hlk hkm HJ.out (.inr (.inr (HD.out.trans HD2.out)))
        rw [hF]
        have hN : s.data.toList.length = s.size := rfl
        omega
    · by_cases h1 : k < s.size
      · have h2 : k = m := by omega
        have h1b : decide ((k : Int) < (s.size : Int)) = true := by simpa using h1
        have h2b : decide ((k : Int) < (m : Int)) = false := by simp; omega
        have h2n : decide (k < m) = false := by simp; omega
        have h2c : (m : Int) ≤ (k : Int) := by omega
        have H2 := lid h2
        clear hgo h2
        go_wp2_with fail
        refine wp_region_seq (fun w' => ∃ s : Since wr.heap.size wr, w' = s.world) [(0, true), (1, true), (2, true), (3, true), (4, true), (5, true), (6, true), (7, true), (8, true), (9, true), (10, true), (11, true), (12, true), (13, true), (14, true), (15, true), (16, true), (17, true), (18, true), (19, true), (20, true), (21, true), (22, true), (23, true)] (by kernel_rfl) (by kernel_rfl) (by intro c d v a w h; cases d <;> exact h) (since (Below.refl _ _).drew) ?_
        repeat (first | (refine seq_skip (by rfl) (by rfl) ?_; simp only [Act.put, List.setIfInBounds_toArray, List.set_cons_succ, List.set_cons_zero]) | (refine seq_float (by rfl) (by rfl) (by rfl) ?_; intro K hK; go_big_quiet_op; go_big_quiet_on))
        refine seq_nil ?_
        go_wp2_with fail
        go_ret
        refine ⟨ret_i64 ?_, hbW.trans ((hb.drew).mono (by omega))⟩
        have hF := first_end (l := l) (m := m) (v := v) (b := b) (s := s.data.toList) (k := k) (by omega) hne hlk hkm HJ.out (.inr (.inl H2.out))
        rw [hF]
        have hN : s.data.toList.length = s.size := rfl
        omega
      · have h1b : decide ((k : Int) < (s.size : Int)) = false := by simp; omega
        have h1n : decide (k < s.size) = false := by simp; omega
        have h1c : (s.size : Int) ≤ (k : Int) := by omega
        clear hgo
        go_wp2_with fail
        refine wp_region_seq (fun w' => ∃ s : Since wr.heap.size wr, w' = s.world) [(0, true), (1, true), (2, true), (3, true), (4, true), (5, true), (6, true), (7, true), (8, true), (9, true), (10, true), (11, true), (12, true), (13, true), (14, true), (15, true), (16, true), (17, true), (18, true), (19, true), (20, true), (21, true), (22, true), (23, true)] (by kernel_rfl) (by kernel_rfl) (by intro c d v a w h; cases d <;> exact h) (since (Below.refl _ _).drew) ?_
        repeat (first | (refine seq_skip (by rfl) (by rfl) ?_; simp only [Act.put, List.setIfInBounds_toArray, List.set_cons_succ, List.set_cons_zero]) | (refine seq_float (by rfl) (by rfl) (by rfl) ?_; intro K hK; go_big_quiet_op; go_big_quiet_on))
        refine seq_nil ?_
        go_wp2_with fail
        all_goals
          go_ret
          refine ⟨ret_i64 ?_, hbW.trans ((hb.drew).mono (by omega))⟩
          have hF := first_end (l := l) (m := m) (v := v) (b := b) (s := s.data.toList) (k := k) (by omega) hne hlk hkm HJ.out (.inl (Nat.le_of_not_lt h1))
          rw [hF]
          have hN : s.data.toList.length = s.size := rfl
          omega
end Go.Proofs.Ytmebjjoldhcgpaa
