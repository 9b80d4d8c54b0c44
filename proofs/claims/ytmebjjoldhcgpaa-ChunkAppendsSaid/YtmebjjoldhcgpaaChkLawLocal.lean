/-
  The law ChunkLocal returns true and makes new memory alone.
-/
import Derived.Test.YtmebjjoldhcgpaaChkLawSplit
namespace Go.Proofs.Ytmebjjoldhcgpaa
open Go.RowKit

theorem pieces_take (ns : List Nat) : ∀ (s : List UInt8) (j : Nat), pieces (s.take (ns.take j).sum) (ns.take j) = (pieces s ns).take j := by
  induction ns with
  | nil => intro s j; simp [pieces]
  | cons n ns ih =>
    intro s j
    cases j with
    | zero => simp [pieces]
    | succ j =>
      rw [List.take_succ_cons, List.sum_cons, pieces, pieces, List.take_succ_cons, ← ih (s.drop n) j]
      congr 1
      · rw [List.take_take]; congr 1; omega
      · congr 1
        rw [List.drop_take]; congr 1; omega
theorem pieces_drop (ns : List Nat) : ∀ (s : List UInt8) (j : Nat), pieces (s.drop (ns.take j).sum) (ns.drop j) = (pieces s ns).drop j := by
  induction ns with
  | nil => intro s j; simp [pieces]
  | cons n ns ih =>
    intro s j
    cases j with
    | zero => simp [pieces]
    | succ j => rw [List.take_succ_cons, List.sum_cons, List.drop_succ_cons, pieces, List.drop_succ_cons, ← ih (s.drop n) j, List.drop_drop]
theorem lens_take_le {l m v b : Nat} (s : List UInt8) (j : Nat) : ((lens l m v b s).take j).sum ≤ s.length := by
  have h8 : ((lens l m v b s).take j).sum + ((lens l m v b s).drop j).sum = (lens l m v b s).sum := by rw [← List.sum_append, List.take_append_drop]
  rw [lens_sum] at h8
  omega
theorem total_lens {l m v b : Nat} (s : ByteArray) (j : Nat) : total ((chunksOf s l m v b).take j) = ((lens l m v b s.data.toList).take j).sum := by
  rw [chunksOf, ← List.map_take, ← pieces_take]
  refine total_pieces _ _ ?_
  rw [List.length_take]
  have := lens_take_le (l := l) (m := m) (v := v) (b := b) s.data.toList j
  omega
theorem chunks_take {l m v b : Nat} (s : ByteArray) (j : Nat) : chunksOf (s.extract 0 (total ((chunksOf s l m v b).take j))) l m v b = (chunksOf s l m v b).take j := by
  have e : (s.extract 0 (total ((chunksOf s l m v b).take j))).data.toList = s.data.toList.take ((lens l m v b s.data.toList).take j).sum := by
    rw [Lib.extract_data, total_lens]; simp
  conv => lhs; rw [chunksOf, e, lens_take, pieces_take]
  rw [chunksOf, List.map_take]
theorem chunks_drop {l m v b : Nat} (s : ByteArray) (j : Nat) : chunksOf (s.extract (total ((chunksOf s l m v b).take j)) s.size) l m v b = (chunksOf s l m v b).drop j := by
  have e : (s.extract (total ((chunksOf s l m v b).take j)) s.size).data.toList = s.data.toList.drop ((lens l m v b s.data.toList).take j).sum := by
    rw [Lib.extract_to_end, total_lens]
  conv => lhs; rw [chunksOf, e, lens_drop, pieces_drop]
  rw [chunksOf, List.map_drop]
theorem endsFrom_at (l : List ByteArray) : ∀ (st k : Nat) (_ : k < l.length), (endsFrom st l)[k]? = some ((st + total (l.take (k + 1)) : Nat) : Int) := by
  induction l with
  | nil => intro st k h; simp at h
  | cons x l ih =>
    intro st k h
    cases k with
    | zero => simp [endsFrom, total]
    | succ k =>
      rw [endsFrom, List.getElem?_cons_succ, ih _ k (by simpa using h), List.take_succ_cons]
      simp [total]; omega

set_option maxRecDepth 100000 in
set_option maxHeartbeats 8000000 in
theorem LawLocal_any (s : ByteArray) (l m v b : Int) (at' : Nat) (w : World) (hs : s.size ≤ maxLen) (hat : at' < 65536) :
    Calls Try.prog 4 #[.string s, .agg (pcells l m v b), .int .u16 at'] w fun e w' => e = .returned (.bool true) ∧ Below w.heap.size w w' := by
  have hs' : s.size ≤ 9223372036854775807 := hs
  have hb0 : Below w.heap.size w (w.alloc (Obj.cells (pcells l m v b) 23)) := ba _ _
  by_cases h2 : s.size ≤ 400
  · have h65 : s.size ≤ 65536 := by omega
    have h2' : (s.size : Int) ≤ 400 := by omega
    have hP0 := PC.new w l m v b 23
    have hcnt := chunksI_count s l m v b
    by_cases hE : checkE l m v b = 0 ∧ chunksI s l m v b ≠ []
    · obtain ⟨hE, hCne⟩ := hE
      have hE0 := hE
      obtain ⟨l, m, v, b, rfl, rfl, rfl, rfl, h1, h12, h3, h4, h5⟩ := checkE_nat hE
      rw [chunksI_ok hE] at hcnt hCne
      have HE := lid hE
      have HK : Hid (∀ t, chunksI t l m v b = chunksOf t l m v b) := lid fun t => chunksI_ok hE
      clear hE hE0
      go_enter Try.func4, Try.ntmps4
      go_wp2_with fail
      (with_reducible refine (Split_any s l m v b _ h65).mono ?_); rintro e w1 ⟨a1, n1, c1, rfl, hn1, hnc1, hcm1, hsl1, hb1⟩
      rw [HK.out] at hn1 hsl1
      rw [HE.out]
      have hP1 := lid (hP0.below hb1 (by simp))
      obtain ⟨p0, p1, p2, p3⟩ := hP1.out
      have hw1 := hb0.trans (hb1.mono (by simp))
      have hq1 : w.heap.size < w1.heap.size := by have := hb1.size; rw [World.size_alloc] at this; omega
      have HN1 := lid hn1
      have HS1 := lid hsl1
      have hn1' : n1 ≤ 400 := by omega
      have hn0 : 0 < n1 := by rw [← hn1]; exact List.length_pos_iff.2 hCne
      clear hb1 hP0 hn1 hsl1 hCne
      go_wp2_with fail
      (with_reducible refine (Bounds_any s l m v b _ h65).mono ?_); rintro e w2 ⟨a2, n2, c2, rfl, hn2, hnc2, hcm2, hsl2, hb2⟩
      rw [HK.out] at hn2 hsl2
      rw [HE.out]
      have hn12 : n2 = n1 := by rw [← hn2, HN1.out]
      subst hn12
      have hP2 := lid (hP1.out.below hb2 hq1)
      have hw2 := hw1.trans (hb2.mono hw1.size)
      have hq2 : w.heap.size < w2.heap.size := by have := hb2.size; omega
      replace HS1 := lid (HS1.out.below hb2)
      have HS2 := lid hsl2
      obtain ⟨k, hk⟩ : ∃ k, k = at' % n2 := ⟨_, rfl⟩
      have hkn : k < n2 := by rw [hk]; exact Nat.mod_lt _ hn0
      have hkm : ((at' : Int) % (n2 : Int)) = (k : Int) := by rw [hk]; simp
      have hkC : k < (chunksOf s l m v b).length := by rw [HN1.out]; exact hkn
      have hat' : (at' : Int) ≤ 65535 := by omega
      obtain ⟨bb, oo, rfl, hlb, hcell⟩ := HS2.out.at_ hkn
      have hx := endsFrom_at (chunksOf s l m v b) 0 k hkC
      rw [Nat.zero_add] at hx
      have HT := lid (chunks_take (l := l) (m := m) (v := v) (b := b) s (k + 1))
      have HD := lid (chunks_drop (l := l) (m := m) (v := v) (b := b) s (k + 1))
      have hel : total ((chunksOf s l m v b).take (k + 1)) ≤ s.size := by have := total_take (chunksOf s l m v b) (k + 1); rw [total_chunks] at this; exact this
      have x0 := hcell k (.int .i64 (total ((chunksOf s l m v b).take (k + 1)) : Nat)) (by rw [ivals, List.getElem?_map, hx]; rfl)
      clear hb2 hP1 hn2 hsl2 p0 p1 p2 p3 hcell hx HS2 hk
      generalize total ((chunksOf s l m v b).take (k + 1)) = e at *
      have HZ1 : Hid ((s.extract 0 e).size ≤ 65536) := lid (by rw [ByteArray.size_extract]; omega)
      have HZ2 : Hid ((s.extract e s.size).size ≤ 65536) := lid (by
        have : (s.extract e s.size).size ≤ s.size := by simp [ByteArray.size_extract]
        omega)
      have he1 : (e : Int) ≤ s.size := by omega
      have he2 : decide ((s.size : Int) < (e : Int)) = false := by simp; omega
      have he3 : decide (s.size < e) = false := by simp; omega
      have he4 : decide ((e : Int) < 0) = false := by simp
      have hn3 : ((n2 : Int) == 0) = false := by rw [beq_eq_false_iff_ne]; omega
      have hki : (k : Int) < n2 := by omega
      obtain ⟨p0, p1, p2, p3⟩ := hP2.out
      go_wp2_with fail
      rw [hkm]
      refine wp_region_seq (fun w' => ∃ s : Since w2.heap.size w2, w' = s.world) [(0, true), (1, true), (2, true), (3, true), (4, true), (5, true), (6, true), (7, false), (8, true), (9, true), (10, true), (11, false), (12, false)] (by kernel_rfl) (by kernel_rfl) (by intro c d v a w h; cases d <;> exact h) (since (Below.refl _ _).drew) ?_
      repeat (first | (refine seq_skip (by rfl) (by rfl) ?_; simp only [Act.put, List.setIfInBounds_toArray, List.set_cons_succ, List.set_cons_zero]) | (refine seq_float (by rfl) (by rfl) (by rfl) ?_; intro K hK; go_big_quiet_op; go_big_quiet_on))
      refine seq_chain (by rfl) ?_
      intro K hK
      go_wp2_with fail
      (with_reducible refine (Split_any (s.extract 0 e) l m v b _ HZ1.out).mono ?_); rintro e w3 ⟨a3, n3, c3, rfl, hn3', hnc3, hcm3, hsl3, hb3⟩
      rw [HK.out, HT.out] at hn3' hsl3
      rw [HE.out]
      have hb23 : Below w2.heap.size w2 w3 := (Below.refl _ _).drew.trans hb3
      have HS3 := lid hsl3
      have HN3 := lid hn3'
      have hq3 : w.heap.size < w3.heap.size := by have := hb23.size; omega
      have hlb3 : bb < w3.heap.size := by have := hb23.size; omega
      clear hsl3 hn3' hb3
      go_wp2_with fail
      refine hK.out _ _ (since hb23) ?_
      clear hK K
      repeat (first | (refine seq_skip (by rfl) (by rfl) ?_; simp only [Act.put, List.setIfInBounds_toArray, List.set_cons_succ, List.set_cons_zero]) | (refine seq_float (by rfl) (by rfl) (by rfl) ?_; intro K hK; go_big_quiet_op; go_big_quiet_on))
      refine seq_chain (by rfl) ?_
      intro K hK
      go_wp2_with fail
      refine hK.out _ _ (since hb23) ?_
      clear hK K
      repeat (first | (refine seq_skip (by rfl) (by rfl) ?_; simp only [Act.put, List.setIfInBounds_toArray, List.set_cons_succ, List.set_cons_zero]) | (refine seq_float (by rfl) (by rfl) (by rfl) ?_; intro K hK; go_big_quiet_op; go_big_quiet_on))
      refine seq_chain (by rfl) ?_
      intro K hK
      go_wp2_with fail
      refine hK.out _ _ (since hb23) ?_
      clear hK K
      repeat (first | (refine seq_skip (by rfl) (by rfl) ?_; simp only [Act.put, List.setIfInBounds_toArray, List.set_cons_succ, List.set_cons_zero]) | (refine seq_float (by rfl) (by rfl) (by rfl) ?_; intro K hK; go_big_quiet_op; go_big_quiet_on))
      refine seq_nil ?_
      have hP3 := lid (hP2.out.below hb23 hq2)
      have y0 := (bc hb23 hlb (oo + k)).trans x0
      have hw3 := hw2.trans (hb23.mono hw2.size)
      replace HS1 := lid (HS1.out.below hb23)
      clear x0 p0 p1 p2 p3 hb23 hP2
      obtain ⟨p0, p1, p2, p3⟩ := hP3.out
      go_wp2_with fail
      refine wp_region_seq (fun w' => ∃ s : Since w3.heap.size w3, w' = s.world) [(0, true), (1, true), (2, true), (3, true), (4, true), (5, true), (6, true), (7, false), (8, true), (9, true), (10, true), (11, false), (12, false)] (by kernel_rfl) (by kernel_rfl) (by intro c d v a w h; cases d <;> exact h) (since (Below.refl _ _).drew) ?_
      repeat (first | (refine seq_skip (by rfl) (by rfl) ?_; simp only [Act.put, List.setIfInBounds_toArray, List.set_cons_succ, List.set_cons_zero]) | (refine seq_float (by rfl) (by rfl) (by rfl) ?_; intro K hK; go_big_quiet_op; go_big_quiet_on))
      refine seq_chain (by rfl) ?_
      intro K hK
      go_wp2_with fail
      (with_reducible refine (Split_any (s.extract e s.size) l m v b _ HZ2.out).mono ?_); rintro e w4 ⟨a4, n4, c4, rfl, hn4', hnc4, hcm4, hsl4, hb4⟩
      rw [HK.out, HD.out] at hn4' hsl4
      rw [HE.out]
      have hb34 : Below w3.heap.size w3 w4 := (Below.refl _ _).drew.trans hb4
      have HS4 := lid hsl4
      have HN4 := lid hn4'
      clear hsl4 hn4' hb4
      go_wp2_with fail
      refine hK.out _ _ (since hb34) ?_
      clear hK K
      repeat (first | (refine seq_skip (by rfl) (by rfl) ?_; simp only [Act.put, List.setIfInBounds_toArray, List.set_cons_succ, List.set_cons_zero]) | (refine seq_float (by rfl) (by rfl) (by rfl) ?_; intro K hK; go_big_quiet_op; go_big_quiet_on))
      refine seq_chain (by rfl) ?_
      intro K hK
      go_wp2_with fail
      refine hK.out _ _ (since hb34) ?_
      clear hK K
      repeat (first | (refine seq_skip (by rfl) (by rfl) ?_; simp only [Act.put, List.setIfInBounds_toArray, List.set_cons_succ, List.set_cons_zero]) | (refine seq_float (by rfl) (by rfl) (by rfl) ?_; intro K hK; go_big_quiet_op; go_big_quiet_on))
      refine seq_chain (by rfl) ?_
      intro K hK
      go_wp2_with fail
      refine hK.out _ _ (since hb34) ?_
      clear hK K
      repeat (first | (refine seq_skip (by rfl) (by rfl) ?_; simp only [Act.put, List.setIfInBounds_toArray, List.set_cons_succ, List.set_cons_zero]) | (refine seq_float (by rfl) (by rfl) (by rfl) ?_; intro K hK; go_big_quiet_op; go_big_quiet_on))
      refine seq_nil ?_
      have hw4 := hw3.trans (hb34.mono hw3.size)
      replace HS1 := lid (HS1.out.below hb34)
      replace HS3 := lid (HS3.out.below hb34)
      clear y0 p0 p1 p2 p3 hb34 hP3
      obtain ⟨b1, o1, rfl, hlb1, -⟩ := HS1.out.at_ hn0
      have T1 := lid (HS1.out.take (k := k + 1) (by omega))
      have T2 := lid (HS1.out.drop (k := k + 1) (c := c1) (by omega) hnc1)
      rw [Nat.mul_one] at T1 T2
      have hv1 : (svals (chunksOf s l m v b)).take (k + 1) = svals ((chunksOf s l m v b).take (k + 1)) := by rw [svals, svals, List.map_take]
      have hv2 : (svals (chunksOf s l m v b)).drop (k + 1) = svals ((chunksOf s l m v b).drop (k + 1)) := by rw [svals, svals, List.map_drop]
      rw [hv1] at T1
      rw [hv2] at T2
      have hk1 : (k : Int) + 1 ≤ n2 := by omega
      have hk2 : (n2 : Int) ≤ c1 := by omega
      have HC1 : Hid (((chunksOf s l m v b).take (k + 1)).length = k + 1) := lid (by rw [List.length_take, HN1.out]; omega)
      have HC2 : Hid (((chunksOf s l m v b).drop (k + 1)).length = n2 - (k + 1)) := lid (by rw [List.length_drop, HN1.out])
      have hn3le : n3 ≤ 1099511627776 := by rw [← HN3.out, HC1.out]; omega
      have hn4le : n4 ≤ 1099511627776 := by rw [← HN4.out, HC2.out]; omega
      clear hv1 hv2
      go_wp2_with fail
      (with_reducible refine (SameStrings_any _ _ n3 (k + 1) a3 _ c3 c1 _ HN3.out HC1.out hn3le HS3.out T1.out).mono ?_); rintro e w5 ⟨rfl, hb5⟩
      rw [decide_eq_true (rfl : (chunksOf s l m v b).take (k + 1) = (chunksOf s l m v b).take (k + 1))]
      replace HS4 := lid (HS4.out.below hb5)
      replace T2 := lid (T2.out.below hb5)
      have hw5 := hw4.trans (hb5.mono hw4.size)
      clear hb5 hkm hcnt hel he1 he2 he3 he4 hkC hat' hat hn3
      by_cases hcap : c1 = k + 1
      · have hq : (k : Int) + 1 = (n2 : Int) := by omega
        have hnk : n2 - (k + 1) = 0 := by omega
        obtain rfl : c1 = n2 := by omega
        have T3 : Hid (Sl w5 1 (some ⟨b1, o1, none⟩) 0 (svals ((chunksOf s l m v b).drop (k + 1)))) := lid (by
          have := T2.out
          rw [if_pos hcap, hnk] at this
          exact this)
        rw [hnk] at HC2
        have hkb : (c1 : Int) ≤ 400 := by omega
        clear T2 hnc1 hcm1 hn1' hkn hki hk1 hk2 hnc2 hcap hnk
        go_wp2_with fail
        (with_reducible refine (SameStrings_any _ _ n4 0 a4 _ c4 0 _ HN4.out HC2.out hn4le HS4.out T3.out).mono ?_); rintro e w6 ⟨rfl, hb6⟩
        rw [decide_eq_true (rfl : (chunksOf s l m v b).drop (k + 1) = (chunksOf s l m v b).drop (k + 1))]
        have hw6 := hw5.trans (hb6.mono hw5.size)
        go_wp2_with fail
        (with_reducible refine (awake_any _).mono ?_); rintro e w7 ⟨rfl, hb7⟩
        go_wp2_with fail
        go_ret
        exact ⟨rfl, hw6.trans (hb7.mono hw6.size)⟩
      · have T3 : Hid (Sl w5 1 (some ⟨b1, o1 + (k + 1), none⟩) (n2 - (k + 1)) (svals ((chunksOf s l m v b).drop (k + 1)))) := lid (by
          have := T2.out
          rw [if_neg hcap] at this
          simpa only [Option.map_some, Addr.add_lit] using this)
        clear T2
        go_wp2_with fail
        (with_reducible refine (SameStrings_any _ _ n4 (n2 - (k + 1)) a4 _ c4 (c1 - (k + 1)) _ HN4.out HC2.out hn4le HS4.out T3.out).mono ?_); rintro e w6 ⟨rfl, hb6⟩
        rw [decide_eq_true (rfl : (chunksOf s l m v b).drop (k + 1) = (chunksOf s l m v b).drop (k + 1))]
        have hw6 := hw5.trans (hb6.mono hw5.size)
        go_wp2_with fail
        (with_reducible refine (awake_any _).mono ?_); rintro e w7 ⟨rfl, hb7⟩
        go_wp2_with fail
        go_ret
        exact ⟨rfl, hw6.trans (hb7.mono hw6.size)⟩
    · have hbad : checkE l m v b = 2 ∨ checkE l m v b = 0 ∧ chunksI s l m v b = [] := by
        by_cases h : checkE l m v b = 0
        · right; exact ⟨h, by rcases Decidable.em (chunksI s l m v b = []) with h' | h'; exact h'; exact absurd ⟨h, h'⟩ hE⟩
        · exact .inl (checkE_two h)
      have hC0 : Hid (chunksI s l m v b = []) := lid (by
        rcases hbad with h | h
        · exact chunksI_bad (by rw [h]; decide)
        · exact h.2)
      have hatB : (at' : Int) ≤ 65535 := by omega
      have hbad' : checkE l m v b = 2 ∨ checkE l m v b = 0 := hbad.imp id (fun h => h.1)
      clear hE hbad
      have HS := lid hbad'
      clear hbad' hcnt hat hs
      rcases HS.out with hE | hE
      all_goals
        have HE := lid hE
        clear hE HS
        go_enter Try.func4, Try.ntmps4
        go_wp2_with fail
        (with_reducible refine (Split_any s l m v b _ h65).mono ?_); rintro e w1 ⟨a1, n1, c1, rfl, hn1, hnc1, hcm1, hsl1, hb1⟩
        rw [hC0.out] at hn1 hsl1
        rw [HE.out]
        obtain rfl : 0 = n1 := hn1
        obtain ⟨p0, p1, p2, p3⟩ := hP0.below hb1 (by simp)
        have hw1 := hb0.trans (hb1.mono (by simp))
        have hq1 : w.heap.size < w1.heap.size := by have := hb1.size; rw [World.size_alloc] at this; omega
        clear hb1 hP0 hsl1
        go_wp2_with fail
        (with_reducible refine (Bounds_any s l m v b _ h65).mono ?_); rintro e w2 ⟨a2, n2, c2, rfl, hn2, hnc2, hcm2, hsl2, hb2⟩
        rw [HE.out]
        have hw2 := hw1.trans (hb2.mono hw1.size)
        clear hsl2 hb2 hn2
        go_wp2_with fail
        (with_reducible refine (awake_any _).mono ?_); rintro e w3 ⟨rfl, hb3⟩
        go_wp2_with fail
        go_ret
        exact ⟨rfl, hw2.trans (hb3.mono hw2.size)⟩
  · have h2' : (400 : Int) < s.size := by omega
    go_enter Try.func4, Try.ntmps4
    go_wp2_with fail
    (with_reducible refine (awake_any _).mono ?_); rintro e w1 ⟨rfl, hb1⟩
    go_wp2_with fail
    go_ret
    exact ⟨rfl, hb0.trans (hb1.mono (by simp))⟩
end Go.Proofs.Ytmebjjoldhcgpaa
