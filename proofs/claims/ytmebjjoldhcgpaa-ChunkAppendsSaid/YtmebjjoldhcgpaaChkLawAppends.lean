/-
  The law ChunkAppends returns true and makes new memory alone.
-/
import Derived.Test.YtmebjjoldhcgpaaChkLawMeets
namespace Go.Proofs.Ytmebjjoldhcgpaa
open Go.RowKit

theorem freshN_self (l : List ByteArray) : freshN l l = 0 := by
  unfold freshN
  have : l.filter (fun c => !memB c l) = [] := by
    rw [List.filter_eq_nil_iff]
    intro a ha
    simp [memB_iff.2 ha]
  rw [this]
  rfl
theorem freshN_append (o a b : List ByteArray) : freshN o (a ++ b) = freshN o a + freshN o b := by
  unfold freshN
  rw [List.filter_append, total_append]
theorem freshN_sub {o a : List ByteArray} (h : ∀ c ∈ a, c ∈ o) : freshN o a = 0 := by
  unfold freshN
  have : a.filter (fun c => !memB c o) = [] := by
    rw [List.filter_eq_nil_iff]
    intro c hc
    simp [memB_iff.2 (h c hc)]
  rw [this]
  rfl
theorem chunks_append {l m v b : Nat} (s t : ByteArray) : (chunksOf (s ++ t) l m v b).take ((chunksOf s l m v b).length - 1) = (chunksOf s l m v b).take ((chunksOf s l m v b).length - 1) := by
  have hl : (chunksOf s l m v b).length = (lens l m v b s.data.toList).length := by rw [chunksOf, List.length_map, pieces_length]
  have hd : (s ++ t).data.toList = s.data.toList ++ t.data.toList := by simp [ByteArray.data_append]
  have h := lens_append (l := l) (m := m) (v := v) (b := b) s.data.toList t.data.toList
  have hle := lens_take_le (l := l) (m := m) (v := v) (b := b) s.data.toList ((lens l m v b s.data.toList).length - 1)
  rw [hl, chunksOf, chunksOf, hd, ← List.map_take, ← List.map_take, ← pieces_take, ← pieces_take, h, List.take_append_of_le_length hle]
theorem chunks_grow {l m v b : Nat} (s t : ByteArray) : (chunksOf s l m v b).length ≤ (chunksOf (s ++ t) l m v b).length := by
  rcases Nat.lt_or_ge (chunksOf (s ++ t) l m v b).length (chunksOf s l m v b).length with h | h
  · exfalso
    have h1 := chunks_append (l := l) (m := m) (v := v) (b := b) s t
    have t1 := total_chunks (s ++ t) l m v b
    have t2 := total_chunks s l m v b
    rw [List.take_of_length_le (by omega)] at h1
    rw [h1, ByteArray.size_append] at t1
    have hlast : 1 ≤ total ((chunksOf s l m v b).drop ((chunksOf s l m v b).length - 1)) := by
      have hk : (chunksOf s l m v b).length - 1 < (chunksOf s l m v b).length := by omega
      rw [List.drop_eq_getElem_cons hk, total_cons]
      have : 1 ≤ ((chunksOf s l m v b)[(chunksOf s l m v b).length - 1]).size := by
        have hm := List.getElem_mem hk
        generalize (chunksOf s l m v b)[(chunksOf s l m v b).length - 1] = c at *
        unfold chunksOf at hm
        obtain ⟨p, hp, rfl⟩ := List.mem_map.1 hm
        rw [bstr_size]
        have key : ∀ (ns : List Nat) (u : List UInt8), (∀ n ∈ ns, 1 ≤ n) → ns.sum ≤ u.length → ∀ p ∈ pieces u ns, 1 ≤ p.length := by
          intro ns
          induction ns with
          | nil => intro u _ _ p hp; cases hp
          | cons n ns ih =>
            intro u h1 h2 p hp
            rw [List.sum_cons] at h2
            have hn := h1 n (by simp)
            rcases List.mem_cons.1 hp with rfl | hp
            · rw [List.length_take]; omega
            · exact ih (u.drop n) (fun x hx => h1 x (by simp [hx])) (by rw [List.length_drop]; omega) p hp
        exact key _ _ (lens_pos _) (by rw [lens_sum]; exact Nat.le_refl _) p hp
      omega
    have hs : total ((chunksOf s l m v b).take ((chunksOf s l m v b).length - 1)) + total ((chunksOf s l m v b).drop ((chunksOf s l m v b).length - 1)) = total (chunksOf s l m v b) := by rw [← total_append, List.take_append_drop]
    omega
  · exact h
/-- Few fresh bytes. -/
theorem fresh_few {l m v b : Nat} (s t : ByteArray) : freshN (chunksOf s l m v b) (chunksOf (s ++ t) l m v b) ≤ total ((chunksOf s l m v b).drop ((chunksOf s l m v b).length - 1)) + t.size := by
  have h1 := chunks_append (l := l) (m := m) (v := v) (b := b) s t
  have t1 := total_chunks (s ++ t) l m v b
  have t2 := total_chunks s l m v b
  rw [ByteArray.size_append] at t1
  generalize chunksOf (s ++ t) l m v b = T at *
  generalize chunksOf s l m v b = C at *
  generalize C.length - 1 = j at *
  have e : freshN C T = freshN C (T.take j) + freshN C (T.drop j) := by rw [← freshN_append, List.take_append_drop]
  have e0 : freshN C (T.take j) = 0 := freshN_sub (by rw [h1]; intro c hc; exact List.mem_of_mem_take hc)
  have e1 := freshN_le C (T.drop j)
  have q1 : total (T.take j) + total (T.drop j) = total T := by rw [← total_append, List.take_append_drop]
  have q2 : total (C.take j) + total (C.drop j) = total C := by rw [← total_append, List.take_append_drop]
  rw [h1] at q1
  omega
theorem drop_last {C : List ByteArray} (h : 0 < C.length) : total (C.drop (C.length - 1)) = (C[C.length - 1]'(by omega)).size := by
  rw [List.drop_eq_getElem_cons (by omega), total_cons, List.drop_eq_nil_of_le (by omega)]
  rfl

set_option maxRecDepth 100000 in
set_option maxHeartbeats 8000000 in
theorem LawAppends_ok (s t : ByteArray) (l m v b : Nat) (w : World) (hs : s.size ≤ 200) (ht : t.size ≤ 200) (h1 : 1 ≤ v) (h12 : v ≤ l) (hE : checkE l m v b = 0) :
    Calls Try.prog 7 #[.string s, .string t, .agg (pcells l m v b)] w fun e w' => e = .returned (.bool true) ∧ Below w.heap.size w w' := by
  have hb0 : Below w.heap.size w (w.alloc (Obj.cells (pcells l m v b) 23)) := ba _ _
  have hP0 := PC.new w l m v b 23
  have hs' : (s.size : Int) ≤ 200 := by omega
  have ht' : (t.size : Int) ≤ 200 := by omega
  have hs2 : decide ((200 : Int) < s.size) = false := by simp; omega
  have ht2 : decide ((200 : Int) < t.size) = false := by simp; omega
  have hZ0 : Hid (s.size ≤ 65536) := lid (by omega)
  have hZ1 : Hid ((s ++ t).size ≤ 65536) := lid (by simp [ByteArray.size_append]; omega)
  have HE := lid hE
  have HK : Hid (∀ u, chunksI u l m v b = chunksOf u l m v b) := lid fun u => chunksI_ok hE
  clear hE
  go_enter Try.func7, Try.ntmps7
  go_wp2_with fail
  (with_reducible refine (Check_any l m v b _).mono ?_); rintro e w1 ⟨rfl, hb1⟩
  rw [HE.out]
  have hP1 := lid (hP0.below hb1 (by simp))
  have hw1 := hb0.trans (hb1.mono (by simp))
  have hq1 : w.heap.size < w1.heap.size := by have := hb1.size; rw [World.size_alloc] at this; omega
  clear hb1 hP0
  obtain ⟨p0, p1, p2, p3⟩ := hP1.out
  go_wp2_with fail
  (with_reducible refine (Fresh_any s s l m v b _ hZ0.out hZ0.out).mono ?_); rintro e w2 ⟨rfl, hb2⟩
  rw [HK.out, HE.out, freshN_self]
  have hP2 := lid (hP1.out.below hb2 hq1)
  have hw2 := hw1.trans (hb2.mono hw1.size)
  have hq2 : w.heap.size < w2.heap.size := by have := hb2.size; omega
  clear hb2 hP1 p0 p1 p2 p3
  obtain ⟨p0, p1, p2, p3⟩ := hP2.out
  go_wp2_with fail
  (with_reducible refine (Fresh_any s (s ++ t) l m v b _ hZ0.out hZ1.out).mono ?_); rintro e w3 ⟨rfl, hb3⟩
  rw [HK.out, HK.out, HE.out]
  have hP3 := lid (hP2.out.below hb3 hq2)
  have hw3 := hw2.trans (hb3.mono hw2.size)
  have hq3 : w.heap.size < w3.heap.size := by have := hb3.size; omega
  clear hb3 hP2 p0 p1 p2 p3
  obtain ⟨p0, p1, p2, p3⟩ := hP3.out
  go_wp2_with fail
  (with_reducible refine (Split_any s l m v b _ hZ0.out).mono ?_); rintro e w4 ⟨a1, n1, c1, rfl, hn1, hnc1, hcm1, hsl1, hb4⟩
  rw [HK.out] at hn1 hsl1
  rw [HE.out]
  have hP4 := lid (hP3.out.below hb4 hq3)
  have hw4 := hw3.trans (hb4.mono hw3.size)
  have hq4 : w.heap.size < w4.heap.size := by have := hb4.size; omega
  have HN1 := lid hn1
  have HS1 := lid hsl1
  clear hb4 hP3 p0 p1 p2 p3 hn1 hsl1
  obtain ⟨p0, p1, p2, p3⟩ := hP4.out
  go_wp2_with fail
  (with_reducible refine (Split_any (s ++ t) l m v b _ hZ1.out).mono ?_); rintro e w5 ⟨a2, n2, c2, rfl, hn2, hnc2, hcm2, hsl2, hb5⟩
  rw [HK.out] at hn2 hsl2
  rw [HE.out]
  have hw5 := hw4.trans (hb5.mono hw4.size)
  have HN2 := lid hn2
  have HS2 := lid hsl2
  replace HS1 := lid (HS1.out.below hb5)
  clear hb5 hP4 p0 p1 p2 p3 hn2 hsl2
  have HA := lid (chunks_append (l := l) (m := m) (v := v) (b := b) s t)
  have hgr := chunks_grow (l := l) (m := m) (v := v) (b := b) s t
  have hfe := fresh_few (l := l) (m := m) (v := v) (b := b) s t
  have hfl := freshN_le (chunksOf s l m v b) (chunksOf (s ++ t) l m v b)
  rw [total_chunks, ByteArray.size_append] at hfl
  have hc1 : (chunksOf s l m v b).length ≤ 200 := by rw [← cuts_len h1 h12]; exact Nat.le_trans (cuts_length _ _ _ _ _) hs
  have hc2 : (chunksOf (s ++ t) l m v b).length ≤ 400 := by
    rw [← cuts_len h1 h12]
    exact Nat.le_trans (cuts_length _ _ _ _ _) (by rw [show (s ++ t).data.toList.length = (s ++ t).size from rfl, ByteArray.size_append]; omega)
  have HTC := lid (total_chunks s l m v b)
  generalize chunksOf (s ++ t) l m v b = T at *
  generalize chunksOf s l m v b = C at *
  generalize freshN C T = F at *
  rw [HN1.out] at hc1 hgr
  rw [HN2.out] at hc2 hgr
  rw [HN1.out] at HA
  have u1 : decide ((F : Int) < 0) = false := by simp
  have u2 : decide ((s.size : Int) + (t.size : Int) < (F : Int)) = false := by simp; omega
  have u3 : decide ((n2 : Int) < (n1 : Int)) = false := by simp; omega
  have u3n : decide (n2 < n1) = false := by simp; omega
  have u4 : (F : Int) ≤ (s.size : Int) + (t.size : Int) := by omega
  have u5 : (n1 : Int) ≤ (n2 : Int) := by omega
  have u6 : (n2 : Int) ≤ 400 := by omega
  have u7 : (n1 : Int) ≤ 200 := by omega
  by_cases h0 : 0 < n1
  · obtain ⟨j, rfl⟩ : ∃ j, n1 = j + 1 := ⟨n1 - 1, by omega⟩
    have hjC : j < C.length := by rw [HN1.out]; omega
    have hi1 : C.length - 1 = j := by rw [HN1.out]; omega
    obtain ⟨cl, hcl⟩ : ∃ cl, C[j] = cl := ⟨_, rfl⟩
    have hlast : total (C.drop j) = cl.size := by
      rw [List.drop_eq_getElem_cons hjC, total_cons, List.drop_eq_nil_of_le (by omega), hcl]
      rfl
    rw [hi1, hlast] at hfe
    have hclz : cl.size ≤ 200 := by
      have := size_total (List.getElem_mem hjC)
      rw [hcl, HTC.out] at this
      omega
    obtain ⟨b1, o1, rfl, hlb1, hcell⟩ := HS1.out.at_ (k := j) (by omega)
    have x0 := hcell j _ (svals_at (l := C) hjC)
    rw [hcl] at x0
    obtain ⟨b2, o2, rfl, hlb2, -⟩ := HS2.out.at_ (k := 0) (by omega)
    simp only [Nat.add_sub_cancel] at HA
    have T1 := lid (HS1.out.take (k := j) (by omega))
    have T2 := lid (HS2.out.take (k := j) (by omega))
    rw [Nat.mul_one, svals, ← List.map_take] at T1
    rw [Nat.mul_one, svals, ← List.map_take] at T2
    have HC1 : Hid ((C.take j).length = j) := lid (by rw [List.length_take, HN1.out]; omega)
    have HC2 : Hid ((T.take j).length = j) := lid (by rw [List.length_take, HN2.out]; omega)
    have u8 : (F : Int) ≤ (cl.size : Int) + (t.size : Int) := by omega
    have u9 : decide ((F : Int) ≤ (cl.size : Int) + (t.size : Int)) = true := by simp; omega
    have v1 : (j : Int) + 1 ≤ n2 := by omega
    have v2 : (j : Int) ≤ 200 := by omega
    have v3 : (j : Int) + 1 ≤ c1 := by omega
    have v4 : (n2 : Int) ≤ c2 := by omega
    have hjl : j ≤ 1099511627776 := by omega
    clear hcell hlast hi1 hcl hjC u5 u7 hfl hc1 hgr hfe hnc1 h0
    rcases Nat.eq_zero_or_pos j with hj0 | hj0
    · subst hj0
      rw [Nat.add_zero] at x0
      go_wp2_with fail
      refine wp_region_seq (fun w' => ∃ s : Since w5.heap.size w5, w' = s.world) [(0, true), (1, true), (2, true), (3, true), (4, true), (5, true), (6, false), (7, true), (8, true), (9, true), (10, true), (11, true), (12, true), (13, true), (14, true), (15, true), (16, false), (17, true), (18, false)] (by kernel_rfl) (by kernel_rfl) (by intro c d v a w h; cases d <;> exact h) (since (Below.refl _ _).drew) ?_
      repeat (first | (refine seq_skip (by rfl) (by rfl) ?_; simp only [Act.put, List.setIfInBounds_toArray, List.set_cons_succ, List.set_cons_zero]) | (refine seq_float (by rfl) (by rfl) (by rfl) ?_; intro K hK; go_big_quiet_op; go_big_quiet_on))
      refine seq_chain (by rfl) ?_
      intro K hK
      go_wp2_with fail
      (with_reducible refine (SameStrings_any _ _ 0 0 _ _ c1 c2 _ HC1.out HC2.out (by omega) T1.out.drew T2.out.drew).mono ?_); rintro e w6 ⟨rfl, hb6⟩
      rw [decide_eq_true HA.out.symm]
      have hb56 : Below w5.heap.size w5 w6 := (Below.refl _ _).drew.trans hb6
      go_wp2_with fail
      refine hK.out _ _ (since hb56) ?_
      clear hK K
      repeat (first | (refine seq_skip (by rfl) (by rfl) ?_; simp only [Act.put, List.setIfInBounds_toArray, List.set_cons_succ, List.set_cons_zero]) | (refine seq_float (by rfl) (by rfl) (by rfl) ?_; intro K hK; go_big_quiet_op; go_big_quiet_on))
      refine seq_chain (by rfl) ?_
      intro K hK
      go_wp2_with fail
      (with_reducible refine (awake_any _).mono ?_); rintro e w7 ⟨rfl, hb7⟩
      have hb57 := hb56.trans (hb7.mono hb56.size)
      go_wp2_with fail
      refine hK.out _ _ (since hb57) ?_
      clear hK K
      repeat (first | (refine seq_skip (by rfl) (by rfl) ?_; simp only [Act.put, List.setIfInBounds_toArray, List.set_cons_succ, List.set_cons_zero]) | (refine seq_float (by rfl) (by rfl) (by rfl) ?_; intro K hK; go_big_quiet_op; go_big_quiet_on))
      refine seq_chain (by rfl) ?_
      intro K hK
      go_wp2_with fail
      refine hK.out _ _ (since hb57) ?_
      clear hK K
      repeat (first | (refine seq_skip (by rfl) (by rfl) ?_; simp only [Act.put, List.setIfInBounds_toArray, List.set_cons_succ, List.set_cons_zero]) | (refine seq_float (by rfl) (by rfl) (by rfl) ?_; intro K hK; go_big_quiet_op; go_big_quiet_on))
      refine seq_nil ?_
      go_wp2_with fail
      go_ret
      exact ⟨rfl, hw5.trans (hb57.mono hw5.size)⟩
    · have v5 : (0 : Int) < j := by omega
      have v6 : decide ((j : Int) < 0) = false := by simp
      go_wp2_with fail
      refine wp_region_seq (fun w' => ∃ s : Since w5.heap.size w5, w' = s.world) [(0, true), (1, true), (2, true), (3, true), (4, true), (5, true), (6, false), (7, true), (8, true), (9, true), (10, true), (11, true), (12, true), (13, true), (14, true), (15, true), (16, false), (17, true), (18, false)] (by kernel_rfl) (by kernel_rfl) (by intro c d v a w h; cases d <;> exact h) (since (Below.refl _ _).drew) ?_
      repeat (first | (refine seq_skip (by rfl) (by rfl) ?_; simp only [Act.put, List.setIfInBounds_toArray, List.set_cons_succ, List.set_cons_zero]) | (refine seq_float (by rfl) (by rfl) (by rfl) ?_; intro K hK; go_big_quiet_op; go_big_quiet_on))
      refine seq_chain (by rfl) ?_
      intro K hK
      go_wp2_with fail
      (with_reducible refine (SameStrings_any _ _ j j _ _ c1 c2 _ HC1.out HC2.out (by omega) T1.out.drew T2.out.drew).mono ?_); rintro e w6 ⟨rfl, hb6⟩
      rw [decide_eq_true HA.out.symm]
      have hb56 : Below w5.heap.size w5 w6 := (Below.refl _ _).drew.trans hb6
      go_wp2_with fail
      refine hK.out _ _ (since hb56) ?_
      clear hK K
      repeat (first | (refine seq_skip (by rfl) (by rfl) ?_; simp only [Act.put, List.setIfInBounds_toArray, List.set_cons_succ, List.set_cons_zero]) | (refine seq_float (by rfl) (by rfl) (by rfl) ?_; intro K hK; go_big_quiet_op; go_big_quiet_on))
      refine seq_chain (by rfl) ?_
      intro K hK
      go_wp2_with fail
      (with_reducible refine (awake_any _).mono ?_); rintro e w7 ⟨rfl, hb7⟩
      have hb57 := hb56.trans (hb7.mono hb56.size)
      go_wp2_with fail
      refine hK.out _ _ (since hb57) ?_
      clear hK K
      repeat (first | (refine seq_skip (by rfl) (by rfl) ?_; simp only [Act.put, List.setIfInBounds_toArray, List.set_cons_succ, List.set_cons_zero]) | (refine seq_float (by rfl) (by rfl) (by rfl) ?_; intro K hK; go_big_quiet_op; go_big_quiet_on))
      refine seq_chain (by rfl) ?_
      intro K hK
      go_wp2_with fail
      refine hK.out _ _ (since hb57) ?_
      clear hK K
      repeat (first | (refine seq_skip (by rfl) (by rfl) ?_; simp only [Act.put, List.setIfInBounds_toArray, List.set_cons_succ, List.set_cons_zero]) | (refine seq_float (by rfl) (by rfl) (by rfl) ?_; intro K hK; go_big_quiet_op; go_big_quiet_on))
      refine seq_nil ?_
      go_wp2_with fail
      go_ret
      exact ⟨rfl, hw5.trans (hb57.mono hw5.size)⟩
  · obtain rfl : n1 = 0 := by omega
    have hCnil : C = [] := List.eq_nil_of_length_eq_zero HN1.out
    subst hCnil
    have T1 : Hid (Sl w5 1 a1 0 (svals [])) := lid (by simpa using HS1.out)
    have T2 := lid (HS2.out.take (k := 0) (by omega))
    have hFt : F ≤ t.size := by
      have : total ([] : List ByteArray) = 0 := rfl
      simp at hfe
      rw [this] at hfe
      omega
    have u8 : (F : Int) ≤ (t.size : Int) := by omega
    have u9 : decide ((F : Int) ≤ (t.size : Int)) = true := by simp; omega
    have u10 : decide (F ≤ t.size) = true := by simp; omega
    clear hfe hfl h0
    go_wp2_with fail
    refine wp_region_seq (fun w' => ∃ s : Since w5.heap.size w5, w' = s.world) [(0, true), (1, true), (2, true), (3, true), (4, true), (5, true), (6, false), (7, true), (8, true), (9, true), (10, true), (11, true), (12, true), (13, true), (14, true), (15, true), (16, false), (17, true), (18, false)] (by kernel_rfl) (by kernel_rfl) (by intro c d v a w h; cases d <;> exact h) (since (Below.refl _ _).drew) ?_
    repeat (first | (refine seq_skip (by rfl) (by rfl) ?_; simp only [Act.put, List.setIfInBounds_toArray, List.set_cons_succ, List.set_cons_zero]) | (refine seq_float (by rfl) (by rfl) (by rfl) ?_; intro K hK; go_big_quiet_op; go_big_quiet_on))
    refine seq_chain (by rfl) ?_
    intro K hK
    go_wp2_with fail
    (with_reducible refine (SameStrings_any [] [] 0 0 _ _ c1 c2 _ rfl rfl (by omega) Sl.nil Sl.nil).mono ?_); rintro e w6 ⟨rfl, hb6⟩
    rw [decide_eq_true (rfl : ([] : List ByteArray) = [])]
    have hb56 : Below w5.heap.size w5 w6 := (Below.refl _ _).drew.trans hb6
    go_wp2_with fail
    refine hK.out _ _ (since hb56) ?_
    clear hK K
    repeat (first | (refine seq_skip (by rfl) (by rfl) ?_; simp only [Act.put, List.setIfInBounds_toArray, List.set_cons_succ, List.set_cons_zero]) | (refine seq_float (by rfl) (by rfl) (by rfl) ?_; intro K hK; go_big_quiet_op; go_big_quiet_on))
    refine seq_chain (by rfl) ?_
    intro K hK
    go_wp2_with fail
    (with_reducible refine (awake_any _).mono ?_); rintro e w7 ⟨rfl, hb7⟩
    have hb57 := hb56.trans (hb7.mono hb56.size)
    go_wp2_with fail
    refine hK.out _ _ (since hb57) ?_
    clear hK K
    repeat (first | (refine seq_skip (by rfl) (by rfl) ?_; simp only [Act.put, List.setIfInBounds_toArray, List.set_cons_succ, List.set_cons_zero]) | (refine seq_float (by rfl) (by rfl) (by rfl) ?_; intro K hK; go_big_quiet_op; go_big_quiet_on))
    refine seq_chain (by rfl) ?_
    intro K hK
    go_wp2_with fail
    refine hK.out _ _ (since hb57) ?_
    clear hK K
    repeat (first | (refine seq_skip (by rfl) (by rfl) ?_; simp only [Act.put, List.setIfInBounds_toArray, List.set_cons_succ, List.set_cons_zero]) | (refine seq_float (by rfl) (by rfl) (by rfl) ?_; intro K hK; go_big_quiet_op; go_big_quiet_on))
    refine seq_nil ?_
    go_wp2_with fail
    go_ret
    exact ⟨rfl, hw5.trans (hb57.mono hw5.size)⟩

set_option maxRecDepth 100000 in
set_option maxHeartbeats 8000000 in
theorem LawAppends_any (s t : ByteArray) (l m v b : Int) (w : World) (hs : s.size ≤ maxLen) (ht : t.size ≤ maxLen) :
    Calls Try.prog 7 #[.string s, .string t, .agg (pcells l m v b)] w fun e w' => e = .returned (.bool true) ∧ Below w.heap.size w w' := by
  have hs1 : s.size ≤ 9223372036854775807 := hs
  have hs2 : t.size ≤ 9223372036854775807 := ht
  have hb0 : Below w.heap.size w (w.alloc (Obj.cells (pcells l m v b) 23)) := ba _ _
  by_cases h1 : s.size ≤ 200
  · have ha' : (s.size : Int) ≤ 200 := by omega
    have ha2 : decide ((200 : Int) < s.size) = false := by simp; omega
    by_cases h2 : t.size ≤ 200
    · have hc' : (t.size : Int) ≤ 200 := by omega
      have hc2 : decide ((200 : Int) < t.size) = false := by simp; omega
      by_cases hE : checkE l m v b = 0
      · obtain ⟨l, m, v, b, rfl, rfl, rfl, rfl, k1, k2, _⟩ := checkE_nat hE
        exact LawAppends_ok s t l m v b w h1 h2 k1 k2 hE
      · have HE := lid (checkE_two hE)
        clear hE
        go_enter Try.func7, Try.ntmps7
        go_wp2_with fail
        (with_reducible refine (Check_any l m v b _).mono ?_); rintro e w1 ⟨rfl, hb1⟩
        rw [HE.out]
        have hw1 := hb0.trans (hb1.mono (by simp))
        go_wp2_with fail
        (with_reducible refine (awake_any _).mono ?_); rintro e w2 ⟨rfl, hb2⟩
        go_wp2_with fail
        go_ret
        exact ⟨rfl, hw1.trans (hb2.mono hw1.size)⟩
    · have hc' : (200 : Int) < t.size := by omega
      have hc2 : decide ((200 : Int) < t.size) = true := by simp; omega
      go_enter Try.func7, Try.ntmps7
      go_wp2_with fail
      (with_reducible refine (awake_any _).mono ?_); rintro e w1 ⟨rfl, hb1⟩
      go_wp2_with fail
      go_ret
      exact ⟨rfl, hb0.trans (hb1.mono (by simp))⟩
  · have ha' : (200 : Int) < s.size := by omega
    have ha2 : decide ((200 : Int) < s.size) = true := by simp; omega
    go_enter Try.func7, Try.ntmps7
    go_wp2_with fail
    (with_reducible refine (awake_any _).mono ?_); rintro e w1 ⟨rfl, hb1⟩
    go_wp2_with fail
    go_ret
    exact ⟨rfl, hb0.trans (hb1.mono (by simp))⟩
end Go.Proofs.Ytmebjjoldhcgpaa
