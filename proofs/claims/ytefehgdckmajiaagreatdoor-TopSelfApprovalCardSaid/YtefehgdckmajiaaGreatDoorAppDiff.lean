/-
  approval.difference.
-/
import Derived.Test.YtefehgdckmajiaaGreatDoorOwnDiff
namespace Go.Proofs.YtefehgdckmajiaaGreatDoor
open Go.RowKit

theorem info_ch : (Tryz.prog.info? 61).map (fun i => (i.zero, i.size, i.bytes)) = some (some (.agg #[.string ⟨#[]⟩, .bool false, .bool false, .string ⟨#[]⟩, .string ⟨#[]⟩]), 5, 56) := by kernel_rfl
set_option maxRecDepth 100000 in
set_option maxHeartbeats 16000000 in
theorem difference_any (l1 l2 : List Fl) (n1 cap1 n2 cap2 : Nat) (a1 a2 : Option Addr) (w : World) (h1 : FA w a1 n1 cap1 l1) (h2 : FA w a2 n2 cap2 l2) (hn1 : n1 ≤ 100000) (hn2 : n2 ≤ 100000) :
    Calls Tryz.prog 23 #[.slice a1 n1 cap1, .slice a2 n2 cap2] w fun e w' => ∃ v : SV, e = .returned (slv v) ∧ Below w.heap.size w w' ∧ (SlC (fun k => w.heap.size ≤ k ∧ k < w'.heap.size) w' 5 v (chcells (diffF l1 l2)) ∧ (diffF l1 l2).length = v.2.1 ∧ ∀ x ∈ diffF l1 l2, x.1.size ≤ maxLen ∧ x.2.2.2.1.size ≤ maxLen ∧ x.2.2.2.2.size ≤ maxLen) := by
  have HN1 : Hid (l1.length = n1) := lid h1.len
  have HN2 : Hid (l2.length = n2) := lid h2.len
  have HS1 : Hid (Sl w 2 a1 n1 (fcells l1)) := lid h1.sl
  have HS2 : Hid (Sl w 2 a2 n2 (fcells l2)) := lid h2.sl
  have HZ1 := lid h1.sz
  have HZ2 := lid h2.sz
  have hcap1 : n1 ≤ cap1 := h1.le
  have hcap2 : n2 ≤ cap2 := h2.le
  have hn19 : n1 ≤ 9223372036854775807 := by omega
  have hn29 : n2 ≤ 9223372036854775807 := by omega
  clear h1 h2
  go_enter Tryz.func23, Tryz.ntmps23
  go_wp2_with fail
  go_loopw [5, 6, 7] (fun v5 u6 u7 wr => ∃ (i k : Nat) (acc : List Ch), i ≤ n1 ∧ k ≤ n2 ∧ u6 = .int .i64 i ∧ u7 = .int .i64 k ∧ Hid (diffF l1 l2 = acc ++ diffF (l1.drop i) (l2.drop k)) ∧ Hid (acc.length ≤ i + k) ∧ Hid (wr.ownsRow w.heap.size 61 5 v5 acc.length (chcells acc)) ∧ Hid (∀ x ∈ acc, x.1.size ≤ maxLen ∧ x.2.2.2.1.size ≤ maxLen ∧ x.2.2.2.2.size ≤ maxLen) ∧ Below w.heap.size w wr) (fun _ u6 u7 _ => (n1 - (intOf u6).toNat) + (n2 - (intOf u7).toNat))
  case atStart => exact ⟨0, 0, [], Nat.zero_le _, Nat.zero_le _, rfl, rfl, lid rfl, lid (Nat.le_refl _), lid (World.ownsRow_nil _ _ _ _), lid (fun x hx => by cases hx), Below.refl _ _⟩
  case round =>
    obtain ⟨i, k, acc, hi, hk, rfl, rfl, HD, HL, HO, HZ, hb⟩ := hrel
    rcases Nat.lt_or_ge i n1 with hlt1 | hge1
    · obtain ⟨b1, o1, p1, d1, rfl, lw1, x0, x1, hd1, hm1⟩ := fcell_at HS1.out HN1.out hlt1
      replace x0 := (bc hb lw1 _).trans x0
      replace x1 := (bc hb lw1 _).trans x1
      have lb1 := Nat.lt_of_lt_of_le lw1 hb.size
      have HD1 := lid hd1
      have hp1 := (HZ1.out _ hm1).1
      have hq1 := (HZ1.out _ hm1).2
      have hp19 : p1.size ≤ 9223372036854775807 := hp1
      have hbs : w.heap.size ≤ wr.heap.size := hb.size
      clear hd1 hm1
      rcases Nat.lt_or_ge k n2 with hlt2 | hge2
      · obtain ⟨b2, o2, p2, d2, rfl, lw2, y0, y1, hd2, hm2⟩ := fcell_at HS2.out HN2.out hlt2
        replace y0 := (bc hb lw2 _).trans y0
        replace y1 := (bc hb lw2 _).trans y1
        have lb2 := Nat.lt_of_lt_of_le lw2 hb.size
        have HD2 := lid hd2
        have hp2 := (HZ2.out _ hm2).1
        have hq2 := (HZ2.out _ hm2).2
        have hp29 : p2.size ≤ 9223372036854775807 := hp2
        clear hd2 hm2
        have di : decide ((i : Int) < (n1 : Int)) = true := by first | (simp; done) | (simp; omega)
        have ei : ((i : Int) == (n1 : Int)) = false := by first | (simp; done) | (simp; omega)
        have dk : decide ((k : Int) < (n2 : Int)) = true := by first | (simp; done) | (simp; omega)
        have ek : ((k : Int) == (n2 : Int)) = false := by first | (simp; done) | (simp; omega)
        cases hlt : Op.bytesLess p1.toList p2.toList with
        | true =>
          have HE : Hid (ltP (p1, d1).1 (p2, d2).1 = true) := lid hlt
          go_wp2_with fail
          refine wp_region_seq (fun w' => ∃ s : Since wr.heap.size wr, w' = s.world) [(0, true), (1, true), (2, true), (3, true), (4, true), (5, true), (6, true), (7, true), (8, true), (9, true), (10, true), (11, true), (12, true), (13, true), (14, true), (15, true), (16, true), (17, true), (18, true), (19, true), (20, true), (21, true), (22, true), (23, false)] (by kernel_rfl) (by kernel_rfl) (by intro c d v a w h; first | (cases d <;> exact h) | cases h.1) (since (Below.refl _ _).drew) ?_
          repeat (first | (refine seq_skip (by rfl) (by rfl) ?_; simp only [Act.put, List.setIfInBounds_toArray, List.set_cons_succ, List.set_cons_zero]) | (refine seq_float (by rfl) (by rfl) (by rfl) ?_; intro K hK; go_big_quiet_op; go_big_quiet_on))
          refine seq_chain (by rfl) ?_
          intro K hK
          go_wp2_with fail
          refine hK.out _ _ (since (Below.refl _ _).drew) ?_
          clear hK K
          repeat (first | (refine seq_skip (by rfl) (by rfl) ?_; simp only [Act.put, List.setIfInBounds_toArray, List.set_cons_succ, List.set_cons_zero]) | (refine seq_float (by rfl) (by rfl) (by rfl) ?_; intro K hK; go_big_quiet_op; go_big_quiet_on))
          refine seq_nil ?_
          go_wp2_with fail
          refine wp_region_seq (fun w' => ∃ s : Since w.heap.size wr.drew, w' = s.world) [(0, true), (1, true), (2, true), (3, true), (4, true), (5, true), (6, true), (7, true), (8, true), (9, true), (10, true), (11, true), (12, false), (13, false), (14, false)] (by kernel_rfl) (by kernel_rfl) (by intro c d v a w h; first | (cases d <;> exact h) | cases h.1) (since (Below.refl _ _).drew) ?_
          repeat (first | (refine seq_skip (by rfl) (by rfl) ?_; simp only [Act.put, List.setIfInBounds_toArray, List.set_cons_succ, List.set_cons_zero]) | (refine seq_float (by rfl) (by rfl) (by rfl) ?_; intro K hK; go_big_quiet_op; go_big_quiet_on))
          refine seq_chain (by rfl) ?_
          intro K hK
          go_wp2_with fail
          have hbA : Below w.heap.size wr.drew (wr.drew.drew.alloc (.cells (cha (delC (p1, d1))) 61)) := (Below.refl w.heap.size (wr.drew)).drew.alloc (show w.heap.size ≤ (wr.drew).drew.heap.size from hbs) _
          refine hK.out _ _ (since hbA) ?_
          clear hK K
          repeat (first | (refine seq_skip (by rfl) (by rfl) ?_; simp only [Act.put, List.setIfInBounds_toArray, List.set_cons_succ, List.set_cons_zero]) | (refine seq_float (by rfl) (by rfl) (by rfl) ?_; intro K hK; go_big_quiet_op; go_big_quiet_on))
          refine seq_chain (by rfl) ?_
          intro K hK
          go_wp2_with (at_builtin; go_must (refine wpList_append_new (w := wr.drew.drew) (cha (delC (p1, d1))) rfl _ _ 53 rfl w.heap.size 61 (.agg #[.string ⟨#[]⟩, .bool false, .bool false, .string ⟨#[]⟩, .string ⟨#[]⟩]) 5 56 info_ch Tryz.underlying53 rfl (by decide) _ acc.length _ HO.out.drew.drew rfl rfl rfl (by intro u hu; simp only [List.mem_cons, List.not_mem_nil, or_false] at hu; rcases hu with rfl | rfl | rfl | rfl | rfl <;> rfl) (by have := HL.out; simp only [maxLen]; omega) (by have := HL.out; omega) hbs ?_))
          intro v9 w9 hown9 hb9 _
          obtain ⟨a9, c9, rfl⟩ := slv_of hown9
          have HO9 : Hid (w9.ownsRow w.heap.size 61 5 (slv (a9, acc.length + 1, c9)) (acc ++ [delC (p1, d1)]).length (chcells (acc ++ [delC (p1, d1)]))) := lid (by
            rw [List.length_append, chcells_append]
            exact hown9)
          have hw9 : Below w.heap.size w w9 := hb.trans (((Below.refl _ _).drew.drew).trans hb9)
          have HD9 : Hid (diffF l1 l2 = (acc ++ [delC (p1, d1)]) ++ diffF (l1.drop (i + 1)) (l2.drop (k))) := lid (by rw [HD.out, HD1.out, HD2.out, diff_del HE.out, ← HD2.out, List.append_assoc])
          have HL9 : Hid ((acc ++ [delC (p1, d1)]).length ≤ i + 1 + (k)) := lid (by have := HL.out; simp; omega)
          have HZ9 : Hid (∀ x ∈ acc ++ [delC (p1, d1)], x.1.size ≤ maxLen ∧ x.2.2.2.1.size ≤ maxLen ∧ x.2.2.2.2.size ≤ maxLen) := lid (fun x hx => by
            rcases List.mem_append.1 hx with hx | hx
            · exact HZ.out x hx
            · simp only [List.mem_singleton] at hx; subst hx; exact ⟨hp1, hq1, show (0 : Nat) ≤ maxLen by decide⟩)
          have hk9 : Below w.heap.size wr.drew w9 := (Below.refl _ _).drew.trans hb9
          clear hown9 hb9
          go_wp2_with fail
          refine hK.out _ _ (since hk9) ?_
          clear hK K
          repeat (first | (refine seq_skip (by rfl) (by rfl) ?_; simp only [Act.put, List.setIfInBounds_toArray, List.set_cons_succ, List.set_cons_zero]) | (refine seq_float (by rfl) (by rfl) (by rfl) ?_; intro K hK; go_big_quiet_op; go_big_quiet_on))
          refine seq_chain (by rfl) ?_
          intro K hK
          go_wp2_with fail
          refine hK.out _ _ (since hk9) ?_
          clear hK K
          repeat (first | (refine seq_skip (by rfl) (by rfl) ?_; simp only [Act.put, List.setIfInBounds_toArray, List.set_cons_succ, List.set_cons_zero]) | (refine seq_float (by rfl) (by rfl) (by rfl) ?_; intro K hK; go_big_quiet_op; go_big_quiet_on))
          refine seq_nil ?_
          go_wp2_with fail
          go_roundw
          case rel => exact ⟨i + 1, k, _, by omega, by omega, by go_num, by go_num, HD9, HL9, HO9, HZ9, hw9⟩
          case measure => simp [intOf]; omega
        | false =>
          cases hgt : Op.bytesLess p2.toList p1.toList with
          | true =>
            have HE : Hid (ltP (p1, d1).1 (p2, d2).1 = false) := lid hlt
            have HE2 : Hid (ltP (p2, d2).1 (p1, d1).1 = true) := lid hgt
            go_wp2_with fail
            refine wp_region_seq (fun w' => ∃ s : Since wr.heap.size wr, w' = s.world) [(0, true), (1, true), (2, true), (3, true), (4, true), (5, true), (6, true), (7, true), (8, true), (9, true), (10, true), (11, true), (12, true), (13, true), (14, true), (15, true), (16, true), (17, true), (18, true), (19, true), (20, true), (21, true), (22, true), (23, false)] (by kernel_rfl) (by kernel_rfl) (by intro c d v a w h; first | (cases d <;> exact h) | cases h.1) (since (Below.refl _ _).drew) ?_
            repeat (first | (refine seq_skip (by rfl) (by rfl) ?_; simp only [Act.put, List.setIfInBounds_toArray, List.set_cons_succ, List.set_cons_zero]) | (refine seq_float (by rfl) (by rfl) (by rfl) ?_; intro K hK; go_big_quiet_op; go_big_quiet_on))
            refine seq_chain (by rfl) ?_
            intro K hK
            go_wp2_with fail
            refine hK.out _ _ (since (Below.refl _ _).drew) ?_
            clear hK K
            repeat (first | (refine seq_skip (by rfl) (by rfl) ?_; simp only [Act.put, List.setIfInBounds_toArray, List.set_cons_succ, List.set_cons_zero]) | (refine seq_float (by rfl) (by rfl) (by rfl) ?_; intro K hK; go_big_quiet_op; go_big_quiet_on))
            refine seq_nil ?_
            go_wp2_with fail
            refine wp_region_seq (fun w' => ∃ s : Since wr.heap.size wr.drew, w' = s.world) [(0, true), (1, true), (2, true), (3, true), (4, true), (5, true), (6, true), (7, true), (8, true), (9, true), (10, true), (11, true), (12, true), (13, true), (14, true), (15, true), (16, true), (17, false)] (by kernel_rfl) (by kernel_rfl) (by intro c d v a w h; first | (cases d <;> exact h) | cases h.1) (since (Below.refl _ _).drew) ?_
            repeat (first | (refine seq_skip (by rfl) (by rfl) ?_; simp only [Act.put, List.setIfInBounds_toArray, List.set_cons_succ, List.set_cons_zero]) | (refine seq_float (by rfl) (by rfl) (by rfl) ?_; intro K hK; go_big_quiet_op; go_big_quiet_on))
            refine seq_chain (by rfl) ?_
            intro K hK
            go_wp2_with fail
            refine hK.out _ _ (since (Below.refl _ _).drew) ?_
            clear hK K
            repeat (first | (refine seq_skip (by rfl) (by rfl) ?_; simp only [Act.put, List.setIfInBounds_toArray, List.set_cons_succ, List.set_cons_zero]) | (refine seq_float (by rfl) (by rfl) (by rfl) ?_; intro K hK; go_big_quiet_op; go_big_quiet_on))
            refine seq_nil ?_
            go_wp2_with fail
            refine wp_region_seq (fun w' => ∃ s : Since w.heap.size wr.drew.drew, w' = s.world) [(0, true), (1, true), (2, true), (3, true), (4, true), (5, true), (6, true), (7, true), (8, true), (9, true), (10, true), (11, true), (12, false), (13, false), (14, false)] (by kernel_rfl) (by kernel_rfl) (by intro c d v a w h; first | (cases d <;> exact h) | cases h.1) (since (Below.refl _ _).drew) ?_
            repeat (first | (refine seq_skip (by rfl) (by rfl) ?_; simp only [Act.put, List.setIfInBounds_toArray, List.set_cons_succ, List.set_cons_zero]) | (refine seq_float (by rfl) (by rfl) (by rfl) ?_; intro K hK; go_big_quiet_op; go_big_quiet_on))
            refine seq_chain (by rfl) ?_
            intro K hK
            go_wp2_with fail
            have hbA : Below w.heap.size wr.drew.drew (wr.drew.drew.drew.alloc (.cells (cha (addC (p2, d2))) 61)) := (Below.refl w.heap.size (wr.drew.drew)).drew.alloc (show w.heap.size ≤ (wr.drew.drew).drew.heap.size from hbs) _
            refine hK.out _ _ (since hbA) ?_
            clear hK K
            repeat (first | (refine seq_skip (by rfl) (by rfl) ?_; simp only [Act.put, List.setIfInBounds_toArray, List.set_cons_succ, List.set_cons_zero]) | (refine seq_float (by rfl) (by rfl) (by rfl) ?_; intro K hK; go_big_quiet_op; go_big_quiet_on))
            refine seq_chain (by rfl) ?_
            intro K hK
            go_wp2_with (at_builtin; go_must (refine wpList_append_new (w := wr.drew.drew.drew) (cha (addC (p2, d2))) rfl _ _ 53 rfl w.heap.size 61 (.agg #[.string ⟨#[]⟩, .bool false, .bool false, .string ⟨#[]⟩, .string ⟨#[]⟩]) 5 56 info_ch Tryz.underlying53 rfl (by decide) _ acc.length _ HO.out.drew.drew.drew rfl rfl rfl (by intro u hu; simp only [List.mem_cons, List.not_mem_nil, or_false] at hu; rcases hu with rfl | rfl | rfl | rfl | rfl <;> rfl) (by have := HL.out; simp only [maxLen]; omega) (by have := HL.out; omega) hbs ?_))
            intro v9 w9 hown9 hb9 _
            obtain ⟨a9, c9, rfl⟩ := slv_of hown9
            have HO9 : Hid (w9.ownsRow w.heap.size 61 5 (slv (a9, acc.length + 1, c9)) (acc ++ [addC (p2, d2)]).length (chcells (acc ++ [addC (p2, d2)]))) := lid (by
              rw [List.length_append, chcells_append]
              exact hown9)
            have hw9 : Below w.heap.size w w9 := hb.trans (((Below.refl _ _).drew.drew.drew).trans hb9)
            have HD9 : Hid (diffF l1 l2 = (acc ++ [addC (p2, d2)]) ++ diffF (l1.drop (i)) (l2.drop (k + 1))) := lid (by rw [HD.out, HD1.out, HD2.out, diff_add HE.out HE2.out, ← HD1.out, List.append_assoc])
            have HL9 : Hid ((acc ++ [addC (p2, d2)]).length ≤ i + (k + 1)) := lid (by have := HL.out; simp; omega)
            have HZ9 : Hid (∀ x ∈ acc ++ [addC (p2, d2)], x.1.size ≤ maxLen ∧ x.2.2.2.1.size ≤ maxLen ∧ x.2.2.2.2.size ≤ maxLen) := lid (fun x hx => by
              rcases List.mem_append.1 hx with hx | hx
              · exact HZ.out x hx
              · simp only [List.mem_singleton] at hx; subst hx; exact ⟨hp2, show (0 : Nat) ≤ maxLen by decide, hq2⟩)
            have hk9 : Below w.heap.size wr.drew.drew w9 := (Below.refl _ _).drew.trans hb9
            clear hown9 hb9
            go_wp2_with fail
            refine hK.out _ _ (since hk9) ?_
            clear hK K
            repeat (first | (refine seq_skip (by rfl) (by rfl) ?_; simp only [Act.put, List.setIfInBounds_toArray, List.set_cons_succ, List.set_cons_zero]) | (refine seq_float (by rfl) (by rfl) (by rfl) ?_; intro K hK; go_big_quiet_op; go_big_quiet_on))
            refine seq_chain (by rfl) ?_
            intro K hK
            go_wp2_with fail
            refine hK.out _ _ (since hk9) ?_
            clear hK K
            repeat (first | (refine seq_skip (by rfl) (by rfl) ?_; simp only [Act.put, List.setIfInBounds_toArray, List.set_cons_succ, List.set_cons_zero]) | (refine seq_float (by rfl) (by rfl) (by rfl) ?_; intro K hK; go_big_quiet_op; go_big_quiet_on))
            refine seq_nil ?_
            go_wp2_with fail
            go_roundw
            case rel => exact ⟨i, k + 1, _, by omega, by omega, by go_num, by go_num, HD9, HL9, HO9, HZ9, hw9⟩
            case measure => simp [intOf]; omega
          | false =>
            have HE : Hid (ltP (p1, d1).1 (p2, d2).1 = false) := lid hlt
            have HE2 : Hid (ltP (p2, d2).1 (p1, d1).1 = false) := lid hgt
            by_cases hdd : d1 = d2
            · have u := str_eq hdd
              have HE3 : Hid ((p1, d1).2 = (p2, d2).2) := lid hdd
              clear hdd
              go_wp2_with fail
              refine wp_region_seq (fun w' => ∃ s : Since wr.heap.size wr, w' = s.world) [(0, true), (1, true), (2, true), (3, true), (4, true), (5, true), (6, true), (7, true), (8, true), (9, true), (10, true), (11, true), (12, true), (13, true), (14, true), (15, true), (16, true), (17, true), (18, true), (19, true), (20, true), (21, true), (22, true), (23, false)] (by kernel_rfl) (by kernel_rfl) (by intro c d v a w h; first | (cases d <;> exact h) | cases h.1) (since (Below.refl _ _).drew) ?_
              repeat (first | (refine seq_skip (by rfl) (by rfl) ?_; simp only [Act.put, List.setIfInBounds_toArray, List.set_cons_succ, List.set_cons_zero]) | (refine seq_float (by rfl) (by rfl) (by rfl) ?_; intro K hK; go_big_quiet_op; go_big_quiet_on))
              refine seq_chain (by rfl) ?_
              intro K hK
              go_wp2_with fail
              refine hK.out _ _ (since (Below.refl _ _).drew) ?_
              clear hK K
              repeat (first | (refine seq_skip (by rfl) (by rfl) ?_; simp only [Act.put, List.setIfInBounds_toArray, List.set_cons_succ, List.set_cons_zero]) | (refine seq_float (by rfl) (by rfl) (by rfl) ?_; intro K hK; go_big_quiet_op; go_big_quiet_on))
              refine seq_nil ?_
              go_wp2_with fail
              refine wp_region_seq (fun w' => ∃ s : Since wr.heap.size wr.drew, w' = s.world) [(0, true), (1, true), (2, true), (3, true), (4, true), (5, true), (6, true), (7, true), (8, true), (9, true), (10, true), (11, true), (12, true), (13, true), (14, true), (15, true), (16, true), (17, false)] (by kernel_rfl) (by kernel_rfl) (by intro c d v a w h; first | (cases d <;> exact h) | cases h.1) (since (Below.refl _ _).drew) ?_
              repeat (first | (refine seq_skip (by rfl) (by rfl) ?_; simp only [Act.put, List.setIfInBounds_toArray, List.set_cons_succ, List.set_cons_zero]) | (refine seq_float (by rfl) (by rfl) (by rfl) ?_; intro K hK; go_big_quiet_op; go_big_quiet_on))
              refine seq_chain (by rfl) ?_
              intro K hK
              go_wp2_with fail
              refine hK.out _ _ (since (Below.refl _ _).drew) ?_
              clear hK K
              repeat (first | (refine seq_skip (by rfl) (by rfl) ?_; simp only [Act.put, List.setIfInBounds_toArray, List.set_cons_succ, List.set_cons_zero]) | (refine seq_float (by rfl) (by rfl) (by rfl) ?_; intro K hK; go_big_quiet_op; go_big_quiet_on))
              refine seq_nil ?_
              go_wp2_with fail
              refine wp_region_seq (fun w' => ∃ s : Since wr.heap.size wr.drew.drew, w' = s.world) [(0, true), (1, true), (2, true), (3, true), (4, true), (5, true), (6, true), (7, true), (8, true), (9, true), (10, true)] (by kernel_rfl) (by kernel_rfl) (by intro c d v a w h; first | (cases d <;> exact h) | cases h.1) (since (Below.refl _ _).drew) ?_
              repeat (first | (refine seq_skip (by rfl) (by rfl) ?_; simp only [Act.put, List.setIfInBounds_toArray, List.set_cons_succ, List.set_cons_zero]) | (refine seq_float (by rfl) (by rfl) (by rfl) ?_; intro K hK; go_big_quiet_op; go_big_quiet_on))
              refine seq_nil ?_
              have HD9 : Hid (diffF l1 l2 = acc ++ diffF (l1.drop (i + 1)) (l2.drop (k + 1))) := lid (by rw [HD.out, HD1.out, HD2.out, diff_same HE.out HE2.out HE3.out, List.nil_append])
              have HL9 : Hid (acc.length ≤ i + 1 + (k + 1)) := lid (by have := HL.out; omega)
              have hw9 : Below w.heap.size w wr.drew.drew.drew := hb.drew.drew.drew
              go_wp2_with fail
              go_roundw
              case rel => exact ⟨i + 1, k + 1, _, by omega, by omega, by go_num, by go_num, HD9, HL9, lid HO.out.drew.drew.drew, HZ, hw9⟩
              case measure => simp [intOf]; omega
            · have u := str_ne hdd
              have HE3 : Hid (¬ (p1, d1).2 = (p2, d2).2) := lid hdd
              clear hdd
              go_wp2_with fail
              refine wp_region_seq (fun w' => ∃ s : Since wr.heap.size wr, w' = s.world) [(0, true), (1, true), (2, true), (3, true), (4, true), (5, true), (6, true), (7, true), (8, true), (9, true), (10, true), (11, true), (12, true), (13, true), (14, true), (15, true), (16, true), (17, true), (18, true), (19, true), (20, true), (21, true), (22, true), (23, false)] (by kernel_rfl) (by kernel_rfl) (by intro c d v a w h; first | (cases d <;> exact h) | cases h.1) (since (Below.refl _ _).drew) ?_
              repeat (first | (refine seq_skip (by rfl) (by rfl) ?_; simp only [Act.put, List.setIfInBounds_toArray, List.set_cons_succ, List.set_cons_zero]) | (refine seq_float (by rfl) (by rfl) (by rfl) ?_; intro K hK; go_big_quiet_op; go_big_quiet_on))
              refine seq_chain (by rfl) ?_
              intro K hK
              go_wp2_with fail
              refine hK.out _ _ (since (Below.refl _ _).drew) ?_
              clear hK K
              repeat (first | (refine seq_skip (by rfl) (by rfl) ?_; simp only [Act.put, List.setIfInBounds_toArray, List.set_cons_succ, List.set_cons_zero]) | (refine seq_float (by rfl) (by rfl) (by rfl) ?_; intro K hK; go_big_quiet_op; go_big_quiet_on))
              refine seq_nil ?_
              go_wp2_with fail
              refine wp_region_seq (fun w' => ∃ s : Since wr.heap.size wr.drew, w' = s.world) [(0, true), (1, true), (2, true), (3, true), (4, true), (5, true), (6, true), (7, true), (8, true), (9, true), (10, true), (11, true), (12, true), (13, true), (14, true), (15, true), (16, true), (17, false)] (by kernel_rfl) (by kernel_rfl) (by intro c d v a w h; first | (cases d <;> exact h) | cases h.1) (since (Below.refl _ _).drew) ?_
              repeat (first | (refine seq_skip (by rfl) (by rfl) ?_; simp only [Act.put, List.setIfInBounds_toArray, List.set_cons_succ, List.set_cons_zero]) | (refine seq_float (by rfl) (by rfl) (by rfl) ?_; intro K hK; go_big_quiet_op; go_big_quiet_on))
              refine seq_chain (by rfl) ?_
              intro K hK
              go_wp2_with fail
              refine hK.out _ _ (since (Below.refl _ _).drew) ?_
              clear hK K
              repeat (first | (refine seq_skip (by rfl) (by rfl) ?_; simp only [Act.put, List.setIfInBounds_toArray, List.set_cons_succ, List.set_cons_zero]) | (refine seq_float (by rfl) (by rfl) (by rfl) ?_; intro K hK; go_big_quiet_op; go_big_quiet_on))
              refine seq_nil ?_
              go_wp2_with fail
              refine wp_region_seq (fun w' => ∃ s : Since wr.heap.size wr.drew.drew, w' = s.world) [(0, true), (1, true), (2, true), (3, true), (4, true), (5, true), (6, true), (7, true), (8, true), (9, true), (10, true)] (by kernel_rfl) (by kernel_rfl) (by intro c d v a w h; first | (cases d <;> exact h) | cases h.1) (since (Below.refl _ _).drew) ?_
              repeat (first | (refine seq_skip (by rfl) (by rfl) ?_; simp only [Act.put, List.setIfInBounds_toArray, List.set_cons_succ, List.set_cons_zero]) | (refine seq_float (by rfl) (by rfl) (by rfl) ?_; intro K hK; go_big_quiet_op; go_big_quiet_on))
              refine seq_nil ?_
              go_wp2_with fail
              refine wp_region_seq (fun w' => ∃ s : Since w.heap.size wr.drew.drew.drew, w' = s.world) [(0, true), (1, true), (2, true), (3, true), (4, true), (5, true), (6, true), (7, true), (8, true), (9, true), (10, true), (11, true), (12, true), (13, true), (14, true), (15, true), (16, true), (17, false), (18, false), (19, false)] (by kernel_rfl) (by kernel_rfl) (by intro c d v a w h; first | (cases d <;> exact h) | cases h.1) (since (Below.refl _ _).drew) ?_
              repeat (first | (refine seq_skip (by rfl) (by rfl) ?_; simp only [Act.put, List.setIfInBounds_toArray, List.set_cons_succ, List.set_cons_zero]) | (refine seq_float (by rfl) (by rfl) (by rfl) ?_; intro K hK; go_big_quiet_op; go_big_quiet_on))
              refine seq_chain (by rfl) ?_
              intro K hK
              go_wp2_with fail
              have hbA : Below w.heap.size wr.drew.drew.drew (wr.drew.drew.drew.drew.alloc (.cells (cha (chgC (p1, d1) (p2, d2))) 61)) := (Below.refl w.heap.size (wr.drew.drew.drew)).drew.alloc (show w.heap.size ≤ (wr.drew.drew.drew).drew.heap.size from hbs) _
              refine hK.out _ _ (since hbA) ?_
              clear hK K
              repeat (first | (refine seq_skip (by rfl) (by rfl) ?_; simp only [Act.put, List.setIfInBounds_toArray, List.set_cons_succ, List.set_cons_zero]) | (refine seq_float (by rfl) (by rfl) (by rfl) ?_; intro K hK; go_big_quiet_op; go_big_quiet_on))
              refine seq_chain (by rfl) ?_
              intro K hK
              go_wp2_with (at_builtin; go_must (refine wpList_append_new (w := wr.drew.drew.drew.drew) (cha (chgC (p1, d1) (p2, d2))) rfl _ _ 53 rfl w.heap.size 61 (.agg #[.string ⟨#[]⟩, .bool false, .bool false, .string ⟨#[]⟩, .string ⟨#[]⟩]) 5 56 info_ch Tryz.underlying53 rfl (by decide) _ acc.length _ HO.out.drew.drew.drew.drew rfl rfl rfl (by intro u hu; simp only [List.mem_cons, List.not_mem_nil, or_false] at hu; rcases hu with rfl | rfl | rfl | rfl | rfl <;> rfl) (by have := HL.out; simp only [maxLen]; omega) (by have := HL.out; omega) hbs ?_))
              intro v9 w9 hown9 hb9 _
              obtain ⟨a9, c9, rfl⟩ := slv_of hown9
              have HO9 : Hid (w9.ownsRow w.heap.size 61 5 (slv (a9, acc.length + 1, c9)) (acc ++ [chgC (p1, d1) (p2, d2)]).length (chcells (acc ++ [chgC (p1, d1) (p2, d2)]))) := lid (by
                rw [List.length_append, chcells_append]
                exact hown9)
              have hw9 : Below w.heap.size w w9 := hb.trans (((Below.refl _ _).drew.drew.drew.drew).trans hb9)
              have HD9 : Hid (diffF l1 l2 = (acc ++ [chgC (p1, d1) (p2, d2)]) ++ diffF (l1.drop (i + 1)) (l2.drop (k + 1))) := lid (by rw [HD.out, HD1.out, HD2.out, diff_chg HE.out HE2.out HE3.out, List.append_assoc])
              have HL9 : Hid ((acc ++ [chgC (p1, d1) (p2, d2)]).length ≤ i + 1 + (k + 1)) := lid (by have := HL.out; simp; omega)
              have HZ9 : Hid (∀ x ∈ acc ++ [chgC (p1, d1) (p2, d2)], x.1.size ≤ maxLen ∧ x.2.2.2.1.size ≤ maxLen ∧ x.2.2.2.2.size ≤ maxLen) := lid (fun x hx => by
                rcases List.mem_append.1 hx with hx | hx
                · exact HZ.out x hx
                · simp only [List.mem_singleton] at hx; subst hx; exact ⟨hp1, hq1, hq2⟩)
              have hk9 : Below w.heap.size wr.drew.drew.drew w9 := (Below.refl _ _).drew.trans hb9
              clear hown9 hb9
              go_wp2_with fail
              refine hK.out _ _ (since hk9) ?_
              clear hK K
              repeat (first | (refine seq_skip (by rfl) (by rfl) ?_; simp only [Act.put, List.setIfInBounds_toArray, List.set_cons_succ, List.set_cons_zero]) | (refine seq_float (by rfl) (by rfl) (by rfl) ?_; intro K hK; go_big_quiet_op; go_big_quiet_on))
              refine seq_chain (by rfl) ?_
              intro K hK
              go_wp2_with fail
              refine hK.out _ _ (since hk9) ?_
              clear hK K
              repeat (first | (refine seq_skip (by rfl) (by rfl) ?_; simp only [Act.put, List.setIfInBounds_toArray, List.set_cons_succ, List.set_cons_zero]) | (refine seq_float (by rfl) (by rfl) (by rfl) ?_; intro K hK; go_big_quiet_op; go_big_quiet_on))
              refine seq_nil ?_
              go_wp2_with fail
              go_roundw
              case rel => exact ⟨i + 1, k + 1, _, by omega, by omega, by go_num, by go_num, HD9, HL9, HO9, HZ9, hw9⟩
              case measure => simp [intOf]; omega
      · obtain rfl : k = n2 := by omega
        have HD2 : Hid (l2.drop k = []) := lid (List.drop_of_length_le (Nat.le_of_eq HN2.out))
        have di : decide ((i : Int) < (n1 : Int)) = true := by first | (simp; done) | (simp; omega)
        have ei : ((i : Int) == (n1 : Int)) = false := by first | (simp; done) | (simp; omega)
        have dk : decide ((k : Int) < (k : Int)) = false := by first | (simp; done) | (simp; omega)
        have ek : ((k : Int) == (k : Int)) = true := by first | (simp; done) | (simp; omega)
        go_wp2_with fail
        refine wp_region_seq (fun w' => ∃ s : Since wr.heap.size wr, w' = s.world) [(0, true), (1, true), (2, true), (3, true), (4, true), (5, true), (6, true), (7, true), (8, true), (9, true), (10, true), (11, true), (12, true), (13, true), (14, true), (15, true), (16, true), (17, true), (18, true), (19, true), (20, true), (21, true), (22, true), (23, false)] (by kernel_rfl) (by kernel_rfl) (by intro c d v a w h; first | (cases d <;> exact h) | cases h.1) (since (Below.refl _ _).drew) ?_
        repeat (first | (refine seq_skip (by rfl) (by rfl) ?_; simp only [Act.put, List.setIfInBounds_toArray, List.set_cons_succ, List.set_cons_zero]) | (refine seq_float (by rfl) (by rfl) (by rfl) ?_; intro K hK; go_big_quiet_op; go_big_quiet_on))
        refine seq_chain (by rfl) ?_
        intro K hK
        go_wp2_with fail
        refine hK.out _ _ (since (Below.refl _ _).drew) ?_
        clear hK K
        repeat (first | (refine seq_skip (by rfl) (by rfl) ?_; simp only [Act.put, List.setIfInBounds_toArray, List.set_cons_succ, List.set_cons_zero]) | (refine seq_float (by rfl) (by rfl) (by rfl) ?_; intro K hK; go_big_quiet_op; go_big_quiet_on))
        refine seq_nil ?_
        go_wp2_with fail
        refine wp_region_seq (fun w' => ∃ s : Since w.heap.size wr.drew, w' = s.world) [(0, true), (1, true), (2, true), (3, true), (4, true), (5, true), (6, true), (7, true), (8, true), (9, true), (10, true), (11, true), (12, false), (13, false), (14, false)] (by kernel_rfl) (by kernel_rfl) (by intro c d v a w h; first | (cases d <;> exact h) | cases h.1) (since (Below.refl _ _).drew) ?_
        repeat (first | (refine seq_skip (by rfl) (by rfl) ?_; simp only [Act.put, List.setIfInBounds_toArray, List.set_cons_succ, List.set_cons_zero]) | (refine seq_float (by rfl) (by rfl) (by rfl) ?_; intro K hK; go_big_quiet_op; go_big_quiet_on))
        refine seq_chain (by rfl) ?_
        intro K hK
        go_wp2_with fail
        have hbA : Below w.heap.size wr.drew (wr.drew.drew.alloc (.cells (cha (delC (p1, d1))) 61)) := (Below.refl w.heap.size (wr.drew)).drew.alloc (show w.heap.size ≤ (wr.drew).drew.heap.size from hbs) _
        refine hK.out _ _ (since hbA) ?_
        clear hK K
        repeat (first | (refine seq_skip (by rfl) (by rfl) ?_; simp only [Act.put, List.setIfInBounds_toArray, List.set_cons_succ, List.set_cons_zero]) | (refine seq_float (by rfl) (by rfl) (by rfl) ?_; intro K hK; go_big_quiet_op; go_big_quiet_on))
        refine seq_chain (by rfl) ?_
        intro K hK
        go_wp2_with (at_builtin; go_must (refine wpList_append_new (w := wr.drew.drew) (cha (delC (p1, d1))) rfl _ _ 53 rfl w.heap.size 61 (.agg #[.string ⟨#[]⟩, .bool false, .bool false, .string ⟨#[]⟩, .string ⟨#[]⟩]) 5 56 info_ch Tryz.underlying53 rfl (by decide) _ acc.length _ HO.out.drew.drew rfl rfl rfl (by intro u hu; simp only [List.mem_cons, List.not_mem_nil, or_false] at hu; rcases hu with rfl | rfl | rfl | rfl | rfl <;> rfl) (by have := HL.out; simp only [maxLen]; omega) (by have := HL.out; omega) hbs ?_))
        intro v9 w9 hown9 hb9 _
        obtain ⟨a9, c9, rfl⟩ := slv_of hown9
        have HO9 : Hid (w9.ownsRow w.heap.size 61 5 (slv (a9, acc.length + 1, c9)) (acc ++ [delC (p1, d1)]).length (chcells (acc ++ [delC (p1, d1)]))) := lid (by
          rw [List.length_append, chcells_append]
          exact hown9)
        have hw9 : Below w.heap.size w w9 := hb.trans (((Below.refl _ _).drew.drew).trans hb9)
        have HD9 : Hid (diffF l1 l2 = (acc ++ [delC (p1, d1)]) ++ diffF (l1.drop (i + 1)) (l2.drop (k))) := lid (by rw [HD.out, HD1.out, HD2.out, diff_delE, List.append_assoc])
        have HL9 : Hid ((acc ++ [delC (p1, d1)]).length ≤ i + 1 + (k)) := lid (by have := HL.out; simp; omega)
        have HZ9 : Hid (∀ x ∈ acc ++ [delC (p1, d1)], x.1.size ≤ maxLen ∧ x.2.2.2.1.size ≤ maxLen ∧ x.2.2.2.2.size ≤ maxLen) := lid (fun x hx => by
          rcases List.mem_append.1 hx with hx | hx
          · exact HZ.out x hx
          · simp only [List.mem_singleton] at hx; subst hx; exact ⟨hp1, hq1, show (0 : Nat) ≤ maxLen by decide⟩)
        have hk9 : Below w.heap.size wr.drew w9 := (Below.refl _ _).drew.trans hb9
        clear hown9 hb9
        go_wp2_with fail
        refine hK.out _ _ (since hk9) ?_
        clear hK K
        repeat (first | (refine seq_skip (by rfl) (by rfl) ?_; simp only [Act.put, List.setIfInBounds_toArray, List.set_cons_succ, List.set_cons_zero]) | (refine seq_float (by rfl) (by rfl) (by rfl) ?_; intro K hK; go_big_quiet_op; go_big_quiet_on))
        refine seq_chain (by rfl) ?_
        intro K hK
        go_wp2_with fail
        refine hK.out _ _ (since hk9) ?_
        clear hK K
        repeat (first | (refine seq_skip (by rfl) (by rfl) ?_; simp only [Act.put, List.setIfInBounds_toArray, List.set_cons_succ, List.set_cons_zero]) | (refine seq_float (by rfl) (by rfl) (by rfl) ?_; intro K hK; go_big_quiet_op; go_big_quiet_on))
        refine seq_nil ?_
        go_wp2_with fail
        go_roundw
        case rel => exact ⟨i + 1, k, _, by omega, by omega, by go_num, by go_num, HD9, HL9, HO9, HZ9, hw9⟩
        case measure => simp [intOf]; omega
    · obtain rfl : i = n1 := by omega
      have HD1 : Hid (l1.drop i = []) := lid (List.drop_of_length_le (Nat.le_of_eq HN1.out))
      have hbs : w.heap.size ≤ wr.heap.size := hb.size
      rcases Nat.lt_or_ge k n2 with hlt2 | hge2
      · obtain ⟨b2, o2, p2, d2, rfl, lw2, y0, y1, hd2, hm2⟩ := fcell_at HS2.out HN2.out hlt2
        replace y0 := (bc hb lw2 _).trans y0
        replace y1 := (bc hb lw2 _).trans y1
        have lb2 := Nat.lt_of_lt_of_le lw2 hb.size
        have HD2 := lid hd2
        have hp2 := (HZ2.out _ hm2).1
        have hq2 := (HZ2.out _ hm2).2
        have hp29 : p2.size ≤ 9223372036854775807 := hp2
        clear hd2 hm2
        have di : decide ((i : Int) < (i : Int)) = false := by first | (simp; done) | (simp; omega)
        have ei : ((i : Int) == (i : Int)) = true := by first | (simp; done) | (simp; omega)
        have dk : decide ((k : Int) < (n2 : Int)) = true := by first | (simp; done) | (simp; omega)
        have ek : ((k : Int) == (n2 : Int)) = false := by first | (simp; done) | (simp; omega)
        go_wp2_with fail
        refine wp_region_seq (fun w' => ∃ s : Since wr.heap.size wr, w' = s.world) [(0, true), (1, true), (2, true), (3, true), (4, true), (5, true), (6, true), (7, true), (8, true), (9, true), (10, true), (11, true), (12, true), (13, true), (14, true), (15, true), (16, true), (17, true), (18, true), (19, true), (20, true), (21, true), (22, true), (23, false)] (by kernel_rfl) (by kernel_rfl) (by intro c d v a w h; first | (cases d <;> exact h) | cases h.1) (since (Below.refl _ _).drew) ?_
        repeat (first | (refine seq_skip (by rfl) (by rfl) ?_; simp only [Act.put, List.setIfInBounds_toArray, List.set_cons_succ, List.set_cons_zero]) | (refine seq_float (by rfl) (by rfl) (by rfl) ?_; intro K hK; go_big_quiet_op; go_big_quiet_on))
        refine seq_chain (by rfl) ?_
        intro K hK
        go_wp2_with fail
        refine hK.out _ _ (since (Below.refl _ _).drew) ?_
        clear hK K
        repeat (first | (refine seq_skip (by rfl) (by rfl) ?_; simp only [Act.put, List.setIfInBounds_toArray, List.set_cons_succ, List.set_cons_zero]) | (refine seq_float (by rfl) (by rfl) (by rfl) ?_; intro K hK; go_big_quiet_op; go_big_quiet_on))
        refine seq_nil ?_
        go_wp2_with fail
        refine wp_region_seq (fun w' => ∃ s : Since wr.heap.size wr.drew, w' = s.world) [(0, true), (1, true), (2, true), (3, true), (4, true), (5, true), (6, true), (7, true), (8, true), (9, true), (10, true), (11, true), (12, true), (13, true), (14, true), (15, true), (16, true), (17, false)] (by kernel_rfl) (by kernel_rfl) (by intro c d v a w h; first | (cases d <;> exact h) | cases h.1) (since (Below.refl _ _).drew) ?_
        repeat (first | (refine seq_skip (by rfl) (by rfl) ?_; simp only [Act.put, List.setIfInBounds_toArray, List.set_cons_succ, List.set_cons_zero]) | (refine seq_float (by rfl) (by rfl) (by rfl) ?_; intro K hK; go_big_quiet_op; go_big_quiet_on))
        refine seq_chain (by rfl) ?_
        intro K hK
        go_wp2_with fail
        refine hK.out _ _ (since (Below.refl _ _).drew) ?_
        clear hK K
        repeat (first | (refine seq_skip (by rfl) (by rfl) ?_; simp only [Act.put, List.setIfInBounds_toArray, List.set_cons_succ, List.set_cons_zero]) | (refine seq_float (by rfl) (by rfl) (by rfl) ?_; intro K hK; go_big_quiet_op; go_big_quiet_on))
        refine seq_nil ?_
        go_wp2_with fail
        refine wp_region_seq (fun w' => ∃ s : Since w.heap.size wr.drew.drew, w' = s.world) [(0, true), (1, true), (2, true), (3, true), (4, true), (5, true), (6, true), (7, true), (8, true), (9, true), (10, true), (11, true), (12, false), (13, false), (14, false)] (by kernel_rfl) (by kernel_rfl) (by intro c d v a w h; first | (cases d <;> exact h) | cases h.1) (since (Below.refl _ _).drew) ?_
        repeat (first | (refine seq_skip (by rfl) (by rfl) ?_; simp only [Act.put, List.setIfInBounds_toArray, List.set_cons_succ, List.set_cons_zero]) | (refine seq_float (by rfl) (by rfl) (by rfl) ?_; intro K hK; go_big_quiet_op; go_big_quiet_on))
        refine seq_chain (by rfl) ?_
        intro K hK
        go_wp2_with fail
        have hbA : Below w.heap.size wr.drew.drew (wr.drew.drew.drew.alloc (.cells (cha (addC (p2, d2))) 61)) := (Below.refl w.heap.size (wr.drew.drew)).drew.alloc (show w.heap.size ≤ (wr.drew.drew).drew.heap.size from hbs) _
        refine hK.out _ _ (since hbA) ?_
        clear hK K
        repeat (first | (refine seq_skip (by rfl) (by rfl) ?_; simp only [Act.put, List.setIfInBounds_toArray, List.set_cons_succ, List.set_cons_zero]) | (refine seq_float (by rfl) (by rfl) (by rfl) ?_; intro K hK; go_big_quiet_op; go_big_quiet_on))
        refine seq_chain (by rfl) ?_
        intro K hK
        go_wp2_with (at_builtin; go_must (refine wpList_append_new (w := wr.drew.drew.drew) (cha (addC (p2, d2))) rfl _ _ 53 rfl w.heap.size 61 (.agg #[.string ⟨#[]⟩, .bool false, .bool false, .string ⟨#[]⟩, .string ⟨#[]⟩]) 5 56 info_ch Tryz.underlying53 rfl (by decide) _ acc.length _ HO.out.drew.drew.drew rfl rfl rfl (by intro u hu; simp only [List.mem_cons, List.not_mem_nil, or_false] at hu; rcases hu with rfl | rfl | rfl | rfl | rfl <;> rfl) (by have := HL.out; simp only [maxLen]; omega) (by have := HL.out; omega) hbs ?_))
        intro v9 w9 hown9 hb9 _
        obtain ⟨a9, c9, rfl⟩ := slv_of hown9
        have HO9 : Hid (w9.ownsRow w.heap.size 61 5 (slv (a9, acc.length + 1, c9)) (acc ++ [addC (p2, d2)]).length (chcells (acc ++ [addC (p2, d2)]))) := lid (by
          rw [List.length_append, chcells_append]
          exact hown9)
        have hw9 : Below w.heap.size w w9 := hb.trans (((Below.refl _ _).drew.drew.drew).trans hb9)
        have HD9 : Hid (diffF l1 l2 = (acc ++ [addC (p2, d2)]) ++ diffF (l1.drop (i)) (l2.drop (k + 1))) := lid (by rw [HD.out, HD1.out, HD2.out, diff_addE, List.append_assoc])
        have HL9 : Hid ((acc ++ [addC (p2, d2)]).length ≤ i + (k + 1)) := lid (by have := HL.out; simp; omega)
        have HZ9 : Hid (∀ x ∈ acc ++ [addC (p2, d2)], x.1.size ≤ maxLen ∧ x.2.2.2.1.size ≤ maxLen ∧ x.2.2.2.2.size ≤ maxLen) := lid (fun x hx => by
          rcases List.mem_append.1 hx with hx | hx
          · exact HZ.out x hx
          · simp only [List.mem_singleton] at hx; subst hx; exact ⟨hp2, show (0 : Nat) ≤ maxLen by decide, hq2⟩)
        have hk9 : Below w.heap.size wr.drew.drew w9 := (Below.refl _ _).drew.trans hb9
        clear hown9 hb9
        go_wp2_with fail
        refine hK.out _ _ (since hk9) ?_
        clear hK K
        repeat (first | (refine seq_skip (by rfl) (by rfl) ?_; simp only [Act.put, List.setIfInBounds_toArray, List.set_cons_succ, List.set_cons_zero]) | (refine seq_float (by rfl) (by rfl) (by rfl) ?_; intro K hK; go_big_quiet_op; go_big_quiet_on))
        refine seq_chain (by rfl) ?_
        intro K hK
        go_wp2_with fail
        refine hK.out _ _ (since hk9) ?_
        clear hK K
        repeat (first | (refine seq_skip (by rfl) (by rfl) ?_; simp only [Act.put, List.setIfInBounds_toArray, List.set_cons_succ, List.set_cons_zero]) | (refine seq_float (by rfl) (by rfl) (by rfl) ?_; intro K hK; go_big_quiet_op; go_big_quiet_on))
        refine seq_nil ?_
        go_wp2_with fail
        go_roundw
        case rel => exact ⟨i, k + 1, _, by omega, by omega, by go_num, by go_num, HD9, HL9, HO9, HZ9, hw9⟩
        case measure => simp [intOf]; omega
      · obtain rfl : k = n2 := by omega
        have HD2 : Hid (l2.drop k = []) := lid (List.drop_of_length_le (Nat.le_of_eq HN2.out))
        have di : decide ((i : Int) < (i : Int)) = false := by first | (simp; done) | (simp; omega)
        have ei : ((i : Int) == (i : Int)) = true := by first | (simp; done) | (simp; omega)
        have dk : decide ((k : Int) < (k : Int)) = false := by first | (simp; done) | (simp; omega)
        have ek : ((k : Int) == (k : Int)) = true := by first | (simp; done) | (simp; omega)
        have HE : Hid (diffF l1 l2 = acc) := lid (by rw [HD.out, HD1.out, HD2.out]; exact List.append_nil _)
        obtain ⟨av, cv, hv⟩ := slv_of HO.out
        subst hv
        have HF : Hid ((SlC (fun k => w.heap.size ≤ k ∧ k < wr.heap.size) wr 5 (av, acc.length, cv) (chcells (diffF l1 l2)) ∧ (diffF l1 l2).length = acc.length ∧ ∀ x ∈ diffF l1 l2, x.1.size ≤ maxLen ∧ x.2.2.2.1.size ≤ maxLen ∧ x.2.2.2.2.size ≤ maxLen)) := lid (by
          obtain ⟨h1, h2⟩ := SlC.of_own (c := fun k => w.heap.size ≤ k ∧ k < wr.heap.size) HO.out (fun q e => HO.out.lt q e)
          rw [HE.out]
          exact ⟨h1, h2.symm, HZ.out⟩)
        go_wp2_with fail
        go_ret
        exact ⟨_, rfl, hb, HF.out⟩
end Go.Proofs.YtefehgdckmajiaaGreatDoor
