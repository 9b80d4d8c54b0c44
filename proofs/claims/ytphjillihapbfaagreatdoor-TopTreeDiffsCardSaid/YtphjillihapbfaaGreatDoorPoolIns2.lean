/-
  pool.insert of a new item.
-/
import Derived.Test.YtphjillihapbfaaGreatDoorGrpP
namespace Go.Proofs.YtphjillihapbfaaGreatDoor
open Go.RowKit

theorem take_icells (l : List It) (k : Nat) : (icells l).take (k * 3) = icells (l.take k) := by
  induction l generalizing k with
  | nil => simp [icells]
  | cons a l ih =>
    cases k with
    | zero => simp [icells]
    | succ k =>
      rw [List.take_succ_cons]
      show (ice a ++ icells l).take _ = ice a ++ icells (l.take k)
      rw [List.take_append, ← ih k, ice_length, show (k + 1) * 3 - 3 = k * 3 by omega, List.take_of_length_le (by rw [ice_length]; omega)]
theorem drop_icells (l : List It) (k : Nat) : (icells l).drop (k * 3) = icells (l.drop k) := by
  induction l generalizing k with
  | nil => simp [icells]
  | cons a l ih =>
    cases k with
    | zero => simp [icells]
    | succ k =>
      rw [List.drop_succ_cons]
      show (ice a ++ icells l).drop _ = icells (l.drop k)
      rw [List.drop_append, ← ih k, ice_length, show (k + 1) * 3 - 3 = k * 3 by omega, List.drop_eq_nil_of_le (by rw [ice_length]; omega), List.nil_append]
set_option maxHeartbeats 1000000 in
theorem concat3 (l : List It) (x : It) (k n cap c3 : Nat) (ao a3 : Option Addr) (w1 : World) (hl : l.length = n) (hkn : k ≤ n) (hm : n ≤ 90000) (hT : Sl w1 3 ao k (icells (l.take k))) (hao : ao = none → cap = 0) (hD : Sl w1 3 a3 (n - k) (icells (l.drop k))) (ha3 : a3 = none → c3 = 0) :
    Calls Tryz.prog 85 #[.slice (some ⟨w1.heap.size + 1, 0, none⟩) 3 3] ((w1.alloc (.cells #[.int .u64 x.1.1.toNat, .int .u64 x.1.2.toNat, .string x.2] 101)).alloc (.cells #[.slice ao k cap, .slice (some ⟨w1.heap.size, 0, none⟩) 1 1, .slice a3 (n - k) c3] 25)).drew fun e w' =>
      ∃ a' c', e = .returned (.slice a' (n + 1) c') ∧ w'.ownsRow w1.heap.size 101 3 (.slice a' (n + 1) c') (n + 1) (icells (l.take k ++ x :: l.drop k)) ∧ Below w1.heap.size w1 w' := by
  obtain ⟨W, hW⟩ : ∃ W, w1.alloc (.cells #[.int .u64 x.1.1.toNat, .int .u64 x.1.2.toNat, .string x.2] 101) = W := ⟨_, rfl⟩
  have hbW : Below w1.heap.size w1 W := by rw [← hW]; exact ba _ _
  have hi : W.heap[w1.heap.size]? = some (.cells #[.int .u64 x.1.1.toNat, .int .u64 x.1.2.toNat, .string x.2] 101 (0, 0)) := by rw [← hW]; exact heap_alloc_new w1 _
  have hsW : W.heap.size = w1.heap.size + 1 := by rw [← hW]; simp
  rw [hW, ← hsW]
  clear hW
  obtain ⟨X, hX⟩ : ∃ X, W.alloc (.cells #[.slice ao k cap, .slice (some ⟨w1.heap.size, 0, none⟩) 1 1, .slice a3 (n - k) c3] 25) = X := ⟨_, rfl⟩
  have hbX : Below W.heap.size W X := by rw [← hX]; exact ba _ _
  have hx : X.heap[W.heap.size]? = some (.cells #[.slice ao k cap, .slice (some ⟨w1.heap.size, 0, none⟩) 1 1, .slice a3 (n - k) c3] 25 (0, 0)) := by rw [← hX]; exact heap_alloc_new W _
  rw [hX]
  clear hX
  have hlt : (l.take k).length = k := by rw [List.length_take, hl]; omega
  have hld : (l.drop k).length = n - k := by rw [List.length_drop, hl]
  have hbd : Below X.heap.size X X.drew := (Below.refl _ _).drew
  have hwX : Below w1.heap.size w1 X := hbW.trans (hbX.mono hbW.size)
  have hj : joinI [(ao, cap, l.take k), (some ⟨w1.heap.size, 0, none⟩, 1, [x]), (a3, c3, l.drop k)] = l.take k ++ x :: l.drop k := by simp [joinI]
  have hjl : (joinI [(ao, cap, l.take k), (some ⟨w1.heap.size, 0, none⟩, 1, [x]), (a3, c3, l.drop k)]).length = n + 1 := by
    rw [hj, List.length_append, List.length_cons, hlt, hld]; omega
  have hsx : Sl X 3 (some ⟨w1.heap.size, 0, none⟩) 1 (icells [x]) := by
    refine ⟨rfl, .inr ⟨w1.heap.size, 0, rfl, ?_, fun j u hu => ?_⟩⟩
    · have := hwX.size; have := hbX.size; omega
    · rw [row_cell ((hbX.block _ (row_lt hi)).trans hi), Nat.zero_add, ← hu]
      simp [icells, ice]
  have hc := concatIt_any [(ao, cap, l.take k), (some ⟨w1.heap.size, 0, none⟩, 1, [x]), (a3, c3, l.drop k)] W.heap.size X.drew (row_lt hx) (fun j h => by
      have h3 : j < 3 := h
      rw [show X.drew.cell? ⟨W.heap.size, j, none⟩ = X.cell? ⟨W.heap.size, j, none⟩ from rfl, row_cell hx]
      match j, h3 with
      | 0, _ => simp [hlt]
      | 1, _ => simp
      | 2, _ => simp [hld]) (fun y hy => by
      simp only [List.mem_cons, List.not_mem_nil, or_false] at hy
      rcases hy with rfl | rfl | rfl
      · exact ⟨by rw [hlt]; exact (hT.below hwX).drew, hao⟩
      · exact ⟨hsx.drew, fun h => by cases h⟩
      · exact ⟨by rw [hld]; exact (hD.below hwX).drew, ha3⟩) (by simp) (by rw [hjl]; omega) (by rw [hjl]; omega)
  refine hc.mono ?_
  rintro e w' ⟨v, rfl, hown, hb⟩
  rw [hjl, hj] at hown
  obtain ⟨a', c', rfl, _⟩ := Sl.of_own hown
  exact ⟨a', c', rfl, ownsRow_base hown hwX.size, hwX.trans ((hbd.trans hb).mono hwX.size)⟩
set_option maxRecDepth 100000 in
set_option maxHeartbeats 4000000 in
theorem insert_new (l : List It) (x : It) (n cap : Nat) (ao : Option Addr) (w : World) (h : PA w ao n cap l) (hA : Asc l) (hm1 : n ≤ 90000) (hg : getP l x.1 = none) :
    Calls Tryz.prog 48 #[.slice ao n cap, iv x] w fun e w' => Below w.heap.size w w' ∧ ∃ v, e = .returned (.tuple #[v, .int .i64 0]) ∧ w'.ownsRow w.heap.size 101 3 v (n + 1) (icells (l.take (idxP l x.1) ++ x :: l.drop (idxP l x.1))) := by
  obtain ⟨W, hW⟩ : ∃ W, w.alloc (Obj.cells #[.int .u64 x.1.1.toNat, .int .u64 x.1.2.toNat, .string x.2] 101) = W := ⟨_, rfl⟩
  have hbW : Below w.heap.size w W := by rw [← hW]; exact ba _ _
  have hP : W.heap[w.heap.size]? = some (.cells #[.int .u64 x.1.1.toNat, .int .u64 x.1.2.toNat, .string x.2] 101 (0, 0)) := by rw [← hW]; exact heap_alloc_new w _
  have y0 : W.cell? ⟨w.heap.size, 0, none⟩ = some (.int .u64 x.1.1.toNat) := row_cell hP 0
  have y1 : W.cell? ⟨w.heap.size, 1, none⟩ = some (.int .u64 x.1.2.toNat) := row_cell hP 1
  have ly := row_lt hP
  have HP := lid hP
  have CB := lid (poolFind_any l x.1 n cap ao W (h.below hbW) hA (by omega))
  obtain ⟨k, hk⟩ : ∃ k, idxP l x.1 = k := ⟨_, rfl⟩
  have hkn : k ≤ n := by rw [← h.len, ← hk]; exact idxB_le _ _
  have HS : Hid (PA W ao n cap l) := lid (h.below hbW)
  have hnc : n ≤ cap := h.le
  have hcm : cap ≤ maxLen := h.max
  have HBW := lid hbW
  have HW := lid hW
  rw [hg, hk, Option.isSome_none] at CB
  rw [hk]
  clear h hbW hW hk hP hg hA
  go_enter Tryz.func48, Tryz.ntmps48
  go_wp2_with fail
  rw [HW.out]
  (with_reducible refine (CB.out).mono ?_); rintro e w1 ⟨rfl, hb⟩
  have z0 : w1.cell? ⟨w.heap.size, 0, none⟩ = some (.int .u64 x.1.1.toNat) := row_cell ((hb.block _ (row_lt HP.out)).trans HP.out) 0
  have z1 : w1.cell? ⟨w.heap.size, 1, none⟩ = some (.int .u64 x.1.2.toNat) := row_cell ((hb.block _ (row_lt HP.out)).trans HP.out) 1
  have z2 : w1.cell? ⟨w.heap.size, 2, none⟩ = some (.string x.2) := row_cell ((hb.block _ (row_lt HP.out)).trans HP.out) 2
  have lz := row_lt ((hb.block _ (row_lt HP.out)).trans HP.out)
  have HB1 := lid (HBW.out.trans (hb.mono HBW.out.size))
  have HS1 := lid (HS.out.below hb)
  have HT : Hid (Sl w1 3 ao k (icells (l.take k))) := lid (by rw [← take_icells]; exact HS1.out.sl.take hkn)
  have HD : Hid (Sl w1 3 (if cap = k then ao else ao.map (·.add (k * 3))) (n - k) (icells (l.drop k))) := lid (by rw [← drop_icells]; exact HS1.out.sl.drop hkn hnc)
  have HZ := lid HS1.out.z
  have HL := lid HS1.out.len
  clear hb y0 y1 HBW HW
  by_cases hck : cap = k
  · obtain rfl : n = k := by omega
    obtain rfl : cap = n := hck
    have CC := lid (concat3 l x cap cap cap 0 ao ao w1 HL.out hkn (by omega) HT.out HZ.out (by have := HD.out; rw [if_pos rfl] at this; exact this) (fun _ => rfl))
    rw [Nat.sub_self] at CC
    clear HD HS HS1 HT
    rcases ao with _ | ⟨b1, o1, sp⟩
    · obtain rfl : cap = 0 := HZ.out rfl
      go_wp2_with fail
      refine wp_region_seq (fun w' => ∃ s : Since w1.heap.size w1, w' = s.world) [(0, true), (1, true), (2, true), (3, true), (5, true), (6, true), (7, true), (4, false), (8, false), (9, false), (10, false), (11, false)] (by kernel_rfl) (by kernel_rfl) (by intro c d v a w h; first | (cases d <;> exact h) | cases h.1) (since (Below.refl _ _).drew) ?_
      repeat (first | (refine seq_skip (by rfl) (by rfl) ?_; simp only [Act.put, List.setIfInBounds_toArray, List.set_cons_succ, List.set_cons_zero]) | (refine seq_float (by rfl) (by rfl) (by rfl) ?_; intro K hK; go_big_quiet_op; go_big_quiet_on))
      refine seq_chain (by rfl) ?_
      intro K hK
      go_wp2_with fail
      refine hK.out _ _ (since ((ba w1 _).drew)) ?_
      clear hK K
      repeat (first | (refine seq_skip (by rfl) (by rfl) ?_; simp only [Act.put, List.setIfInBounds_toArray, List.set_cons_succ, List.set_cons_zero]) | (refine seq_float (by rfl) (by rfl) (by rfl) ?_; intro K hK; go_big_quiet_op; go_big_quiet_on))
      refine seq_chain (by rfl) ?_
      intro K hK
      go_wp2_with fail
      refine hK.out _ _ (since (((ba w1 _).trans ((ba _ _).mono (by simp))).drew)) ?_
      clear hK K
      repeat (first | (refine seq_skip (by rfl) (by rfl) ?_; simp only [Act.put, List.setIfInBounds_toArray, List.set_cons_succ, List.set_cons_zero]) | (refine seq_float (by rfl) (by rfl) (by rfl) ?_; intro K hK; go_big_quiet_op; go_big_quiet_on))
      refine seq_chain (by rfl) ?_
      intro K hK
      go_wp2_with fail
      (with_reducible refine (CC.out).mono ?_); rintro e w2 ⟨a2, c2, rfl, hown, hb2⟩
      have HO := lid hown
      clear hown
      go_wp2_with fail
      refine hK.out _ _ (since hb2) ?_
      clear hK K
      repeat (first | (refine seq_skip (by rfl) (by rfl) ?_; simp only [Act.put, List.setIfInBounds_toArray, List.set_cons_succ, List.set_cons_zero]) | (refine seq_float (by rfl) (by rfl) (by rfl) ?_; intro K hK; go_big_quiet_op; go_big_quiet_on))
      refine seq_chain (by rfl) ?_
      intro K hK
      go_wp2_with fail
      refine hK.out _ _ (since hb2) ?_
      clear hK K
      repeat (first | (refine seq_skip (by rfl) (by rfl) ?_; simp only [Act.put, List.setIfInBounds_toArray, List.set_cons_succ, List.set_cons_zero]) | (refine seq_float (by rfl) (by rfl) (by rfl) ?_; intro K hK; go_big_quiet_op; go_big_quiet_on))
      refine seq_chain (by rfl) ?_
      intro K hK
      go_wp2_with fail
      refine hK.out _ _ (since hb2) ?_
      clear hK K
      repeat (first | (refine seq_skip (by rfl) (by rfl) ?_; simp only [Act.put, List.setIfInBounds_toArray, List.set_cons_succ, List.set_cons_zero]) | (refine seq_float (by rfl) (by rfl) (by rfl) ?_; intro K hK; go_big_quiet_op; go_big_quiet_on))
      refine seq_nil ?_
      go_wp2_with fail
      go_ret2
      exact ⟨HB1.out.trans (hb2.mono HB1.out.size), _, rfl, ownsRow_base HO.out HB1.out.size⟩
    · go_wp2_with fail
      refine wp_region_seq (fun w' => ∃ s : Since w1.heap.size w1, w' = s.world) [(0, true), (1, true), (2, true), (3, true), (5, true), (6, true), (7, true), (4, false), (8, false), (9, false), (10, false), (11, false)] (by kernel_rfl) (by kernel_rfl) (by intro c d v a w h; first | (cases d <;> exact h) | cases h.1) (since (Below.refl _ _).drew) ?_
      repeat (first | (refine seq_skip (by rfl) (by rfl) ?_; simp only [Act.put, List.setIfInBounds_toArray, List.set_cons_succ, List.set_cons_zero]) | (refine seq_float (by rfl) (by rfl) (by rfl) ?_; intro K hK; go_big_quiet_op; go_big_quiet_on))
      refine seq_chain (by rfl) ?_
      intro K hK
      go_wp2_with fail
      refine hK.out _ _ (since ((ba w1 _).drew)) ?_
      clear hK K
      repeat (first | (refine seq_skip (by rfl) (by rfl) ?_; simp only [Act.put, List.setIfInBounds_toArray, List.set_cons_succ, List.set_cons_zero]) | (refine seq_float (by rfl) (by rfl) (by rfl) ?_; intro K hK; go_big_quiet_op; go_big_quiet_on))
      refine seq_chain (by rfl) ?_
      intro K hK
      go_wp2_with fail
      refine hK.out _ _ (since (((ba w1 _).trans ((ba _ _).mono (by simp))).drew)) ?_
      clear hK K
      repeat (first | (refine seq_skip (by rfl) (by rfl) ?_; simp only [Act.put, List.setIfInBounds_toArray, List.set_cons_succ, List.set_cons_zero]) | (refine seq_float (by rfl) (by rfl) (by rfl) ?_; intro K hK; go_big_quiet_op; go_big_quiet_on))
      refine seq_chain (by rfl) ?_
      intro K hK
      go_wp2_with fail
      (with_reducible refine (CC.out).mono ?_); rintro e w2 ⟨a2, c2, rfl, hown, hb2⟩
      have HO := lid hown
      clear hown
      go_wp2_with fail
      refine hK.out _ _ (since hb2) ?_
      clear hK K
      repeat (first | (refine seq_skip (by rfl) (by rfl) ?_; simp only [Act.put, List.setIfInBounds_toArray, List.set_cons_succ, List.set_cons_zero]) | (refine seq_float (by rfl) (by rfl) (by rfl) ?_; intro K hK; go_big_quiet_op; go_big_quiet_on))
      refine seq_chain (by rfl) ?_
      intro K hK
      go_wp2_with fail
      refine hK.out _ _ (since hb2) ?_
      clear hK K
      repeat (first | (refine seq_skip (by rfl) (by rfl) ?_; simp only [Act.put, List.setIfInBounds_toArray, List.set_cons_succ, List.set_cons_zero]) | (refine seq_float (by rfl) (by rfl) (by rfl) ?_; intro K hK; go_big_quiet_op; go_big_quiet_on))
      refine seq_chain (by rfl) ?_
      intro K hK
      go_wp2_with fail
      refine hK.out _ _ (since hb2) ?_
      clear hK K
      repeat (first | (refine seq_skip (by rfl) (by rfl) ?_; simp only [Act.put, List.setIfInBounds_toArray, List.set_cons_succ, List.set_cons_zero]) | (refine seq_float (by rfl) (by rfl) (by rfl) ?_; intro K hK; go_big_quiet_op; go_big_quiet_on))
      refine seq_nil ?_
      go_wp2_with fail
      go_ret2
      exact ⟨HB1.out.trans (hb2.mono HB1.out.size), _, rfl, ownsRow_base HO.out HB1.out.size⟩
  rcases ao with _ | ⟨b1, o1, sp⟩
  · exact absurd (HZ.out rfl) (by omega)
  have CC := lid (concat3 l x k n cap (cap - k) (some ⟨b1, o1, sp⟩) (some ((⟨b1, o1, sp⟩ : Addr).add (k * 3))) w1 HL.out hkn (by omega) HT.out (fun h => by cases h) (by have := HD.out; rw [if_neg hck] at this; exact this) (fun h => by cases h))
  go_wp2_with fail
  refine wp_region_seq (fun w' => ∃ s : Since w1.heap.size w1, w' = s.world) [(0, true), (1, true), (2, true), (3, true), (5, true), (6, true), (7, true), (4, false), (8, false), (9, false), (10, false), (11, false)] (by kernel_rfl) (by kernel_rfl) (by intro c d v a w h; first | (cases d <;> exact h) | cases h.1) (since (Below.refl _ _).drew) ?_
  repeat (first | (refine seq_skip (by rfl) (by rfl) ?_; simp only [Act.put, List.setIfInBounds_toArray, List.set_cons_succ, List.set_cons_zero]) | (refine seq_float (by rfl) (by rfl) (by rfl) ?_; intro K hK; go_big_quiet_op; go_big_quiet_on))
  refine seq_chain (by rfl) ?_
  intro K hK
  go_wp2_with fail
  refine hK.out _ _ (since ((ba w1 _).drew)) ?_
  clear hK K
  repeat (first | (refine seq_skip (by rfl) (by rfl) ?_; simp only [Act.put, List.setIfInBounds_toArray, List.set_cons_succ, List.set_cons_zero]) | (refine seq_float (by rfl) (by rfl) (by rfl) ?_; intro K hK; go_big_quiet_op; go_big_quiet_on))
  refine seq_chain (by rfl) ?_
  intro K hK
  go_wp2_with fail
  refine hK.out _ _ (since (((ba w1 _).trans ((ba _ _).mono (by simp))).drew)) ?_
  clear hK K
  repeat (first | (refine seq_skip (by rfl) (by rfl) ?_; simp only [Act.put, List.setIfInBounds_toArray, List.set_cons_succ, List.set_cons_zero]) | (refine seq_float (by rfl) (by rfl) (by rfl) ?_; intro K hK; go_big_quiet_op; go_big_quiet_on))
  refine seq_chain (by rfl) ?_
  intro K hK
  go_wp2_with fail
  (with_reducible refine (CC.out).mono ?_); rintro e w2 ⟨a2, c2, rfl, hown, hb2⟩
  have HO := lid hown
  clear hown
  go_wp2_with fail
  refine hK.out _ _ (since hb2) ?_
  clear hK K
  repeat (first | (refine seq_skip (by rfl) (by rfl) ?_; simp only [Act.put, List.setIfInBounds_toArray, List.set_cons_succ, List.set_cons_zero]) | (refine seq_float (by rfl) (by rfl) (by rfl) ?_; intro K hK; go_big_quiet_op; go_big_quiet_on))
  refine seq_chain (by rfl) ?_
  intro K hK
  go_wp2_with fail
  refine hK.out _ _ (since hb2) ?_
  clear hK K
  repeat (first | (refine seq_skip (by rfl) (by rfl) ?_; simp only [Act.put, List.setIfInBounds_toArray, List.set_cons_succ, List.set_cons_zero]) | (refine seq_float (by rfl) (by rfl) (by rfl) ?_; intro K hK; go_big_quiet_op; go_big_quiet_on))
  refine seq_chain (by rfl) ?_
  intro K hK
  go_wp2_with fail
  refine hK.out _ _ (since hb2) ?_
  clear hK K
  repeat (first | (refine seq_skip (by rfl) (by rfl) ?_; simp only [Act.put, List.setIfInBounds_toArray, List.set_cons_succ, List.set_cons_zero]) | (refine seq_float (by rfl) (by rfl) (by rfl) ?_; intro K hK; go_big_quiet_op; go_big_quiet_on))
  refine seq_nil ?_
  go_wp2_with fail
  go_ret2
  exact ⟨HB1.out.trans (hb2.mono HB1.out.size), _, rfl, ownsRow_base HO.out HB1.out.size⟩
end Go.Proofs.YtphjillihapbfaaGreatDoor
