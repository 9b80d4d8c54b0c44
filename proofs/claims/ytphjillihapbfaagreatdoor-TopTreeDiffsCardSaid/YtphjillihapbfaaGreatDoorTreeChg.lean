/-
  tree.checkChange for a change that leads on.
-/
import Derived.Test.YtphjillihapbfaaGreatDoorTreeCh
import Derived.Test.YtphjillihapbfaaGreatDoorGrpU
namespace Go.Proofs.YtphjillihapbfaaGreatDoor
open Go.RowKit

theorem ltB_leB {a b : ByteArray} (h : ltB a b = true) : leB b a = false := by
  rw [← ge_le, ByteArray.toList_eq, ByteArray.toList_eq]
  unfold ltB at h
  simpa using h
theorem idx_at {l : List Fl} (hA : AscF l) {q d : ByteArray} (h : findF l q = some d) : ∃ hi : idxFl l q < l.length, l[idxFl l q].2 = d := by
  rw [findF_at hA] at h
  split at h
  · rename_i hi
    split at h
    · exact ⟨hi, Option.some.inj h⟩
    · cases h
  · cases h
set_option maxRecDepth 100000 in
set_option maxHeartbeats 8000000 in
theorem checkChange_any (l b : List Fl) (c : List Ch) (n cap m ccap i : Nat) (ao co : Option Addr) (w : World) (hF : FA w ao n cap l) (hA : AscF l) (hn : n ≤ 1000000) (hC : CA w co m ccap c) (hm : m ≤ 1000000) (hi : i < m) (hG : Chg l b c) :
    Calls Tryz.prog 16 #[.slice ao n cap, .slice co m ccap, .int .i64 i] w fun e w' => e = .returned (.int .i64 0) ∧ Below w.heap.size w w' := by
  have hil : i < c.length := by rw [hC.len]; exact hi
  obtain ⟨hp, ho, -, hne⟩ := hG.mem _ (List.getElem_mem hil)
  obtain ⟨b1, o1, rfl, hlb, hcell⟩ := hC.sl.at_ hi
  obtain ⟨x0, x1, x2, x3, x4⟩ := ccells_at hil
  replace x0 := hcell _ _ x0
  replace x1 := hcell _ _ x1
  replace x2 := hcell _ _ x2
  replace x3 := hcell _ _ x3
  replace x4 := hcell _ _ x4
  rw [Nat.add_zero] at x0
  rw [← Nat.add_assoc] at x1 x2 x3 x4
  have HPV : Hid (i = 0 ∨ ∃ (j : Nat) (pt : ByteArray), i = j + 1 ∧ leB c[i].1 pt = false ∧ w.cell? ⟨b1, o1 + j * 5, none⟩ = some (.string pt)) := lid (by
    cases i with
    | zero => exact .inl rfl
    | succ j =>
      refine .inr ⟨j, (c[j]'(by omega)).1, rfl, ltB_leB (List.pairwise_iff_getElem.1 hG.asc j (j + 1) (by omega) hil (by omega)), ?_⟩
      have := hcell _ _ (ccells_at (show j < c.length by omega)).1
      rwa [Nat.add_zero] at this)
  obtain ⟨x, hx⟩ : ∃ x, c[i] = x := ⟨_, rfl⟩
  rw [hx] at x0 x1 x2 x3 x4 hp ho hne HPV
  obtain ⟨q, oa, ob⟩ := x
  simp only at x0 hp ho hne HPV
  have hqs : q.size ≤ maxLen := Nat.le_trans (pathB_size hp) (by simp [maxLen])
  have HP := lid hp
  obtain ⟨t, ht⟩ : ∃ t, idxFl l q = t := ⟨_, rfl⟩
  have CF : Hid (∀ W, Below w.heap.size w W → Calls Tryz.prog 33 #[.slice ao n cap, .string q] W fun e w' => e = .returned (.tuple #[.int .i64 t, .bool oa.isSome]) ∧ Below W.heap.size W w') := lid (fun W hW => by
    have := treeFind_any l q n cap ao W (hF.below hW) hA hn
    rw [ht, ← ho] at this
    exact this)
  have HL : Hid (∀ d, oa = some d → ∃ b9 o9, ao = some ⟨b9, o9, none⟩ ∧ b9 < w.heap.size ∧ t < n ∧ w.cell? ⟨b9, o9 + t * 2 + 1, none⟩ = some (.string d)) := lid (fun d hd => by
    obtain ⟨h1, h2⟩ := idx_at hA (ho.symm.trans hd)
    rw [hF.len] at h1
    obtain ⟨b9, o9, e9, hlb9, hc9⟩ := hF.sl.at_ h1
    have h3 := hc9 _ _ (fcells_at (show idxFl l q < l.length by rw [hF.len]; exact h1)).2
    rw [← Nat.add_assoc, h2] at h3
    rw [ht] at h1 h3
    exact ⟨b9, o9, e9, hlb9, h1, h3⟩)
  clear hF hA hC hG hcell hx ho ht hp hil
  go_enter Tryz.func16, Tryz.ntmps16
  rcases oa with _ | xa <;> rcases ob with _ | xb
  · simp at hne
  · clear hne
    replace x1 : w.cell? ⟨b1, o1 + i * 5 + 1, none⟩ = some (.bool false) := x1
    replace x2 : w.cell? ⟨b1, o1 + i * 5 + 2, none⟩ = some (.bool true) := x2
    replace x3 : w.cell? ⟨b1, o1 + i * 5 + 3, none⟩ = some (.string ⟨#[]⟩) := x3
    replace x4 : w.cell? ⟨b1, o1 + i * 5 + 4, none⟩ = some (.string xb) := x4
    replace CF : Hid (∀ W, Below w.heap.size w W → Calls Tryz.prog 33 #[.slice ao n cap, .string q] W fun e w' => e = .returned (.tuple #[.int .i64 t, .bool false]) ∧ Below W.heap.size W w') := CF
    obtain ⟨W1, hW1⟩ : ∃ y, w.alloc (Obj.cells #[.string q, .bool false, .bool true, .string ⟨#[]⟩, .string xb] 50) = y := ⟨_, rfl⟩
    have hb1 : Below w.heap.size w W1 := by rw [← hW1]; exact ba _ _
    have hR1 : W1.heap[w.heap.size]? = some (.cells #[.string q, .bool false, .bool true, .string ⟨#[]⟩, .string xb] 50 (0, 0)) := by rw [← hW1]; exact h_new rfl _
    have y0 : W1.cell? ⟨w.heap.size, 0, none⟩ = some (.string q) := row_cell hR1 0
    have ly := row_lt hR1
    have HW1 := lid hW1
    have HB1 := lid hb1
    have HR1 := lid hR1
    clear hW1 hb1 hR1
    go_wp2_with (with_reducible refine swap_world HW1.out ?_)
    (with_reducible refine (isPath_any q _ hqs).mono ?_); rintro e w2 ⟨rfl, hb2⟩
    rw [HP.out]
    have hR2 := (hb2.block _ ly).trans HR1.out
    have z0 : w2.cell? ⟨w.heap.size, 0, none⟩ = some (.string q) := row_cell hR2 0
    have z1 : w2.cell? ⟨w.heap.size, 1, none⟩ = some (.bool false) := row_cell hR2 1
    have z2 : w2.cell? ⟨w.heap.size, 2, none⟩ = some (.bool true) := row_cell hR2 2
    have z3 : w2.cell? ⟨w.heap.size, 3, none⟩ = some (.string ⟨#[]⟩) := row_cell hR2 3
    have z4 : w2.cell? ⟨w.heap.size, 4, none⟩ = some (.string xb) := row_cell hR2 4
    have lz := row_lt hR2
    have hw2 := HB1.out.trans (hb2.mono HB1.out.size)
    have HR2 := lid hR2
    have HW2 := lid hw2
    have C2 := lid (CF.out w2.drew hw2.drew)
    clear y0 ly hb2 hR2 hw2 x0 x1 x2 x3 x4
    rcases HPV.out with rfl | ⟨j, pt, rfl, hlt, hcl⟩
    · go_wp2_with fail
      refine wp_region_seq (fun w' => ∃ s : Since w2.heap.size w2, w' = s.world) [(0, true), (1, true), (2, true), (3, true), (4, true), (5, true), (6, true), (7, true), (8, true), (9, true), (10, true), (11, true), (12, true)] (by kernel_rfl) (by kernel_rfl) (by intro c d v a w h; first | (cases d <;> exact h) | cases h.1) (since (Below.refl _ _).drew) ?_
      repeat (first | (refine seq_skip (by rfl) (by rfl) ?_; simp only [Act.put, List.setIfInBounds_toArray, List.set_cons_succ, List.set_cons_zero]) | (refine seq_float (by rfl) (by rfl) (by rfl) ?_; intro K hK; go_big_quiet_op; go_big_quiet_on))
      refine seq_nil ?_
      go_wp2_with fail
      (with_reducible refine (C2.out).mono ?_); rintro e w3 ⟨rfl, hb3⟩
      have hw3 := HW2.out.drew.trans (hb3.mono HW2.out.drew.size)
      have hR3 := (hb3.block (w := w2.drew) _ lz).trans HR2.out
      have k1 : w3.cell? ⟨w.heap.size, 1, none⟩ = some (.bool false) := row_cell hR3 1
      have k3 : w3.cell? ⟨w.heap.size, 3, none⟩ = some (.string ⟨#[]⟩) := row_cell hR3 3
      have lk := row_lt hR3
      have HW3 := lid hw3
      clear z0 z1 z2 z3 z4 lz hw3 hR3 hb3
      go_wp2_with fail
      refine wp_region_seq (fun w' => ∃ s : Since w3.heap.size w3, w' = s.world) [(0, true), (1, true), (2, true), (3, true), (4, true), (5, true), (6, true), (7, true), (8, true), (9, true), (10, true), (11, true), (12, true), (13, true), (14, true), (15, true), (16, true)] (by kernel_rfl) (by kernel_rfl) (by intro c d v a w h; first | (cases d <;> exact h) | cases h.1) (since (Below.refl _ _).drew) ?_
      repeat (first | (refine seq_skip (by rfl) (by rfl) ?_; simp only [Act.put, List.setIfInBounds_toArray, List.set_cons_succ, List.set_cons_zero]) | (refine seq_float (by rfl) (by rfl) (by rfl) ?_; intro K hK; go_big_quiet_op; go_big_quiet_on))
      refine seq_nil ?_
      go_wp2_with fail
      go_ret
      exact ⟨rfl, HW3.out.drew⟩
    · have e0 : ((j + 1 : Nat) : Int) = (j : Int) + 1 := by omega
      have hpos : decide ((0 : Int) < (j : Int) + 1) = true := decide_eq_true (by omega)
      have wj : IntKind.i64.wrap (j : Int) = j := IntWalk.i64_in _ (by omega)
      have hjl : decide (j < m) = true := by simp; omega
      have hjn : (j : Int) < m := by omega
      have hjn1 : (j : Int) + 1 < m := by omega
      have p0 := (bc HW2.out hlb _).trans hcl
      have lp : b1 < w2.heap.size := Nat.lt_of_lt_of_le hlb HW2.out.size
      have hd : (Op.bytesLess q.toList pt.toList || q.toList == pt.toList) = false := hlt
      clear hcl hlt
      go_wp2_with fail
      refine wp_region_seq (fun w' => ∃ s : Since w2.heap.size w2, w' = s.world) [(0, true), (1, true), (2, true), (3, true), (4, true), (5, true), (6, true), (7, true), (8, true), (9, true), (10, true), (11, true), (12, true)] (by kernel_rfl) (by kernel_rfl) (by intro c d v a w h; first | (cases d <;> exact h) | cases h.1) (since (Below.refl _ _).drew) ?_
      repeat (first | (refine seq_skip (by rfl) (by rfl) ?_; simp only [Act.put, List.setIfInBounds_toArray, List.set_cons_succ, List.set_cons_zero]) | (refine seq_float (by rfl) (by rfl) (by rfl) ?_; intro K hK; go_big_quiet_op; go_big_quiet_on))
      refine seq_nil ?_
      go_wp2_with fail
      (with_reducible refine (C2.out).mono ?_); rintro e w3 ⟨rfl, hb3⟩
      have hw3 := HW2.out.drew.trans (hb3.mono HW2.out.drew.size)
      have hR3 := (hb3.block (w := w2.drew) _ lz).trans HR2.out
      have k1 : w3.cell? ⟨w.heap.size, 1, none⟩ = some (.bool false) := row_cell hR3 1
      have k3 : w3.cell? ⟨w.heap.size, 3, none⟩ = some (.string ⟨#[]⟩) := row_cell hR3 3
      have lk := row_lt hR3
      have HW3 := lid hw3
      clear z0 z1 z2 z3 z4 lz hw3 hR3 hb3
      go_wp2_with fail
      refine wp_region_seq (fun w' => ∃ s : Since w3.heap.size w3, w' = s.world) [(0, true), (1, true), (2, true), (3, true), (4, true), (5, true), (6, true), (7, true), (8, true), (9, true), (10, true), (11, true), (12, true), (13, true), (14, true), (15, true), (16, true)] (by kernel_rfl) (by kernel_rfl) (by intro c d v a w h; first | (cases d <;> exact h) | cases h.1) (since (Below.refl _ _).drew) ?_
      repeat (first | (refine seq_skip (by rfl) (by rfl) ?_; simp only [Act.put, List.setIfInBounds_toArray, List.set_cons_succ, List.set_cons_zero]) | (refine seq_float (by rfl) (by rfl) (by rfl) ?_; intro K hK; go_big_quiet_op; go_big_quiet_on))
      refine seq_nil ?_
      go_wp2_with fail
      go_ret
      exact ⟨rfl, HW3.out.drew⟩
  · clear hne
    replace x1 : w.cell? ⟨b1, o1 + i * 5 + 1, none⟩ = some (.bool true) := x1
    replace x2 : w.cell? ⟨b1, o1 + i * 5 + 2, none⟩ = some (.bool false) := x2
    replace x3 : w.cell? ⟨b1, o1 + i * 5 + 3, none⟩ = some (.string xa) := x3
    replace x4 : w.cell? ⟨b1, o1 + i * 5 + 4, none⟩ = some (.string ⟨#[]⟩) := x4
    replace CF : Hid (∀ W, Below w.heap.size w W → Calls Tryz.prog 33 #[.slice ao n cap, .string q] W fun e w' => e = .returned (.tuple #[.int .i64 t, .bool true]) ∧ Below W.heap.size W w') := CF
    obtain ⟨W1, hW1⟩ : ∃ y, w.alloc (Obj.cells #[.string q, .bool true, .bool false, .string xa, .string ⟨#[]⟩] 50) = y := ⟨_, rfl⟩
    have hb1 : Below w.heap.size w W1 := by rw [← hW1]; exact ba _ _
    have hR1 : W1.heap[w.heap.size]? = some (.cells #[.string q, .bool true, .bool false, .string xa, .string ⟨#[]⟩] 50 (0, 0)) := by rw [← hW1]; exact h_new rfl _
    have y0 : W1.cell? ⟨w.heap.size, 0, none⟩ = some (.string q) := row_cell hR1 0
    have ly := row_lt hR1
    have HW1 := lid hW1
    have HB1 := lid hb1
    have HR1 := lid hR1
    clear hW1 hb1 hR1
    go_wp2_with (with_reducible refine swap_world HW1.out ?_)
    (with_reducible refine (isPath_any q _ hqs).mono ?_); rintro e w2 ⟨rfl, hb2⟩
    rw [HP.out]
    have hR2 := (hb2.block _ ly).trans HR1.out
    have z0 : w2.cell? ⟨w.heap.size, 0, none⟩ = some (.string q) := row_cell hR2 0
    have z1 : w2.cell? ⟨w.heap.size, 1, none⟩ = some (.bool true) := row_cell hR2 1
    have z2 : w2.cell? ⟨w.heap.size, 2, none⟩ = some (.bool false) := row_cell hR2 2
    have z3 : w2.cell? ⟨w.heap.size, 3, none⟩ = some (.string xa) := row_cell hR2 3
    have z4 : w2.cell? ⟨w.heap.size, 4, none⟩ = some (.string ⟨#[]⟩) := row_cell hR2 4
    have lz := row_lt hR2
    have hw2 := HB1.out.trans (hb2.mono HB1.out.size)
    have HR2 := lid hR2
    have HW2 := lid hw2
    have C2 := lid (CF.out w2.drew hw2.drew)
    clear y0 ly hb2 hR2 hw2 x0 x1 x2 x3 x4
    rcases HPV.out with rfl | ⟨j, pt, rfl, hlt, hcl⟩
    · go_wp2_with fail
      refine wp_region_seq (fun w' => ∃ s : Since w2.heap.size w2, w' = s.world) [(0, true), (1, true), (2, true), (3, true), (4, true), (5, true), (6, true), (7, true), (8, true), (9, true), (10, true), (11, true), (12, true)] (by kernel_rfl) (by kernel_rfl) (by intro c d v a w h; first | (cases d <;> exact h) | cases h.1) (since (Below.refl _ _).drew) ?_
      repeat (first | (refine seq_skip (by rfl) (by rfl) ?_; simp only [Act.put, List.setIfInBounds_toArray, List.set_cons_succ, List.set_cons_zero]) | (refine seq_float (by rfl) (by rfl) (by rfl) ?_; intro K hK; go_big_quiet_op; go_big_quiet_on))
      refine seq_nil ?_
      go_wp2_with fail
      (with_reducible refine (C2.out).mono ?_); rintro e w3 ⟨rfl, hb3⟩
      have hw3 := HW2.out.drew.trans (hb3.mono HW2.out.drew.size)
      have hR3 := (hb3.block (w := w2.drew) _ lz).trans HR2.out
      have k1 : w3.cell? ⟨w.heap.size, 1, none⟩ = some (.bool true) := row_cell hR3 1
      have k3 : w3.cell? ⟨w.heap.size, 3, none⟩ = some (.string xa) := row_cell hR3 3
      have lk := row_lt hR3
      have HW3 := lid hw3
      obtain ⟨b9, o9, rfl, hlb9, hti, hc9⟩ := HL.out _ rfl
      have v9 := (bc hw3 hlb9 _).trans hc9
      have l9 : b9 < w3.heap.size := Nat.lt_of_lt_of_le hlb9 hw3.size
      have htl : decide (t < n) = true := by simp; omega
      have htn : (t : Int) < n := by omega
      clear hc9
      clear z0 z1 z2 z3 z4 lz hw3 hR3 hb3
      go_wp2_with fail
      refine wp_region_seq (fun w' => ∃ s : Since w3.heap.size w3, w' = s.world) [(0, true), (1, true), (2, true), (3, true), (4, true), (5, true), (6, true), (7, true), (8, true), (9, true), (10, true), (11, true), (12, true), (13, true), (14, true), (15, true), (16, true)] (by kernel_rfl) (by kernel_rfl) (by intro c d v a w h; first | (cases d <;> exact h) | cases h.1) (since (Below.refl _ _).drew) ?_
      repeat (first | (refine seq_skip (by rfl) (by rfl) ?_; simp only [Act.put, List.setIfInBounds_toArray, List.set_cons_succ, List.set_cons_zero]) | (refine seq_float (by rfl) (by rfl) (by rfl) ?_; intro K hK; go_big_quiet_op; go_big_quiet_on))
      refine seq_nil ?_
      go_wp2_with fail
      go_ret
      exact ⟨rfl, HW3.out.drew⟩
    · have e0 : ((j + 1 : Nat) : Int) = (j : Int) + 1 := by omega
      have hpos : decide ((0 : Int) < (j : Int) + 1) = true := decide_eq_true (by omega)
      have wj : IntKind.i64.wrap (j : Int) = j := IntWalk.i64_in _ (by omega)
      have hjl : decide (j < m) = true := by simp; omega
      have hjn : (j : Int) < m := by omega
      have hjn1 : (j : Int) + 1 < m := by omega
      have p0 := (bc HW2.out hlb _).trans hcl
      have lp : b1 < w2.heap.size := Nat.lt_of_lt_of_le hlb HW2.out.size
      have hd : (Op.bytesLess q.toList pt.toList || q.toList == pt.toList) = false := hlt
      clear hcl hlt
      go_wp2_with fail
      refine wp_region_seq (fun w' => ∃ s : Since w2.heap.size w2, w' = s.world) [(0, true), (1, true), (2, true), (3, true), (4, true), (5, true), (6, true), (7, true), (8, true), (9, true), (10, true), (11, true), (12, true)] (by kernel_rfl) (by kernel_rfl) (by intro c d v a w h; first | (cases d <;> exact h) | cases h.1) (since (Below.refl _ _).drew) ?_
      repeat (first | (refine seq_skip (by rfl) (by rfl) ?_; simp only [Act.put, List.setIfInBounds_toArray, List.set_cons_succ, List.set_cons_zero]) | (refine seq_float (by rfl) (by rfl) (by rfl) ?_; intro K hK; go_big_quiet_op; go_big_quiet_on))
      refine seq_nil ?_
      go_wp2_with fail
      (with_reducible refine (C2.out).mono ?_); rintro e w3 ⟨rfl, hb3⟩
      have hw3 := HW2.out.drew.trans (hb3.mono HW2.out.drew.size)
      have hR3 := (hb3.block (w := w2.drew) _ lz).trans HR2.out
      have k1 : w3.cell? ⟨w.heap.size, 1, none⟩ = some (.bool true) := row_cell hR3 1
      have k3 : w3.cell? ⟨w.heap.size, 3, none⟩ = some (.string xa) := row_cell hR3 3
      have lk := row_lt hR3
      have HW3 := lid hw3
      obtain ⟨b9, o9, rfl, hlb9, hti, hc9⟩ := HL.out _ rfl
      have v9 := (bc hw3 hlb9 _).trans hc9
      have l9 : b9 < w3.heap.size := Nat.lt_of_lt_of_le hlb9 hw3.size
      have htl : decide (t < n) = true := by simp; omega
      have htn : (t : Int) < n := by omega
      clear hc9
      clear z0 z1 z2 z3 z4 lz hw3 hR3 hb3
      go_wp2_with fail
      refine wp_region_seq (fun w' => ∃ s : Since w3.heap.size w3, w' = s.world) [(0, true), (1, true), (2, true), (3, true), (4, true), (5, true), (6, true), (7, true), (8, true), (9, true), (10, true), (11, true), (12, true), (13, true), (14, true), (15, true), (16, true)] (by kernel_rfl) (by kernel_rfl) (by intro c d v a w h; first | (cases d <;> exact h) | cases h.1) (since (Below.refl _ _).drew) ?_
      repeat (first | (refine seq_skip (by rfl) (by rfl) ?_; simp only [Act.put, List.setIfInBounds_toArray, List.set_cons_succ, List.set_cons_zero]) | (refine seq_float (by rfl) (by rfl) (by rfl) ?_; intro K hK; go_big_quiet_op; go_big_quiet_on))
      refine seq_nil ?_
      go_wp2_with fail
      go_ret
      exact ⟨rfl, HW3.out.drew⟩
  · clear hne
    replace x1 : w.cell? ⟨b1, o1 + i * 5 + 1, none⟩ = some (.bool true) := x1
    replace x2 : w.cell? ⟨b1, o1 + i * 5 + 2, none⟩ = some (.bool true) := x2
    replace x3 : w.cell? ⟨b1, o1 + i * 5 + 3, none⟩ = some (.string xa) := x3
    replace x4 : w.cell? ⟨b1, o1 + i * 5 + 4, none⟩ = some (.string xb) := x4
    replace CF : Hid (∀ W, Below w.heap.size w W → Calls Tryz.prog 33 #[.slice ao n cap, .string q] W fun e w' => e = .returned (.tuple #[.int .i64 t, .bool true]) ∧ Below W.heap.size W w') := CF
    obtain ⟨W1, hW1⟩ : ∃ y, w.alloc (Obj.cells #[.string q, .bool true, .bool true, .string xa, .string xb] 50) = y := ⟨_, rfl⟩
    have hb1 : Below w.heap.size w W1 := by rw [← hW1]; exact ba _ _
    have hR1 : W1.heap[w.heap.size]? = some (.cells #[.string q, .bool true, .bool true, .string xa, .string xb] 50 (0, 0)) := by rw [← hW1]; exact h_new rfl _
    have y0 : W1.cell? ⟨w.heap.size, 0, none⟩ = some (.string q) := row_cell hR1 0
    have ly := row_lt hR1
    have HW1 := lid hW1
    have HB1 := lid hb1
    have HR1 := lid hR1
    clear hW1 hb1 hR1
    go_wp2_with (with_reducible refine swap_world HW1.out ?_)
    (with_reducible refine (isPath_any q _ hqs).mono ?_); rintro e w2 ⟨rfl, hb2⟩
    rw [HP.out]
    have hR2 := (hb2.block _ ly).trans HR1.out
    have z0 : w2.cell? ⟨w.heap.size, 0, none⟩ = some (.string q) := row_cell hR2 0
    have z1 : w2.cell? ⟨w.heap.size, 1, none⟩ = some (.bool true) := row_cell hR2 1
    have z2 : w2.cell? ⟨w.heap.size, 2, none⟩ = some (.bool true) := row_cell hR2 2
    have z3 : w2.cell? ⟨w.heap.size, 3, none⟩ = some (.string xa) := row_cell hR2 3
    have z4 : w2.cell? ⟨w.heap.size, 4, none⟩ = some (.string xb) := row_cell hR2 4
    have lz := row_lt hR2
    have hw2 := HB1.out.trans (hb2.mono HB1.out.size)
    have HR2 := lid hR2
    have HW2 := lid hw2
    have C2 := lid (CF.out w2.drew hw2.drew)
    clear y0 ly hb2 hR2 hw2 x0 x1 x2 x3 x4
    rcases HPV.out with rfl | ⟨j, pt, rfl, hlt, hcl⟩
    · go_wp2_with fail
      refine wp_region_seq (fun w' => ∃ s : Since w2.heap.size w2, w' = s.world) [(0, true), (1, true), (2, true), (3, true), (4, true), (5, true), (6, true), (7, true), (8, true), (9, true), (10, true), (11, true), (12, true)] (by kernel_rfl) (by kernel_rfl) (by intro c d v a w h; first | (cases d <;> exact h) | cases h.1) (since (Below.refl _ _).drew) ?_
      repeat (first | (refine seq_skip (by rfl) (by rfl) ?_; simp only [Act.put, List.setIfInBounds_toArray, List.set_cons_succ, List.set_cons_zero]) | (refine seq_float (by rfl) (by rfl) (by rfl) ?_; intro K hK; go_big_quiet_op; go_big_quiet_on))
      refine seq_nil ?_
      go_wp2_with fail
      (with_reducible refine (C2.out).mono ?_); rintro e w3 ⟨rfl, hb3⟩
      have hw3 := HW2.out.drew.trans (hb3.mono HW2.out.drew.size)
      have hR3 := (hb3.block (w := w2.drew) _ lz).trans HR2.out
      have k1 : w3.cell? ⟨w.heap.size, 1, none⟩ = some (.bool true) := row_cell hR3 1
      have k3 : w3.cell? ⟨w.heap.size, 3, none⟩ = some (.string xa) := row_cell hR3 3
      have lk := row_lt hR3
      have HW3 := lid hw3
      obtain ⟨b9, o9, rfl, hlb9, hti, hc9⟩ := HL.out _ rfl
      have v9 := (bc hw3 hlb9 _).trans hc9
      have l9 : b9 < w3.heap.size := Nat.lt_of_lt_of_le hlb9 hw3.size
      have htl : decide (t < n) = true := by simp; omega
      have htn : (t : Int) < n := by omega
      clear hc9
      clear z0 z1 z2 z3 z4 lz hw3 hR3 hb3
      go_wp2_with fail
      refine wp_region_seq (fun w' => ∃ s : Since w3.heap.size w3, w' = s.world) [(0, true), (1, true), (2, true), (3, true), (4, true), (5, true), (6, true), (7, true), (8, true), (9, true), (10, true), (11, true), (12, true), (13, true), (14, true), (15, true), (16, true)] (by kernel_rfl) (by kernel_rfl) (by intro c d v a w h; first | (cases d <;> exact h) | cases h.1) (since (Below.refl _ _).drew) ?_
      repeat (first | (refine seq_skip (by rfl) (by rfl) ?_; simp only [Act.put, List.setIfInBounds_toArray, List.set_cons_succ, List.set_cons_zero]) | (refine seq_float (by rfl) (by rfl) (by rfl) ?_; intro K hK; go_big_quiet_op; go_big_quiet_on))
      refine seq_nil ?_
      go_wp2_with fail
      go_ret
      exact ⟨rfl, HW3.out.drew⟩
    · have e0 : ((j + 1 : Nat) : Int) = (j : Int) + 1 := by omega
      have hpos : decide ((0 : Int) < (j : Int) + 1) = true := decide_eq_true (by omega)
      have wj : IntKind.i64.wrap (j : Int) = j := IntWalk.i64_in _ (by omega)
      have hjl : decide (j < m) = true := by simp; omega
      have hjn : (j : Int) < m := by omega
      have hjn1 : (j : Int) + 1 < m := by omega
      have p0 := (bc HW2.out hlb _).trans hcl
      have lp : b1 < w2.heap.size := Nat.lt_of_lt_of_le hlb HW2.out.size
      have hd : (Op.bytesLess q.toList pt.toList || q.toList == pt.toList) = false := hlt
      clear hcl hlt
      go_wp2_with fail
      refine wp_region_seq (fun w' => ∃ s : Since w2.heap.size w2, w' = s.world) [(0, true), (1, true), (2, true), (3, true), (4, true), (5, true), (6, true), (7, true), (8, true), (9, true), (10, true), (11, true), (12, true)] (by kernel_rfl) (by kernel_rfl) (by intro c d v a w h; first | (cases d <;> exact h) | cases h.1) (since (Below.refl _ _).drew) ?_
      repeat (first | (refine seq_skip (by rfl) (by rfl) ?_; simp only [Act.put, List.setIfInBounds_toArray, List.set_cons_succ, List.set_cons_zero]) | (refine seq_float (by rfl) (by rfl) (by rfl) ?_; intro K hK; go_big_quiet_op; go_big_quiet_on))
      refine seq_nil ?_
      go_wp2_with fail
      (with_reducible refine (C2.out).mono ?_); rintro e w3 ⟨rfl, hb3⟩
      have hw3 := HW2.out.drew.trans (hb3.mono HW2.out.drew.size)
      have hR3 := (hb3.block (w := w2.drew) _ lz).trans HR2.out
      have k1 : w3.cell? ⟨w.heap.size, 1, none⟩ = some (.bool true) := row_cell hR3 1
      have k3 : w3.cell? ⟨w.heap.size, 3, none⟩ = some (.string xa) := row_cell hR3 3
      have lk := row_lt hR3
      have HW3 := lid hw3
      obtain ⟨b9, o9, rfl, hlb9, hti, hc9⟩ := HL.out _ rfl
      have v9 := (bc hw3 hlb9 _).trans hc9
      have l9 : b9 < w3.heap.size := Nat.lt_of_lt_of_le hlb9 hw3.size
      have htl : decide (t < n) = true := by simp; omega
      have htn : (t : Int) < n := by omega
      clear hc9
      clear z0 z1 z2 z3 z4 lz hw3 hR3 hb3
      go_wp2_with fail
      refine wp_region_seq (fun w' => ∃ s : Since w3.heap.size w3, w' = s.world) [(0, true), (1, true), (2, true), (3, true), (4, true), (5, true), (6, true), (7, true), (8, true), (9, true), (10, true), (11, true), (12, true), (13, true), (14, true), (15, true), (16, true)] (by kernel_rfl) (by kernel_rfl) (by intro c d v a w h; first | (cases d <;> exact h) | cases h.1) (since (Below.refl _ _).drew) ?_
      repeat (first | (refine seq_skip (by rfl) (by rfl) ?_; simp only [Act.put, List.setIfInBounds_toArray, List.set_cons_succ, List.set_cons_zero]) | (refine seq_float (by rfl) (by rfl) (by rfl) ?_; intro K hK; go_big_quiet_op; go_big_quiet_on))
      refine seq_nil ?_
      go_wp2_with fail
      go_ret
      exact ⟨rfl, HW3.out.drew⟩
end Go.Proofs.YtphjillihapbfaaGreatDoor
