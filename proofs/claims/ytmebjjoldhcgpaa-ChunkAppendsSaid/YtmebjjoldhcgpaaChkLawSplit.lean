/-
  The law ChunkSplit returns true and makes new memory alone.
-/
import Derived.Test.YtmebjjoldhcgpaaChkAwake
namespace Go.Proofs.Ytmebjjoldhcgpaa
open Go.RowKit

/-- Parameters in a box. -/
def PC (w : World) (n : Nat) (l m v b : Int) : Prop :=
  w.cell? ⟨n, 0, none⟩ = some (.int .i64 l) ∧ w.cell? ⟨n, 1, none⟩ = some (.int .i64 m) ∧ w.cell? ⟨n, 2, none⟩ = some (.int .i64 v) ∧ w.cell? ⟨n, 3, none⟩ = some (.int .i64 b)
theorem PC.new (w : World) (l m v b : Int) (t : TypeId) : PC (w.alloc (.cells (pcells l m v b) t)) w.heap.size l m v b := by
  refine ⟨?_, ?_, ?_, ?_⟩ <;> rw [cell_new_at rfl] <;> rfl
theorem PC.below {w w' : World} {B n : Nat} {l m v b : Int} (h : PC w n l m v b) (hb : Below B w w') (hn : n < B) : PC w' n l m v b :=
  ⟨(bc hb hn 0).trans h.1, (bc hb hn 1).trans h.2.1, (bc hb hn 2).trans h.2.2.1, (bc hb hn 3).trans h.2.2.2⟩

set_option maxRecDepth 100000 in
set_option maxHeartbeats 8000000 in
theorem LawSplit_any (s : ByteArray) (l m v b : Int) (w : World) (hs : s.size ≤ maxLen) :
    Calls Try.prog 8 #[.string s, .agg (pcells l m v b)] w fun e w' => e = .returned (.bool true) ∧ Below w.heap.size w w' := by
  have hs' : s.size ≤ 9223372036854775807 := hs
  have hb0 : Below w.heap.size w (w.alloc (Obj.cells (pcells l m v b) 23)) := ba _ _
  by_cases h2 : s.size ≤ 200
  · have h65 : s.size ≤ 65536 := by omega
    have h2' : (s.size : Int) ≤ 200 := by omega
    have hP0 := PC.new w l m v b 23
    go_enter Try.func8, Try.ntmps8
    go_wp2_with fail
    (with_reducible refine (Split_any s l m v b _ h65).mono ?_); rintro e w1 ⟨a1, n1, c1, rfl, hn1, hnc1, hcm1, hsl1, hb1⟩
    obtain ⟨p0, p1, p2, p3⟩ := hP0.below hb1 (by simp)
    have hP1 := lid (hP0.below hb1 (by simp))
    have hw1 := hb0.trans (hb1.mono (by simp))
    have hq1 : w.heap.size < w1.heap.size := by have := hb1.size; rw [World.size_alloc] at this; omega
    generalize hC : chunksI s l m v b = C at *
    generalize hE : checkE l m v b = E at *
    have HC := lid hC
    have HE := lid hE
    have HN1 := lid hn1
    have HS1 := lid hsl1
    clear hC hE hb1 hP0 hn1 hsl1
    go_wp2_with fail
    (with_reducible refine (refSplit_any s l m v b _ h65).mono ?_); rintro e w2 ⟨a2, n2, c2, rfl, hn2, hnc2, hcm2, hsl2, hb2⟩
    rw [HC.out] at hn2 hsl2
    rw [HE.out]
    obtain ⟨p0', p1', p2', p3'⟩ := hP1.out.below hb2 hq1
    have hP2 := lid (hP1.out.below hb2 hq1)
    have hw2 := hw1.trans (hb2.mono hw1.size)
    have hq2 : w.heap.size < w2.heap.size := by have := hb2.size; omega
    have T1 := lid (HS1.out.below hb2)
    have HN2 := lid hn2
    have HS2 := lid hsl2
    clear hb2 hP1 hn2 hsl2 p0 p1 p2 p3 HS1
    go_wp2_with fail
    (with_reducible refine (Bounds_any s l m v b _ h65).mono ?_); rintro e w3 ⟨a3, n3, c3, rfl, hn3, hnc3, hcm3, hsl3, hb3⟩
    rw [HC.out] at hn3 hsl3
    rw [HE.out]
    obtain ⟨p0, p1, p2, p3⟩ := hP2.out.below hb3 hq2
    have hP3 := lid (hP2.out.below hb3 hq2)
    have hw3 := hw2.trans (hb3.mono hw2.size)
    have hq3 : w.heap.size < w3.heap.size := by have := hb3.size; omega
    have U1 := lid (T1.out.below hb3)
    have U2 := lid (HS2.out.below hb3)
    have HN3 := lid hn3
    have HS3 := lid hsl3
    clear hb3 hP2 hn3 hsl3 p0' p1' p2' p3' T1 HS2
    go_wp2_with fail
    (with_reducible refine (refBounds_any s l m v b _ h65).mono ?_); rintro e w4 ⟨a4, n4, c4, rfl, hn4, hnc4, hcm4, hsl4, hb4⟩
    rw [HC.out] at hn4 hsl4
    rw [HE.out]
    obtain ⟨p0', p1', p2', p3'⟩ := hP3.out.below hb4 hq3
    have hP4 := lid (hP3.out.below hb4 hq3)
    have hw4 := hw3.trans (hb4.mono hw3.size)
    have hq4 : w.heap.size < w4.heap.size := by have := hb4.size; omega
    have V1 := lid (U1.out.below hb4)
    have V2 := lid (U2.out.below hb4)
    have V3 := lid (HS3.out.below hb4)
    have HN4 := lid hn4
    have HS4 := lid hsl4
    clear hb4 hP3 hn4 hsl4 p0 p1 p2 p3 U1 U2 HS3
    go_wp2_with fail
    (with_reducible refine (Manifest_any s l m v b _ h65).mono ?_); rintro e w5 ⟨a5, n5, c5, rfl, hn5, hnc5, hcm5, hsl5, hb5⟩
    rw [HC.out] at hn5 hsl5
    rw [HE.out]
    obtain ⟨p0, p1, p2, p3⟩ := hP4.out.below hb5 hq4
    have hP5 := lid (hP4.out.below hb5 hq4)
    have hw5 := hw4.trans (hb5.mono hw4.size)
    have hq5 : w.heap.size < w5.heap.size := by have := hb5.size; omega
    have X1 := lid (V1.out.below hb5)
    have X2 := lid (V2.out.below hb5)
    have X3 := lid (V3.out.below hb5)
    have X4 := lid (HS4.out.below hb5)
    have HN5 := lid hn5
    have HS5 := lid hsl5
    clear hb5 hP4 hn5 hsl5 p0' p1' p2' p3' V1 V2 V3 HS4
    go_wp2_with fail
    (with_reducible refine (refManifest_any s l m v b _ h65).mono ?_); rintro e w6 ⟨a6, n6, c6, rfl, hn6, hnc6, hcm6, hsl6, hb6⟩
    rw [HC.out] at hn6 hsl6
    rw [HE.out]
    obtain ⟨p0', p1', p2', p3'⟩ := hP5.out.below hb6 hq5
    have hw6 := hw5.trans (hb6.mono hw5.size)
    have hq6 : w.heap.size < w6.heap.size := by have := hb6.size; omega
    have Y1 := lid (X1.out.below hb6)
    have Y2 := lid (X2.out.below hb6)
    have Y3 := lid (X3.out.below hb6)
    have Y4 := lid (X4.out.below hb6)
    have Y5 := lid (HS5.out.below hb6)
    have HN6 := lid hn6
    have Y6 := lid hsl6
    clear hb6 hP5 hn6 hsl6 p0 p1 p2 p3 X1 X2 X3 X4 HS5
    have hn1' : n1 ≤ 1099511627776 := Nat.le_trans (by rw [← HN1.out, ← HC.out]; exact chunksI_count s l m v b) (by omega)
    have hn3' : n3 ≤ 1099511627776 := Nat.le_trans (by rw [← HN3.out, ← HC.out]; exact chunksI_count s l m v b) (by omega)
    have hn5' : n5 ≤ 1099511627776 := Nat.le_trans (by rw [← HN5.out, ← HC.out]; exact chunksI_count s l m v b) (by omega)
    go_wp2_with fail
    refine wp_region_seq (fun w' => ∃ s : Since w6.heap.size w6, w' = s.world) [(0, true), (2, true), (1, false), (3, false), (4, true), (5, true), (6, true), (7, true), (8, false), (9, true), (10, true), (11, true), (12, true), (13, true), (14, true), (15, true), (16, true), (17, true), (18, false), (19, true), (20, true), (21, true), (22, true), (23, true), (24, true), (25, true), (26, true), (27, true), (28, false), (29, true), (30, true), (31, true), (32, true), (33, true), (34, true), (35, true), (36, false), (37, true), (38, false)] (by kernel_rfl) (by kernel_rfl) (by intro c d v a w h; cases d <;> exact h) (since (Below.refl _ _).drew) ?_
    repeat (first | (refine seq_skip (by rfl) (by rfl) ?_; simp only [Act.put, List.setIfInBounds_toArray, List.set_cons_succ, List.set_cons_zero]) | (refine seq_float (by rfl) (by rfl) (by rfl) ?_; intro K hK; go_big_quiet_op; go_big_quiet_on))
    refine seq_chain (by rfl) ?_
    intro K hK
    go_wp2_with fail
    (with_reducible refine (Check_any l m v b _).mono ?_); rintro e w7 ⟨rfl, hb7⟩
    rw [HE.out]
    have hb67 : Below w6.heap.size w6 w7 := (Below.refl _ _).drew.trans hb7
    go_wp2_with fail
    refine hK.out _ _ (since hb67) ?_
    clear hK K
    repeat (first | (refine seq_skip (by rfl) (by rfl) ?_; simp only [Act.put, List.setIfInBounds_toArray, List.set_cons_succ, List.set_cons_zero]) | (refine seq_float (by rfl) (by rfl) (by rfl) ?_; intro K hK; go_big_quiet_op; go_big_quiet_on))
    refine seq_chain (by rfl) ?_
    intro K hK
    go_wp2_with fail
    (with_reducible refine (refCheck_any l m v b _).mono ?_); rintro e w8 ⟨rfl, hb8⟩
    rw [HE.out]
    have hb68 := hb67.trans (hb8.mono hb67.size)
    go_wp2_with fail
    refine hK.out _ _ (since hb68) ?_
    clear hK K
    repeat (first | (refine seq_skip (by rfl) (by rfl) ?_; simp only [Act.put, List.setIfInBounds_toArray, List.set_cons_succ, List.set_cons_zero]) | (refine seq_float (by rfl) (by rfl) (by rfl) ?_; intro K hK; go_big_quiet_op; go_big_quiet_on))
    refine seq_chain (by rfl) ?_
    intro K hK
    go_wp2_with fail
    (with_reducible refine (SameStrings_any C C n1 n2 a1 a2 c1 c2 _ HN1.out HN2.out hn1' (Y1.out.below hb68) (Y2.out.below hb68)).mono ?_); rintro e w9 ⟨rfl, hb9⟩
    rw [decide_eq_true (rfl : C = C)]
    have hb69 := hb68.trans (hb9.mono hb68.size)
    go_wp2_with fail
    refine hK.out _ _ (since hb69) ?_
    clear hK K
    repeat (first | (refine seq_skip (by rfl) (by rfl) ?_; simp only [Act.put, List.setIfInBounds_toArray, List.set_cons_succ, List.set_cons_zero]) | (refine seq_float (by rfl) (by rfl) (by rfl) ?_; intro K hK; go_big_quiet_op; go_big_quiet_on))
    refine seq_chain (by rfl) ?_
    intro K hK
    go_wp2_with fail
    (with_reducible refine (SameInts_any _ _ n3 n4 a3 a4 c3 c4 _ (by rw [endsFrom_length]; exact HN3.out) (by rw [endsFrom_length]; exact HN4.out) hn3' (Y3.out.below hb69) (Y4.out.below hb69)).mono ?_); rintro e w10 ⟨rfl, hb10⟩
    rw [decide_eq_true (rfl : endsFrom 0 C = endsFrom 0 C)]
    have hb610 := hb69.trans (hb10.mono hb69.size)
    go_wp2_with fail
    refine hK.out _ _ (since hb610) ?_
    clear hK K
    repeat (first | (refine seq_skip (by rfl) (by rfl) ?_; simp only [Act.put, List.setIfInBounds_toArray, List.set_cons_succ, List.set_cons_zero]) | (refine seq_float (by rfl) (by rfl) (by rfl) ?_; intro K hK; go_big_quiet_op; go_big_quiet_on))
    refine seq_chain (by rfl) ?_
    intro K hK
    go_wp2_with fail
    (with_reducible refine (SameDigests_any _ _ n5 n6 a5 a6 c5 c6 _ (by rw [List.length_map]; exact HN5.out) (by rw [List.length_map]; exact HN6.out) hn5' (Y5.out.below hb610) (Y6.out.below hb610)).mono ?_); rintro e w11 ⟨rfl, hb11⟩
    rw [decide_eq_true (rfl : C.map digOf = C.map digOf)]
    have hb611 := hb610.trans (hb11.mono hb610.size)
    go_wp2_with fail
    refine hK.out _ _ (since hb611) ?_
    clear hK K
    repeat (first | (refine seq_skip (by rfl) (by rfl) ?_; simp only [Act.put, List.setIfInBounds_toArray, List.set_cons_succ, List.set_cons_zero]) | (refine seq_float (by rfl) (by rfl) (by rfl) ?_; intro K hK; go_big_quiet_op; go_big_quiet_on))
    refine seq_chain (by rfl) ?_
    intro K hK
    go_wp2_with fail
    (with_reducible refine (awake_any _).mono ?_); rintro e w12 ⟨rfl, hb12⟩
    have hb612 := hb611.trans (hb12.mono hb611.size)
    go_wp2_with fail
    refine hK.out _ _ (since hb612) ?_
    clear hK K
    repeat (first | (refine seq_skip (by rfl) (by rfl) ?_; simp only [Act.put, List.setIfInBounds_toArray, List.set_cons_succ, List.set_cons_zero]) | (refine seq_float (by rfl) (by rfl) (by rfl) ?_; intro K hK; go_big_quiet_op; go_big_quiet_on))
    refine seq_chain (by rfl) ?_
    intro K hK
    go_wp2_with fail
    refine hK.out _ _ (since hb612) ?_
    clear hK K
    repeat (first | (refine seq_skip (by rfl) (by rfl) ?_; simp only [Act.put, List.setIfInBounds_toArray, List.set_cons_succ, List.set_cons_zero]) | (refine seq_float (by rfl) (by rfl) (by rfl) ?_; intro K hK; go_big_quiet_op; go_big_quiet_on))
    refine seq_nil ?_
    go_wp2_with fail
    go_ret
    exact ⟨rfl, hw6.trans (hb612.mono hw6.size)⟩
  · have h2' : (200 : Int) < s.size := by omega
    go_enter Try.func8, Try.ntmps8
    go_wp2_with fail
    (with_reducible refine (awake_any _).mono ?_); rintro e w1 ⟨rfl, hb1⟩
    go_wp2_with fail
    go_ret
    exact ⟨rfl, hb0.trans (hb1.mono (by simp))⟩
end Go.Proofs.Ytmebjjoldhcgpaa
