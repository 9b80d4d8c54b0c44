/-
  The laws ObjectCheck and ObjectEncode at any object.
-/
import Derived.Test.YtmkdcnkbhnegnaaObjGreat
import Derived.Test.YtmkdcnkbhnegnaaChkSameD
namespace Go.Proofs.Ytmkdcnkbhnegnaa
open Go.RowKit

theorem linksL_len (o : Ob) : (linksL o).length ≤ 300 := by
  unfold linksL
  split
  · rename_i h
    have h1 := checkO_ne h
    have h2 := checkO_np h
    unfold entD
    split <;> simp <;> omega
  · simp

set_option maxRecDepth 100000 in
set_option maxHeartbeats 16000000 in
theorem LawCheck_any (o : Ob) (ae ap : Option Addr) (ne ce np cp : Nat) (w : World) (h : ObjA w ae ne ap np o) (hc : np ≤ cp) (hz : ap = none → cp = 0) :
    Calls Try.prog 3 #[.agg (ocells o ae ne ce ap np cp)] w fun e w' => e = .returned (.bool true) ∧ Below w.heap.size w w' := by
  have hb0 := ba w (Obj.cells (ocells o ae ne ce ap np cp) 28)
  have HO0 := OBox.new w o ae ne ce ap np cp 28
  obtain ⟨W, hW⟩ : ∃ W, w.alloc (Obj.cells (ocells o ae ne ce ap np cp) 28) = W := ⟨_, rfl⟩
  rw [hW] at hb0 HO0
  have HA := lid (h.below hb0)
  have HW := lid hW
  have HEN := lid HW.out
  have HO := lid HO0
  have CG := lid (fun w (h : ObjA w ae ne ap np o) => Great_any o ae ap ne ce np cp w h)
  have CA := lid awake_any
  have HH := lid hc
  have HZ := lid hz
  clear hW h HO0 hz
  obtain ⟨l0, c0, c1, c2, c3, c4, c5, c6, c7, c8⟩ := HO.out
  rw [← HW.out] at c0 c1 c2 c3 c4 c5 c6 c7 c8
  go_enter Try.func3, Try.ntmps3
  go_wp2_with fail
  rw [HW.out]
  clear HW HEN c0 c1 c2 c3 c4 c5 c6 c7 c8
  (with_reducible refine (CG.out _ HA.out).mono ?_); rintro e w1 ⟨rfl, hb1⟩
  have hw1 := hb0.trans (hb1.mono hb0.size)
  cases hS : smallB o with
  | false =>
    clear hS
    simp only [Bool.not_false]
    go_wp2_with fail
    (with_reducible refine (CA.out _).mono ?_); rintro e w2 ⟨rfl, hb2⟩
    go_wp2_with fail
    go_ret
    exact ⟨rfl, hw1.trans (hb2.mono hw1.size)⟩
  | true =>
  have HSM := lid (small_of hS)
  have hd : Hid (o.data.size ≤ 60000) := lid (by have := HSM.out.1; omega)
  clear hS
  simp only [Bool.not_true]
  have HO1 := lid (HO.out.below hb1)
  have HA1 := lid (HA.out.below hb1)
  have C1 := lid (fun w (h : ObjA w ae ne ap np o) => objCheck_any o ae ap ne ce np cp w h HH.out hd.out)
  have C2 := lid (fun w (h : ObjA w ae ne ap np o) => refCheck_any o ae ap ne ce np cp w h HH.out hd.out)
  have C3 := lid (fun w (h : ObjA w ae ne ap np o) => objLinks_any o ae ap ne ce np cp w h HH.out HZ.out hd.out)
  have C4 := lid (fun w (h : ObjA w ae ne ap np o) => refLinks_any o ae ap ne ce np cp w h HH.out HZ.out hd.out)
  obtain ⟨l1, c0, c1, c2, c3, c4, c5, c6, c7, c8⟩ := HO1.out
  go_wp2_with fail
  refine wp_region_seq (fun w' => ∃ s : Since w1.heap.size w1, w' = s.world) [(0, true), (2, true), (1, false), (3, false), (4, true), (5, true), (6, true), (8, true), (7, false), (9, false), (10, false), (11, true), (12, true), (13, false), (14, true), (15, false)] (by kernel_rfl) (by kernel_rfl) (by intro c d v a w h; cases d <;> exact h) (since (Below.refl _ _).drew) ?_
  repeat (first | (refine seq_skip (by rfl) (by rfl) ?_; simp only [Act.put, List.setIfInBounds_toArray, List.set_cons_succ, List.set_cons_zero]) | (refine seq_float (by rfl) (by rfl) (by rfl) ?_; intro K hK; go_big_quiet_op; go_big_quiet_on))
  refine seq_chain (by rfl) ?_
  intro K hK
  go_wp2_with fail
  have HAD : Hid (ObjA w1.drew ae ne ap np o) := lid (HA1.out.below (Below.refl _ _).drew)
  (with_reducible refine (C1.out _ HAD.out).mono ?_); rintro e w2 ⟨rfl, hb2⟩
  have hs2 := (Below.refl w1.heap.size w1).drew.trans hb2
  go_wp2_with fail
  refine hK.out _ _ (since hs2) ?_
  clear hK K
  repeat (first | (refine seq_skip (by rfl) (by rfl) ?_; simp only [Act.put, List.setIfInBounds_toArray, List.set_cons_succ, List.set_cons_zero]) | (refine seq_float (by rfl) (by rfl) (by rfl) ?_; intro K hK; go_big_quiet_op; go_big_quiet_on))
  refine seq_chain (by rfl) ?_
  intro K hK
  go_wp2_with fail
  (with_reducible refine (C2.out _ (HA1.out.below hs2)).mono ?_); rintro e w3 ⟨rfl, hb3⟩
  have hs3 := hs2.trans (hb3.mono hs2.size)
  go_wp2_with fail
  refine hK.out _ _ (since hs3) ?_
  clear hK K
  repeat (first | (refine seq_skip (by rfl) (by rfl) ?_; simp only [Act.put, List.setIfInBounds_toArray, List.set_cons_succ, List.set_cons_zero]) | (refine seq_float (by rfl) (by rfl) (by rfl) ?_; intro K hK; go_big_quiet_op; go_big_quiet_on))
  refine seq_chain (by rfl) ?_
  intro K hK
  go_wp2_with fail
  (with_reducible refine (C3.out _ (HA1.out.below hs3)).mono ?_); rintro e w4 ⟨a1, n1, q1, rfl, hn1, hq1, HL1, hb4⟩
  have hs4 := hs3.trans (hb4.mono hs3.size)
  have H1 := lid (And.intro hn1 HL1)
  clear hn1 HL1
  go_wp2_with fail
  refine hK.out _ _ (since hs4) ?_
  clear hK K
  repeat (first | (refine seq_skip (by rfl) (by rfl) ?_; simp only [Act.put, List.setIfInBounds_toArray, List.set_cons_succ, List.set_cons_zero]) | (refine seq_float (by rfl) (by rfl) (by rfl) ?_; intro K hK; go_big_quiet_op; go_big_quiet_on))
  refine seq_chain (by rfl) ?_
  intro K hK
  go_wp2_with fail
  (with_reducible refine (C4.out _ (HA1.out.below hs4)).mono ?_); rintro e w5 ⟨a2, n2, q2, rfl, hn2, hq2, HL2, hb5⟩
  have hs5 := hs4.trans (hb5.mono hs4.size)
  have H2 := lid (And.intro hn2 HL2)
  clear hn2 HL2
  go_wp2_with fail
  refine hK.out _ _ (since hs5) ?_
  clear hK K
  repeat (first | (refine seq_skip (by rfl) (by rfl) ?_; simp only [Act.put, List.setIfInBounds_toArray, List.set_cons_succ, List.set_cons_zero]) | (refine seq_float (by rfl) (by rfl) (by rfl) ?_; intro K hK; go_big_quiet_op; go_big_quiet_on))
  refine seq_chain (by rfl) ?_
  intro K hK
  go_wp2_with fail
  (with_reducible refine (SameDigests_any (linksL o) (linksL o) n1 n2 a1 a2 q1 q2 _ H1.out.1 H2.out.1 (by rw [← H1.out.1]; exact Nat.le_trans (linksL_len o) (by omega)) (H1.out.2.below hb5) H2.out.2).mono ?_); rintro e w6 ⟨rfl, hb6⟩
  rw [decide_eq_true rfl]
  have hs6 := hs5.trans (hb6.mono hs5.size)
  go_wp2_with fail
  refine hK.out _ _ (since hs6) ?_
  clear hK K
  repeat (first | (refine seq_skip (by rfl) (by rfl) ?_; simp only [Act.put, List.setIfInBounds_toArray, List.set_cons_succ, List.set_cons_zero]) | (refine seq_float (by rfl) (by rfl) (by rfl) ?_; intro K hK; go_big_quiet_op; go_big_quiet_on))
  refine seq_chain (by rfl) ?_
  intro K hK
  go_wp2_with fail
  (with_reducible refine (CA.out _).mono ?_); rintro e w7 ⟨rfl, hb7⟩
  have hs7 := hs6.trans (hb7.mono hs6.size)
  go_wp2_with fail
  refine hK.out _ _ (since hs7) ?_
  clear hK K
  repeat (first | (refine seq_skip (by rfl) (by rfl) ?_; simp only [Act.put, List.setIfInBounds_toArray, List.set_cons_succ, List.set_cons_zero]) | (refine seq_float (by rfl) (by rfl) (by rfl) ?_; intro K hK; go_big_quiet_op; go_big_quiet_on))
  refine seq_chain (by rfl) ?_
  intro K hK
  go_wp2_with fail
  go_wp2_with fail
  refine hK.out _ _ (since hs7) ?_
  clear hK K
  refine seq_nil ?_
  go_wp2_with fail
  go_wp2_with fail
  go_ret
  exact ⟨rfl, hw1.trans (hs7.mono hw1.size)⟩

set_option maxRecDepth 100000 in
set_option maxHeartbeats 16000000 in
theorem LawEncode_any (o : Ob) (ae ap : Option Addr) (ne ce np cp : Nat) (w : World) (h : ObjA w ae ne ap np o) (hc : np ≤ cp) (hz : ap = none → cp = 0) :
    Calls Try.prog 5 #[.agg (ocells o ae ne ce ap np cp)] w fun e w' => e = .returned (.bool true) ∧ Below w.heap.size w w' := by
  have hb0 := ba w (Obj.cells (ocells o ae ne ce ap np cp) 28)
  have HO0 := OBox.new w o ae ne ce ap np cp 28
  obtain ⟨W, hW⟩ : ∃ W, w.alloc (Obj.cells (ocells o ae ne ce ap np cp) 28) = W := ⟨_, rfl⟩
  rw [hW] at hb0 HO0
  have HA := lid (h.below hb0)
  have HW := lid hW
  have HEN := lid HW.out
  have HO := lid HO0
  have CG := lid (fun w (h : ObjA w ae ne ap np o) => Great_any o ae ap ne ce np cp w h)
  have CA := lid awake_any
  have HH := lid hc
  have HZ := lid hz
  clear hW h HO0 hz
  obtain ⟨l0, c0, c1, c2, c3, c4, c5, c6, c7, c8⟩ := HO.out
  rw [← HW.out] at c0 c1 c2 c3 c4 c5 c6 c7 c8
  go_enter Try.func5, Try.ntmps5
  go_wp2_with fail
  rw [HW.out]
  clear HW HEN c0 c1 c2 c3 c4 c5 c6 c7 c8
  (with_reducible refine (CG.out _ HA.out).mono ?_); rintro e w1 ⟨rfl, hb1⟩
  have hw1 := hb0.trans (hb1.mono hb0.size)
  cases hS : smallB o with
  | false =>
    clear hS
    simp only [Bool.not_false]
    go_wp2_with fail
    (with_reducible refine (CA.out _).mono ?_); rintro e w2 ⟨rfl, hb2⟩
    go_wp2_with fail
    go_ret
    exact ⟨rfl, hw1.trans (hb2.mono hw1.size)⟩
  | true =>
  have HSM := lid (small_of hS)
  have hd : Hid (o.data.size ≤ 60000) := lid (by have := HSM.out.1; omega)
  clear hS
  simp only [Bool.not_true]
  have HO1 := lid (HO.out.below hb1)
  have HA1 := lid (HA.out.below hb1)
  have C1 := lid (fun w (h : ObjA w ae ne ap np o) => objEncode_any o ae ap ne ce np cp w h HH.out hd.out)
  have C2 := lid (fun w (h : ObjA w ae ne ap np o) => refEncode_any o ae ap ne ce np cp w h HH.out hd.out)
  have C3 := lid (fun w (h : ObjA w ae ne ap np o) => objName_any o ae ap ne ce np cp w h HH.out hd.out)
  have C4 := lid (fun w (h : ObjA w ae ne ap np o) => refName_any o ae ap ne ce np cp w h HH.out hd.out)
  obtain ⟨S, hS⟩ : ∃ S, bstr (encT o) = S := ⟨_, rfl⟩
  obtain ⟨D, hD⟩ : ∃ D, nameD o = D := ⟨_, rfl⟩
  rw [hS] at C1 C2
  rw [hD] at C3 C4
  clear hS hD
  obtain ⟨l1, c0, c1, c2, c3, c4, c5, c6, c7, c8⟩ := HO1.out
  go_wp2_with fail
  (with_reducible refine (C1.out _ HA1.out).mono ?_); rintro e w2 ⟨rfl, hb2⟩
  obtain ⟨l2, c0, c1, c2, c3, c4, c5, c6, c7, c8⟩ := HO1.out.below hb2
  go_wp2_with fail
  (with_reducible refine (C2.out _ (HA1.out.below hb2)).mono ?_); rintro e w3 ⟨rfl, hb3⟩
  have hs3 := hb2.trans (hb3.mono hb2.size)
  clear c0 c1 c2 c3 c4 c5 c6 c7 c8
  obtain ⟨l3, c0, c1, c2, c3, c4, c5, c6, c7, c8⟩ := HO1.out.below hs3
  go_wp2_with fail
  (with_reducible refine (C3.out _ (HA1.out.below hs3)).mono ?_); rintro e w4 ⟨rfl, hb4⟩
  have hs4 := hs3.trans (hb4.mono hs3.size)
  clear c0 c1 c2 c3 c4 c5 c6 c7 c8
  obtain ⟨W4, hW4⟩ : ∃ W4, w4.alloc (Obj.cells #[.int .u64 D.1.toNat, .int .u64 D.2.toNat] 25) = W4 := ⟨_, rfl⟩
  have hB4 : Below w1.heap.size w1 W4 := by rw [← hW4]; exact hs4.alloc hs4.size _
  have y0 : W4.cell? ⟨w4.heap.size, 0, none⟩ = some (.int .u64 D.1.toNat) := by rw [← hW4]; exact cell_new_at rfl _ _ _
  have y1 : W4.cell? ⟨w4.heap.size, 1, none⟩ = some (.int .u64 D.2.toNat) := by rw [← hW4]; exact cell_new_at rfl _ _ _
  have ly : w4.heap.size < W4.heap.size := by rw [← hW4]; simp
  obtain ⟨l4, c0, c1, c2, c3, c4, c5, c6, c7, c8⟩ := HO1.out.below hB4
  go_wp2_with fail
  clear hW4
  (with_reducible refine (C4.out _ (HA1.out.below hB4)).mono ?_); rintro e w5 ⟨rfl, hb5⟩
  have hs5 := hB4.trans (hb5.mono hB4.size)
  clear c0 c1 c2 c3 c4 c5 c6 c7 c8
  have z0 := (bc hb5 ly 0).trans y0
  have z1 := (bc hb5 ly 1).trans y1
  have lz : w4.heap.size < w5.heap.size := Nat.lt_of_lt_of_le ly hb5.size
  clear y0 y1
  obtain ⟨W5, hW5⟩ : ∃ W5, w5.alloc (Obj.cells #[.int .u64 D.1.toNat, .int .u64 D.2.toNat] 25) = W5 := ⟨_, rfl⟩
  have hB5 : Below w1.heap.size w1 W5 := by rw [← hW5]; exact hs5.alloc hs5.size _
  have u0 : W5.cell? ⟨w5.heap.size, 0, none⟩ = some (.int .u64 D.1.toNat) := by rw [← hW5]; exact cell_new_at rfl _ _ _
  have u1 : W5.cell? ⟨w5.heap.size, 1, none⟩ = some (.int .u64 D.2.toNat) := by rw [← hW5]; exact cell_new_at rfl _ _ _
  have v0 : W5.cell? ⟨w4.heap.size, 0, none⟩ = some (.int .u64 D.1.toNat) := by rw [← hW5]; exact (cell_old_at lz _ _).trans z0
  have v1 : W5.cell? ⟨w4.heap.size, 1, none⟩ = some (.int .u64 D.2.toNat) := by rw [← hW5]; exact (cell_old_at lz _ _).trans z1
  have e1 : (S.toList == S.toList) = true := by simp
  go_wp2_with fail
  clear hW5
  (with_reducible refine (CA.out _).mono ?_); rintro e w6 ⟨rfl, hb6⟩
  go_wp2_with fail
  go_ret
  have hs6 := hB5.trans (hb6.mono hB5.size)
  exact ⟨rfl, hw1.trans (hs6.mono hw1.size)⟩
end Go.Proofs.Ytmkdcnkbhnegnaa
