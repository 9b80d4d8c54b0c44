/-
  tree.Diff.
-/
import Derived.Test.YtphjillihapbfaaGreatDoorTreeCh
import Derived.Test.YtphjillihapbfaaGreatDoorTreeKeys
import Derived.Test.YtphjillihapbfaaGreatDoorGrpR
namespace Go.Proofs.YtphjillihapbfaaGreatDoor
open Go.RowKit

set_option maxRecDepth 100000 in
set_option maxHeartbeats 16000000 in
theorem diff_any (p : List It) (n cap : Nat) (ao : Option Addr) (da db : Dg) (ka kb : Nat) (La Lb A B : List Fl) (w : World) (hG : GoodP p) (hn : n ≤ 90000) (hP : PA w ao n cap p) (hLo : Lo w ao)
    (hLa : loadP p ka da [] = some La) (hpa : La.Perm A) (haa : AscF A) (h10a : A.length ≤ 10) (hsa : ∀ f ∈ A, f.1.size ≤ maxLen ∧ f.2.size ≤ maxLen) (hva : ∀ f ∈ A, pathB f.1 = true)
    (hLb : loadP p kb db [] = some Lb) (hpb : Lb.Perm B) (hab : AscF B) (h10b : B.length ≤ 10) (hsb : ∀ f ∈ B, f.1.size ≤ maxLen ∧ f.2.size ≤ maxLen) (hvb : ∀ f ∈ B, pathB f.1 = true) :
    Calls Tryz.prog 7 #[.slice ao n cap, dv da, dv db] w fun e w' => Below w.heap.size w w' ∧ ∃ (a : Option Addr) (n' c : Nat) (C : List Ch), e = .returned (.tuple #[.slice a n' c, .int .i64 0]) ∧ CA w' a n' c C ∧ Chg A B C ∧ n' ≤ 20 ∧ Nw w w' a := by
  obtain ⟨W0, hW0⟩ : ∃ W0, (w.alloc (Obj.cells #[.int .u64 da.1.toNat, .int .u64 da.2.toNat] 31)).alloc (Obj.cells #[.int .u64 db.1.toNat, .int .u64 db.2.toNat] 31) = W0 := ⟨_, rfl⟩
  have hb0 : Below w.heap.size w W0 := by rw [← hW0]; exact (ba w _).alloc (by simp) _
  have hA0 : W0.heap[w.heap.size]? = some (.cells #[.int .u64 da.1.toNat, .int .u64 da.2.toNat] 31 (0, 0)) := by rw [← hW0]; exact (h_old (by simp) _).trans (h_new rfl _)
  have hB0 : W0.heap[w.heap.size + 1]? = some (.cells #[.int .u64 db.1.toNat, .int .u64 db.2.toNat] 31 (0, 0)) := by rw [← hW0]; exact h_new (by simp) _
  have y0 : W0.cell? ⟨w.heap.size, 0, none⟩ = some (.int .u64 da.1.toNat) := row_cell hA0 0
  have y1 : W0.cell? ⟨w.heap.size, 1, none⟩ = some (.int .u64 da.2.toNat) := row_cell hA0 1
  have ly := row_lt hA0
  have CA1 := lid (load_files p n cap ao da ka La A W0 hG hn (hP.below hb0) (hLo.mono hb0.size) hLa hpa haa h10a hsa)
  have CB1 := lid (fun w1 (hb : Below w.heap.size w w1) => load_files p n cap ao db kb Lb B w1 hG hn (hP.below hb) (hLo.mono hb.size) hLb hpb hab h10b hsb)
  have HB0 := lid hb0
  have HBB := lid hB0
  have HW0 := lid hW0
  have HAA := lid haa
  have HAB := lid hab
  have HVA := lid hva
  have HVB := lid hvb
  clear hG hP hLo hLa hLb hpa hpb haa hab hsa hsb hva hvb hW0 hb0 hA0 hB0
  have hmm := @run_makeMap Tryz.prog
  show Calls Tryz.prog 7 #[.slice ao n cap, .agg #[.int .u64 da.1.toNat, .int .u64 da.2.toNat], .agg #[.int .u64 db.1.toNat, .int .u64 db.2.toNat]] w _
  go_enter Tryz.func7, Tryz.ntmps7
  go_wp2_with (with_reducible refine swap_world HW0.out ?_)
  (with_reducible refine (CA1.out).mono ?_); rintro e w1 ⟨hb1, a1, n1, c1, rfl, hf1⟩
  have HB1 := lid (HB0.out.trans (hb1.mono HB0.out.size))
  have hBB1 := (hb1.block _ (row_lt HBB.out)).trans HBB.out
  have z0 : w1.cell? ⟨w.heap.size + 1, 0, none⟩ = some (.int .u64 db.1.toNat) := row_cell hBB1 0
  have z1 : w1.cell? ⟨w.heap.size + 1, 1, none⟩ = some (.int .u64 db.2.toNat) := row_cell hBB1 1
  have lz := row_lt hBB1
  have HF1 := lid hf1
  have CB2 := lid (CB1.out w1 HB1.out)
  clear hb1 hBB1 hf1 y0 y1
  go_wp2_with fail
  (with_reducible refine (CB2.out).mono ?_); rintro e w2 ⟨hb2, a2, n2, c2, rfl, hf2⟩
  have HB2 := lid (HB1.out.trans (hb2.mono HB1.out.size))
  have HF12 := lid (HF1.out.below hb2)
  have HF2 := lid hf2
  have hmade := World.ownsMap_made (H := Value) w2 Tryz.prog 9 heldR
  obtain ⟨W3, hW3⟩ : ∃ y, w2.alloc (Obj.map #[] 0) = y := ⟨_, rfl⟩
  have hb3 : Below w2.heap.size w2 W3 := by rw [← hW3]; exact ba _ _
  have HM0 : Hid (HM W3 w2.heap.size 0 (mapC [] [])) := lid (by rw [← hW3]; exact HM.new hmade)
  have HN1 := lid HF1.out.len
  have HN2 := lid hf2.len
  have hn1 : n1 ≤ 10 := by rw [← HN1.out]; exact h10a
  have hn2 : n2 ≤ 10 := by rw [← HN2.out]; exact h10b
  have HS1 : Hid (Sl w2 2 a1 n1 (fcells A)) := lid HF12.out.sl
  have HS2 : Hid (Sl w2 2 a2 n2 (fcells B)) := lid HF2.out.sl
  have HZ1 : Hid (∀ f ∈ A, f.1.size ≤ maxLen ∧ f.2.size ≤ maxLen) := lid HF1.out.sz
  have HZ2 : Hid (∀ f ∈ B, f.1.size ≤ maxLen ∧ f.2.size ≤ maxLen) := lid HF2.out.sz
  have HW3 := lid hW3
  have HB3 := lid hb3
  have hz3 : w2.heap.size < W3.heap.size := by rw [← hW3]; simp
  clear hb2 hf2 hmade hW3 hb3 z0 z1 lz
  go_wp2_with fail
  rw [HW3.out]
  go_loopw [42] (fun i wr => ∃ j : Nat, j ≤ n1 ∧ i = .int .i64 j ∧ Hid (HM wr w2.heap.size j (mapC (A.take j) [])) ∧ Below w2.heap.size W3 wr) (fun i _ => n1 - (intOf i).toNat)
  case atStart => exact ⟨0, Nat.zero_le _, rfl, HM0, Below.refl _ _⟩
  case round =>
    obtain ⟨j, hj, rfl, HMj, hb⟩ := hrel
    by_cases hlt : j < n1
    · have hjl : j < A.length := by rw [HN1.out]; exact hlt
      have hbw : Below w2.heap.size w2 wr := HB3.out.trans hb
      obtain ⟨b3, o3, rfl, hlb3, hc3⟩ := (HS1.out.below hbw).at_ hlt
      have x0 := hc3 (j * 2 + 0) _ (fcells_at hjl).1
      have x1 := hc3 (j * 2 + 1) _ (fcells_at hjl).2
      rw [← Nat.add_assoc] at x1
      rw [Nat.add_zero] at x0
      have dk : decide ((j : Int) < (n1 : Int)) = true := by simp; omega
      have HNE := lid (take_ne2 HAA.out hjl)
      have HT : Hid (A.take (j + 1) = A.take j ++ [A[j]]) := lid (List.take_succ_eq_append_getElem hjl)
      have HSZ := lid (HZ1.out _ (List.getElem_mem hjl))
      obtain ⟨⟨q, d1⟩, hv⟩ : ∃ v, A[j] = v := ⟨_, rfl⟩
      rw [hv] at x0 x1 HNE HT HSZ
      replace x0 : wr.cell? ⟨b3, o3 + j * 2, none⟩ = some (Value.string q) := x0
      replace x1 : wr.cell? ⟨b3, o3 + j * 2 + 1, none⟩ = some (Value.string d1) := x1
      obtain ⟨W4, hW4⟩ : ∃ y, wr.alloc (Obj.cells #[.string q, .string d1] 45) = y := ⟨_, rfl⟩
      have hb4 : Below wr.heap.size wr W4 := by rw [← hW4]; exact ba _ _
      have hR4 : W4.heap[wr.heap.size]? = some (.cells #[.string q, .string d1] 45 (0, 0)) := by rw [← hW4]; exact h_new rfl _
      have r0 : W4.cell? ⟨wr.heap.size, 0, none⟩ = some (.string q) := row_cell hR4 0
      have r1 : W4.cell? ⟨wr.heap.size, 1, none⟩ = some (.string d1) := row_cell hR4 1
      have lr4 := row_lt hR4
      have HM4 := lid (HMj.out.below hb4)
      have HW4 := lid hW4
      have hzw := hb.size
      have hW : Below w2.heap.size W3 W4 := hb.trans (hb4.mono (by omega))
      clear hc3 hv hW4 hR4 hb4 hbw
      go_wp2_with (first | (with_reducible refine swap_world HW4.out ?_) | (at_mapUpdate; go_must (refine wpList_hm_put _ rfl _ _ _ 48 50 rfl Tryz.underlying48 w2.heap.size j _ rfl HM4.out (by simp only [maxLen]; omega) q (.agg (cca (q, some d1, none))) rfl rfl HSZ.out.1 ?_)))
      intro w5 hm5 hg5
      have HM5 : Hid (HM w5 w2.heap.size (j + 1) (mapC (A.take (j + 1)) [])) := lid (by
        rw [HT.out, mapC_old HNE.out]
        exact hm5)
      have hW5 : Below w2.heap.size W3 w5 := hW.grown hg5 (by have := hW.size; omega) (fun r e => by cases e; exact Nat.le_refl _)
      clear hm5 hg5 hW r0 r1 lr4
      go_wp2_with fail
      go_roundw
      case rel => exact ⟨j + 1, by omega, by go_num, HM5, hW5⟩
      case measure => simp [intOf]; omega
    · obtain rfl : j = n1 := by omega
      have HTA : Hid (A.take j = A) := lid (List.take_of_length_le (by rw [HN1.out]; exact Nat.le_refl _))
      rw [HTA.out] at HMj
      have hzw := hb.size
      obtain ⟨V, hVe⟩ : ∃ V, V = wr := ⟨_, rfl⟩
      have HBV : Hid (Below w2.heap.size w2 wr) := lid (HB3.out.trans hb)
      go_wp2_with fail
      go_loopw [57] (fun i wv => ∃ m : Nat, m ≤ n2 ∧ i = .int .i64 m ∧ Hid (HM wv w2.heap.size (j + m) (mapC A (B.take m))) ∧ Below w2.heap.size w2 wv ∧ w2.heap.size < wv.heap.size) (fun i _ => n2 - (intOf i).toNat)
      case atStart => exact ⟨0, Nat.zero_le _, rfl, HMj, HBV.out, by omega⟩
      case round =>
        clear hVe HBV HMj hb hzw
        obtain ⟨m, hm, rfl, HMm, hb, hzw⟩ := hrel
        by_cases hlt2 : m < n2
        · have hjl : m < B.length := by rw [HN2.out]; exact hlt2
          obtain ⟨b3, o3, rfl, hlb3, hc3⟩ := (HS2.out.below hb).at_ hlt2
          have x0 := hc3 (m * 2 + 0) _ (fcells_at hjl).1
          have x1 := hc3 (m * 2 + 1) _ (fcells_at hjl).2
          rw [← Nat.add_assoc] at x1
          rw [Nat.add_zero] at x0
          have dk : decide ((m : Int) < (n2 : Int)) = true := by simp; omega
          have HNE := lid (take_ne2 HAB.out hjl)
          have HT : Hid (B.take (m + 1) = B.take m ++ [B[m]]) := lid (List.take_succ_eq_append_getElem hjl)
          have HSZ := lid (HZ2.out _ (List.getElem_mem hjl))
          obtain ⟨⟨q, d1⟩, hv⟩ : ∃ v, B[m] = v := ⟨_, rfl⟩
          rw [hv] at x0 x1 HNE HT HSZ
          replace x0 : wr.cell? ⟨b3, o3 + m * 2, none⟩ = some (Value.string q) := x0
          replace x1 : wr.cell? ⟨b3, o3 + m * 2 + 1, none⟩ = some (Value.string d1) := x1
          obtain ⟨W4, hW4⟩ : ∃ y, wr.alloc (Obj.cells #[.string q, .string d1] 45) = y := ⟨_, rfl⟩
          have hb4 : Below wr.heap.size wr W4 := by rw [← hW4]; exact ba _ _
          have hR4 : W4.heap[wr.heap.size]? = some (.cells #[.string q, .string d1] 45 (0, 0)) := by rw [← hW4]; exact h_new rfl _
          have r0 : W4.cell? ⟨wr.heap.size, 0, none⟩ = some (.string q) := row_cell hR4 0
          have lr4 := row_lt hR4
          have HM4 := lid (HMm.out.below hb4)
          have HL0 := lid (HM4.out.look Tryz.underlying48 (zero_ch W4) q HSZ.out.1)
          obtain ⟨s0, hg0, o0, hc0⟩ : ∃ s0 hg0 o0, (mapC A (B.take m) q).getD (.agg #[.string ⟨#[]⟩, .bool false, .bool false, .string ⟨#[]⟩, .string ⟨#[]⟩]) = .agg #[.string s0, .bool hg0, .bool false, .string o0, .string ⟨#[]⟩] ∧ hg0 = (findF A q).isSome ∧ o0 = (findF A q).getD ⟨#[]⟩ := by
            unfold mapC
            rw [findF_not HNE.out]
            cases hfa : findF A q with
            | none => exact ⟨_, _, _, rfl, rfl, rfl⟩
            | some dd => exact ⟨_, _, _, rfl, rfl, rfl⟩
          obtain ⟨hc1, hc2, hc3'⟩ := hc0
          rw [hc1] at HL0
          have HCC : Hid (#[.string q, .bool hg0, .bool true, .string o0, .string d1] = cca (q, findF A q, some d1)) := lid (by rw [hc2, hc3']; rfl)
          obtain ⟨W5, hW5⟩ : ∃ y, W4.alloc (Obj.cells #[.string s0, .bool hg0, .bool false, .string o0, .string ⟨#[]⟩] 50) = y := ⟨_, rfl⟩
          have hb5 : Below W4.heap.size W4 W5 := by rw [← hW5]; exact ba _ _
          have hC5 : W5.heap[W4.heap.size]? = some (.cells #[.string s0, .bool hg0, .bool false, .string o0, .string ⟨#[]⟩] 50 (0, 0)) := by rw [← hW5]; exact h_new rfl _
          have hF5 := (hb5.block _ lr4).trans hR4
          have HW4 := lid hW4
          have HW5 := lid hW5
          have hb45 := hb4.trans (hb5.mono hb4.size)
          have HM5 := lid (HM4.out.below hb5)
          have hW : Below w2.heap.size w2 W5 := hb.trans (hb45.mono (by omega))
          clear hc1 hc2 hc3' hc3 hv hW4 hW5 hR4 hb4 hb5 hb45
          go_wp2_with (first | (with_reducible refine swap_world HW4.out ?_) | (with_reducible refine swap_world HW5.out ?_) | (at_lookup; go_must (refine wpList_lookc _ false rfl _ _ 48 rfl _ _ _ rfl rfl HL0.out ?_)))
          have f0 : W5.cell? ⟨wr.heap.size, 0, none⟩ = some (.string q) := row_cell hF5 0
          have f1 : W5.cell? ⟨wr.heap.size, 1, none⟩ = some (.string d1) := row_cell hF5 1
          have lf5 := row_lt hF5
          have g0 : W5.cell? ⟨W4.heap.size, 0, none⟩ = some (.string s0) := row_cell hC5 0
          have g2 : W5.cell? ⟨W4.heap.size, 2, none⟩ = some (.bool false) := row_cell hC5 2
          have g4 : W5.cell? ⟨W4.heap.size, 4, none⟩ = some (.string ⟨#[]⟩) := row_cell hC5 4
          have gf0 := row_fz hC5 0
          have gf2 := row_fz hC5 2
          have gf4 := row_fz hC5 4
          have lc5 := row_lt hC5
          have hx0 := SinceX.cell (B := W5.heap.size) (X := W4.heap.size) (W := W5) wr.heap.size 0 lf5 (by omega) f0
          have hx1 := SinceX.cell (B := W5.heap.size) (X := W4.heap.size) (W := W5) wr.heap.size 1 lf5 (by omega) f1
          rw [HW5.out]
          refine wp_region_seq (fun w' => ∃ s : SinceX W5.heap.size W4.heap.size W5, w' = s.world) [(0, true), (1, true), (2, true), (3, true), (4, true), (5, false), (6, true), (7, false), (8, true), (9, false)] (by kernel_rfl) (by kernel_rfl) (by intro c d v a w h; first | (cases d <;> exact h) | cases h.1) (sincex (KeptX.refl _ _ _).drew) ?_
          repeat (first | (refine seq_skip (by rfl) (by rfl) ?_; simp only [Act.put, List.setIfInBounds_toArray, List.set_cons_succ, List.set_cons_zero]) | (refine seq_float (by rfl) (by rfl) (by rfl) ?_; intro K hK; go_big_quiet_op; go_big_quiet_on))
          refine seq_chain (by rfl) ?_
          intro K hK
          go_wp2_with fail
          refine hK.out _ _ (sincex (((KeptX.refl W5.heap.size W4.heap.size W5).setCell (p := ⟨W4.heap.size, 0, none⟩) (.inl rfl) _).drew)) ?_
          clear hK K
          repeat (first | (refine seq_skip (by rfl) (by rfl) ?_; simp only [Act.put, List.setIfInBounds_toArray, List.set_cons_succ, List.set_cons_zero]) | (refine seq_float (by rfl) (by rfl) (by rfl) ?_; intro K hK; go_big_quiet_op; go_big_quiet_on))
          refine seq_chain (by rfl) ?_
          intro K hK
          go_wp2_with fail
          refine hK.out _ _ (sincex ((((KeptX.refl W5.heap.size W4.heap.size W5).setCell (p := ⟨W4.heap.size, 0, none⟩) (.inl rfl) _).setCell (p := ⟨W4.heap.size, 2, none⟩) (.inl rfl) _).drew)) ?_
          clear hK K
          repeat (first | (refine seq_skip (by rfl) (by rfl) ?_; simp only [Act.put, List.setIfInBounds_toArray, List.set_cons_succ, List.set_cons_zero]) | (refine seq_float (by rfl) (by rfl) (by rfl) ?_; intro K hK; go_big_quiet_op; go_big_quiet_on))
          refine seq_chain (by rfl) ?_
          intro K hK
          go_wp2_with fail
          refine hK.out _ _ (sincex (((((KeptX.refl W5.heap.size W4.heap.size W5).setCell (p := ⟨W4.heap.size, 0, none⟩) (.inl rfl) _).setCell (p := ⟨W4.heap.size, 2, none⟩) (.inl rfl) _).setCell (p := ⟨W4.heap.size, 4, none⟩) (.inl rfl) _).drew)) ?_
          clear hK K
          repeat (first | (refine seq_skip (by rfl) (by rfl) ?_; simp only [Act.put, List.setIfInBounds_toArray, List.set_cons_succ, List.set_cons_zero]) | (refine seq_float (by rfl) (by rfl) (by rfl) ?_; intro K hK; go_big_quiet_op; go_big_quiet_on))
          refine seq_nil ?_
          obtain ⟨W6, hW6⟩ : ∃ y, (((W5.setCell ⟨W4.heap.size, 0, none⟩ (.string q)).setCell ⟨W4.heap.size, 2, none⟩ (.bool true)).setCell ⟨W4.heap.size, 4, none⟩ (.string d1)) = y := ⟨_, rfl⟩
          rw [hW6]
          have hg6 : W5.grownBy W6 (some W4.heap.size) := by rw [← hW6]; exact ((grown_set W5 _ _ _).trans (grown_set _ _ _ _)).trans (grown_set _ _ _ _)
          have hC6 : W6.heap[W4.heap.size]? = some (.cells #[.string q, .bool hg0, .bool true, .string o0, .string d1] 50 (0, 0)) := by
            rw [← hW6]
            have h1 := row_set hC5 0 (.string q)
            have h2 := row_set h1 2 (.bool true)
            have h3 := row_set h2 4 (.string d1)
            simpa using h3
          have hF6 := (hg6.block _ lf5 (by intro e; have := Option.some.inj e; omega)).trans hF5
          have hW6' : Below w2.heap.size w2 W6 := hW.grown hg6 (by omega) (fun r e => by cases e; omega)
          have HM6 := lid (HM5.out.grown hg6 (by intro e; have := Option.some.inj e; omega))
          have k0 : W6.cell? ⟨wr.heap.size, 0, none⟩ = some (.string q) := row_cell hF6 0
          have lk := row_lt hF6
          have c0 : W6.cell? ⟨W4.heap.size, 0, none⟩ = some (.string q) := row_cell hC6 0
          have c1 : W6.cell? ⟨W4.heap.size, 1, none⟩ = some (.bool hg0) := row_cell hC6 1
          have c2 : W6.cell? ⟨W4.heap.size, 2, none⟩ = some (.bool true) := row_cell hC6 2
          have c3 : W6.cell? ⟨W4.heap.size, 3, none⟩ = some (.string o0) := row_cell hC6 3
          have c4 : W6.cell? ⟨W4.heap.size, 4, none⟩ = some (.string d1) := row_cell hC6 4
          have lc := row_lt hC6
          have hzz := hg6.size
          clear hW6 hg6 hC6 hF6 f0 f1 g0 g2 g4 gf0 gf2 gf4 hx0 hx1 hC5 hF5 hW lf5 lc5
          go_wp2_with (at_mapUpdate; go_must (refine wpList_hm_put _ rfl _ _ _ 48 50 rfl Tryz.underlying48 w2.heap.size (j + m) _ rfl (HM6.out.below (Below.refl _ _).drew) (by simp only [maxLen]; omega) q (.agg #[.string q, .bool hg0, .bool true, .string o0, .string d1]) rfl rfl HSZ.out.1 ?_))
          intro w7 hm7 hg7
          have HM7 : Hid (HM w7 w2.heap.size (j + (m + 1)) (mapC A (B.take (m + 1)))) := lid (by
            rw [HT.out, mapC_new HNE.out]
            rw [HCC.out] at hm7
            exact hm7)
          have hW7 : Below w2.heap.size w2 w7 := hW6'.drew.grown hg7 (by show _ ≤ W6.heap.size; omega) (fun r e => by cases e; exact Nat.le_refl _)
          have hz7 : w2.heap.size < w7.heap.size := by
            have h1 := hg7.size
            have h2 : W6.drew.heap.size = W6.heap.size := rfl
            rw [h2] at h1
            have := HM6.out.lt
            omega
          clear hm7 hg7 hW6' k0 lk c0 c1 c2 c3 c4 lc hzz
          go_wp2_with fail
          go_roundw
          case rel => exact ⟨m + 1, by omega, by go_num, HM7, hW7, hz7⟩
          case measure => simp [intOf]; omega
        · obtain rfl : m = n2 := by omega
          have HTB : Hid (B.take m = B) := lid (List.take_of_length_le (by rw [HN2.out]; exact Nat.le_refl _))
          rw [HTB.out] at HMm
          have HB9 := lid hb
          clear hb
          go_wp2_with fail
          (with_reducible refine (keysC_fn w2.heap.size wr).mono ?_); rintro e w5 ⟨rfl, rfl⟩
          go_wp2_with fail
          (with_reducible refine (sortedC_any w2.heap.size (j + m) (mapC A B) wr HMm.out (by omega)).mono ?_); rintro e w6 ⟨v6, K, rfl, hown6, hasc6, hmem6, hb6, hlen6⟩
          obtain ⟨a6, c6, rfl, hc6, hc6', hsl6⟩ := Sl.of_own hown6
          have h16 : Below wr.heap.size wr w6 := (ba wr _).trans (hb6.mono (Nat.le_succ _))
          have HM6 := lid (HMm.out.below h16)
          have HCH : Hid (Chg A B (diffC A B K)) := lid (diff_chg HVA.out HVB.out hasc6 (fun p => (hmem6 p).trans mapC_some))
          have HMEM : Hid (∀ p, p ∈ K ↔ (mapC A B p).isSome = true) := lid hmem6
          have HK := lid hsl6
          obtain ⟨N, hN⟩ : ∃ N, K.length = N := ⟨_, rfl⟩
          have HNN := lid hN
          rw [hN] at hlen6 hc6
          have HBW6 : Hid (Below w.heap.size w w6) := lid (HB2.out.trans ((HB9.out.trans (h16.mono (by omega))).mono HB2.out.size))
          have hz6 := h16.size
          have HKN : Hid (Sl w6 1 a6 N (svals K)) := lid (by rw [← hN]; exact hsl6)
          rw [hN]
          clear hown6 hasc6 hmem6 hb6 hsl6 h16 hN
          go_wp2_with fail
          go_loopw [17, 81] (fun u17 u81 wv => ∃ (i : Nat), i ≤ N ∧ u81 = .int .i64 i ∧ Hid (wv.ownsRow w6.heap.size 50 5 u17 (diffC A B (K.take i)).length (ccells (diffC A B (K.take i)))) ∧ Below w6.heap.size w6 wv) (fun _ u81 _ => N - (intOf u81).toNat)
          case atStart => exact ⟨0, Nat.zero_le _, rfl, lid (World.ownsRow_nil _ _ _ _), Below.refl _ _⟩
          case round =>
            obtain ⟨i, hi, rfl, HOW, hb⟩ := hrel
            rename_i u17 u81
            have hdl : (diffC A B (K.take i)).length ≤ 20 := by
              have h1 := List.length_filterMap_le (fun p => if findF A p = findF B p then none else some (p, findF A p, findF B p)) (K.take i)
              rw [List.length_take] at h1
              have h2 : (diffC A B (K.take i)).length ≤ min i K.length := h1
              omega
            by_cases hlt3 : i < N
            · have hiK : i < K.length := by rw [HNN.out]; exact hlt3
              obtain ⟨b3, o3, rfl, hlb3, hc3⟩ := (HKN.out.below hb).at_ hlt3
              have x0 := hc3 i _ (svals_at hiK)
              have dk : decide ((i : Int) < (N : Int)) = true := by simp; omega
              have HT : Hid (K.take (i + 1) = K.take i ++ [K[i]]) := lid (List.take_succ_eq_append_getElem hiK)
              have hmk := (HMEM.out K[i]).1 (List.getElem_mem hiK)
              obtain ⟨q, hq⟩ : ∃ q, K[i] = q := ⟨_, rfl⟩
              rw [hq] at x0 HT hmk
              have hqs : q.size ≤ maxLen := by
                rcases mapC_some.1 hmk with h | h
                · obtain ⟨dd, hd⟩ := Option.isSome_iff_exists.1 h
                  exact (HZ1.out _ ((find_asc HAA.out).1 hd)).1
                · obtain ⟨dd, hd⟩ := Option.isSome_iff_exists.1 h
                  exact (HZ2.out _ ((find_asc HAB.out).1 hd)).1
              have HL0 := lid ((HM6.out.below hb).look Tryz.underlying48 (zero_ch wr) q hqs)
              have hval : (mapC A B q).getD (.agg #[.string ⟨#[]⟩, .bool false, .bool false, .string ⟨#[]⟩, .string ⟨#[]⟩]) = .agg (cca (q, findF A q, findF B q)) := by
                unfold mapC at hmk ⊢
                split
                · rfl
                · rename_i h
                  rw [if_neg h] at hmk
                  cases hmk
              rw [hval] at HL0
              have HDS := lid (diffC_snoc A B (K.take i) q)
              have hor := mapC_some.1 hmk
              clear hval hq hmk hc3
              generalize findF A q = oa at *
              generalize findF B q = ob at *
              rcases oa with _ | xa <;> rcases ob with _ | xb
              · simp at hor
              · clear hor
                replace HL0 : Hid ((Instr.lookup 48 (.map (some w2.heap.size)) (.string q) false).run Tryz.prog wr = .ok (.agg #[.string q, .bool false, .bool true, .string ⟨#[]⟩, .string xb]) wr) := HL0
                obtain ⟨W10, hW10⟩ : ∃ y, wr.alloc (Obj.cells #[.string q, .bool false, .bool true, .string ⟨#[]⟩, .string xb] 50) = y := ⟨_, rfl⟩
                have hb10 : Below wr.heap.size wr W10 := by rw [← hW10]; exact ba _ _
                have hC10 : W10.heap[wr.heap.size]? = some (.cells #[.string q, .bool false, .bool true, .string ⟨#[]⟩, .string xb] 50 (0, 0)) := by rw [← hW10]; exact h_new rfl _
                have k0 : W10.cell? ⟨wr.heap.size, 0, none⟩ = some (.string q) := row_cell hC10 0
                have k1 : W10.cell? ⟨wr.heap.size, 1, none⟩ = some (.bool false) := row_cell hC10 1
                have k2 : W10.cell? ⟨wr.heap.size, 2, none⟩ = some (.bool true) := row_cell hC10 2
                have k3 : W10.cell? ⟨wr.heap.size, 3, none⟩ = some (.string ⟨#[]⟩) := row_cell hC10 3
                have k4 : W10.cell? ⟨wr.heap.size, 4, none⟩ = some (.string xb) := row_cell hC10 4
                have lk := row_lt hC10
                have HO10 : Hid (W10.ownsRow w6.heap.size 50 5 u17 (diffC A B (K.take i)).length (ccells (diffC A B (K.take i)))) := lid (by rw [← hW10]; exact HOW.out.alloc _)
                have HW10 := lid hW10
                have hzb := hb.size
                have hB10 : Below w6.heap.size w6 W10 := hb.trans (hb10.mono hzb)
                clear hW10 hb10 hC10
                have HD' : Hid (diffC A B (K.take (i + 1)) = diffC A B (K.take i) ++ [(q, none, some xb)]) := lid (by rw [HT.out, HDS.out, if_neg (by simp)])
                have hz10 := hB10.size
                go_wp2_with (first | (with_reducible refine swap_world HW10.out ?_) | (at_lookup; go_must (refine wpList_lookc _ false rfl _ _ 48 rfl _ _ _ rfl rfl HL0.out ?_)) | (at_builtin; go_must (refine wpList_append_new_at (w := W10) #[.string q, .bool false, .bool true, .string ⟨#[]⟩, .string xb] rfl _ _ 36 rfl w6.heap.size 50 (.agg #[.string ⟨#[]⟩, .bool false, .bool false, .string ⟨#[]⟩, .string ⟨#[]⟩]) 5 56 info_fc Tryz.underlying36 rfl (by decide) u17 _ _ HO10.out rfl rfl rfl (by intro u hu; simp at hu; rcases hu with rfl | rfl | rfl | rfl | rfl <;> rfl) (by simp only [maxLen]; omega) (by omega) (by omega) ?_)))
                intro v11 w11 hown11 hg11 hat11
                have HO11 : Hid (w11.ownsRow w6.heap.size 50 5 v11 (diffC A B (K.take (i + 1))).length (ccells (diffC A B (K.take (i + 1))))) := lid (by
                  rw [HD'.out, List.length_append, ccells_append]
                  exact hown11)
                have hB11 : Below w6.heap.size w6 w11 := (hB10.trans ((ba W10 (Obj.cells #[.string q, .bool false, .bool true, .string ⟨#[]⟩, .string xb] 50)).mono hz10)).grown hg11 (by simp; omega) (fun r e => (HO10.out.lt r e).1)
                clear hown11 hg11 hat11 k0 k1 k2 k3 k4 lk
                go_wp2_with fail
                go_roundw
                case rel => exact ⟨i + 1, by omega, by go_num, HO11, hB11⟩
                case measure => simp [intOf]; omega
              · clear hor
                replace HL0 : Hid ((Instr.lookup 48 (.map (some w2.heap.size)) (.string q) false).run Tryz.prog wr = .ok (.agg #[.string q, .bool true, .bool false, .string xa, .string ⟨#[]⟩]) wr) := HL0
                obtain ⟨W10, hW10⟩ : ∃ y, wr.alloc (Obj.cells #[.string q, .bool true, .bool false, .string xa, .string ⟨#[]⟩] 50) = y := ⟨_, rfl⟩
                have hb10 : Below wr.heap.size wr W10 := by rw [← hW10]; exact ba _ _
                have hC10 : W10.heap[wr.heap.size]? = some (.cells #[.string q, .bool true, .bool false, .string xa, .string ⟨#[]⟩] 50 (0, 0)) := by rw [← hW10]; exact h_new rfl _
                have k0 : W10.cell? ⟨wr.heap.size, 0, none⟩ = some (.string q) := row_cell hC10 0
                have k1 : W10.cell? ⟨wr.heap.size, 1, none⟩ = some (.bool true) := row_cell hC10 1
                have k2 : W10.cell? ⟨wr.heap.size, 2, none⟩ = some (.bool false) := row_cell hC10 2
                have k3 : W10.cell? ⟨wr.heap.size, 3, none⟩ = some (.string xa) := row_cell hC10 3
                have k4 : W10.cell? ⟨wr.heap.size, 4, none⟩ = some (.string ⟨#[]⟩) := row_cell hC10 4
                have lk := row_lt hC10
                have HO10 : Hid (W10.ownsRow w6.heap.size 50 5 u17 (diffC A B (K.take i)).length (ccells (diffC A B (K.take i)))) := lid (by rw [← hW10]; exact HOW.out.alloc _)
                have HW10 := lid hW10
                have hzb := hb.size
                have hB10 : Below w6.heap.size w6 W10 := hb.trans (hb10.mono hzb)
                clear hW10 hb10 hC10
                have HD' : Hid (diffC A B (K.take (i + 1)) = diffC A B (K.take i) ++ [(q, some xa, none)]) := lid (by rw [HT.out, HDS.out, if_neg (by simp)])
                have hz10 := hB10.size
                go_wp2_with (first | (with_reducible refine swap_world HW10.out ?_) | (at_lookup; go_must (refine wpList_lookc _ false rfl _ _ 48 rfl _ _ _ rfl rfl HL0.out ?_)) | (at_builtin; go_must (refine wpList_append_new_at (w := W10) #[.string q, .bool true, .bool false, .string xa, .string ⟨#[]⟩] rfl _ _ 36 rfl w6.heap.size 50 (.agg #[.string ⟨#[]⟩, .bool false, .bool false, .string ⟨#[]⟩, .string ⟨#[]⟩]) 5 56 info_fc Tryz.underlying36 rfl (by decide) u17 _ _ HO10.out rfl rfl rfl (by intro u hu; simp at hu; rcases hu with rfl | rfl | rfl | rfl | rfl <;> rfl) (by simp only [maxLen]; omega) (by omega) (by omega) ?_)))
                intro v11 w11 hown11 hg11 hat11
                have HO11 : Hid (w11.ownsRow w6.heap.size 50 5 v11 (diffC A B (K.take (i + 1))).length (ccells (diffC A B (K.take (i + 1))))) := lid (by
                  rw [HD'.out, List.length_append, ccells_append]
                  exact hown11)
                have hB11 : Below w6.heap.size w6 w11 := (hB10.trans ((ba W10 (Obj.cells #[.string q, .bool true, .bool false, .string xa, .string ⟨#[]⟩] 50)).mono hz10)).grown hg11 (by simp; omega) (fun r e => (HO10.out.lt r e).1)
                clear hown11 hg11 hat11 k0 k1 k2 k3 k4 lk
                go_wp2_with fail
                go_roundw
                case rel => exact ⟨i + 1, by omega, by go_num, HO11, hB11⟩
                case measure => simp [intOf]; omega
              · clear hor
                by_cases hx : xa = xb
                · subst hx
                  replace HL0 : Hid ((Instr.lookup 48 (.map (some w2.heap.size)) (.string q) false).run Tryz.prog wr = .ok (.agg #[.string q, .bool true, .bool true, .string xa, .string xa]) wr) := HL0
                  obtain ⟨W10, hW10⟩ : ∃ y, wr.alloc (Obj.cells #[.string q, .bool true, .bool true, .string xa, .string xa] 50) = y := ⟨_, rfl⟩
                  have hb10 : Below wr.heap.size wr W10 := by rw [← hW10]; exact ba _ _
                  have hC10 : W10.heap[wr.heap.size]? = some (.cells #[.string q, .bool true, .bool true, .string xa, .string xa] 50 (0, 0)) := by rw [← hW10]; exact h_new rfl _
                  have k0 : W10.cell? ⟨wr.heap.size, 0, none⟩ = some (.string q) := row_cell hC10 0
                  have k1 : W10.cell? ⟨wr.heap.size, 1, none⟩ = some (.bool true) := row_cell hC10 1
                  have k2 : W10.cell? ⟨wr.heap.size, 2, none⟩ = some (.bool true) := row_cell hC10 2
                  have k3 : W10.cell? ⟨wr.heap.size, 3, none⟩ = some (.string xa) := row_cell hC10 3
                  have k4 : W10.cell? ⟨wr.heap.size, 4, none⟩ = some (.string xa) := row_cell hC10 4
                  have lk := row_lt hC10
                  have HO10 : Hid (W10.ownsRow w6.heap.size 50 5 u17 (diffC A B (K.take i)).length (ccells (diffC A B (K.take i)))) := lid (by rw [← hW10]; exact HOW.out.alloc _)
                  have HW10 := lid hW10
                  have hzb := hb.size
                  have hB10 : Below w6.heap.size w6 W10 := hb.trans (hb10.mono hzb)
                  clear hW10 hb10 hC10
                  have HD' : Hid (diffC A B (K.take (i + 1)) = diffC A B (K.take i)) := lid (by rw [HT.out, HDS.out, if_pos rfl])
                  go_wp2_with (first | (with_reducible refine swap_world HW10.out ?_) | (at_lookup; go_must (refine wpList_lookc _ false rfl _ _ 48 rfl _ _ _ rfl rfl HL0.out ?_)))
                  go_roundw
                  case rel => exact ⟨i + 1, by omega, by go_num, lid (by rw [HD'.out]; exact HO10.out), hB10⟩
                  case measure => simp [intOf]; omega
                · have u := str_ne hx
                  have HNE0 := lid hx
                  clear hx
                  replace HL0 : Hid ((Instr.lookup 48 (.map (some w2.heap.size)) (.string q) false).run Tryz.prog wr = .ok (.agg #[.string q, .bool true, .bool true, .string xa, .string xb]) wr) := HL0
                  obtain ⟨W10, hW10⟩ : ∃ y, wr.alloc (Obj.cells #[.string q, .bool true, .bool true, .string xa, .string xb] 50) = y := ⟨_, rfl⟩
                  have hb10 : Below wr.heap.size wr W10 := by rw [← hW10]; exact ba _ _
                  have hC10 : W10.heap[wr.heap.size]? = some (.cells #[.string q, .bool true, .bool true, .string xa, .string xb] 50 (0, 0)) := by rw [← hW10]; exact h_new rfl _
                  have k0 : W10.cell? ⟨wr.heap.size, 0, none⟩ = some (.string q) := row_cell hC10 0
                  have k1 : W10.cell? ⟨wr.heap.size, 1, none⟩ = some (.bool true) := row_cell hC10 1
                  have k2 : W10.cell? ⟨wr.heap.size, 2, none⟩ = some (.bool true) := row_cell hC10 2
                  have k3 : W10.cell? ⟨wr.heap.size, 3, none⟩ = some (.string xa) := row_cell hC10 3
                  have k4 : W10.cell? ⟨wr.heap.size, 4, none⟩ = some (.string xb) := row_cell hC10 4
                  have lk := row_lt hC10
                  have HO10 : Hid (W10.ownsRow w6.heap.size 50 5 u17 (diffC A B (K.take i)).length (ccells (diffC A B (K.take i)))) := lid (by rw [← hW10]; exact HOW.out.alloc _)
                  have HW10 := lid hW10
                  have hzb := hb.size
                  have hB10 : Below w6.heap.size w6 W10 := hb.trans (hb10.mono hzb)
                  clear hW10 hb10 hC10
                  have HD' : Hid (diffC A B (K.take (i + 1)) = diffC A B (K.take i) ++ [(q, some xa, some xb)]) := lid (by rw [HT.out, HDS.out, if_neg (by intro e; exact HNE0.out (Option.some.inj e))])
                  have hz10 := hB10.size
                  go_wp2_with (first | (with_reducible refine swap_world HW10.out ?_) | (at_lookup; go_must (refine wpList_lookc _ false rfl _ _ 48 rfl _ _ _ rfl rfl HL0.out ?_)) | (at_builtin; go_must (refine wpList_append_new_at (w := W10) #[.string q, .bool true, .bool true, .string xa, .string xb] rfl _ _ 36 rfl w6.heap.size 50 (.agg #[.string ⟨#[]⟩, .bool false, .bool false, .string ⟨#[]⟩, .string ⟨#[]⟩]) 5 56 info_fc Tryz.underlying36 rfl (by decide) u17 _ _ HO10.out rfl rfl rfl (by intro u hu; simp at hu; rcases hu with rfl | rfl | rfl | rfl | rfl <;> rfl) (by simp only [maxLen]; omega) (by omega) (by omega) ?_)))
                  intro v11 w11 hown11 hg11 hat11
                  have HO11 : Hid (w11.ownsRow w6.heap.size 50 5 v11 (diffC A B (K.take (i + 1))).length (ccells (diffC A B (K.take (i + 1))))) := lid (by
                    rw [HD'.out, List.length_append, ccells_append]
                    exact hown11)
                  have hB11 : Below w6.heap.size w6 w11 := (hB10.trans ((ba W10 (Obj.cells #[.string q, .bool true, .bool true, .string xa, .string xb] 50)).mono hz10)).grown hg11 (by simp; omega) (fun r e => (HO10.out.lt r e).1)
                  clear hown11 hg11 hat11 k0 k1 k2 k3 k4 lk
                  go_wp2_with fail
                  go_roundw
                  case rel => exact ⟨i + 1, by omega, by go_num, HO11, hB11⟩
                  case measure => simp [intOf]; omega
            · obtain rfl : i = N := by omega
              have HTK : Hid (K.take i = K) := lid (List.take_of_length_le (by rw [HNN.out]; exact Nat.le_refl _))
              rw [HTK.out] at HOW
              rw [HTK.out] at hdl
              obtain ⟨a9, c9, rfl, hca⟩ := CA.of_own HOW.out rfl
              have HCA := lid hca
              have HNW : Hid (Nw w wr (a9)) := lid (fun x hx => by have := own_blk HOW.out x hx; have := HBW6.out.size; omega)
              have hz9 := HBW6.out.size
              clear hca
              go_wp2_with fail
              go_ret2
              exact ⟨HBW6.out.trans (hb.mono hz9), a9, _, c9, diffC A B K, rfl, HCA.out, HCH.out, hdl, HNW.out⟩
end Go.Proofs.YtphjillihapbfaaGreatDoor
