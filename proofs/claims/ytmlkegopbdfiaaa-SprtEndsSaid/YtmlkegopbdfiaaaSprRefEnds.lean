/-
  Ends of sprt's reference on a valid trial.
-/
import Derived.Test.YtmlkegopbdfiaaaSprEndsAny
import Derived.Test.YtmlkegopbdfiaaaSprRefRun
import Derived.Test.YtmlkegopbdfiaaaNums
namespace Go.Proofs.Ytmlkegopbdfiaaa
open Go.RowKit

theorem cnt_start (dec : Nat → Nat → Int) (w : World) : Nums (w.alloc (.cells #[.int .i64 1] 3)) 3 w.heap.size 1 (cnt dec 0) := by
  refine ⟨_, heap_alloc_new w _, fun q hq => ?_⟩
  obtain rfl : q = 0 := by omega
  rfl
theorem part_other (dec : Nat → Nat → Int) (K P : Nat) (hg : gon dec K P = 0) (q : Nat) : part dec K (P + 1) q = part dec K P q := by
  by_cases h1 : q = P
  · subst h1
    rw [part_step_same, hg, Nat.add_zero]
  · by_cases h2 : q = P + 1
    · subst h2
      rw [part_step_next, hg, Nat.add_zero]
    · exact part_step_other dec K P q h1 h2

set_option maxRecDepth 100000 in
set_option maxHeartbeats 8000000 in
theorem refEnds_ok (Gn Gd Bn Bd An Ad En Ed : Nat) (n : Nat) (w : World) (hn : n ≤ 30) (hE : trialE (Gn : Int) Gd Bn Bd An Ad En Ed = 0) (r1 : RatioN Gn Gd) (r2 : RatioN Bn Bd) (r3 : RatioN An Ad) (r4 : RatioN En Ed) :
    Calls Try.prog 21 #[.agg (tv Gn Gd Bn Bd An Ad En Ed), .int .i64 n] w fun e w' => ∃ v', e = .returned (.tuple #[v', .int .i64 0]) ∧ (∃ B, w'.ownsRow B 45 4 v' (endsTo (decS Gn Gd Bn Bd An Ad En Ed) n (n + 1)).length (evals (endsTo (decS Gn Gd Bn Bd An Ad En Ed) n (n + 1)))) ∧ Below w.heap.size w w' := by
  have hb0 : Below w.heap.size w (w.alloc (Obj.cells (tv Gn Gd Bn Bd An Ad En Ed) 25)) := ba _ _
  have hT0 := TC.new w Gn Gd Bn Bd An Ad En Ed 25
  have HE := lid hE
  have R1 := lid r1
  have R2 := lid r2
  have R3 := lid r3
  have R4 := lid r4
  have hn1 : (n : Int) ≤ 30 := by omega
  have hn2 : decide ((n : Int) < 0) = false := by simp
  have hn3 : decide ((30 : Int) < (n : Int)) = false := by simp; omega
  obtain ⟨i0, hi, hz0, hz1, hz2⟩ := info_parts info_int
  have HI := lid hi
  have HZ0 := lid hz0
  have HZ1 := lid hz1
  have HZ2 := lid hz2
  clear hE r1 r2 r3 r4 hi hz0 hz1 hz2
  go_enter Try.func21, Try.ntmps21
  go_wp2_with fail
  (with_reducible refine (refCheck_any (Gn : Int) Gd Bn Bd An Ad En Ed _).mono ?_); rintro e w1 ⟨rfl, hb1⟩
  rw [HE.out]
  have hw1 := hb0.trans (hb1.mono (by simp))
  have HT1 := lid (hT0.below hb1 (by simp))
  have hq1 : w.heap.size < w1.heap.size := by have := hb1.size; rw [World.size_alloc] at this; omega
  clear hb1 hT0
  go_wp2_with fail
  have HN2 := lid (cnt_start (decS Gn Gd Bn Bd An Ad En Ed) w1)
  obtain ⟨W2, hW2⟩ : ∃ W2, w1.alloc (Obj.cells #[Value.int .i64 1] 3) = W2 := ⟨_, rfl⟩
  have hb2 : Below w1.heap.size w1 W2 := by rw [← hW2]; exact ba _ _
  rw [hW2] at HN2 ⊢
  clear hW2
  go_loopw [7, 8, 9, 10, 11, 12] (fun out op k _ _ _ wr => ∃ K M b c : Nat, K ≤ n + 1 ∧ k = .int .i64 K ∧ Hid (K + 1 = M) ∧ op = .slice (some ⟨b, 0, none⟩) M c ∧ w1.heap.size ≤ b ∧ wr.ownsRow w1.heap.size 45 4 out (endsTo (decS Gn Gd Bn Bd An Ad En Ed) n K).length (evals (endsTo (decS Gn Gd Bn Bd An Ad En Ed) n K)) ∧ Hid (K ≤ n → Nums wr 3 b M (cnt (decS Gn Gd Bn Bd An Ad En Ed) K)) ∧ Below w1.heap.size w1 wr) (fun _ _ k _ _ _ _ => n + 1 - (intOf k).toNat)
  case atStart => exact ⟨0, 1, w1.heap.size, 1, Nat.zero_le _, rfl, lid rfl, rfl, Nat.le_refl _, World.ownsRow_nil _ _ _ _, lid (fun _ => HN2.out), hb2⟩
  case round =>
    obtain ⟨K, M, b, c, hK, rfl, HM, rfl, hbb, hown, HK, hbr⟩ := hrel
    by_cases hKn : K ≤ n
    · have hKi : (K : Int) ≤ n := by omega
      have HKN := lid (HK.out hKn)
      have hbl := HKN.out.lt
      obtain ⟨M2, hM2⟩ : ∃ x, K + 2 = x := ⟨_, rfl⟩
      have HM2 := lid hM2
      have hM2i : (K : Int) + 2 = (M2 : Int) := by omega
      clear HK hM2
      go_wp2_with (at_make; go_must (refine wpList_make_row _ rfl _ _ 54 rfl 3 i0 (.int .i64 0) Try.underlying54 HI.out HZ0.out HZ1.out rfl .i64 .i64 M2 rfl rfl (by rw [HZ2.out]; omega) (by omega) ?_))
      have HX := lid (Nums.made wr 3 M2)
      obtain ⟨b2, hB2⟩ : ∃ x, wr.heap.size = x := ⟨_, rfl⟩
      obtain ⟨W3, hW3⟩ : ∃ W3, wr.alloc (Obj.cells (madeCells #[Value.int .i64 0] M2) 3) = W3 := ⟨_, rfl⟩
      have hb3 : Below wr.heap.size wr W3 := by rw [← hW3]; exact ba _ _
      have hbr3 := hbr.trans (hb3.mono hbr.size)
      have hownA := ownsRow_below hown hb3
      have HKN3 := lid (HKN.out.below hb3 hbl)
      have hbb2 : w1.heap.size ≤ b2 := by have := hbr.size; omega
      have hne : b ≠ b2 := by omega
      rw [hW3] at HX ⊢
      rw [hB2] at HX ⊢
      clear hW3 hown hB2 hb3 HKN hbl hbr
      go_wp2_with fail
      go_loopw [7, 11, 12] (fun out p _ wi => ∃ P : Nat, P ≤ K + 1 ∧ p = .int .i64 P ∧ wi.ownsRow w1.heap.size 45 4 out (endsTo (decS Gn Gd Bn Bd An Ad En Ed) n K ++ endsRow (decS Gn Gd Bn Bd An Ad En Ed) n K P).length (evals (endsTo (decS Gn Gd Bn Bd An Ad En Ed) n K ++ endsRow (decS Gn Gd Bn Bd An Ad En Ed) n K P)) ∧ Hid (Nums wi 3 b M (cnt (decS Gn Gd Bn Bd An Ad En Ed) K)) ∧ Hid (Nums wi 3 b2 M2 (if K = n then fun _ => 0 else part (decS Gn Gd Bn Bd An Ad En Ed) K P)) ∧ Below w1.heap.size w1 wi) (fun _ p _ _ => K + 1 - (intOf p).toNat)
      case atStart =>
        refine ⟨0, Nat.zero_le _, rfl, by rw [show endsRow (decS Gn Gd Bn Bd An Ad En Ed) n K 0 = [] from rfl, List.append_nil]; exact hownA, HKN3, lid ?_, hbr3⟩
        split
        · exact HX.out
        · exact HX.out.congr (Nat.le_refl _) (fun q _ => part_zero _ _ _)
      case round =>
        obtain ⟨P, hP, rfl, hown2, HT, HU, hbi⟩ := hrel
        by_cases hPK : P ≤ K
        · have hPi : (P : Int) ≤ K := by omega
          have hPM : (P : Int) < M := by have := HM.out; omega
          have hPM2 : (P : Int) < M2 := by have := HM2.out; omega
          have hPM3 : (P : Int) + 1 < M2 := by have := HM2.out; omega
          have y0 := HT.out.cell (q := P) (by have := HM.out; omega)
          generalize hC : cnt (decS Gn Gd Bn Bd An Ad En Ed) K P = C at *
          by_cases hC0 : C = 0
          · subst hC0
            have HEA := lid (endAt_none (n := n) hC)
            have HG := lid (gon_none (.inl hC))
            clear hC
            go_wp2_with fail
            go_roundw
            case rel =>
              refine ⟨P + 1, by omega, by go_num, ?_, HT, lid ?_, hbi⟩
              · rw [endsRow_succ, HEA.out, List.append_nil]
                exact hown2
              · by_cases e : K = n
                · rw [if_pos e]
                  have := HU.out
                  rw [if_pos e] at this
                  exact this
                · rw [if_neg e]
                  have := HU.out
                  rw [if_neg e] at this
                  exact this.congr (Nat.le_refl _) (fun q _ => part_other _ K P HG.out q)
            case measure => simp [intOf]; omega
          · obtain ⟨F, hF⟩ : ∃ F, K - P = F := ⟨_, rfl⟩
            have hFi : (K : Int) - P = F := by omega
            have hCi : (C : Int) ≠ 0 := by omega
            have e0 : ((C : Int) == 0) = false := by simp; omega
            have HCC := lid hC
            obtain ⟨t0, t1, t2, t3, t4, t5, t6, t7⟩ := HT1.out.below hbi hq1
            clear hC
            go_wp2_with fail
            (with_reducible refine (refDecide_any Gn Gd Bn Bd An Ad En Ed P F _ R1.out R2.out R3.out R4.out (by omega) (by omega)).mono ?_); rintro e w3 ⟨rfl, hb3⟩
            have hown3 := ownsRow_below hown2 hb3
            have HT3 := lid (HT.out.below hb3 HT.out.lt)
            have HU3 := lid (HU.out.below hb3 HU.out.lt)
            have hbi3 := hbi.trans (hb3.mono hbi.size)
            have y3 := HT3.out.cell (q := P) (by have := HM.out; omega)
            rw [HCC.out] at y3
            have hl3 := HT3.out.lt
            have hl4 := HU3.out.lt
            obtain ⟨d, hd⟩ : ∃ d, decS Gn Gd Bn Bd An Ad En Ed P F = d := ⟨_, rfl⟩
            have HDD := lid hd
            rw [hd]
            clear hd t0 t1 t2 t3 t4 t5 t6 t7 hb3 y0
            by_cases hdk : d = 0 ∧ K ≠ n
            · obtain ⟨rfl, hKn'⟩ := hdk
              have hKlt : (K : Int) < n := by omega
              have e1 : ((K : Int) == (n : Int)) = false := by simp; omega
              have e1n : (K == n) = false := by simp; omega
              have hU3' := HU3.out
              rw [if_neg hKn'] at hU3'
              clear HU3
              have y1 := hU3'.cell (q := P) (by have := HM2.out; omega)
              have z1 := hU3'.free P
              have hA := part_le (decS Gn Gd Bn Bd An Ad En Ed) K P P
              have hC2 := cnt_le (decS Gn Gd Bn Bd An Ad En Ed) K P
              have hp1 : 2 ^ (K + 1) ≤ 2 ^ 31 := Nat.pow_le_pow_right (by omega) (by omega)
              have hp2 : 2 ^ K ≤ 2 ^ 31 := Nat.pow_le_pow_right (by omega) (by omega)
              rw [HCC.out] at hC2
              obtain ⟨A, hAA⟩ : ∃ A, part (decS Gn Gd Bn Bd An Ad En Ed) K P P = A := ⟨_, rfl⟩
              have HAA := lid hAA
              rw [hAA] at y1 hA
              have hA' : A ≤ 2147483648 := by omega
              have hC' : C ≤ 2147483648 := by omega
              clear hp1 hp2 hA hC2 hAA
              have wA : IntKind.i64.wrap ((A : Int) + C) = (A : Int) + C := IntWalk.i64_in _ (by omega)
              have HU3' := lid hU3'
              clear hU3'
              go_wp2_with fail
              refine wp_region_seqC 12 (fun w' => ∃ s : Since w3.heap.size w3, w' = s.world) [(0, true), (1, true), (2, true), (3, true), (4, true), (5, true), (6, true), (7, true), (8, true), (9, true), (10, true), (11, true), (12, false)] (by kernel_rfl) (by kernel_rfl) (by intro c d v a w h; cases d <;> exact h) (since (Below.refl _ _).drew) ?_
              repeat (first | (refine seqL_skip (by rfl) (by rfl) (by rfl) ?_; simp only [Act.put, List.setIfInBounds_toArray, List.set_cons_succ, List.set_cons_zero]) | (refine seqL_float (by rfl) (by rfl) (by rfl) (by rfl) ?_; intro K hK; go_big_quiet_op; go_big_quiet_on))
              refine seqL_last (by rfl) (by rfl) ?_
              intro K hK
              go_wp2_with fail
              refine hK.out _ _ ?_
              clear hK K
              go_wp2_with fail
              obtain ⟨W4, hW4⟩ : ∃ W4, (w3.setCell ⟨b2, P, none⟩ (.int .i64 ((A : Int) + C))).drew = W4 := ⟨_, rfl⟩
              have HU4 : Hid (Nums W4 3 b2 M2 (fun q => if q = P then part (decS Gn Gd Bn Bd An Ad En Ed) K P P + C else part (decS Gn Gd Bn Bd An Ad En Ed) K P q)) := lid (by
                rw [← hW4]
                exact (HU3'.out.set (by have := HM2.out; omega) _ (by rw [if_pos rfl, HAA.out]; omega) (fun q h => if_neg h)).drew)
              have HT4 : Hid (Nums W4 3 b M (cnt (decS Gn Gd Bn Bd An Ad En Ed) K)) := lid (by
                rw [← hW4]
                exact (HT3.out.other _ _ hne).drew)
              have hown4 := ownsRow_below (HU3'.out.row_kept (by decide) hown3 P (.int .i64 ((A : Int) + C))) (Below.refl _ _).drew
              rw [hW4] at hown4
              have hbi4 : Below w1.heap.size w1 W4 := by rw [← hW4]; exact (hbi3.setCell (p := ⟨b2, P, none⟩) hbb2 _).drew
              rw [hW4]
              clear hW4 y1 z1 wA hown3 hbi3 HT3 HU3' y3 hl3 hl4
              have hl3 := HT4.out.lt
              have hl4 := HU4.out.lt
              have y3 := HT4.out.cell (q := P) (by have := HM.out; omega)
              rw [HCC.out] at y3
              have y2 := HU4.out.cell (q := P + 1) (by have := HM2.out; omega)
              rw [if_neg (by omega), part_next_zero] at y2
              have y2' : W4.cell? ⟨b2, P + 1, none⟩ = some (.int .i64 0) := y2
              have z2 := HU4.out.free (P + 1)
              clear y2
              have wC : IntKind.i64.wrap (C : Int) = C := IntWalk.i64_in _ (by omega)
              go_wp2_with fail
              refine wp_region_seqC 14 (fun w' => ∃ s : Since W4.heap.size W4, w' = s.world) [(0, true), (1, true), (2, true), (3, true), (4, true), (5, true), (6, true), (7, true), (8, true), (9, true), (10, true), (11, true), (12, true), (13, true), (14, false)] (by kernel_rfl) (by kernel_rfl) (by intro c d v a w h; cases d <;> exact h) (since (Below.refl _ _).drew) ?_
              repeat (first | (refine seqL_skip (by rfl) (by rfl) (by rfl) ?_; simp only [Act.put, List.setIfInBounds_toArray, List.set_cons_succ, List.set_cons_zero]) | (refine seqL_float (by rfl) (by rfl) (by rfl) (by rfl) ?_; intro K hK; go_big_quiet_op; go_big_quiet_on))
              refine seqL_last (by rfl) (by rfl) ?_
              intro K hK
              go_wp2_with fail
              refine hK.out _ _ ?_
              clear hK K
              go_wp2_with fail
              go_roundw
              case rel =>
                have hG : gon (decS Gn Gd Bn Bd An Ad En Ed) K P = C := by rw [gon_some (by rw [hF]; exact HDD.out), HCC.out]
                refine ⟨P + 1, by omega, by go_num, ?_, lid ?_, lid ?_, ?_⟩
                · rw [endsRow_succ, endAt_open (by rw [hF]; exact HDD.out) hKn', List.append_nil]
                  exact ownsRow_below (HU4.out.row_kept (by decide) hown4 _ _) (Below.refl _ _).drew
                · exact (HT4.out.other _ _ hne).drew
                · rw [if_neg hKn']
                  refine (HU4.out.set (v' := part (decS Gn Gd Bn Bd An Ad En Ed) K (P + 1)) (by have := HM2.out; omega) _ (by rw [part_step_next, part_next_zero, hG, Nat.zero_add]) (fun q h => ?_)).drew
                  by_cases h2 : q = P
                  · rw [if_pos h2, h2, part_step_same, hG]
                  · rw [if_neg h2, part_step_other _ K P q h2 h]
                · exact (hbi4.setCell (p := ⟨b2, P + 1, none⟩) hbb2 _).drew
              case measure => simp [intOf]; omega
            · have HEA : Hid (endAt (decS Gn Gd Bn Bd An Ad En Ed) n K P = [(P, F, d, C)]) := lid (by rw [endAt_some (by rw [HCC.out]; exact hC0) (by rw [hF, HDD.out]; exact hdk), hF, HDD.out, HCC.out])
              have HLE : Hid (K = n ∨ gon (decS Gn Gd Bn Bd An Ad En Ed) K P = 0) := lid (by
                by_cases e : K = n
                · exact .inl e
                · exact .inr (gon_none (.inr (by rw [hF, HDD.out]; exact fun h => hdk ⟨h, e⟩))))
              have hla := endsTo_length (decS Gn Gd Bn Bd An Ad En Ed) n K (by omega)
              have hlb := endsRow_length (decS Gn Gd Bn Bd An Ad En Ed) n K P
              obtain ⟨L, hL⟩ : ∃ L, endsTo (decS Gn Gd Bn Bd An Ad En Ed) n K ++ endsRow (decS Gn Gd Bn Bd An Ad En Ed) n K P = L := ⟨_, rfl⟩
              have hLl : L.length ≤ 2000 := by rw [← hL, List.length_append]; omega
              have HL := lid hL
              rw [hL] at hown3
              clear hla hlb hL
              obtain ⟨m, hm⟩ : ∃ m, L.length = m := ⟨_, rfl⟩
              have HM0 := lid hm
              rw [hm] at hown3 hLl
              clear hm
              have key : Hid ((d != 0) = true ∨ (d = 0 ∧ K = n)) := lid (by
                by_cases e : d = 0
                · exact .inr ⟨e, by by_cases e2 : K = n; exact e2; exact absurd ⟨e, e2⟩ hdk⟩
                · exact .inl (by simpa using e))
              clear hdk
              rcases key.out with hd1 | ⟨rfl, rfl⟩
              all_goals
                go_wp2_with (at_builtin; go_must (refine wpList_append_newG #[.int .i64 P, .int .i64 F, .int .i64 _, .int .i64 C] rfl _ _ 39 rfl w1.heap.size 45 (.agg #[.int .i64 0, .int .i64 0, .int .i64 0, .int .i64 0]) 4 32 info_end Try.underlying39 rfl (by decide) _ m _ hown3 rfl rfl rfl (by simp [Value.oneCell']) (by simp [maxLen]; omega) (by omega) hbi3.size ?_))
                intro v' w5 hown5 hg5
                have HT5 := lid (HT3.out.grown (by decide) hown3 hg5)
                have HU5 := lid (HU3.out.grown (by decide) hown3 hg5)
                have hb5 : Below w1.heap.size w1 w5 := (hbi3.alloc hbi3.size _).grown hg5 (by simp; have := hbi3.size; omega) (fun k hk => ownsRow_row hown3 k hk)
                go_wp2_with fail
                go_roundw
                case rel =>
                  refine ⟨P + 1, by omega, by go_num, ?_, HT5, lid ?_, hb5⟩
                  · rw [endsRow_succ, HEA.out, ← List.append_assoc, HL.out, List.length_append, HM0.out, evals_append]
                    exact hown5
                  · first
                      | (simpa using HU5.out; done)
                      | (split
                         · rename_i e
                           have := HU5.out
                           rw [if_pos e] at this
                           exact this
                         · rename_i e
                           have := HU5.out
                           rw [if_neg e] at this
                           exact this.congr (Nat.le_refl _) (fun q _ => part_other _ K P (HLE.out.resolve_left e) q))
                case measure => simp [intOf]; omega
        · obtain rfl : P = K + 1 := by omega
          go_wp2_with fail
          go_roundw
          case rel =>
            refine ⟨K + 1, M2, b2, M2, by omega, by go_num, lid (by have := HM2.out; omega), rfl, hbb2, by rw [endsTo_succ]; exact hown2, lid (fun h => ?_), hbi⟩
            have hT' := HU.out
            rw [if_neg (by omega)] at hT'
            exact hT'.congr (Nat.le_refl _) (fun q _ => (part_full _ K q).symm)
          case measure => simp [intOf]; omega
    · obtain rfl : K = n + 1 := by omega
      go_wp2_with fail
      go_ret2
      exact ⟨_, rfl, ⟨_, hown⟩, hw1.trans (hbr.mono hw1.size)⟩
end Go.Proofs.Ytmlkegopbdfiaaa
