/-
  The law SprtRisks returns true and makes new memory alone.
-/
import Derived.Test.YtmlkegopbdfiaaaSprWeight
namespace Go.Proofs.Ytmlkegopbdfiaaa
open Go.RowKit

theorem pow_bound {d k : Nat} (hd : d ≤ 20) (hk : k ≤ 11) (_h1 : 1 ≤ d) : d ^ k ≤ 204800000000000 :=
  Nat.le_trans (Nat.pow_le_pow_left hd k) (Nat.le_trans (Nat.pow_le_pow_right (by omega) hk) (by decide))
theorem mul_bound {a b c : Nat} (ha : a ≤ c) (hb : b ≤ 20) : a * b ≤ c * 20 := Nat.mul_le_mul ha hb

set_option maxRecDepth 100000 in
set_option maxHeartbeats 8000000 in
theorem LawRisks_any (gn gd bn bd an ad en ed x : Int) (w : World) (hx0 : 0 ≤ x) (hx1 : x ≤ 255) :
    Calls Try.prog 11 #[.agg (tv gn gd bn bd an ad en ed), .int .u8 x] w fun e w' => e = .returned (.bool true) ∧ Below w.heap.size w w' := by
  have hb0 : Below w.heap.size w (w.alloc (Obj.cells (tv gn gd bn bd an ad en ed) 25)) := ba _ _
  have hT0 := TC.new w gn gd bn bd an ad en ed 25
  obtain ⟨k, hk, hk1⟩ := u8_rem x 12 (by omega)
  rcases trial_01 gn gd bn bd an ad en ed with hE | hE
  · have HE := lid hE
    have HX : Hid (endsE gn gd bn bd an ad en ed k = 0) := lid (by unfold endsE; rw [if_pos hE, if_pos (by omega)])
    have HI : Hid (endsI gn gd bn bd an ad en ed k = endsTo (decN gn gd bn bd an ad en ed) k (k + 1)) := lid (by unfold endsI; rw [if_pos hE, if_pos (by omega)]; rfl)
    obtain ⟨Gn, Gd, Bn, Bd, An, Ad, En, Ed, rfl, rfl, rfl, rfl, rfl, rfl, rfl, rfl, ⟨g1, g2, g3⟩, ⟨b1, b2, b3⟩, ⟨a1, a2, a3⟩, ⟨e1, e2, e3⟩, -, -⟩ := trial_ok hE
    obtain ⟨L, hL⟩ : ∃ L, endsTo (decN (Gn : Int) Gd Bn Bd An Ad En Ed) k (k + 1) = L := ⟨_, rfl⟩
    have hLS : endsTo (decS Gn Gd Bn Bd An Ad En Ed) k (k + 1) = L := hL
    have hk11 : k ≤ 11 := by omega
    have HM : Hid (∀ e ∈ L, e.1 + e.2.1 ≤ k ∧ 1 ≤ e.2.2.2 ∧ e.2.2.2 ≤ 4096) := lid (by
      subst hL
      intro e he
      obtain ⟨h1, h2, h3, -, -⟩ := mem_ends _ he
      exact ⟨h1, h2, Nat.le_trans h3 (Nat.le_trans (Nat.pow_le_pow_right (by omega) hk11) (by decide))⟩)
    have HLEN : Hid (L.length ≤ 1000) := lid (by
      have := endsTo_length (decN (Gn : Int) Gd Bn Bd An Ad En Ed) k (k + 1) (by omega)
      rw [hL] at this
      omega)
    obtain ⟨Gy, hGy⟩ : ∃ y, Gd - Gn = y := ⟨_, rfl⟩
    obtain ⟨By, hBy⟩ : ∃ y, Bd - Bn = y := ⟨_, rfl⟩
    obtain ⟨Ey, hEy⟩ : ∃ y, Ed - En = y := ⟨_, rfl⟩
    obtain ⟨Ay, hAy⟩ : ∃ y, Ad - An = y := ⟨_, rfl⟩
    have hS1 := ends_sum (decS Gn Gd Bn Bd An Ad En Ed) Gn Gy k
    have hS2 := ends_sum (decS Gn Gd Bn Bd An Ad En Ed) Bn By k
    rw [show Gn + Gy = Gd by omega] at hS1
    rw [show Bn + By = Bd by omega] at hS2
    have hr1 := risk_good (an := An) (ad := Ad) (en := En) (ed := Ed) (Nat.le_of_lt g2) (Nat.le_of_lt b2) (by omega) k
    have hr2 := risk_bad (an := An) (ad := Ad) (en := En) (ed := Ed) (Nat.le_of_lt g2) (Nat.le_of_lt b2) (by omega) k
    have hp1 := pow_bound g3 hk11 (by omega)
    have hp2 := pow_bound b3 hk11 (by omega)
    have hd1 := dsum_le 2 Gn Gy k L
    have hd2 := dsum_le 1 Bn By k L
    rw [hGy, hEy, hLS] at hr1
    rw [hBy, hAy, hLS] at hr2
    rw [hLS] at hS1 hS2
    rw [hS1] at hd1
    rw [hS2] at hd2
    have HS1 : Hid (wsum Gn Gy k L ≤ 204800000000000) := lid (by rw [hS1]; exact hp1)
    have HS2 : Hid (wsum Bn By k L ≤ 204800000000000) := lid (by rw [hS2]; exact hp2)
    obtain ⟨GG, hGG⟩ : ∃ z, dsum 2 Gn Gy k L = z := ⟨_, rfl⟩
    obtain ⟨BB, hBB⟩ : ∃ z, dsum 1 Bn By k L = z := ⟨_, rfl⟩
    have HGG := lid hGG
    have HBB := lid hBB
    rw [hGG] at hd1 hr1
    rw [hBB] at hd2 hr2
    obtain ⟨PG, hPG⟩ : ∃ z, Gd ^ k = z := ⟨_, rfl⟩
    obtain ⟨PB, hPB⟩ : ∃ z, Bd ^ k = z := ⟨_, rfl⟩
    have HPG := lid hPG
    have HPB := lid hPB
    rw [hPG] at hd1 hr1 hp1
    rw [hPB] at hd2 hr2 hp2
    have HP1 : Hid (∀ q, q ≤ k → Gd ^ q ≤ 204800000000000) := lid (fun q hq => pow_bound g3 (by omega) (by omega))
    have HP2 : Hid (∀ q, q ≤ k → Bd ^ q ≤ 204800000000000) := lid (fun q hq => pow_bound b3 (by omega) (by omega))
    have hEi : (Ed : Int) - En = Ey := by omega
    have hAi : (Ad : Int) - An = Ay := by omega
    have g4 : Gn + Gy = Gd := by omega
    have b4 : Bn + By = Bd := by omega
    have g5 : 1 ≤ Gy := by omega
    have b5 : 1 ≤ By := by omega
    have HG4 := lid g4
    have HB4 := lid b4
    -- the products of the last row
    have m1 : Ey ≤ 20 := by omega
    have m2 : Ay ≤ 20 := by omega
    have n1 : An ≤ 20 := by omega
    have n2 : En ≤ 20 := by omega
    have hGGb : GG ≤ 204800000000000 := by omega
    have hBBb : BB ≤ 204800000000000 := by omega
    obtain ⟨q1, hq1⟩ : ∃ z, GG * Ey = z := ⟨_, rfl⟩
    obtain ⟨q2, hq2⟩ : ∃ z, q1 * Ad = z := ⟨_, rfl⟩
    obtain ⟨q3, hq3⟩ : ∃ z, PG * An = z := ⟨_, rfl⟩
    obtain ⟨q4, hq4⟩ : ∃ z, q3 * Ed = z := ⟨_, rfl⟩
    obtain ⟨s1, hs1⟩ : ∃ z, BB * Ay = z := ⟨_, rfl⟩
    obtain ⟨s2, hs2⟩ : ∃ z, s1 * Ed = z := ⟨_, rfl⟩
    obtain ⟨s3, hs3⟩ : ∃ z, PB * En = z := ⟨_, rfl⟩
    obtain ⟨s4, hs4⟩ : ∃ z, s3 * Ad = z := ⟨_, rfl⟩
    have c1 : q1 ≤ 4096000000000000 := by rw [← hq1]; exact mul_bound hGGb m1
    have c2 : q2 ≤ 81920000000000000 := by rw [← hq2]; exact mul_bound c1 a3
    have c3 : q3 ≤ 4096000000000000 := by rw [← hq3]; exact mul_bound hp1 n1
    have c4 : q4 ≤ 81920000000000000 := by rw [← hq4]; exact mul_bound c3 e3
    have d1 : s1 ≤ 4096000000000000 := by rw [← hs1]; exact mul_bound hBBb m2
    have d2 : s2 ≤ 81920000000000000 := by rw [← hs2]; exact mul_bound d1 e3
    have d3 : s3 ≤ 4096000000000000 := by rw [← hs3]; exact mul_bound hp2 n2
    have d4 : s4 ≤ 81920000000000000 := by rw [← hs4]; exact mul_bound d3 a3
    have t1 : q2 ≤ q4 := by rw [← hq4, ← hq3, ← hq2, ← hq1, Nat.mul_assoc, Nat.mul_assoc, Nat.mul_comm An Ed]; exact hr1
    have t2 : s2 ≤ s4 := by rw [← hs4, ← hs3, ← hs2, ← hs1, Nat.mul_assoc, Nat.mul_assoc]; exact hr2
    have i1 : (GG : Int) * Ey = q1 := by rw [← hq1]; simp
    have i2 : (q1 : Int) * Ad = q2 := by rw [← hq2]; simp
    have i3 : (PG : Int) * An = q3 := by rw [← hq3]; simp
    have i4 : (q3 : Int) * Ed = q4 := by rw [← hq4]; simp
    have j1 : (BB : Int) * Ay = s1 := by rw [← hs1]; simp
    have j2 : (s1 : Int) * Ed = s2 := by rw [← hs2]; simp
    have j3 : (PB : Int) * En = s3 := by rw [← hs3]; simp
    have j4 : (s3 : Int) * Ad = s4 := by rw [← hs4]; simp
    have FIN : Hid ((q2 : Int) ≤ q4 ∧ (s2 : Int) ≤ s4) := lid ⟨by omega, by omega⟩
    have I1 := lid i1
    have I2 := lid i2
    have I3 := lid i3
    have I4 := lid i4
    have J1 := lid j1
    have J2 := lid j2
    have J3 := lid j3
    have J4 := lid j4
    rw [hL] at HI
    clear hE hL hLS hS1 hS2 hr1 hr2 hd1 hd2 hGG hBB hPG hPB hGy hBy hEy hAy hq1 hq2 hq3 hq4 hs1 hs2 hs3 hs4 i1 i2 i3 i4 j1 j2 j3 j4 g4 b4
    go_enter Try.func11, Try.ntmps11
    go_wp2_with fail
    (with_reducible refine (Ends_any (Gn : Int) Gd Bn Bd An Ad En Ed k _).mono ?_); rintro e w1 ⟨ao, N1, C1, rfl, hl1, hs1, hb1⟩
    rw [HX.out]
    rw [HI.out] at hl1 hs1
    have HL1 := lid hl1
    have HSl := lid hs1
    have hw1 := hb0.trans (hb1.mono (by simp))
    have HT1 := lid (hT0.below hb1 (by simp))
    have hlt1 : w.heap.size < w1.heap.size := by have := hb1.size; rw [World.size_alloc] at this; omega
    clear hb1 hT0 hl1 hs1
    obtain ⟨t0, t1, t2, t3, t4, t5, t6, t7⟩ := HT1.out
    go_wp2_with fail
    (with_reducible refine (refCheck_any (Gn : Int) Gd Bn Bd An Ad En Ed _).mono ?_); rintro e w2 ⟨rfl, hb2⟩
    rw [HE.out]
    have HT2 := lid (HT1.out.below hb2 hlt1)
    have HSl2 := lid (HSl.out.below hb2)
    have hw2 := hw1.trans (hb2.mono hw1.size)
    have hlt2 : w.heap.size < w2.heap.size := by have := hb2.size; omega
    clear hb2 t0 t1 t2 t3 t4 t5 t6 t7
    obtain ⟨t0, t1, t2, t3, t4, t5, t6, t7⟩ := HT2.out
    go_wp2_with fail
    (with_reducible refine (weight_any L N1 C1 ao 2 Gn Gy Gd k _ HL1.out HSl2.out (by have := HL1.out; have := HLEN.out; omega) g1 g5 HG4.out g3 hk11 HM.out HS1.out).mono ?_); rintro e w3 ⟨rfl, hb3⟩
    rw [HGG.out]
    have HT3 := lid (HT2.out.below hb3 hlt2)
    have HSl3 := lid (HSl2.out.below hb3)
    have hw3 := hw2.trans (hb3.mono hw2.size)
    have hlt3 : w.heap.size < w3.heap.size := by have := hb3.size; omega
    clear hb3 t0 t1 t2 t3 t4 t5 t6 t7
    obtain ⟨t0, t1, t2, t3, t4, t5, t6, t7⟩ := HT3.out
    go_wp2_with fail
    (with_reducible refine (weight_any L N1 C1 ao 1 Bn By Bd k _ HL1.out HSl3.out (by have := HL1.out; have := HLEN.out; omega) b1 b5 HB4.out b3 hk11 HM.out HS2.out).mono ?_); rintro e w4 ⟨rfl, hb4⟩
    rw [HBB.out]
    have HT4 := lid (HT3.out.below hb4 hlt3)
    have hw4 := hw3.trans (hb4.mono hw3.size)
    have hlt4 : w.heap.size < w4.heap.size := by have := hb4.size; omega
    clear hb4 t0 t1 t2 t3 t4 t5 t6 t7
    go_wp2_with fail
    go_loopw [12, 13, 54] (fun ag abd i wr => ∃ q x1 x2 : Nat, q ≤ k ∧ i = .int .i64 q ∧ ag = .int .i64 x1 ∧ abd = .int .i64 x2 ∧ Hid (Gd ^ q = x1) ∧ Hid (Bd ^ q = x2) ∧ Below w4.heap.size w4 wr) (fun _ _ i _ => k - (intOf i).toNat)
    case atStart => exact ⟨0, 1, 1, Nat.zero_le _, rfl, rfl, rfl, lid (by simp), lid (by simp), Below.refl _ _⟩
    case round =>
      obtain ⟨q, x1, x2, hq, rfl, rfl, rfl, HX1, HX2, hb⟩ := hrel
      obtain ⟨t0, t1, t2, t3, t4, t5, t6, t7⟩ := HT4.out.below hb hlt4
      have hltr : w.heap.size < wr.heap.size := by have := hb.size; omega
      by_cases hqk : q < k
      · obtain ⟨y1, hy1⟩ : ∃ y1, Gd ^ (q + 1) = y1 := ⟨_, rfl⟩
        obtain ⟨y2, hy2⟩ : ∃ y2, Bd ^ (q + 1) = y2 := ⟨_, rfl⟩
        have f1 : (x1 : Int) * (Gd : Int) = (y1 : Int) := by rw [← HX1.out, ← hy1, Nat.pow_succ]; simp
        have f2 : (x2 : Int) * (Bd : Int) = (y2 : Int) := by rw [← HX2.out, ← hy2, Nat.pow_succ]; simp
        have f3 : y1 ≤ 204800000000000 := by rw [← hy1]; exact HP1.out _ (by omega)
        have f4 : y2 ≤ 204800000000000 := by rw [← hy2]; exact HP2.out _ (by omega)
        have f5 : IntKind.i64.wrap (y1 : Int) = (y1 : Int) := IntWalk.i64_in _ (by omega)
        have f6 : IntKind.i64.wrap (y2 : Int) = (y2 : Int) := IntWalk.i64_in _ (by omega)
        have HY1 := lid hy1
        have HY2 := lid hy2
        clear hy1 hy2
        go_wp2_with fail
        refine wp_region_seq (fun w' => ∃ s : Since wr.heap.size wr, w' = s.world) [(0, true), (1, true), (2, true), (3, true), (4, true), (5, true), (6, true), (7, true), (8, true), (9, true), (10, false), (11, false)] (by kernel_rfl) (by kernel_rfl) (by intro c d v a w h; cases d <;> exact h) (since (Below.refl _ _).drew) ?_
        repeat (first | (refine seq_skip (by rfl) (by rfl) ?_; simp only [Act.put, List.setIfInBounds_toArray, List.set_cons_succ, List.set_cons_zero]) | (refine seq_float (by rfl) (by rfl) (by rfl) ?_; intro K hK; go_big_quiet_op; go_big_quiet_on))
        refine seq_chain (by rfl) ?_
        intro K hK
        go_wp2_with fail
        refine hK.out _ _ (since (Below.refl _ _).drew) ?_
        clear hK K
        repeat (first | (refine seq_skip (by rfl) (by rfl) ?_; simp only [Act.put, List.setIfInBounds_toArray, List.set_cons_succ, List.set_cons_zero]) | (refine seq_float (by rfl) (by rfl) (by rfl) ?_; intro K hK; go_big_quiet_op; go_big_quiet_on))
        refine seq_chain (by rfl) ?_
        intro K hK
        go_wp2_with fail
        refine hK.out _ _ (since (Below.refl _ _).drew) ?_
        clear hK K
        repeat (first | (refine seq_skip (by rfl) (by rfl) ?_; simp only [Act.put, List.setIfInBounds_toArray, List.set_cons_succ, List.set_cons_zero]) | (refine seq_float (by rfl) (by rfl) (by rfl) ?_; intro K hK; go_big_quiet_op; go_big_quiet_on))
        refine seq_nil ?_
        clear f5 f6
        go_wp2_with fail
        go_roundw
        case rel => exact ⟨q + 1, y1, y2, by omega, by go_num, rfl, rfl, HY1, HY2, hb.drew⟩
        case measure => simp [intOf]; omega
      · obtain rfl : q = k := by omega
        obtain rfl : x1 = PG := HX1.out.symm.trans HPG.out
        obtain rfl : x2 = PB := HX2.out.symm.trans HPB.out
        obtain ⟨z1, z2⟩ := FIN.out
        have i1 := I1.out
        have i2 := I2.out
        have i3 := I3.out
        have i4 := I4.out
        have j1 := J1.out
        have j2 := J2.out
        have j3 := J3.out
        have j4 := J4.out
        go_wp2_with fail
        (with_reducible refine (awake_any _).mono ?_); rintro e w5 ⟨rfl, hb5⟩
        go_wp2_with fail
        go_ret
        exact ⟨rfl, hw4.trans ((hb.trans (hb5.mono hb.size)).mono hw4.size)⟩
  · have HX : Hid (endsE gn gd bn bd an ad en ed k = 1) := lid (by unfold endsE; rw [hE]; rfl)
    have HE := lid hE
    clear hE
    go_enter Try.func11, Try.ntmps11
    go_wp2_with fail
    (with_reducible refine (Ends_any gn gd bn bd an ad en ed k _).mono ?_); rintro e w1 ⟨a1, n1, c1, rfl, hl1, hs1, hb1⟩
    rw [HX.out]
    have hw1 := hb0.trans (hb1.mono (by simp))
    obtain ⟨t0, t1, t2, t3, t4, t5, t6, t7⟩ := hT0.below hb1 (by simp)
    clear hb1 hT0 hl1 hs1
    go_wp2_with fail
    (with_reducible refine (Check_any gn gd bn bd an ad en ed _).mono ?_); rintro e w2 ⟨rfl, hb2⟩
    rw [HE.out]
    have hw2 := hw1.trans (hb2.mono hw1.size)
    clear hb2
    go_wp2_with fail
    (with_reducible refine (awake_any _).mono ?_); rintro e w3 ⟨rfl, hb3⟩
    go_wp2_with fail
    go_ret
    exact ⟨rfl, hw2.trans (hb3.mono hw2.size)⟩
end Go.Proofs.Ytmlkegopbdfiaaa
