/-
  The law SprtMirror returns true and makes new memory alone.
-/
import Derived.Test.YtmlkegopbdfiaaaSprLawTwo
import Derived.Test.YtmlkegopbdfiaaaFork
namespace Go.Proofs.Ytmlkegopbdfiaaa
open Go.RowKit

section
variable {gn gd bn bd an ad en ed : Nat}
theorem mirror_above (hg : gn < gd) (p f : Nat) : aboveN bd (gd - gn) gd f p = belowN gn gd bd p f := by
  unfold aboveN belowN
  rw [show gd - (gd - gn) = gn by omega, Nat.mul_comm (gd - gn) bd, Nat.mul_comm gn bd, Nat.mul_comm]
theorem mirror_below (hb : bn < bd) (p f : Nat) : belowN (bd - bn) bd gd f p = aboveN gd bn bd p f := by
  unfold aboveN belowN
  rw [show bd - (bd - bn) = bn by omega, Nat.mul_comm gd (bd - bn), Nat.mul_comm gd bn, Nat.mul_comm]
theorem pos_above (hg : 0 < gd) (hb : 0 < bn) (hbd : bn < bd) (p f : Nat) : 0 < aboveN gd bn bd p f :=
  Nat.mul_pos (Nat.pow_pos (Nat.mul_pos hb hg)) (Nat.pow_pos (Nat.mul_pos (by omega) hg))
/-- The decisions of the mirrored trial. -/
theorem decS_mirror (hg : RatioN gn gd) (hb : RatioN bn bd) (h : an * ed + en * ad < ad * ed) (p f : Nat) :
    (decS gn gd bn bd an ad en ed p f = 0 ∧ decS (bd - bn) bd (gd - gn) gd en ed an ad f p = 0) ∨ (decS gn gd bn bd an ad en ed p f = 1 ∧ decS (bd - bn) bd (gd - gn) gd en ed an ad f p = 2) ∨
    (decS gn gd bn bd an ad en ed p f = 2 ∧ decS (bd - bn) bd (gd - gn) gd en ed an ad f p = 1) := by
  unfold decS
  rw [mirror_above hg.2.1, mirror_below hb.2.1]
  have hpos := pos_above (gd := gd) (bn := bn) (bd := bd) (by have := hg.2.1; omega) hb.1 hb.2.1 p f
  have k1 : (ed - en) * ad = ed * ad - en * ad := Nat.mul_sub_right_distrib ..
  have k2 : ed * (ad - an) = ed * ad - ed * an := Nat.mul_sub_left_distrib ..
  have k3 : (ad - an) * ed = ed * (ad - an) := Nat.mul_comm ..
  have k4 : ad * en = en * ad := Nat.mul_comm ..
  have k5 : ad * (ed - en) = (ed - en) * ad := Nat.mul_comm ..
  have k6 : an * ed = ed * an := Nat.mul_comm ..
  have k7 : ad * ed = ed * ad := Nat.mul_comm ..
  rw [k3, k4, k5, k6]
  have c12 : ed * an < (ed - en) * ad := by omega
  have c34 : en * ad < ed * (ad - an) := by omega
  generalize aboveN gd bn bd p f = A at *
  generalize belowN gn gd bd p f = B at *
  generalize (ed - en) * ad = c2 at *
  generalize ed * (ad - an) = c3 at *
  generalize ed * an = c1 at *
  generalize en * ad = c4 at *
  clear k1 k2 k3 k4 k5 k6 k7
  by_cases h1 : B * c2 ≤ A * c1
  · have h2 : ¬ A * c3 ≤ B * c4 := by
      intro h2
      have e1 : A * c1 < A * c2 := Nat.mul_lt_mul_of_pos_left c12 hpos
      have e2 : B < A := Nat.lt_of_mul_lt_mul_right (Nat.lt_of_le_of_lt h1 e1)
      have e3 : B * c4 ≤ A * c4 := Nat.mul_le_mul_right _ (Nat.le_of_lt e2)
      have e4 : A * c4 < A * c3 := Nat.mul_lt_mul_of_pos_left c34 hpos
      omega
    rw [if_pos h1, if_neg h2, if_pos h1]
    simp
  · rw [if_neg h1, if_neg h1]
    by_cases h2 : A * c3 ≤ B * c4
    · rw [if_pos h2, if_pos h2]
      simp
    · rw [if_neg h2, if_neg h2]
      simp
theorem mirror_ok (hg : RatioN gn gd) (hb : RatioN bn bd) (ha : RatioN an ad) (he : RatioN en ed) (hlt : bn * gd < gn * bd) (h : an * ed + en * ad < ad * ed) :
    trialE (bd - bn : Nat) bd (gd - gn : Nat) gd en ed an ad = 0 := by
  obtain ⟨g1, g2, g3⟩ := hg
  obtain ⟨b1, b2, b3⟩ := hb
  obtain ⟨a1, a2, a3⟩ := ha
  obtain ⟨e1, e2, e3⟩ := he
  have k : (gd - gn) * bd < (bd - bn) * gd := by
    rw [Nat.mul_sub_right_distrib, Nat.mul_sub_right_distrib, Nat.mul_comm bd gd]
    have : gn * bd ≤ gd * bd := Nat.mul_le_mul_right _ (Nat.le_of_lt g2)
    omega
  have m : en * ad + an * ed < ed * ad := by rw [Nat.mul_comm ed ad]; omega
  have k' : ((gd - gn : Nat) : Int) * bd < ((bd - bn : Nat) : Int) * gd := by exact_mod_cast k
  have m' : (en : Int) * ad + (an : Int) * ed < (ed : Int) * ad := by exact_mod_cast m
  unfold trialE ratioB
  rw [if_pos]
  simp only [Bool.and_eq_true, decide_eq_true_eq]
  refine ⟨⟨⟨⟨⟨?_, ?_⟩, ?_⟩, ?_⟩, k'⟩, m'⟩ <;> omega
end

theorem TC.set (w : World) (X : Nat) {u0 u1 u2 u3 u4 u5 u6 u7 : Value} (h0 : w.cell? ⟨X, 0, none⟩ = some u0) (h1 : w.cell? ⟨X, 1, none⟩ = some u1) (h2 : w.cell? ⟨X, 2, none⟩ = some u2) (h3 : w.cell? ⟨X, 3, none⟩ = some u3) (h4 : w.cell? ⟨X, 4, none⟩ = some u4) (h5 : w.cell? ⟨X, 5, none⟩ = some u5) (h6 : w.cell? ⟨X, 6, none⟩ = some u6) (h7 : w.cell? ⟨X, 7, none⟩ = some u7) (gn gd bn bd an ad en ed : Int) :
    TC ((((((((w.setCell ⟨X, 0, none⟩ (Value.int .i64 gn)).setCell ⟨X, 1, none⟩ (Value.int .i64 gd)).setCell ⟨X, 2, none⟩ (Value.int .i64 bn)).setCell ⟨X, 3, none⟩ (Value.int .i64 bd)).setCell ⟨X, 4, none⟩ (Value.int .i64 an)).setCell ⟨X, 5, none⟩ (Value.int .i64 ad)).setCell ⟨X, 6, none⟩ (Value.int .i64 en)).setCell ⟨X, 7, none⟩ (Value.int .i64 ed)) X gn gd bn bd an ad en ed := by
  refine ⟨?_, ?_, ?_, ?_, ?_, ?_, ?_, ?_⟩ <;> simp [World.cell?_setCell_other, World.cell?_setCell_same', h0, h1, h2, h3, h4, h5, h6, h7]

theorem cells_after {w w' : World} {cs : Array Value} {t : TypeId} (hb : Below (w.alloc (.cells cs t)).heap.size (w.alloc (.cells cs t)) w') (j : Nat) :
    w'.cell? ⟨w.heap.size, j, none⟩ = cs[j]? ∧ w'.frozen? ⟨w.heap.size, j, none⟩ = false := by
  refine ⟨(bc hb (by simp) j).trans (cell_new_at rfl _ _ _), (bf hb (by simp) j).trans ?_⟩
  rw [frozen?_alloc_cells]
  simp [World.frozen?]

set_option maxHeartbeats 1000000 in
theorem other_any (n d : Int) (m : Int) (w : World) (h : d - n = m) (_h0 : 0 ≤ m) (_h1 : m ≤ 20) :
    Calls Try.prog 19 #[.agg #[.int .i64 n, .int .i64 d]] w fun e w' => e = .returned (.agg #[.int .i64 m, .int .i64 d]) ∧ Below w.heap.size w w' := by
  go_enter Try.func19, Try.ntmps19
  go_wp2_with fail
  exact bodyPost_ret (v := .agg #[.int .i64 m, .int .i64 d]) (by simp [results, Try.results19, go_sem]) rfl ⟨rfl, ((Below.refl _ _).alloc (Nat.le_refl _) _).alloc (by simp) _⟩

set_option maxRecDepth 100000 in
set_option maxHeartbeats 4000000 in
theorem LawMirror_any (gn gd bn bd an ad en ed x y : Int) (w : World) (hx0 : 0 ≤ x) (hx1 : x ≤ 255) (hy0 : 0 ≤ y) (hy1 : y ≤ 255) :
    Calls Try.prog 8 #[.agg (tv gn gd bn bd an ad en ed), .int .u8 x, .int .u8 y] w fun e w' => e = .returned (.bool true) ∧ Below w.heap.size w w' := by
  have hb0 : Below w.heap.size w (w.alloc (Obj.cells (tv gn gd bn bd an ad en ed) 25)) := ba _ _
  have hT0 := TC.new w gn gd bn bd an ad en ed 25
  obtain ⟨p, hp, hp1⟩ := u8_rem x 41 (by omega)
  obtain ⟨f, hf, hf1⟩ := u8_rem y 41 (by omega)
  rcases trial_01 gn gd bn bd an ad en ed with hE | hE
  · have HE := lid hE
    obtain ⟨Gn, Gd, Bn, Bd, An, Ad, En, Ed, rfl, rfl, rfl, rfl, rfl, rfl, rfl, rfl, r1, r2, r3, r4, hlt, hle⟩ := trial_ok hE
    clear hE
    by_cases h40 : p + f ≤ 40
    · have h40a : decide ((40 : Int) < (p : Int) + f) = false := by simp; omega
      obtain ⟨Mg, hMg⟩ : ∃ z, Bd - Bn = z := ⟨_, rfl⟩
      obtain ⟨Mb, hMb⟩ : ∃ z, Gd - Gn = z := ⟨_, rfl⟩
      have HM := lid (decS_mirror (an := An) (ad := Ad) (en := En) (ed := Ed) r1 r2 hle p f)
      have HME := lid (mirror_ok r1 r2 r3 r4 hlt hle)
      rw [hMg, hMb] at HM HME
      have g2 := r1.2.1
      have g3 := r1.2.2
      have b2 := r2.2.1
      have b3 := r2.2.2
      have kg : (Bd : Int) - Bn = Mg := by omega
      have kb : (Gd : Int) - Gn = Mb := by omega
      have kg1 : (Mg : Int) ≤ 20 := by omega
      have kb1 : (Mb : Int) ≤ 20 := by omega
      have kg0 : (0 : Int) ≤ Mg := by omega
      have kb0 : (0 : Int) ≤ Mb := by omega
      clear r1 r2 r3 r4 hlt hle hMg hMb g2 g3 b2 b3
      have D1 := lid (dec_nat HE.out (p := p) (f := f) h40)
      have D2 := lid (dec_nat HME.out (p := f) (f := p) (by omega))
      generalize decS Gn Gd Bn Bd An Ad En Ed p f = d1 at *
      generalize decS Mg Bd Mb Gd En Ed An Ad f p = d2 at *
      go_enter Try.func8, Try.ntmps8
      go_wp2_with fail
      (with_reducible refine (refCheck_any (Gn : Int) Gd Bn Bd An Ad En Ed _).mono ?_); rintro e w1 ⟨rfl, hb1⟩
      rw [HE.out]
      have hw1 := hb0.trans (hb1.mono (by simp))
      have hT1 := hT0.below hb1 (by simp)
      have HT1 := lid hT1
      have hq1 : w.heap.size < w1.heap.size := by have := hb1.size; rw [World.size_alloc] at this; omega
      obtain ⟨t0, t1, t2, t3, t4, t5, t6, t7⟩ := hT1
      clear hb1 hT0
      go_wp2_with fail
      refine wp_region_ot (fun w' => ∃ s : Since w1.heap.size w1, w' = s.world) (.seq [(0, true), (1, true), (2, true), (4, true), (5, true), (6, true), (8, true), (9, true), (10, true), (11, true)] (.two 3 13 (.two 7 13 (.seq [(12, true), (13, false), (14, false)] .done) (.seq [(7, false), (12, true), (14, false)] .done)) (.seq [(3, false), (7, false), (12, true), (14, false)] .done))) (by kernel_rfl) (by kernel_rfl) (by intro c d v a w h; cases d <;> exact h) (since (Below.refl _ _).drew) (ot_seq ?_)
      repeat (first | (refine seq_skip (by rfl) (by rfl) ?_; simp only [Act.put, List.setIfInBounds_toArray, List.set_cons_succ, List.set_cons_zero]) | (refine seq_float (by rfl) (by rfl) (by rfl) ?_; intro K hK; go_big_quiet_op; go_big_quiet_on))
      refine seq_nil (ot_two ?_ ?_)
      · refine seq_chain (by rfl) ?_
        intro K hK
        go_wp2_with fail
        (with_reducible refine (other_any (Bn : Int) Bd Mg _ kg kg0 kg1).mono ?_); rintro e w2 ⟨rfl, hb2⟩
        have hb12 : Below w1.heap.size w1 w2 := (Below.refl _ _).drew.trans hb2
        go_wp2_with fail
        refine hK.out _ _ (since hb12) (seq_nil (ot_two ?_ ?_))
        · clear hK K
          refine seq_chain (by rfl) ?_
          intro K hK
          go_wp2_with fail
          (with_reducible refine (other_any (Gn : Int) Gd Mb _ kb kb0 kb1).mono ?_); rintro e w3 ⟨rfl, hb3⟩
          have hb13 := hb12.trans (hb3.mono hb12.size)
          go_wp2_with fail
          refine hK.out _ _ (since hb13) (seq_nil (ot_seq ?_))
          clear hK K
          repeat (first | (refine seq_skip (by rfl) (by rfl) ?_; simp only [Act.put, List.setIfInBounds_toArray, List.set_cons_succ, List.set_cons_zero]) | (refine seq_float (by rfl) (by rfl) (by rfl) ?_; intro K hK; go_big_quiet_op; go_big_quiet_on))
          refine seq_chain (by rfl) ?_
          intro K hK
          go_wp2_with fail
          refine hK.out _ _ (since (hb13.alloc hb13.size _)) ?_
          clear hK K
          repeat (first | (refine seq_skip (by rfl) (by rfl) ?_; simp only [Act.put, List.setIfInBounds_toArray, List.set_cons_succ, List.set_cons_zero]) | (refine seq_float (by rfl) (by rfl) (by rfl) ?_; intro K hK; go_big_quiet_op; go_big_quiet_on))
          refine seq_chain (by rfl) ?_
          intro K hK
          go_wp2_with fail
          obtain ⟨W4, hW4⟩ : ∃ W4, w3.alloc (Obj.cells (tv (Mg : Int) Bd Mb Gd En Ed An Ad) 25) = W4 := ⟨_, rfl⟩
          have hb14 : Below w1.heap.size w1 W4 := by rw [← hW4]; exact hb13.alloc hb13.size _
          have hTX : TC W4 w3.heap.size (Mg : Int) Bd Mb Gd En Ed An Ad := by rw [← hW4]; exact TC.new _ _ _ _ _ _ _ _ _ _
          have hX : w3.heap.size < W4.heap.size := by rw [← hW4]; simp
          rw [hW4]
          clear hW4
          refine hK.out _ _ (since hb14) (seq_nil (ot_done ?_))
          clear hK K
          clear t0 t1 t2 t3 t4 t5 t6 t7
          obtain ⟨t0, t1, t2, t3, t4, t5, t6, t7⟩ := HT1.out.below hb14 hq1
          go_wp2_with fail
          (with_reducible refine (Decide_any (Gn : Int) Gd Bn Bd An Ad En Ed p f _).mono ?_); rintro e w5 ⟨rfl, hb5⟩
          rw [D1.out.1, D1.out.2]
          have hb15 := hb14.trans (hb5.mono hb14.size)
          clear t0 t1 t2 t3 t4 t5 t6 t7
          obtain ⟨m0, m1, m2, m3, m4, m5, m6, m7⟩ := hTX.below hb5 hX
          go_wp2_with fail
          (with_reducible refine (Decide_any (Mg : Int) Bd Mb Gd En Ed An Ad f p _).mono ?_); rintro e w6 ⟨rfl, hb6⟩
          rw [D2.out.1, D2.out.2]
          have hb16 := hb15.trans (hb6.mono hb15.size)
          clear m0 m1 m2 m3 m4 m5 m6 m7 hb5 hb6 hb15 hb14 hTX D1 D2
          rcases HM.out with ⟨rfl, rfl⟩ | ⟨rfl, rfl⟩ | ⟨rfl, rfl⟩
          all_goals
            clear HM
            go_wp2_with fail
            (with_reducible refine (awake_any _).mono ?_); rintro e w7 ⟨rfl, hb7⟩
            go_wp2_with fail
            go_ret
            exact ⟨rfl, hw1.trans ((hb16.trans (hb7.mono hb16.size)).mono hw1.size)⟩
        · clear hK K
          refine seq_chain (by rfl) ?_
          intro K hK
          go_wp2_with fail
          refine hK.out _ _ (since (hb12.alloc hb12.size _)) (seq_nil (ot_seq ?_))
          clear hK K
          refine seq_chain (by rfl) ?_
          intro K hK
          go_wp2_with fail
          (with_reducible refine (other_any (Gn : Int) Gd Mb _ kb kb0 kb1).mono ?_); rintro e w3 ⟨rfl, hb3⟩
          have hb13 := (hb12.alloc hb12.size (Obj.cells #[Value.int .i64 0, Value.int .i64 0, Value.int .i64 0, Value.int .i64 0, Value.int .i64 0, Value.int .i64 0, Value.int .i64 0, Value.int .i64 0] 25)).trans (hb3.mono (by have := hb12.size; simp <;> omega))
          have hXw3 : w2.heap.size < w3.heap.size := by have := hb3.size; rw [World.size_alloc] at this; omega
          have hXle := hb12.size
          have c0 := (cells_after hb3 0).1
          have z0 := (cells_after hb3 0).2
          have c1 := (cells_after hb3 1).1
          have z1 := (cells_after hb3 1).2
          have c2 := (cells_after hb3 2).1
          have z2 := (cells_after hb3 2).2
          have c3 := (cells_after hb3 3).1
          have z3 := (cells_after hb3 3).2
          have c4 := (cells_after hb3 4).1
          have z4 := (cells_after hb3 4).2
          have c5 := (cells_after hb3 5).1
          have z5 := (cells_after hb3 5).2
          have c6 := (cells_after hb3 6).1
          have z6 := (cells_after hb3 6).2
          have c7 := (cells_after hb3 7).1
          have z7 := (cells_after hb3 7).2
          simp only [List.getElem?_toArray, List.getElem?_cons_zero, List.getElem?_cons_succ] at c0 c1 c2 c3 c4 c5 c6 c7
          go_wp2_with fail
          refine hK.out _ _ (since hb13) ?_
          clear hK K
          repeat (first | (refine seq_skip (by rfl) (by rfl) ?_; simp only [Act.put, List.setIfInBounds_toArray, List.set_cons_succ, List.set_cons_zero]) | (refine seq_float (by rfl) (by rfl) (by rfl) ?_; intro K hK; go_big_quiet_op; go_big_quiet_on))
          refine seq_chain (by rfl) ?_
          intro K hK
          go_wp2_with fail
          obtain ⟨W4, hW4⟩ : ∃ W4, ((((((((w3.setCell ⟨w2.heap.size, 0, none⟩ (Value.int .i64 (Mg : Int))).setCell ⟨w2.heap.size, 1, none⟩ (Value.int .i64 (Bd : Int))).setCell ⟨w2.heap.size, 2, none⟩ (Value.int .i64 (Mb : Int))).setCell ⟨w2.heap.size, 3, none⟩ (Value.int .i64 (Gd : Int))).setCell ⟨w2.heap.size, 4, none⟩ (Value.int .i64 (En : Int))).setCell ⟨w2.heap.size, 5, none⟩ (Value.int .i64 (Ed : Int))).setCell ⟨w2.heap.size, 6, none⟩ (Value.int .i64 (An : Int))).setCell ⟨w2.heap.size, 7, none⟩ (Value.int .i64 (Ad : Int))) = W4 := ⟨_, rfl⟩
          have hb14 : Below w1.heap.size w1 W4 := by rw [← hW4]; exact ((((((((hb13.setCell (p := ⟨w2.heap.size, 0, none⟩) (hXle) _).setCell (p := ⟨w2.heap.size, 1, none⟩) (hXle) _).setCell (p := ⟨w2.heap.size, 2, none⟩) (hXle) _).setCell (p := ⟨w2.heap.size, 3, none⟩) (hXle) _).setCell (p := ⟨w2.heap.size, 4, none⟩) (hXle) _).setCell (p := ⟨w2.heap.size, 5, none⟩) (hXle) _).setCell (p := ⟨w2.heap.size, 6, none⟩) (hXle) _).setCell (p := ⟨w2.heap.size, 7, none⟩) (hXle) _)
          have hTX : TC W4 w2.heap.size (Mg : Int) Bd Mb Gd En Ed An Ad := by rw [← hW4]; exact TC.set w3 w2.heap.size c0 c1 c2 c3 c4 c5 c6 c7 _ _ _ _ _ _ _ _
          have hX : w2.heap.size < W4.heap.size := by rw [← hW4]; simp only [World.size_setCell]; exact hXw3
          clear c0 c1 c2 c3 c4 c5 c6 c7 z0 z1 z2 z3 z4 z5 z6 z7
          rw [hW4]
          clear hW4
          refine hK.out _ _ (since hb14) (seq_nil (ot_done ?_))
          clear hK K
          clear t0 t1 t2 t3 t4 t5 t6 t7
          obtain ⟨t0, t1, t2, t3, t4, t5, t6, t7⟩ := HT1.out.below hb14 hq1
          go_wp2_with fail
          (with_reducible refine (Decide_any (Gn : Int) Gd Bn Bd An Ad En Ed p f _).mono ?_); rintro e w5 ⟨rfl, hb5⟩
          rw [D1.out.1, D1.out.2]
          have hb15 := hb14.trans (hb5.mono hb14.size)
          clear t0 t1 t2 t3 t4 t5 t6 t7
          obtain ⟨m0, m1, m2, m3, m4, m5, m6, m7⟩ := hTX.below hb5 hX
          go_wp2_with fail
          (with_reducible refine (Decide_any (Mg : Int) Bd Mb Gd En Ed An Ad f p _).mono ?_); rintro e w6 ⟨rfl, hb6⟩
          rw [D2.out.1, D2.out.2]
          have hb16 := hb15.trans (hb6.mono hb15.size)
          clear m0 m1 m2 m3 m4 m5 m6 m7 hb5 hb6 hb15 hb14 hTX D1 D2
          rcases HM.out with ⟨rfl, rfl⟩ | ⟨rfl, rfl⟩ | ⟨rfl, rfl⟩
          all_goals
            clear HM
            go_wp2_with fail
            (with_reducible refine (awake_any _).mono ?_); rintro e w7 ⟨rfl, hb7⟩
            go_wp2_with fail
            go_ret
            exact ⟨rfl, hw1.trans ((hb16.trans (hb7.mono hb16.size)).mono hw1.size)⟩
      · refine seq_chain (by rfl) ?_
        intro K hK
        go_wp2_with fail
        refine hK.out _ _ (since ((Below.refl _ _).drew.alloc (Nat.le_refl _) _)) (seq_nil (ot_seq ?_))
        clear hK K
        refine seq_chain (by rfl) ?_
        intro K hK
        go_wp2_with fail
        (with_reducible refine (other_any (Bn : Int) Bd Mg _ kg kg0 kg1).mono ?_); rintro e w2 ⟨rfl, hb2⟩
        have hb12 : Below w1.heap.size w1 w2 := ((Below.refl w1.heap.size w1).drew.alloc (Nat.le_refl _) (Obj.cells #[Value.int .i64 0, Value.int .i64 0, Value.int .i64 0, Value.int .i64 0, Value.int .i64 0, Value.int .i64 0, Value.int .i64 0, Value.int .i64 0] 25)).trans (hb2.mono (by simp))
        go_wp2_with fail
        refine hK.out _ _ (since hb12) ?_
        clear hK K
        repeat (first | (refine seq_skip (by rfl) (by rfl) ?_; simp only [Act.put, List.setIfInBounds_toArray, List.set_cons_succ, List.set_cons_zero]) | (refine seq_float (by rfl) (by rfl) (by rfl) ?_; intro K hK; go_big_quiet_op; go_big_quiet_on))
        refine seq_chain (by rfl) ?_
        intro K hK
        go_wp2_with fail
        (with_reducible refine (other_any (Gn : Int) Gd Mb _ kb kb0 kb1).mono ?_); rintro e w3 ⟨rfl, hb3⟩
        have hb13 := hb12.trans (hb3.mono hb12.size)
        have hb23 : Below (w1.alloc (Obj.cells #[Value.int .i64 0, Value.int .i64 0, Value.int .i64 0, Value.int .i64 0, Value.int .i64 0, Value.int .i64 0, Value.int .i64 0, Value.int .i64 0] 25)).heap.size (w1.alloc (Obj.cells #[Value.int .i64 0, Value.int .i64 0, Value.int .i64 0, Value.int .i64 0, Value.int .i64 0, Value.int .i64 0, Value.int .i64 0, Value.int .i64 0] 25)) w3 := ((Below.refl _ _).drew.trans hb2).trans (hb3.mono hb2.size)
        have hXw3 : w1.heap.size < w3.heap.size := by have := hb23.size; simp at this; omega
        have hXle := Nat.le_refl w1.heap.size
        have c0 := (cells_after hb23 0).1
        have z0 := (cells_after hb23 0).2
        have c1 := (cells_after hb23 1).1
        have z1 := (cells_after hb23 1).2
        have c2 := (cells_after hb23 2).1
        have z2 := (cells_after hb23 2).2
        have c3 := (cells_after hb23 3).1
        have z3 := (cells_after hb23 3).2
        have c4 := (cells_after hb23 4).1
        have z4 := (cells_after hb23 4).2
        have c5 := (cells_after hb23 5).1
        have z5 := (cells_after hb23 5).2
        have c6 := (cells_after hb23 6).1
        have z6 := (cells_after hb23 6).2
        have c7 := (cells_after hb23 7).1
        have z7 := (cells_after hb23 7).2
        simp only [List.getElem?_toArray, List.getElem?_cons_zero, List.getElem?_cons_succ] at c0 c1 c2 c3 c4 c5 c6 c7
        go_wp2_with fail
        refine hK.out _ _ (since hb13) ?_
        clear hK K
        repeat (first | (refine seq_skip (by rfl) (by rfl) ?_; simp only [Act.put, List.setIfInBounds_toArray, List.set_cons_succ, List.set_cons_zero]) | (refine seq_float (by rfl) (by rfl) (by rfl) ?_; intro K hK; go_big_quiet_op; go_big_quiet_on))
        refine seq_chain (by rfl) ?_
        intro K hK
        go_wp2_with fail
        obtain ⟨W4, hW4⟩ : ∃ W4, ((((((((w3.setCell ⟨w1.heap.size, 0, none⟩ (Value.int .i64 (Mg : Int))).setCell ⟨w1.heap.size, 1, none⟩ (Value.int .i64 (Bd : Int))).setCell ⟨w1.heap.size, 2, none⟩ (Value.int .i64 (Mb : Int))).setCell ⟨w1.heap.size, 3, none⟩ (Value.int .i64 (Gd : Int))).setCell ⟨w1.heap.size, 4, none⟩ (Value.int .i64 (En : Int))).setCell ⟨w1.heap.size, 5, none⟩ (Value.int .i64 (Ed : Int))).setCell ⟨w1.heap.size, 6, none⟩ (Value.int .i64 (An : Int))).setCell ⟨w1.heap.size, 7, none⟩ (Value.int .i64 (Ad : Int))) = W4 := ⟨_, rfl⟩
        have hb14 : Below w1.heap.size w1 W4 := by rw [← hW4]; exact ((((((((hb13.setCell (p := ⟨w1.heap.size, 0, none⟩) (hXle) _).setCell (p := ⟨w1.heap.size, 1, none⟩) (hXle) _).setCell (p := ⟨w1.heap.size, 2, none⟩) (hXle) _).setCell (p := ⟨w1.heap.size, 3, none⟩) (hXle) _).setCell (p := ⟨w1.heap.size, 4, none⟩) (hXle) _).setCell (p := ⟨w1.heap.size, 5, none⟩) (hXle) _).setCell (p := ⟨w1.heap.size, 6, none⟩) (hXle) _).setCell (p := ⟨w1.heap.size, 7, none⟩) (hXle) _)
        have hTX : TC W4 w1.heap.size (Mg : Int) Bd Mb Gd En Ed An Ad := by rw [← hW4]; exact TC.set w3 w1.heap.size c0 c1 c2 c3 c4 c5 c6 c7 _ _ _ _ _ _ _ _
        have hX : w1.heap.size < W4.heap.size := by rw [← hW4]; simp only [World.size_setCell]; exact hXw3
        clear c0 c1 c2 c3 c4 c5 c6 c7 z0 z1 z2 z3 z4 z5 z6 z7
        rw [hW4]
        clear hW4
        refine hK.out _ _ (since hb14) (seq_nil (ot_done ?_))
        clear hK K
        clear t0 t1 t2 t3 t4 t5 t6 t7
        obtain ⟨t0, t1, t2, t3, t4, t5, t6, t7⟩ := HT1.out.below hb14 hq1
        go_wp2_with fail
        (with_reducible refine (Decide_any (Gn : Int) Gd Bn Bd An Ad En Ed p f _).mono ?_); rintro e w5 ⟨rfl, hb5⟩
        rw [D1.out.1, D1.out.2]
        have hb15 := hb14.trans (hb5.mono hb14.size)
        clear t0 t1 t2 t3 t4 t5 t6 t7
        obtain ⟨m0, m1, m2, m3, m4, m5, m6, m7⟩ := hTX.below hb5 hX
        go_wp2_with fail
        (with_reducible refine (Decide_any (Mg : Int) Bd Mb Gd En Ed An Ad f p _).mono ?_); rintro e w6 ⟨rfl, hb6⟩
        rw [D2.out.1, D2.out.2]
        have hb16 := hb15.trans (hb6.mono hb15.size)
        clear m0 m1 m2 m3 m4 m5 m6 m7 hb5 hb6 hb15 hb14 hTX D1 D2
        rcases HM.out with ⟨rfl, rfl⟩ | ⟨rfl, rfl⟩ | ⟨rfl, rfl⟩
        all_goals
          clear HM
          go_wp2_with fail
          (with_reducible refine (awake_any _).mono ?_); rintro e w7 ⟨rfl, hb7⟩
          go_wp2_with fail
          go_ret
          exact ⟨rfl, hw1.trans ((hb16.trans (hb7.mono hb16.size)).mono hw1.size)⟩
    · have h40a : decide ((40 : Int) < (p : Int) + f) = true := by simp; omega
      have h40b : 40 < (p : Int) + f := by omega
      clear r1 r2 r3 r4 hlt hle
      go_enter Try.func8, Try.ntmps8
      go_wp2_with fail
      (with_reducible refine (refCheck_any (Gn : Int) Gd Bn Bd An Ad En Ed _).mono ?_); rintro e w1 ⟨rfl, hb1⟩
      rw [HE.out]
      have hw1 := hb0.trans (hb1.mono (by simp))
      clear hb1 hT0
      go_wp2_with fail
      (with_reducible refine (awake_any _).mono ?_); rintro e w7 ⟨rfl, hb7⟩
      go_wp2_with fail
      go_ret
      exact ⟨rfl, hw1.trans (hb7.mono hw1.size)⟩
  · have HE := lid hE
    clear hE
    go_enter Try.func8, Try.ntmps8
    go_wp2_with fail
    (with_reducible refine (refCheck_any gn gd bn bd an ad en ed _).mono ?_); rintro e w1 ⟨rfl, hb1⟩
    rw [HE.out]
    have hw1 := hb0.trans (hb1.mono (by simp))
    clear hb1 hT0
    go_wp2_with fail
    (with_reducible refine (awake_any _).mono ?_); rintro e w7 ⟨rfl, hb7⟩
    go_wp2_with fail
    go_ret
    exact ⟨rfl, hw1.trans (hb7.mono hw1.size)⟩
end Go.Proofs.Ytmlkegopbdfiaaa
