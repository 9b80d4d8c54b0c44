/-
  validRatio and Check of sprt, and the reference's.
-/
import Derived.Test.YtmlkegopbdfiaaaRows
import Derived.Test.YtmlkegopbdfiaaaSprLong
import Derived.Test.YtmlkegopbdfiaaaSl
import Derived.Test.YtmlkegopbdfiaaaRegionL
import Derived.Test.YtmlkegopbdfiaaaCells
namespace Go.Proofs.Ytmlkegopbdfiaaa
open Go.RowKit

def ratioB (n d : Int) : Bool := decide (1 ≤ d ∧ d ≤ 20 ∧ 1 ≤ n ∧ n < d)
theorem ratioB_bounds {n d : Int} (h : ratioB n d = true) : 1 ≤ d ∧ d ≤ 20 ∧ 1 ≤ n ∧ n < d := by simpa [ratioB] using h
theorem mul_bounds {a b : Int} (ha : 0 ≤ a) (ha' : a ≤ 20) (hb : 0 ≤ b) (hb' : b ≤ 20) : 0 ≤ a * b ∧ a * b ≤ 400 :=
  ⟨Int.mul_nonneg ha hb, by have := Int.mul_le_mul ha' hb' hb (by omega); omega⟩

set_option maxHeartbeats 1000000 in
theorem validRatio_any (n d : Int) (w : World) :
    Calls Try.prog 24 #[.agg #[.int .i64 n, .int .i64 d]] w fun e w' => e = .returned (.bool (ratioB n d)) ∧ Below w.heap.size w w' := by
  go_enter Try.func24, Try.ntmps24
  go_wp2
  all_goals
    go_ret
    refine ⟨ret_bool ?_, (Below.refl _ _).alloc (Nat.le_refl _) _⟩
    unfold ratioB
    rw [Bool.eq_iff_iff]
    simp only [decide_eq_true_eq, Bool.false_eq_true, false_iff]
    omega
set_option maxHeartbeats 1000000 in
theorem refRatio_any (n d : Int) (w : World) :
    Calls Try.prog 25 #[.agg #[.int .i64 n, .int .i64 d]] w fun e w' => e = .returned (.bool (ratioB n d)) ∧ Below w.heap.size w w' := by
  go_enter Try.func25, Try.ntmps25
  go_wp2
  all_goals
    go_ret
    refine ⟨ret_bool ?_, (Below.refl _ _).alloc (Nat.le_refl _) _⟩
    unfold ratioB
    rw [Bool.eq_iff_iff]
    simp only [decide_eq_true_eq, Bool.false_eq_true, false_iff]
    omega

/-- A trial: good, bad, alpha, beta, each a ratio. -/
abbrev tv (gn gd bn bd an ad en ed : Int) : Array Value := #[.int .i64 gn, .int .i64 gd, .int .i64 bn, .int .i64 bd, .int .i64 an, .int .i64 ad, .int .i64 en, .int .i64 ed]
/-- Why a trial is not valid. -/
def trialE (gn gd bn bd an ad en ed : Int) : Int :=
  if ratioB gn gd && ratioB bn bd && ratioB an ad && ratioB en ed && decide (bn * gd < gn * bd) && decide (an * ed + en * ad < ad * ed) then 0 else 1

/-- A trial in a box. -/
def TC (w : World) (n : Nat) (gn gd bn bd an ad en ed : Int) : Prop :=
  w.cell? ⟨n, 0, none⟩ = some (.int .i64 gn) ∧ w.cell? ⟨n, 1, none⟩ = some (.int .i64 gd) ∧ w.cell? ⟨n, 2, none⟩ = some (.int .i64 bn) ∧ w.cell? ⟨n, 3, none⟩ = some (.int .i64 bd) ∧ w.cell? ⟨n, 4, none⟩ = some (.int .i64 an) ∧ w.cell? ⟨n, 5, none⟩ = some (.int .i64 ad) ∧ w.cell? ⟨n, 6, none⟩ = some (.int .i64 en) ∧ w.cell? ⟨n, 7, none⟩ = some (.int .i64 ed)
theorem TC.new (w : World) (gn gd bn bd an ad en ed : Int) (t : TypeId) : TC (w.alloc (.cells (tv gn gd bn bd an ad en ed) t)) w.heap.size gn gd bn bd an ad en ed := by
  refine ⟨?_, ?_, ?_, ?_, ?_, ?_, ?_, ?_⟩ <;> rw [cell_new_at rfl] <;> rfl
theorem TC.below {w w' : World} {B n : Nat} {gn gd bn bd an ad en ed : Int} (h : TC w n gn gd bn bd an ad en ed) (hb : Below B w w') (hn : n < B) : TC w' n gn gd bn bd an ad en ed :=
  ⟨(bc hb hn 0).trans h.1, (bc hb hn 1).trans h.2.1, (bc hb hn 2).trans h.2.2.1, (bc hb hn 3).trans h.2.2.2.1, (bc hb hn 4).trans h.2.2.2.2.1, (bc hb hn 5).trans h.2.2.2.2.2.1, (bc hb hn 6).trans h.2.2.2.2.2.2.1, (bc hb hn 7).trans h.2.2.2.2.2.2.2⟩

set_option maxRecDepth 100000 in
set_option maxHeartbeats 8000000 in
theorem Check_any (gn gd bn bd an ad en ed : Int) (w : World) :
    Calls Try.prog 12 #[.agg (tv gn gd bn bd an ad en ed)] w fun e w' => e = .returned (.int .i64 (trialE gn gd bn bd an ad en ed)) ∧ Below w.heap.size w w' := by
  have hb0 : Below w.heap.size w (w.alloc (Obj.cells (tv gn gd bn bd an ad en ed) 25)) := ba _ _
  have hT0 := TC.new w gn gd bn bd an ad en ed 25
  cases hg : ratioB gn gd with
  | false =>
    have HF : Hid (trialE gn gd bn bd an ad en ed = 1) := lid (by unfold trialE; rw [hg]; rfl)
    have Hg := lid hg
    clear hg
    go_enter Try.func12, Try.ntmps12
    go_wp2_with fail
    (with_reducible refine (validRatio_any gn gd _).mono ?_); rintro e w1 ⟨rfl, hb1⟩
    rw [Hg.out]
    have hT := lid (hT0.below hb1 (by simp))
    have hw1 := hb0.trans (hb1.mono (by simp))
    have hq : w.heap.size < w1.heap.size := by have := hb1.size; rw [World.size_alloc] at this; omega
    obtain ⟨t0, t1, t2, t3, t4, t5, t6, t7⟩ := hT.out
    clear hb1
    go_wp2_with fail
    go_ret
    exact ⟨ret_i64 HF.out.symm, hw1⟩
  | true =>
    have Hg := lid hg
    obtain ⟨q01, q02, q03, q04⟩ := ratioB_bounds hg
    clear hg
    cases hb : ratioB bn bd with
    | false =>
      have HF : Hid (trialE gn gd bn bd an ad en ed = 1) := lid (by unfold trialE; rw [Hg.out, hb]; rfl)
      have Hb := lid hb
      clear hb
      go_enter Try.func12, Try.ntmps12
      go_wp2_with fail
      (with_reducible refine (validRatio_any gn gd _).mono ?_); rintro e w1 ⟨rfl, hb1⟩
      rw [Hg.out]
      have hT := lid (hT0.below hb1 (by simp))
      have hw1 := hb0.trans (hb1.mono (by simp))
      have hq : w.heap.size < w1.heap.size := by have := hb1.size; rw [World.size_alloc] at this; omega
      obtain ⟨t0, t1, t2, t3, t4, t5, t6, t7⟩ := hT.out
      clear hb1
      go_wp2_with fail
      (with_reducible refine (validRatio_any bn bd _).mono ?_); rintro e w2 ⟨rfl, hb2⟩
      rw [Hb.out]
      replace hT := lid (hT.out.below hb2 hq)
      have hw2 := hw1.trans (hb2.mono hw1.size)
      replace hq : w.heap.size < w2.heap.size := by have := hb2.size; omega
      clear t0 t1 t2 t3 t4 t5 t6 t7
      obtain ⟨t0, t1, t2, t3, t4, t5, t6, t7⟩ := hT.out
      clear hb2
      go_wp2_with fail
      go_ret
      exact ⟨ret_i64 HF.out.symm, hw2⟩
    | true =>
      have Hb := lid hb
      obtain ⟨q11, q12, q13, q14⟩ := ratioB_bounds hb
      clear hb
      cases ha : ratioB an ad with
      | false =>
        have HF : Hid (trialE gn gd bn bd an ad en ed = 1) := lid (by unfold trialE; rw [Hg.out, Hb.out, ha]; rfl)
        have Ha := lid ha
        clear ha
        go_enter Try.func12, Try.ntmps12
        go_wp2_with fail
        (with_reducible refine (validRatio_any gn gd _).mono ?_); rintro e w1 ⟨rfl, hb1⟩
        rw [Hg.out]
        have hT := lid (hT0.below hb1 (by simp))
        have hw1 := hb0.trans (hb1.mono (by simp))
        have hq : w.heap.size < w1.heap.size := by have := hb1.size; rw [World.size_alloc] at this; omega
        obtain ⟨t0, t1, t2, t3, t4, t5, t6, t7⟩ := hT.out
        clear hb1
        go_wp2_with fail
        (with_reducible refine (validRatio_any bn bd _).mono ?_); rintro e w2 ⟨rfl, hb2⟩
        rw [Hb.out]
        replace hT := lid (hT.out.below hb2 hq)
        have hw2 := hw1.trans (hb2.mono hw1.size)
        replace hq : w.heap.size < w2.heap.size := by have := hb2.size; omega
        clear t0 t1 t2 t3 t4 t5 t6 t7
        obtain ⟨t0, t1, t2, t3, t4, t5, t6, t7⟩ := hT.out
        clear hb2
        go_wp2_with fail
        (with_reducible refine (validRatio_any an ad _).mono ?_); rintro e w3 ⟨rfl, hb3⟩
        rw [Ha.out]
        replace hT := lid (hT.out.below hb3 hq)
        have hw3 := hw2.trans (hb3.mono hw2.size)
        replace hq : w.heap.size < w3.heap.size := by have := hb3.size; omega
        clear t0 t1 t2 t3 t4 t5 t6 t7
        obtain ⟨t0, t1, t2, t3, t4, t5, t6, t7⟩ := hT.out
        clear hb3
        go_wp2_with fail
        go_ret
        exact ⟨ret_i64 HF.out.symm, hw3⟩
      | true =>
        have Ha := lid ha
        obtain ⟨q21, q22, q23, q24⟩ := ratioB_bounds ha
        clear ha
        cases he : ratioB en ed with
        | false =>
          have HF : Hid (trialE gn gd bn bd an ad en ed = 1) := lid (by unfold trialE; rw [Hg.out, Hb.out, Ha.out, he]; rfl)
          have He := lid he
          clear he
          go_enter Try.func12, Try.ntmps12
          go_wp2_with fail
          (with_reducible refine (validRatio_any gn gd _).mono ?_); rintro e w1 ⟨rfl, hb1⟩
          rw [Hg.out]
          have hT := lid (hT0.below hb1 (by simp))
          have hw1 := hb0.trans (hb1.mono (by simp))
          have hq : w.heap.size < w1.heap.size := by have := hb1.size; rw [World.size_alloc] at this; omega
          obtain ⟨t0, t1, t2, t3, t4, t5, t6, t7⟩ := hT.out
          clear hb1
          go_wp2_with fail
          (with_reducible refine (validRatio_any bn bd _).mono ?_); rintro e w2 ⟨rfl, hb2⟩
          rw [Hb.out]
          replace hT := lid (hT.out.below hb2 hq)
          have hw2 := hw1.trans (hb2.mono hw1.size)
          replace hq : w.heap.size < w2.heap.size := by have := hb2.size; omega
          clear t0 t1 t2 t3 t4 t5 t6 t7
          obtain ⟨t0, t1, t2, t3, t4, t5, t6, t7⟩ := hT.out
          clear hb2
          go_wp2_with fail
          (with_reducible refine (validRatio_any an ad _).mono ?_); rintro e w3 ⟨rfl, hb3⟩
          rw [Ha.out]
          replace hT := lid (hT.out.below hb3 hq)
          have hw3 := hw2.trans (hb3.mono hw2.size)
          replace hq : w.heap.size < w3.heap.size := by have := hb3.size; omega
          clear t0 t1 t2 t3 t4 t5 t6 t7
          obtain ⟨t0, t1, t2, t3, t4, t5, t6, t7⟩ := hT.out
          clear hb3
          go_wp2_with fail
          (with_reducible refine (validRatio_any en ed _).mono ?_); rintro e w4 ⟨rfl, hb4⟩
          rw [He.out]
          replace hT := lid (hT.out.below hb4 hq)
          have hw4 := hw3.trans (hb4.mono hw3.size)
          replace hq : w.heap.size < w4.heap.size := by have := hb4.size; omega
          clear t0 t1 t2 t3 t4 t5 t6 t7
          obtain ⟨t0, t1, t2, t3, t4, t5, t6, t7⟩ := hT.out
          clear hb4
          go_wp2_with fail
          go_ret
          exact ⟨ret_i64 HF.out.symm, hw4⟩
        | true =>
          have He := lid he
          obtain ⟨q31, q32, q33, q34⟩ := ratioB_bounds he
          clear he
          have m1 := (mul_bounds (a := bn) (b := gd) (by omega) (by omega) (by omega) (by omega)).1
          have n1 := (mul_bounds (a := bn) (b := gd) (by omega) (by omega) (by omega) (by omega)).2
          have m2 := (mul_bounds (a := gn) (b := bd) (by omega) (by omega) (by omega) (by omega)).1
          have n2 := (mul_bounds (a := gn) (b := bd) (by omega) (by omega) (by omega) (by omega)).2
          have m3 := (mul_bounds (a := an) (b := ed) (by omega) (by omega) (by omega) (by omega)).1
          have n3 := (mul_bounds (a := an) (b := ed) (by omega) (by omega) (by omega) (by omega)).2
          have m4 := (mul_bounds (a := en) (b := ad) (by omega) (by omega) (by omega) (by omega)).1
          have n4 := (mul_bounds (a := en) (b := ad) (by omega) (by omega) (by omega) (by omega)).2
          have m5 := (mul_bounds (a := ad) (b := ed) (by omega) (by omega) (by omega) (by omega)).1
          have n5 := (mul_bounds (a := ad) (b := ed) (by omega) (by omega) (by omega) (by omega)).2
          by_cases h1 : bn * gd < gn * bd
          · have k1 : decide (bn * gd < gn * bd) = true := by simpa using h1
            have k1' : decide (gn * bd ≤ bn * gd) = false := by simpa using h1
            by_cases h2 : an * ed + en * ad < ad * ed
            · have k2 : decide (an * ed + en * ad < ad * ed) = true := by simpa using h2
              have k2' : decide (ad * ed ≤ an * ed + en * ad) = false := by simp; omega
              have HF : Hid (trialE gn gd bn bd an ad en ed = 0) := lid (by unfold trialE; rw [Hg.out, Hb.out, Ha.out, He.out, k1, k2]; rfl)
              go_enter Try.func12, Try.ntmps12
              go_wp2_with fail
              (with_reducible refine (validRatio_any gn gd _).mono ?_); rintro e w1 ⟨rfl, hb1⟩
              rw [Hg.out]
              have hT := lid (hT0.below hb1 (by simp))
              have hw1 := hb0.trans (hb1.mono (by simp))
              have hq : w.heap.size < w1.heap.size := by have := hb1.size; rw [World.size_alloc] at this; omega
              obtain ⟨t0, t1, t2, t3, t4, t5, t6, t7⟩ := hT.out
              clear hb1
              go_wp2_with fail
              (with_reducible refine (validRatio_any bn bd _).mono ?_); rintro e w2 ⟨rfl, hb2⟩
              rw [Hb.out]
              replace hT := lid (hT.out.below hb2 hq)
              have hw2 := hw1.trans (hb2.mono hw1.size)
              replace hq : w.heap.size < w2.heap.size := by have := hb2.size; omega
              clear t0 t1 t2 t3 t4 t5 t6 t7
              obtain ⟨t0, t1, t2, t3, t4, t5, t6, t7⟩ := hT.out
              clear hb2
              go_wp2_with fail
              (with_reducible refine (validRatio_any an ad _).mono ?_); rintro e w3 ⟨rfl, hb3⟩
              rw [Ha.out]
              replace hT := lid (hT.out.below hb3 hq)
              have hw3 := hw2.trans (hb3.mono hw2.size)
              replace hq : w.heap.size < w3.heap.size := by have := hb3.size; omega
              clear t0 t1 t2 t3 t4 t5 t6 t7
              obtain ⟨t0, t1, t2, t3, t4, t5, t6, t7⟩ := hT.out
              clear hb3
              go_wp2_with fail
              (with_reducible refine (validRatio_any en ed _).mono ?_); rintro e w4 ⟨rfl, hb4⟩
              rw [He.out]
              replace hT := lid (hT.out.below hb4 hq)
              have hw4 := hw3.trans (hb4.mono hw3.size)
              replace hq : w.heap.size < w4.heap.size := by have := hb4.size; omega
              clear t0 t1 t2 t3 t4 t5 t6 t7
              obtain ⟨t0, t1, t2, t3, t4, t5, t6, t7⟩ := hT.out
              clear hb4
              go_wp2_with fail
              go_ret
              exact ⟨ret_i64 HF.out.symm, hw4⟩
            · have k2 : decide (an * ed + en * ad < ad * ed) = false := by simpa using h2
              have k2' : decide (ad * ed ≤ an * ed + en * ad) = true := by simp; omega
              have HF : Hid (trialE gn gd bn bd an ad en ed = 1) := lid (by unfold trialE; rw [Hg.out, Hb.out, Ha.out, He.out, k1, k2]; rfl)
              go_enter Try.func12, Try.ntmps12
              go_wp2_with fail
              (with_reducible refine (validRatio_any gn gd _).mono ?_); rintro e w1 ⟨rfl, hb1⟩
              rw [Hg.out]
              have hT := lid (hT0.below hb1 (by simp))
              have hw1 := hb0.trans (hb1.mono (by simp))
              have hq : w.heap.size < w1.heap.size := by have := hb1.size; rw [World.size_alloc] at this; omega
              obtain ⟨t0, t1, t2, t3, t4, t5, t6, t7⟩ := hT.out
              clear hb1
              go_wp2_with fail
              (with_reducible refine (validRatio_any bn bd _).mono ?_); rintro e w2 ⟨rfl, hb2⟩
              rw [Hb.out]
              replace hT := lid (hT.out.below hb2 hq)
              have hw2 := hw1.trans (hb2.mono hw1.size)
              replace hq : w.heap.size < w2.heap.size := by have := hb2.size; omega
              clear t0 t1 t2 t3 t4 t5 t6 t7
              obtain ⟨t0, t1, t2, t3, t4, t5, t6, t7⟩ := hT.out
              clear hb2
              go_wp2_with fail
              (with_reducible refine (validRatio_any an ad _).mono ?_); rintro e w3 ⟨rfl, hb3⟩
              rw [Ha.out]
              replace hT := lid (hT.out.below hb3 hq)
              have hw3 := hw2.trans (hb3.mono hw2.size)
              replace hq : w.heap.size < w3.heap.size := by have := hb3.size; omega
              clear t0 t1 t2 t3 t4 t5 t6 t7
              obtain ⟨t0, t1, t2, t3, t4, t5, t6, t7⟩ := hT.out
              clear hb3
              go_wp2_with fail
              (with_reducible refine (validRatio_any en ed _).mono ?_); rintro e w4 ⟨rfl, hb4⟩
              rw [He.out]
              replace hT := lid (hT.out.below hb4 hq)
              have hw4 := hw3.trans (hb4.mono hw3.size)
              replace hq : w.heap.size < w4.heap.size := by have := hb4.size; omega
              clear t0 t1 t2 t3 t4 t5 t6 t7
              obtain ⟨t0, t1, t2, t3, t4, t5, t6, t7⟩ := hT.out
              clear hb4
              go_wp2_with fail
              go_ret
              exact ⟨ret_i64 HF.out.symm, hw4⟩
          · have k1 : decide (bn * gd < gn * bd) = false := by simpa using h1
            have k1' : decide (gn * bd ≤ bn * gd) = true := by simp; omega
            have HF : Hid (trialE gn gd bn bd an ad en ed = 1) := lid (by unfold trialE; rw [Hg.out, Hb.out, Ha.out, He.out, k1]; rfl)
            go_enter Try.func12, Try.ntmps12
            go_wp2_with fail
            (with_reducible refine (validRatio_any gn gd _).mono ?_); rintro e w1 ⟨rfl, hb1⟩
            rw [Hg.out]
            have hT := lid (hT0.below hb1 (by simp))
            have hw1 := hb0.trans (hb1.mono (by simp))
            have hq : w.heap.size < w1.heap.size := by have := hb1.size; rw [World.size_alloc] at this; omega
            obtain ⟨t0, t1, t2, t3, t4, t5, t6, t7⟩ := hT.out
            clear hb1
            go_wp2_with fail
            (with_reducible refine (validRatio_any bn bd _).mono ?_); rintro e w2 ⟨rfl, hb2⟩
            rw [Hb.out]
            replace hT := lid (hT.out.below hb2 hq)
            have hw2 := hw1.trans (hb2.mono hw1.size)
            replace hq : w.heap.size < w2.heap.size := by have := hb2.size; omega
            clear t0 t1 t2 t3 t4 t5 t6 t7
            obtain ⟨t0, t1, t2, t3, t4, t5, t6, t7⟩ := hT.out
            clear hb2
            go_wp2_with fail
            (with_reducible refine (validRatio_any an ad _).mono ?_); rintro e w3 ⟨rfl, hb3⟩
            rw [Ha.out]
            replace hT := lid (hT.out.below hb3 hq)
            have hw3 := hw2.trans (hb3.mono hw2.size)
            replace hq : w.heap.size < w3.heap.size := by have := hb3.size; omega
            clear t0 t1 t2 t3 t4 t5 t6 t7
            obtain ⟨t0, t1, t2, t3, t4, t5, t6, t7⟩ := hT.out
            clear hb3
            go_wp2_with fail
            (with_reducible refine (validRatio_any en ed _).mono ?_); rintro e w4 ⟨rfl, hb4⟩
            rw [He.out]
            replace hT := lid (hT.out.below hb4 hq)
            have hw4 := hw3.trans (hb4.mono hw3.size)
            replace hq : w.heap.size < w4.heap.size := by have := hb4.size; omega
            clear t0 t1 t2 t3 t4 t5 t6 t7
            obtain ⟨t0, t1, t2, t3, t4, t5, t6, t7⟩ := hT.out
            clear hb4
            go_wp2_with fail
            go_ret
            exact ⟨ret_i64 HF.out.symm, hw4⟩

set_option maxRecDepth 100000 in
set_option maxHeartbeats 8000000 in
theorem refCheck_any (gn gd bn bd an ad en ed : Int) (w : World) :
    Calls Try.prog 13 #[.agg (tv gn gd bn bd an ad en ed)] w fun e w' => e = .returned (.int .i64 (trialE gn gd bn bd an ad en ed)) ∧ Below w.heap.size w w' := by
  have hb0 : Below w.heap.size w (w.alloc (Obj.cells (tv gn gd bn bd an ad en ed) 25)) := ba _ _
  have hT0 := TC.new w gn gd bn bd an ad en ed 25
  cases hg : ratioB gn gd with
  | false =>
    have HF : Hid (trialE gn gd bn bd an ad en ed = 1) := lid (by unfold trialE; rw [hg]; rfl)
    have Hg := lid hg
    clear hg
    go_enter Try.func13, Try.ntmps13
    go_wp2_with fail
    (with_reducible refine (refRatio_any gn gd _).mono ?_); rintro e w1 ⟨rfl, hb1⟩
    rw [Hg.out]
    have hT := lid (hT0.below hb1 (by simp))
    have hw1 := hb0.trans (hb1.mono (by simp))
    have hq : w.heap.size < w1.heap.size := by have := hb1.size; rw [World.size_alloc] at this; omega
    obtain ⟨t0, t1, t2, t3, t4, t5, t6, t7⟩ := hT.out
    clear hb1
    go_wp2_with fail
    go_ret
    exact ⟨ret_i64 HF.out.symm, hw1⟩
  | true =>
    have Hg := lid hg
    obtain ⟨q01, q02, q03, q04⟩ := ratioB_bounds hg
    clear hg
    cases hb : ratioB bn bd with
    | false =>
      have HF : Hid (trialE gn gd bn bd an ad en ed = 1) := lid (by unfold trialE; rw [Hg.out, hb]; rfl)
      have Hb := lid hb
      clear hb
      go_enter Try.func13, Try.ntmps13
      go_wp2_with fail
      (with_reducible refine (refRatio_any gn gd _).mono ?_); rintro e w1 ⟨rfl, hb1⟩
      rw [Hg.out]
      have hT := lid (hT0.below hb1 (by simp))
      have hw1 := hb0.trans (hb1.mono (by simp))
      have hq : w.heap.size < w1.heap.size := by have := hb1.size; rw [World.size_alloc] at this; omega
      obtain ⟨t0, t1, t2, t3, t4, t5, t6, t7⟩ := hT.out
      clear hb1
      go_wp2_with fail
      (with_reducible refine (refRatio_any bn bd _).mono ?_); rintro e w2 ⟨rfl, hb2⟩
      rw [Hb.out]
      replace hT := lid (hT.out.below hb2 hq)
      have hw2 := hw1.trans (hb2.mono hw1.size)
      replace hq : w.heap.size < w2.heap.size := by have := hb2.size; omega
      clear t0 t1 t2 t3 t4 t5 t6 t7
      obtain ⟨t0, t1, t2, t3, t4, t5, t6, t7⟩ := hT.out
      clear hb2
      go_wp2_with fail
      go_ret
      exact ⟨ret_i64 HF.out.symm, hw2⟩
    | true =>
      have Hb := lid hb
      obtain ⟨q11, q12, q13, q14⟩ := ratioB_bounds hb
      clear hb
      cases ha : ratioB an ad with
      | false =>
        have HF : Hid (trialE gn gd bn bd an ad en ed = 1) := lid (by unfold trialE; rw [Hg.out, Hb.out, ha]; rfl)
        have Ha := lid ha
        clear ha
        go_enter Try.func13, Try.ntmps13
        go_wp2_with fail
        (with_reducible refine (refRatio_any gn gd _).mono ?_); rintro e w1 ⟨rfl, hb1⟩
        rw [Hg.out]
        have hT := lid (hT0.below hb1 (by simp))
        have hw1 := hb0.trans (hb1.mono (by simp))
        have hq : w.heap.size < w1.heap.size := by have := hb1.size; rw [World.size_alloc] at this; omega
        obtain ⟨t0, t1, t2, t3, t4, t5, t6, t7⟩ := hT.out
        clear hb1
        go_wp2_with fail
        (with_reducible refine (refRatio_any bn bd _).mono ?_); rintro e w2 ⟨rfl, hb2⟩
        rw [Hb.out]
        replace hT := lid (hT.out.below hb2 hq)
        have hw2 := hw1.trans (hb2.mono hw1.size)
        replace hq : w.heap.size < w2.heap.size := by have := hb2.size; omega
        clear t0 t1 t2 t3 t4 t5 t6 t7
        obtain ⟨t0, t1, t2, t3, t4, t5, t6, t7⟩ := hT.out
        clear hb2
        go_wp2_with fail
        (with_reducible refine (refRatio_any an ad _).mono ?_); rintro e w3 ⟨rfl, hb3⟩
        rw [Ha.out]
        replace hT := lid (hT.out.below hb3 hq)
        have hw3 := hw2.trans (hb3.mono hw2.size)
        replace hq : w.heap.size < w3.heap.size := by have := hb3.size; omega
        clear t0 t1 t2 t3 t4 t5 t6 t7
        obtain ⟨t0, t1, t2, t3, t4, t5, t6, t7⟩ := hT.out
        clear hb3
        go_wp2_with fail
        go_ret
        exact ⟨ret_i64 HF.out.symm, hw3⟩
      | true =>
        have Ha := lid ha
        obtain ⟨q21, q22, q23, q24⟩ := ratioB_bounds ha
        clear ha
        cases he : ratioB en ed with
        | false =>
          have HF : Hid (trialE gn gd bn bd an ad en ed = 1) := lid (by unfold trialE; rw [Hg.out, Hb.out, Ha.out, he]; rfl)
          have He := lid he
          clear he
          go_enter Try.func13, Try.ntmps13
          go_wp2_with fail
          (with_reducible refine (refRatio_any gn gd _).mono ?_); rintro e w1 ⟨rfl, hb1⟩
          rw [Hg.out]
          have hT := lid (hT0.below hb1 (by simp))
          have hw1 := hb0.trans (hb1.mono (by simp))
          have hq : w.heap.size < w1.heap.size := by have := hb1.size; rw [World.size_alloc] at this; omega
          obtain ⟨t0, t1, t2, t3, t4, t5, t6, t7⟩ := hT.out
          clear hb1
          go_wp2_with fail
          (with_reducible refine (refRatio_any bn bd _).mono ?_); rintro e w2 ⟨rfl, hb2⟩
          rw [Hb.out]
          replace hT := lid (hT.out.below hb2 hq)
          have hw2 := hw1.trans (hb2.mono hw1.size)
          replace hq : w.heap.size < w2.heap.size := by have := hb2.size; omega
          clear t0 t1 t2 t3 t4 t5 t6 t7
          obtain ⟨t0, t1, t2, t3, t4, t5, t6, t7⟩ := hT.out
          clear hb2
          go_wp2_with fail
          (with_reducible refine (refRatio_any an ad _).mono ?_); rintro e w3 ⟨rfl, hb3⟩
          rw [Ha.out]
          replace hT := lid (hT.out.below hb3 hq)
          have hw3 := hw2.trans (hb3.mono hw2.size)
          replace hq : w.heap.size < w3.heap.size := by have := hb3.size; omega
          clear t0 t1 t2 t3 t4 t5 t6 t7
          obtain ⟨t0, t1, t2, t3, t4, t5, t6, t7⟩ := hT.out
          clear hb3
          go_wp2_with fail
          (with_reducible refine (refRatio_any en ed _).mono ?_); rintro e w4 ⟨rfl, hb4⟩
          rw [He.out]
          replace hT := lid (hT.out.below hb4 hq)
          have hw4 := hw3.trans (hb4.mono hw3.size)
          replace hq : w.heap.size < w4.heap.size := by have := hb4.size; omega
          clear t0 t1 t2 t3 t4 t5 t6 t7
          obtain ⟨t0, t1, t2, t3, t4, t5, t6, t7⟩ := hT.out
          clear hb4
          go_wp2_with fail
          go_ret
          exact ⟨ret_i64 HF.out.symm, hw4⟩
        | true =>
          have He := lid he
          obtain ⟨q31, q32, q33, q34⟩ := ratioB_bounds he
          clear he
          have m1 := (mul_bounds (a := bn) (b := gd) (by omega) (by omega) (by omega) (by omega)).1
          have n1 := (mul_bounds (a := bn) (b := gd) (by omega) (by omega) (by omega) (by omega)).2
          have m2 := (mul_bounds (a := gn) (b := bd) (by omega) (by omega) (by omega) (by omega)).1
          have n2 := (mul_bounds (a := gn) (b := bd) (by omega) (by omega) (by omega) (by omega)).2
          have m3 := (mul_bounds (a := an) (b := ed) (by omega) (by omega) (by omega) (by omega)).1
          have n3 := (mul_bounds (a := an) (b := ed) (by omega) (by omega) (by omega) (by omega)).2
          have m4 := (mul_bounds (a := en) (b := ad) (by omega) (by omega) (by omega) (by omega)).1
          have n4 := (mul_bounds (a := en) (b := ad) (by omega) (by omega) (by omega) (by omega)).2
          have m5 := (mul_bounds (a := ad) (b := ed) (by omega) (by omega) (by omega) (by omega)).1
          have n5 := (mul_bounds (a := ad) (b := ed) (by omega) (by omega) (by omega) (by omega)).2
          by_cases h1 : bn * gd < gn * bd
          · have k1 : decide (bn * gd < gn * bd) = true := by simpa using h1
            have k1' : decide (gn * bd ≤ bn * gd) = false := by simpa using h1
            by_cases h2 : an * ed + en * ad < ad * ed
            · have k2 : decide (an * ed + en * ad < ad * ed) = true := by simpa using h2
              have k2' : decide (ad * ed ≤ an * ed + en * ad) = false := by simp; omega
              have HF : Hid (trialE gn gd bn bd an ad en ed = 0) := lid (by unfold trialE; rw [Hg.out, Hb.out, Ha.out, He.out, k1, k2]; rfl)
              go_enter Try.func13, Try.ntmps13
              go_wp2_with fail
              (with_reducible refine (refRatio_any gn gd _).mono ?_); rintro e w1 ⟨rfl, hb1⟩
              rw [Hg.out]
              have hT := lid (hT0.below hb1 (by simp))
              have hw1 := hb0.trans (hb1.mono (by simp))
              have hq : w.heap.size < w1.heap.size := by have := hb1.size; rw [World.size_alloc] at this; omega
              obtain ⟨t0, t1, t2, t3, t4, t5, t6, t7⟩ := hT.out
              clear hb1
              go_wp2_with fail
              (with_reducible refine (refRatio_any bn bd _).mono ?_); rintro e w2 ⟨rfl, hb2⟩
              rw [Hb.out]
              replace hT := lid (hT.out.below hb2 hq)
              have hw2 := hw1.trans (hb2.mono hw1.size)
              replace hq : w.heap.size < w2.heap.size := by have := hb2.size; omega
              clear t0 t1 t2 t3 t4 t5 t6 t7
              obtain ⟨t0, t1, t2, t3, t4, t5, t6, t7⟩ := hT.out
              clear hb2
              go_wp2_with fail
              (with_reducible refine (refRatio_any an ad _).mono ?_); rintro e w3 ⟨rfl, hb3⟩
              rw [Ha.out]
              replace hT := lid (hT.out.below hb3 hq)
              have hw3 := hw2.trans (hb3.mono hw2.size)
              replace hq : w.heap.size < w3.heap.size := by have := hb3.size; omega
              clear t0 t1 t2 t3 t4 t5 t6 t7
              obtain ⟨t0, t1, t2, t3, t4, t5, t6, t7⟩ := hT.out
              clear hb3
              go_wp2_with fail
              (with_reducible refine (refRatio_any en ed _).mono ?_); rintro e w4 ⟨rfl, hb4⟩
              rw [He.out]
              replace hT := lid (hT.out.below hb4 hq)
              have hw4 := hw3.trans (hb4.mono hw3.size)
              replace hq : w.heap.size < w4.heap.size := by have := hb4.size; omega
              clear t0 t1 t2 t3 t4 t5 t6 t7
              obtain ⟨t0, t1, t2, t3, t4, t5, t6, t7⟩ := hT.out
              clear hb4
              go_wp2_with fail
              go_ret
              exact ⟨ret_i64 HF.out.symm, hw4⟩
            · have k2 : decide (an * ed + en * ad < ad * ed) = false := by simpa using h2
              have k2' : decide (ad * ed ≤ an * ed + en * ad) = true := by simp; omega
              have HF : Hid (trialE gn gd bn bd an ad en ed = 1) := lid (by unfold trialE; rw [Hg.out, Hb.out, Ha.out, He.out, k1, k2]; rfl)
              go_enter Try.func13, Try.ntmps13
              go_wp2_with fail
              (with_reducible refine (refRatio_any gn gd _).mono ?_); rintro e w1 ⟨rfl, hb1⟩
              rw [Hg.out]
              have hT := lid (hT0.below hb1 (by simp))
              have hw1 := hb0.trans (hb1.mono (by simp))
              have hq : w.heap.size < w1.heap.size := by have := hb1.size; rw [World.size_alloc] at this; omega
              obtain ⟨t0, t1, t2, t3, t4, t5, t6, t7⟩ := hT.out
              clear hb1
              go_wp2_with fail
              (with_reducible refine (refRatio_any bn bd _).mono ?_); rintro e w2 ⟨rfl, hb2⟩
              rw [Hb.out]
              replace hT := lid (hT.out.below hb2 hq)
              have hw2 := hw1.trans (hb2.mono hw1.size)
              replace hq : w.heap.size < w2.heap.size := by have := hb2.size; omega
              clear t0 t1 t2 t3 t4 t5 t6 t7
              obtain ⟨t0, t1, t2, t3, t4, t5, t6, t7⟩ := hT.out
              clear hb2
              go_wp2_with fail
              (with_reducible refine (refRatio_any an ad _).mono ?_); rintro e w3 ⟨rfl, hb3⟩
              rw [Ha.out]
              replace hT := lid (hT.out.below hb3 hq)
              have hw3 := hw2.trans (hb3.mono hw2.size)
              replace hq : w.heap.size < w3.heap.size := by have := hb3.size; omega
              clear t0 t1 t2 t3 t4 t5 t6 t7
              obtain ⟨t0, t1, t2, t3, t4, t5, t6, t7⟩ := hT.out
              clear hb3
              go_wp2_with fail
              (with_reducible refine (refRatio_any en ed _).mono ?_); rintro e w4 ⟨rfl, hb4⟩
              rw [He.out]
              replace hT := lid (hT.out.below hb4 hq)
              have hw4 := hw3.trans (hb4.mono hw3.size)
              replace hq : w.heap.size < w4.heap.size := by have := hb4.size; omega
              clear t0 t1 t2 t3 t4 t5 t6 t7
              obtain ⟨t0, t1, t2, t3, t4, t5, t6, t7⟩ := hT.out
              clear hb4
              go_wp2_with fail
              go_ret
              exact ⟨ret_i64 HF.out.symm, hw4⟩
          · have k1 : decide (bn * gd < gn * bd) = false := by simpa using h1
            have k1' : decide (gn * bd ≤ bn * gd) = true := by simp; omega
            have HF : Hid (trialE gn gd bn bd an ad en ed = 1) := lid (by unfold trialE; rw [Hg.out, Hb.out, Ha.out, He.out, k1]; rfl)
            go_enter Try.func13, Try.ntmps13
            go_wp2_with fail
            (with_reducible refine (refRatio_any gn gd _).mono ?_); rintro e w1 ⟨rfl, hb1⟩
            rw [Hg.out]
            have hT := lid (hT0.below hb1 (by simp))
            have hw1 := hb0.trans (hb1.mono (by simp))
            have hq : w.heap.size < w1.heap.size := by have := hb1.size; rw [World.size_alloc] at this; omega
            obtain ⟨t0, t1, t2, t3, t4, t5, t6, t7⟩ := hT.out
            clear hb1
            go_wp2_with fail
            (with_reducible refine (refRatio_any bn bd _).mono ?_); rintro e w2 ⟨rfl, hb2⟩
            rw [Hb.out]
            replace hT := lid (hT.out.below hb2 hq)
            have hw2 := hw1.trans (hb2.mono hw1.size)
            replace hq : w.heap.size < w2.heap.size := by have := hb2.size; omega
            clear t0 t1 t2 t3 t4 t5 t6 t7
            obtain ⟨t0, t1, t2, t3, t4, t5, t6, t7⟩ := hT.out
            clear hb2
            go_wp2_with fail
            (with_reducible refine (refRatio_any an ad _).mono ?_); rintro e w3 ⟨rfl, hb3⟩
            rw [Ha.out]
            replace hT := lid (hT.out.below hb3 hq)
            have hw3 := hw2.trans (hb3.mono hw2.size)
            replace hq : w.heap.size < w3.heap.size := by have := hb3.size; omega
            clear t0 t1 t2 t3 t4 t5 t6 t7
            obtain ⟨t0, t1, t2, t3, t4, t5, t6, t7⟩ := hT.out
            clear hb3
            go_wp2_with fail
            (with_reducible refine (refRatio_any en ed _).mono ?_); rintro e w4 ⟨rfl, hb4⟩
            rw [He.out]
            replace hT := lid (hT.out.below hb4 hq)
            have hw4 := hw3.trans (hb4.mono hw3.size)
            replace hq : w.heap.size < w4.heap.size := by have := hb4.size; omega
            clear t0 t1 t2 t3 t4 t5 t6 t7
            obtain ⟨t0, t1, t2, t3, t4, t5, t6, t7⟩ := hT.out
            clear hb4
            go_wp2_with fail
            go_ret
            exact ⟨ret_i64 HF.out.symm, hw4⟩
end Go.Proofs.Ytmlkegopbdfiaaa
