/-
  sprt.Decide. Written by gen_sprdec.py.
-/
import Derived.Test.YtmlkegopbdfiaaaSprDecide
namespace Go.Proofs.Ytmlkegopbdfiaaa
open Go.RowKit

/-- A trial is valid: its numbers are natural. -/
theorem trial_ok {gn gd bn bd an ad en ed : Int} (h : trialE gn gd bn bd an ad en ed = 0) : ∃ Gn Gd Bn Bd An Ad En Ed : Nat, gn = Gn ∧ gd = Gd ∧ bn = Bn ∧ bd = Bd ∧ an = An ∧ ad = Ad ∧ en = En ∧ ed = Ed ∧ RatioN Gn Gd ∧ RatioN Bn Bd ∧ RatioN An Ad ∧ RatioN En Ed ∧ Bn * Gd < Gn * Bd ∧ An * Ed + En * Ad < Ad * Ed := by
  unfold trialE at h
  split at h
  · rename_i hc
    simp only [Bool.and_eq_true, decide_eq_true_eq] at hc
    obtain ⟨⟨⟨⟨⟨h1, h2⟩, h3⟩, h4⟩, h5⟩, h6⟩ := hc
    have a1 := ratioB_bounds h1
    have a2 := ratioB_bounds h2
    have a3 := ratioB_bounds h3
    have a4 := ratioB_bounds h4
    obtain ⟨Gn, rfl⟩ := Int.eq_ofNat_of_zero_le (show 0 ≤ gn by omega)
    obtain ⟨Gd, rfl⟩ := Int.eq_ofNat_of_zero_le (show 0 ≤ gd by omega)
    obtain ⟨Bn, rfl⟩ := Int.eq_ofNat_of_zero_le (show 0 ≤ bn by omega)
    obtain ⟨Bd, rfl⟩ := Int.eq_ofNat_of_zero_le (show 0 ≤ bd by omega)
    obtain ⟨An, rfl⟩ := Int.eq_ofNat_of_zero_le (show 0 ≤ an by omega)
    obtain ⟨Ad, rfl⟩ := Int.eq_ofNat_of_zero_le (show 0 ≤ ad by omega)
    obtain ⟨En, rfl⟩ := Int.eq_ofNat_of_zero_le (show 0 ≤ en by omega)
    obtain ⟨Ed, rfl⟩ := Int.eq_ofNat_of_zero_le (show 0 ≤ ed by omega)
    exact ⟨Gn, Gd, Bn, Bd, An, Ad, En, Ed, rfl, rfl, rfl, rfl, rfl, rfl, rfl, rfl, ⟨by omega, by omega, by omega⟩, ⟨by omega, by omega, by omega⟩, ⟨by omega, by omega, by omega⟩, ⟨by omega, by omega, by omega⟩, by exact_mod_cast h5, by exact_mod_cast h6⟩
  · exact absurd h (by decide)
theorem trial_01 (gn gd bn bd an ad en ed : Int) : trialE gn gd bn bd an ad en ed = 0 ∨ trialE gn gd bn bd an ad en ed = 1 := by
  unfold trialE
  split
  · exact .inl rfl
  · exact .inr rfl

/-- The decision of a trial in whole numbers. -/
def decI (gn gd bn bd an ad en ed p f : Int) : Int := decS gn.toNat gd.toNat bn.toNat bd.toNat an.toNat ad.toNat en.toNat ed.toNat p.toNat f.toNat
def inRange (p f : Int) : Bool := decide (0 ≤ p ∧ 0 ≤ f ∧ p ≤ 40 ∧ f ≤ 40 ∧ p + f ≤ 40)
/-- Decide's error. -/
def decE (gn gd bn bd an ad en ed p f : Int) : Int := if trialE gn gd bn bd an ad en ed = 0 then (if inRange p f then 0 else 2) else 1
/-- Decide's decision. -/
def decD (gn gd bn bd an ad en ed p f : Int) : Int := if trialE gn gd bn bd an ad en ed = 0 then (if inRange p f then decI gn gd bn bd an ad en ed p f else 0) else 0
theorem decE_bad {gn gd bn bd an ad en ed : Int} (h : trialE gn gd bn bd an ad en ed = 1) (p f : Int) : decE gn gd bn bd an ad en ed p f = 1 := by unfold decE; rw [h]; rfl
theorem decD_bad {gn gd bn bd an ad en ed : Int} (h : trialE gn gd bn bd an ad en ed = 1) (p f : Int) : decD gn gd bn bd an ad en ed p f = 0 := by unfold decD; rw [h]; rfl
theorem decE_out {gn gd bn bd an ad en ed : Int} (h : trialE gn gd bn bd an ad en ed = 0) {p f : Int} (hr : inRange p f = false) : decE gn gd bn bd an ad en ed p f = 2 := by unfold decE; rw [h, hr]; rfl
theorem decD_out {gn gd bn bd an ad en ed : Int} (h : trialE gn gd bn bd an ad en ed = 0) {p f : Int} (hr : inRange p f = false) : decD gn gd bn bd an ad en ed p f = 0 := by unfold decD; rw [h, hr]; rfl
theorem decE_in {gn gd bn bd an ad en ed : Int} (h : trialE gn gd bn bd an ad en ed = 0) {p f : Int} (hr : inRange p f = true) : decE gn gd bn bd an ad en ed p f = 0 := by unfold decE; rw [h, hr]; rfl
theorem decD_in {gn gd bn bd an ad en ed : Int} (h : trialE gn gd bn bd an ad en ed = 0) {p f : Int} (hr : inRange p f = true) : decD gn gd bn bd an ad en ed p f = decI gn gd bn bd an ad en ed p f := by unfold decD; rw [h, hr]; rfl
theorem ret_de {a a' b b' : Int} (h : a = a') (k : b = b') : Ending.returned (.tuple #[.int .i64 a, .int .i64 b]) = .returned (.tuple #[.int .i64 a', .int .i64 b']) := by rw [h, k]

set_option maxRecDepth 100000 in
set_option maxHeartbeats 4000000 in
theorem Decide_any (gn gd bn bd an ad en ed p f : Int) (w : World) :
    Calls Try.prog 15 #[.agg (tv gn gd bn bd an ad en ed), .int .i64 p, .int .i64 f] w fun e w' => e = .returned (.tuple #[.int .i64 (decD gn gd bn bd an ad en ed p f), .int .i64 (decE gn gd bn bd an ad en ed p f)]) ∧ Below w.heap.size w w' := by
  have hb0 : Below w.heap.size w (w.alloc (Obj.cells (tv gn gd bn bd an ad en ed) 25)) := ba _ _
  have hT0 := TC.new w gn gd bn bd an ad en ed 25
  rcases trial_01 gn gd bn bd an ad en ed with hE | hE
  · have HE := lid hE
    obtain ⟨Gn, Gd, Bn, Bd, An, Ad, En, Ed, rfl, rfl, rfl, rfl, rfl, rfl, rfl, rfl, r1, r2, r3, r4, -, -⟩ := trial_ok hE
    clear hE
    have R1 := lid r1
    have R2 := lid r2
    have R3 := lid r3
    have R4 := lid r4
    clear r1 r2 r3 r4
    go_enter Try.func15, Try.ntmps15
    go_wp2_with fail
    (with_reducible refine (Check_any (Gn : Int) Gd Bn Bd An Ad En Ed _).mono ?_); rintro e w1 ⟨rfl, hb1⟩
    rw [HE.out]
    have hw1 := hb0.trans (hb1.mono (by simp))
    obtain ⟨t0, t1, t2, t3, t4, t5, t6, t7⟩ := hT0.below hb1 (by simp)
    have hq1 : w.heap.size < w1.heap.size := by have := hb1.size; rw [World.size_alloc] at this; omega
    clear hb1 hT0
    cases hr : inRange p f with
    | true =>
      have HR := lid hr
      simp only [inRange, decide_eq_true_eq] at hr
      obtain ⟨p1, f1, p2, f2, pf⟩ := hr
      obtain ⟨P, rfl⟩ := Int.eq_ofNat_of_zero_le p1
      obtain ⟨F, rfl⟩ := Int.eq_ofNat_of_zero_le f1
      have wPF : IntKind.i64.wrap ((P : Int) + F) = (P : Int) + F := IntWalk.i64_in _ (by omega)
      have d1 : decide ((P : Int) < 0) = false := by simp
      have d2 : decide ((F : Int) < 0) = false := by simp
      have d3 : decide ((40 : Int) < P) = false := by simp; omega
      have d4 : decide ((40 : Int) < F) = false := by simp; omega
      have d5 : decide ((40 : Int) < (P : Int) + F) = false := by simp; omega
      have HD : Hid (decD (Gn : Int) Gd Bn Bd An Ad En Ed P F = decS Gn Gd Bn Bd An Ad En Ed P F) := lid (by rw [decD_in HE.out HR.out]; rfl)
      have HEE : Hid (decE (Gn : Int) Gd Bn Bd An Ad En Ed P F = 0) := lid (decE_in HE.out HR.out)
      go_wp2_with fail
      (with_reducible refine (decide_any Gn Gd Bn Bd An Ad En Ed P F _ R1.out R2.out R3.out R4.out (by omega) (by omega)).mono ?_); rintro e w2 ⟨rfl, hb2⟩
      go_wp2_with fail
      go_ret2
      exact ⟨ret_de HD.out.symm HEE.out.symm, hw1.trans (hb2.mono hw1.size)⟩
    | false =>
      have HD := lid (decD_out HE.out hr)
      have HEE := lid (decE_out HE.out hr)
      have hr' : ¬ (0 ≤ p ∧ 0 ≤ f ∧ p ≤ 40 ∧ f ≤ 40 ∧ p + f ≤ 40) := by simpa [inRange] using hr
      clear hr
      by_cases c1 : p < 0
      · clear hr'
        go_wp2_with fail
        go_ret2
        exact ⟨ret_de HD.out.symm HEE.out.symm, hw1⟩
      · by_cases c2 : f < 0
        · clear hr'
          have c1' : 0 ≤ p := by omega
          go_wp2_with fail
          go_ret2
          exact ⟨ret_de HD.out.symm HEE.out.symm, hw1⟩
        · by_cases c3 : p ≤ 40
          · by_cases c4 : f ≤ 40
            · have c5 : 40 < p + f := by omega
              clear hr'
              have c1' : 0 ≤ p := by omega
              have c2' : 0 ≤ f := by omega
              have wPF : IntKind.i64.wrap (p + f) = p + f := IntWalk.i64_in _ (by omega)
              have d5 : decide ((40 : Int) < p + f) = true := by simpa using c5
              go_wp2_with fail
              go_ret2
              exact ⟨ret_de HD.out.symm HEE.out.symm, hw1⟩
            · clear hr'
              have c1' : 0 ≤ p := by omega
              have c2' : 0 ≤ f := by omega
              have c4' : 40 < f := by omega
              go_wp2_with fail
              go_ret2
              exact ⟨ret_de HD.out.symm HEE.out.symm, hw1⟩
          · clear hr'
            have c1' : 0 ≤ p := by omega
            have c2' : 0 ≤ f := by omega
            have c3' : 40 < p := by omega
            go_wp2_with fail
            go_ret2
            exact ⟨ret_de HD.out.symm HEE.out.symm, hw1⟩
  · have HE := lid hE
    have HD := lid (decD_bad hE p f)
    have HEE := lid (decE_bad hE p f)
    clear hE
    go_enter Try.func15, Try.ntmps15
    go_wp2_with fail
    (with_reducible refine (Check_any gn gd bn bd an ad en ed _).mono ?_); rintro e w1 ⟨rfl, hb1⟩
    rw [HE.out]
    have hw1 := hb0.trans (hb1.mono (by simp))
    go_wp2_with fail
    go_ret2
    exact ⟨ret_de HD.out.symm HEE.out.symm, hw1⟩
end Go.Proofs.Ytmlkegopbdfiaaa
