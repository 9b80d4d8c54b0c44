/-
  Decide of sprt's reference. Written by gen_sprdec.py.
-/
import Derived.Test.YtmlkegopbdfiaaaSprRefDecide
import Derived.Test.YtmlkegopbdfiaaaSprDec
namespace Go.Proofs.Ytmlkegopbdfiaaa
open Go.RowKit

set_option maxRecDepth 100000 in
set_option maxHeartbeats 4000000 in
theorem refDecide2_any (gn gd bn bd an ad en ed p f : Int) (w : World) :
    Calls Try.prog 16 #[.agg (tv gn gd bn bd an ad en ed), .int .i64 p, .int .i64 f] w fun e w' => e = .returned (.tuple #[.int .i64 (decD gn gd bn bd an ad en ed p f), .int .i64 (decE gn gd bn bd an ad en ed p f)]) ∧ Below w.heap.size w w' := by
  have hb0 : Below w.heap.size w (w.alloc (Obj.cells (tv gn gd bn bd an ad en ed) 25)) := ba _ _
  have hT0 := TC.new w gn gd bn bd an ad en ed 25
  rcases trial_01 gn gd bn bd an ad en ed with hE | hE
  · have HE := lid hE
    obtain ⟨Gn, Gd, Bn, Bd, An, Ad, En, Ed, rfl, rfl, rfl, rfl, rfl, rfl, rfl, rfl, r1, r2, r3, r4, -, -⟩ := trial_ok hE
    clear hE
    have R1 := lid r1
    have R2 := lid r2
    have R3 := lid r3
    have R4 := lid r4
    clear r1 r2 r3 r4
    go_enter Try.func16, Try.ntmps16
    go_wp2_with fail
    (with_reducible refine (refCheck_any (Gn : Int) Gd Bn Bd An Ad En Ed _).mono ?_); rintro e w1 ⟨rfl, hb1⟩
    rw [HE.out]
    have hw1 := hb0.trans (hb1.mono (by simp))
    obtain ⟨t0, t1, t2, t3, t4, t5, t6, t7⟩ := hT0.below hb1 (by simp)
    have hq1 : w.heap.size < w1.heap.size := by have := hb1.size; rw [World.size_alloc] at this; omega
    clear hb1 hT0
    cases hr : inRange p f with
    | true =>
      have HR := lid hr
      simp only [inRange, decide_eq_true_eq] at hr
      obtain ⟨p1, f1, p2, f2, pf⟩ := hr
      obtain ⟨P, rfl⟩ := Int.eq_ofNat_of_zero_le p1
      obtain ⟨F, rfl⟩ := Int.eq_ofNat_of_zero_le f1
      have wPF : IntKind.i64.wrap ((P : Int) + F) = (P : Int) + F := IntWalk.i64_in _ (by omega)
      have d1 : decide ((P : Int) < 0) = false := by simp
      have d2 : decide ((F : Int) < 0) = false := by simp
      have d3 : decide ((40 : Int) < P) = false := by simp; omega
      have d4 : decide ((40 : Int) < F) = false := by simp; omega
      have d5 : decide ((40 : Int) < (P : Int) + F) = false := by simp; omega
      have HD : Hid (decD (Gn : Int) Gd Bn Bd An Ad En Ed P F = decS Gn Gd Bn Bd An Ad En Ed P F) := lid (by rw [decD_in HE.out HR.out]; rfl)
      have HEE : Hid (decE (Gn : Int) Gd Bn Bd An Ad En Ed P F = 0) := lid (decE_in HE.out HR.out)
      go_wp2_with fail
      (with_reducible refine (refDecide_any Gn Gd Bn Bd An Ad En Ed P F _ R1.out R2.out R3.out R4.out (by omega) (by omega)).mono ?_); rintro e w2 ⟨rfl, hb2⟩
      go_wp2_with fail
      go_ret2
      exact ⟨ret_de HD.out.symm HEE.out.symm, hw1.trans (hb2.mono hw1.size)⟩
    | false =>
      have HD := lid (decD_out HE.out hr)
      have HEE := lid (decE_out HE.out hr)
      have hr' : ¬ (0 ≤ p ∧ 0 ≤ f ∧ p ≤ 40 ∧ f ≤ 40 ∧ p + f ≤ 40) := by simpa [inRange] using hr
      clear hr
      by_cases c1 : p < 0
      · clear hr'
        go_wp2_with fail
        go_ret2
        exact ⟨ret_de HD.out.symm HEE.out.symm, hw1⟩
      · by_cases c2 : f < 0
        · clear hr'
          have c1' : 0 ≤ p := by omega
          go_wp2_with fail
          go_ret2
          exact ⟨ret_de HD.out.symm HEE.out.symm, hw1⟩
        · by_cases c3 : p ≤ 40
          · by_cases c4 : f ≤ 40
            · have c5 : 40 < p + f := by omega
              clear hr'
              have c1' : 0 ≤ p := by omega
              have c2' : 0 ≤ f := by omega
              have wPF : IntKind.i64.wrap (p + f) = p + f := IntWalk.i64_in _ (by omega)
              have d5 : decide ((40 : Int) < p + f) = true := by simpa using c5
              go_wp2_with fail
              go_ret2
              exact ⟨ret_de HD.out.symm HEE.out.symm, hw1⟩
            · clear hr'
              have c1' : 0 ≤ p := by omega
              have c2' : 0 ≤ f := by omega
              have c4' : 40 < f := by omega
              go_wp2_with fail
              go_ret2
              exact ⟨ret_de HD.out.symm HEE.out.symm, hw1⟩
          · clear hr'
            have c1' : 0 ≤ p := by omega
            have c2' : 0 ≤ f := by omega
            have c3' : 40 < p := by omega
            go_wp2_with fail
            go_ret2
            exact ⟨ret_de HD.out.symm HEE.out.symm, hw1⟩
  · have HE := lid hE
    have HD := lid (decD_bad hE p f)
    have HEE := lid (decE_bad hE p f)
    clear hE
    go_enter Try.func16, Try.ntmps16
    go_wp2_with fail
    (with_reducible refine (refCheck_any gn gd bn bd an ad en ed _).mono ?_); rintro e w1 ⟨rfl, hb1⟩
    rw [HE.out]
    have hw1 := hb0.trans (hb1.mono (by simp))
    go_wp2_with fail
    go_ret2
    exact ⟨ret_de HD.out.symm HEE.out.symm, hw1⟩
end Go.Proofs.Ytmlkegopbdfiaaa
