/-
  Run of sprt's reference.
-/
import Derived.Test.YtmlkegopbdfiaaaSprRun
namespace Go.Proofs.Ytmlkegopbdfiaaa
open Go.RowKit

set_option maxRecDepth 100000 in
set_option maxHeartbeats 4000000 in
theorem refRun_any (gn gd bn bd an ad en ed : Int) (l : List Bool) (n cap : Nat) (ao : Option Addr) (w : World) (hn : l.length = n) (hmax : n ≤ 100000) (hs : Sl w 1 ao n (cvals l)) :
    Calls Try.prog 18 #[.agg (tv gn gd bn bd an ad en ed), .slice ao n cap] w fun e w' => e = .returned (.tuple #[.int .i64 (runR gn gd bn bd an ad en ed l).1, .int .i64 ((runR gn gd bn bd an ad en ed l).2 : Nat), .int .i64 (runE gn gd bn bd an ad en ed n)]) ∧ Below w.heap.size w w' := by
  have HN := lid hn
  have HS := lid hs
  clear hn hs
  have hb0 : Below w.heap.size w (w.alloc (Obj.cells (tv gn gd bn bd an ad en ed) 25)) := ba _ _
  have hT0 := TC.new w gn gd bn bd an ad en ed 25
  rcases trial_01 gn gd bn bd an ad en ed with hE | hE
  · have HE := lid hE
    obtain ⟨Gn, Gd, Bn, Bd, An, Ad, En, Ed, rfl, rfl, rfl, rfl, rfl, rfl, rfl, rfl, r1, r2, r3, r4, -, hle⟩ := trial_ok hE
    have HLE := lid hle
    clear hle
    clear hE
    have R1 := lid r1
    have R2 := lid r2
    have R3 := lid r3
    have R4 := lid r4
    clear r1 r2 r3 r4
    by_cases hn40 : n ≤ 40
    · have HR : Hid (runR (Gn : Int) Gd Bn Bd An Ad En Ed l = runGo (decS Gn Gd Bn Bd An Ad En Ed) l 0 0 0) := lid (by unfold runR; rw [if_pos HE.out, if_pos (by rw [HN.out]; exact hn40)]; rfl)
      have HEE : Hid (runE (Gn : Int) Gd Bn Bd An Ad En Ed n = 0) := lid (by unfold runE; rw [if_pos HE.out, if_pos hn40])
      have hn40' : (n : Int) ≤ 40 := by omega
      have hn40d : decide ((40 : Int) < n) = false := by simp; omega
      go_enter Try.func18, Try.ntmps18
      go_wp2_with fail
      (with_reducible refine (refCheck_any (Gn : Int) Gd Bn Bd An Ad En Ed _).mono ?_); rintro e w1 ⟨rfl, hb1⟩
      rw [HE.out]
      have hw1 := hb0.trans (hb1.mono (by simp))
      have hT1 := hT0.below hb1 (by simp)
      have hq1 : w.heap.size < w1.heap.size := by have := hb1.size; rw [World.size_alloc] at this; omega
      have hS1 := lid (HS.out.below hw1)
      have HT1 := lid hT1
      clear hb1 hT0 hT1
      go_wp2_with fail
      have HZ : Hid (runR (Gn : Int) Gd Bn Bd An Ad En Ed l = refGo (decS Gn Gd Bn Bd An Ad En Ed) l 0 0 0) := lid (by
        rw [HR.out]
        exact runGo_ref _ _ _ _ _ (decS_start R3.out R4.out HLE.out))
      go_loopw [8, 9, 10] (fun vp i _ wr => ∃ k P F : Nat, k ≤ n ∧ vp = .int .i64 P ∧ i = .int .i64 k ∧ P + F = k ∧ Hid (refGo (decS Gn Gd Bn Bd An Ad En Ed) l 0 0 0 = refGo (decS Gn Gd Bn Bd An Ad En Ed) (l.drop k) P F k) ∧ Below w1.heap.size w1 wr) (fun _ i _ _ => n - (intOf i).toNat)
      case atStart => exact ⟨0, 0, 0, Nat.zero_le _, rfl, rfl, rfl, lid rfl, Below.refl _ _⟩
      case round =>
        obtain ⟨k, P, F, hk, rfl, rfl, hPF, HK, hb⟩ := hrel
        by_cases hlt : k < n
        · obtain ⟨t0, t1, t2, t3, t4, t5, t6, t7⟩ := HT1.out.below hb hq1
          have hkl : k < l.length := by rw [HN.out]; exact hlt
          obtain ⟨b1, o1, rfl, hlb, hcell⟩ := (hS1.out.below hb).at_ (k := k) (by omega)
          have x0 := hcell k _ (cvals_at hkl)
          have HX : Hid (l.drop k = l[k] :: l.drop (k + 1)) := lid (List.drop_eq_getElem_cons hkl)
          have hkn : (k : Int) < n := by omega
          clear hcell
          generalize l[k] = b at *
          cases b with
          | true =>
            obtain ⟨P', hP'⟩ : ∃ x, P + 1 = x := ⟨_, rfl⟩
            have HS : Hid (refGo (decS Gn Gd Bn Bd An Ad En Ed) (true :: l.drop (k + 1)) P F k = if decS Gn Gd Bn Bd An Ad En Ed P' F = 0 then refGo (decS Gn Gd Bn Bd An Ad En Ed) (l.drop (k + 1)) P' F (k + 1) else (decS Gn Gd Bn Bd An Ad En Ed P' F, k + 1)) := lid (by rw [← hP']; rfl)
            have hP : P' ≤ 40 := by omega
            have hF : F ≤ 40 := by omega
            have hPi : (P : Int) + 1 = (P' : Int) := by omega
            have hFi : ((k : Int) + 1) - (P' : Int) = (F : Int) := by omega
            go_wp2_with fail
            (with_reducible refine (refDecide_any Gn Gd Bn Bd An Ad En Ed P' F _ R1.out R2.out R3.out R4.out hP hF).mono ?_); rintro e w2 ⟨rfl, hb2⟩
            have hb2' := hb.trans (hb2.mono hb.size)
            by_cases hd : decS Gn Gd Bn Bd An Ad En Ed P' F = 0
            · rw [hd]
              have HD := lid hd
              clear hd t0 t1 t2 t3 t4 t5 t6 t7 x0
              go_wp2_with fail
              go_roundw
              case rel => exact ⟨k + 1, P', F, by omega, by go_num, by go_num, by omega, lid (by rw [HK.out, HX.out, HS.out, if_pos HD.out]), hb2'⟩
              case measure => simp [intOf]; omega
            · have HV : Hid (refGo (decS Gn Gd Bn Bd An Ad En Ed) l 0 0 0 = (decS Gn Gd Bn Bd An Ad En Ed P' F, k + 1)) := lid (by rw [HK.out, HX.out, HS.out, if_neg hd])
              generalize decS Gn Gd Bn Bd An Ad En Ed P' F = d at *
              have hd1 : (d != 0) = true := by simpa using hd
              clear hd t0 t1 t2 t3 t4 t5 t6 t7 x0
              go_wp2_with fail
              go_ret3
              exact ⟨ret_run (by rw [HZ.out, HV.out]) (by rw [HZ.out, HV.out]; omega) HEE.out.symm, hw1.trans (hb2'.mono hw1.size)⟩
          | false =>
            obtain ⟨F', hF'⟩ : ∃ x, F + 1 = x := ⟨_, rfl⟩
            have HS : Hid (refGo (decS Gn Gd Bn Bd An Ad En Ed) (false :: l.drop (k + 1)) P F k = if decS Gn Gd Bn Bd An Ad En Ed P F' = 0 then refGo (decS Gn Gd Bn Bd An Ad En Ed) (l.drop (k + 1)) P F' (k + 1) else (decS Gn Gd Bn Bd An Ad En Ed P F', k + 1)) := lid (by rw [← hF']; rfl)
            have hP : P ≤ 40 := by omega
            have hF : F' ≤ 40 := by omega
            have hFi : ((k : Int) + 1) - (P : Int) = (F' : Int) := by omega
            go_wp2_with fail
            (with_reducible refine (refDecide_any Gn Gd Bn Bd An Ad En Ed P F' _ R1.out R2.out R3.out R4.out hP hF).mono ?_); rintro e w2 ⟨rfl, hb2⟩
            have hb2' := hb.trans (hb2.mono hb.size)
            by_cases hd : decS Gn Gd Bn Bd An Ad En Ed P F' = 0
            · rw [hd]
              have HD := lid hd
              clear hd t0 t1 t2 t3 t4 t5 t6 t7 x0
              go_wp2_with fail
              go_roundw
              case rel => exact ⟨k + 1, P, F', by omega, by go_num, by go_num, by omega, lid (by rw [HK.out, HX.out, HS.out, if_pos HD.out]), hb2'⟩
              case measure => simp [intOf]; omega
            · have HV : Hid (refGo (decS Gn Gd Bn Bd An Ad En Ed) l 0 0 0 = (decS Gn Gd Bn Bd An Ad En Ed P F', k + 1)) := lid (by rw [HK.out, HX.out, HS.out, if_neg hd])
              generalize decS Gn Gd Bn Bd An Ad En Ed P F' = d at *
              have hd1 : (d != 0) = true := by simpa using hd
              clear hd t0 t1 t2 t3 t4 t5 t6 t7 x0
              go_wp2_with fail
              go_ret3
              exact ⟨ret_run (by rw [HZ.out, HV.out]) (by rw [HZ.out, HV.out]; omega) HEE.out.symm, hw1.trans (hb2'.mono hw1.size)⟩
        · obtain rfl : k = n := by omega
          have HV : Hid (refGo (decS Gn Gd Bn Bd An Ad En Ed) l 0 0 0 = (0, k)) := lid (by rw [HK.out, List.drop_eq_nil_of_le (by rw [HN.out]; exact Nat.le_refl _), refGo])
          go_wp2_with fail
          go_ret3
          exact ⟨ret_run (by rw [HZ.out, HV.out]) (by rw [HZ.out, HV.out]) HEE.out.symm, hw1.trans (hb.mono hw1.size)⟩
    · have HR : Hid (runR (Gn : Int) Gd Bn Bd An Ad En Ed l = (0, 0)) := lid (by unfold runR; rw [if_pos HE.out, if_neg (by rw [HN.out]; exact hn40)])
      have HEE : Hid (runE (Gn : Int) Gd Bn Bd An Ad En Ed n = 4) := lid (by unfold runE; rw [if_pos HE.out, if_neg hn40])
      have hn40' : 40 < (n : Int) := by omega
      have hn40d : decide ((40 : Int) < n) = true := by simp; omega
      go_enter Try.func18, Try.ntmps18
      go_wp2_with fail
      (with_reducible refine (refCheck_any (Gn : Int) Gd Bn Bd An Ad En Ed _).mono ?_); rintro e w1 ⟨rfl, hb1⟩
      rw [HE.out]
      have hw1 := hb0.trans (hb1.mono (by simp))
      go_wp2_with fail
      go_ret3
      exact ⟨ret_run (by rw [HR.out]) (by rw [HR.out]; rfl) HEE.out.symm, hw1⟩
  · have HE := lid hE
    have HR : Hid (runR gn gd bn bd an ad en ed l = (0, 0)) := lid (by unfold runR; rw [hE]; rfl)
    have HEE : Hid (runE gn gd bn bd an ad en ed n = 1) := lid (by unfold runE; rw [hE]; rfl)
    clear hE
    go_enter Try.func18, Try.ntmps18
    go_wp2_with fail
    (with_reducible refine (refCheck_any gn gd bn bd an ad en ed _).mono ?_); rintro e w1 ⟨rfl, hb1⟩
    rw [HE.out]
    have hw1 := hb0.trans (hb1.mono (by simp))
    go_wp2_with fail
    go_ret3
    exact ⟨ret_run (by rw [HR.out]) (by rw [HR.out]; rfl) HEE.out.symm, hw1⟩
end Go.Proofs.Ytmlkegopbdfiaaa
