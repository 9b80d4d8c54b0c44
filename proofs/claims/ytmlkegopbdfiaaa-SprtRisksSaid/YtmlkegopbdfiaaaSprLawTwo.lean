/-
  The laws SprtFirst and SprtMonotone return true and make new memory alone.
-/
import Derived.Test.YtmlkegopbdfiaaaSprAwake
namespace Go.Proofs.Ytmlkegopbdfiaaa
open Go.RowKit

/-- Decide within the bounds of a valid trial. -/
theorem dec_nat {Gn Gd Bn Bd An Ad En Ed : Nat} (hE : trialE (Gn : Int) Gd Bn Bd An Ad En Ed = 0) {p f : Nat} (h : p + f ≤ 40) :
    decD (Gn : Int) Gd Bn Bd An Ad En Ed p f = decS Gn Gd Bn Bd An Ad En Ed p f ∧ decE (Gn : Int) Gd Bn Bd An Ad En Ed p f = 0 := by
  have hr : inRange (p : Int) f = true := by simp only [inRange, decide_eq_true_eq]; omega
  exact ⟨by rw [decD_in hE hr]; rfl, decE_in hE hr⟩

section
variable {gn gd bn bd an ad en ed : Nat}
theorem above_pass (p f : Nat) : aboveN gd bn bd (p + 1) f = aboveN gd bn bd p f * (bn * gd) := by
  unfold aboveN
  rw [Nat.pow_succ, Nat.mul_right_comm]
theorem below_pass (p f : Nat) : belowN gn gd bd (p + 1) f = belowN gn gd bd p f * (bd * gn) := by
  unfold belowN
  rw [Nat.pow_succ, Nat.mul_right_comm]
theorem above_fail (p f : Nat) : aboveN gd bn bd p (f + 1) = aboveN gd bn bd p f * ((bd - bn) * gd) := by
  unfold aboveN
  rw [Nat.pow_succ, Nat.mul_assoc]
theorem below_fail (p f : Nat) : belowN gn gd bd p (f + 1) = belowN gn gd bd p f * (bd * (gd - gn)) := by
  unfold belowN
  rw [Nat.pow_succ, Nat.mul_assoc]
/-- Refused, accepted. -/
theorem decS_refused {p f : Nat} : decS gn gd bn bd an ad en ed p f = 2 ↔ belowN gn gd bd p f * ((ed - en) * ad) ≤ aboveN gd bn bd p f * (ed * an) := by
  unfold decS
  split
  · simpa
  · split <;> simp_all
theorem decS_accepted {p f : Nat} : decS gn gd bn bd an ad en ed p f = 1 ↔ aboveN gd bn bd p f * (ed * an) < belowN gn gd bd p f * ((ed - en) * ad) ∧ aboveN gd bn bd p f * (ed * (ad - an)) ≤ belowN gn gd bd p f * (en * ad) := by
  unfold decS
  split
  · simp
    omega
  · split
    · simp
      omega
    · simp
      omega
theorem decS_pass (h : bn * gd < gn * bd) {p f : Nat} (hd : decS gn gd bn bd an ad en ed p f = 1) : decS gn gd bn bd an ad en ed (p + 1) f = 1 := by
  rw [decS_accepted] at hd ⊢
  obtain ⟨h1, h2⟩ := hd
  rw [above_pass, below_pass]
  generalize aboveN gd bn bd p f = A at *
  generalize belowN gn gd bd p f = B at *
  generalize bn * gd = x at *
  rw [Nat.mul_comm gn bd] at h
  generalize bd * gn = y at *
  generalize (ed - en) * ad = c2 at *
  generalize ed * an = c1 at *
  generalize ed * (ad - an) = c3 at *
  generalize en * ad = c4 at *
  constructor
  · calc A * x * c1 = A * c1 * x := Nat.mul_right_comm ..
      _ ≤ A * c1 * y := Nat.mul_le_mul_left _ (Nat.le_of_lt h)
      _ < B * c2 * y := Nat.mul_lt_mul_of_pos_right h1 (by omega)
      _ = B * y * c2 := Nat.mul_right_comm ..
  · calc A * x * c3 = A * c3 * x := Nat.mul_right_comm ..
      _ ≤ B * c4 * y := Nat.mul_le_mul h2 (Nat.le_of_lt h)
      _ = B * y * c4 := Nat.mul_right_comm ..
theorem decS_fail (h : bn * gd < gn * bd) {p f : Nat} (hd : decS gn gd bn bd an ad en ed p f = 2) : decS gn gd bn bd an ad en ed p (f + 1) = 2 := by
  rw [decS_refused] at hd ⊢
  rw [above_fail, below_fail]
  have hxy : bd * (gd - gn) ≤ (bd - bn) * gd := by
    rw [Nat.mul_sub_left_distrib, Nat.mul_sub_right_distrib, Nat.mul_comm bd gn]
    omega
  generalize aboveN gd bn bd p f = A at *
  generalize belowN gn gd bd p f = B at *
  generalize bd * (gd - gn) = y at *
  generalize (bd - bn) * gd = x at *
  generalize (ed - en) * ad = c2 at *
  generalize ed * an = c1 at *
  calc B * y * c2 = B * c2 * y := Nat.mul_right_comm ..
    _ ≤ A * c1 * x := Nat.mul_le_mul hd hxy
    _ = A * x * c1 := Nat.mul_right_comm ..
end

set_option maxRecDepth 100000 in
set_option maxHeartbeats 4000000 in
theorem LawFirst_any (gn gd bn bd an ad en ed : Int) (l : List Bool) (n cap : Nat) (ao : Option Addr) (w : World) (hn : l.length = n) (hmax : n ≤ maxLen) (hs : Sl w 1 ao n (cvals l)) :
    Calls Try.prog 6 #[.agg (tv gn gd bn bd an ad en ed), .slice ao n cap] w fun e w' => e = .returned (.bool true) ∧ Below w.heap.size w w' := by
  have hb0 : Below w.heap.size w (w.alloc (Obj.cells (tv gn gd bn bd an ad en ed) 25)) := ba _ _
  have hT0 := TC.new w gn gd bn bd an ad en ed 25
  have HS := lid hs
  have HN := lid hn
  have hmax' : n ≤ 9223372036854775807 := hmax
  clear hs hn hmax
  by_cases h40 : n ≤ 40
  · have h40a : (n : Int) ≤ 40 := by omega
    have h40b : decide ((40 : Int) < n) = false := by simp; omega
    have h100 : n ≤ 100000 := by omega
    rcases trial_01 gn gd bn bd an ad en ed with hE | hE
    · have HE := lid hE
      obtain ⟨Gn, Gd, Bn, Bd, An, Ad, En, Ed, rfl, rfl, rfl, rfl, rfl, rfl, rfl, rfl, r1, r2, r3, r4, -, hle⟩ := trial_ok hE
      clear hE
      have R3 := lid r3
      have R4 := lid r4
      have HLE := lid hle
      clear r1 r2 r3 r4 hle
      have HRE : Hid (runE (Gn : Int) Gd Bn Bd An Ad En Ed n = 0) := lid (by unfold runE; rw [if_pos HE.out, if_pos h40])
      obtain ⟨D, N, hDN⟩ : ∃ D N, runR (Gn : Int) Gd Bn Bd An Ad En Ed l = (D, N) := ⟨_, _, rfl⟩
      have HDN := lid hDN
      have HZ : Hid (refGo (decS Gn Gd Bn Bd An Ad En Ed) l 0 0 0 = (D, N)) := lid (by
        rw [← hDN]
        unfold runR
        rw [if_pos HE.out, if_pos (by rw [HN.out]; exact h40)]
        exact (runGo_ref _ _ _ _ _ (decS_start R3.out R4.out HLE.out)).symm)
      clear hDN
      go_enter Try.func6, Try.ntmps6
      go_wp2_with fail
      (with_reducible refine (Run_any (Gn : Int) Gd Bn Bd An Ad En Ed l n cap ao _ HN.out h100 (HS.out.below hb0)).mono ?_); rintro e w1 ⟨rfl, hb1⟩
      rw [HRE.out, HDN.out]
      have hw1 := hb0.trans (hb1.mono (by simp))
      have HT1 := lid (hT0.below hb1 (by simp))
      have hq1 : w.heap.size < w1.heap.size := by have := hb1.size; rw [World.size_alloc] at this; omega
      have hS1 := lid (HS.out.below hw1)
      clear hb1 hT0
      go_wp2_with fail
      go_loopw [8, 9, 10, 11, 12, 35] (fun vp _ _ _ _ i wr => ∃ k P F : Nat, k ≤ n ∧ vp = .int .i64 P ∧ i = .int .i64 k ∧ P + F = k ∧ Hid (refGo (decS Gn Gd Bn Bd An Ad En Ed) l 0 0 0 = refGo (decS Gn Gd Bn Bd An Ad En Ed) (l.drop k) P F k) ∧ Below w1.heap.size w1 wr) (fun _ _ _ _ _ i _ => n - (intOf i).toNat)
      case atStart => exact ⟨0, 0, 0, Nat.zero_le _, rfl, rfl, rfl, lid rfl, Below.refl _ _⟩
      case round =>
        obtain ⟨k, P, F, hk, rfl, rfl, hPF, HK, hb⟩ := hrel
        by_cases hlt : k < n
        · obtain ⟨t0, t1, t2, t3, t4, t5, t6, t7⟩ := HT1.out.below hb hq1
          have hkl : k < l.length := by rw [HN.out]; exact hlt
          obtain ⟨b1, o1, rfl, hlb, hcell⟩ := (hS1.out.below hb).at_ (k := k) (by omega)
          have x0 := hcell k _ (cvals_at hkl)
          have HX : Hid (l.drop k = l[k] :: l.drop (k + 1)) := lid (List.drop_eq_getElem_cons hkl)
          have hkn : (k : Int) < n := by omega
          clear hcell
          generalize l[k] = b at *
          cases b with
          | true =>
            obtain ⟨P', hP'⟩ : ∃ x, P + 1 = x := ⟨_, rfl⟩
            have HS : Hid (refGo (decS Gn Gd Bn Bd An Ad En Ed) (true :: l.drop (k + 1)) P F k = if decS Gn Gd Bn Bd An Ad En Ed P' F = 0 then refGo (decS Gn Gd Bn Bd An Ad En Ed) (l.drop (k + 1)) P' F (k + 1) else (decS Gn Gd Bn Bd An Ad En Ed P' F, k + 1)) := lid (by rw [← hP']; rfl)
            have hPi : (P : Int) + 1 = (P' : Int) := by omega
            have hFi : ((k : Int) + 1) - (P' : Int) = (F : Int) := by omega
            have HDD := lid (dec_nat HE.out (p := P') (f := F) (by omega))
            go_wp2_with fail
            (with_reducible refine (Decide_any (Gn : Int) Gd Bn Bd An Ad En Ed P' F _).mono ?_); rintro e w2 ⟨rfl, hb2⟩
            rw [HDD.out.1, HDD.out.2]
            have hb2' := hb.trans (hb2.mono hb.size)
            by_cases hd : decS Gn Gd Bn Bd An Ad En Ed P' F = 0
            · rw [hd]
              have HD := lid hd
              clear hd t0 t1 t2 t3 t4 t5 t6 t7 x0
              go_wp2_with fail
              go_roundw
              case rel => exact ⟨k + 1, P', F, by omega, rfl, by go_num, by omega, lid (by rw [HK.out, HX.out, HS.out, if_pos HD.out]), hb2'⟩
              case measure => simp [intOf]; omega
            · have HV : Hid ((decS Gn Gd Bn Bd An Ad En Ed P' F, k + 1) = (D, N)) := lid (by rw [← HZ.out, HK.out, HX.out, HS.out, if_neg hd])
              have hD := (Prod.mk.inj HV.out).1
              have hN := (Prod.mk.inj HV.out).2
              rw [hD] at hd ⊢
              have hNi : (N : Int) = (k : Int) + 1 := by omega
              have hd1 : (D != 0) = true := by simpa using hd
              clear hd hD hN t0 t1 t2 t3 t4 t5 t6 t7 x0
              go_wp2_with fail
              (with_reducible refine (awake_any _).mono ?_); rintro e w3 ⟨rfl, hb3⟩
              go_wp2_with fail
              go_ret
              exact ⟨rfl, hw1.trans ((hb2'.trans (hb3.mono hb2'.size)).mono hw1.size)⟩
          | false =>
            obtain ⟨F', hF'⟩ : ∃ x, F + 1 = x := ⟨_, rfl⟩
            have HS : Hid (refGo (decS Gn Gd Bn Bd An Ad En Ed) (false :: l.drop (k + 1)) P F k = if decS Gn Gd Bn Bd An Ad En Ed P F' = 0 then refGo (decS Gn Gd Bn Bd An Ad En Ed) (l.drop (k + 1)) P F' (k + 1) else (decS Gn Gd Bn Bd An Ad En Ed P F', k + 1)) := lid (by rw [← hF']; rfl)
            have hFi : ((k : Int) + 1) - (P : Int) = (F' : Int) := by omega
            have HDD := lid (dec_nat HE.out (p := P) (f := F') (by omega))
            go_wp2_with fail
            (with_reducible refine (Decide_any (Gn : Int) Gd Bn Bd An Ad En Ed P F' _).mono ?_); rintro e w2 ⟨rfl, hb2⟩
            rw [HDD.out.1, HDD.out.2]
            have hb2' := hb.trans (hb2.mono hb.size)
            by_cases hd : decS Gn Gd Bn Bd An Ad En Ed P F' = 0
            · rw [hd]
              have HD := lid hd
              clear hd t0 t1 t2 t3 t4 t5 t6 t7 x0
              go_wp2_with fail
              go_roundw
              case rel => exact ⟨k + 1, P, F', by omega, rfl, by go_num, by omega, lid (by rw [HK.out, HX.out, HS.out, if_pos HD.out]), hb2'⟩
              case measure => simp [intOf]; omega
            · have HV : Hid ((decS Gn Gd Bn Bd An Ad En Ed P F', k + 1) = (D, N)) := lid (by rw [← HZ.out, HK.out, HX.out, HS.out, if_neg hd])
              have hD := (Prod.mk.inj HV.out).1
              have hN := (Prod.mk.inj HV.out).2
              rw [hD] at hd ⊢
              have hNi : (N : Int) = (k : Int) + 1 := by omega
              have hd1 : (D != 0) = true := by simpa using hd
              clear hd hD hN t0 t1 t2 t3 t4 t5 t6 t7 x0
              go_wp2_with fail
              (with_reducible refine (awake_any _).mono ?_); rintro e w3 ⟨rfl, hb3⟩
              go_wp2_with fail
              go_ret
              exact ⟨rfl, hw1.trans ((hb2'.trans (hb3.mono hb2'.size)).mono hw1.size)⟩
        · obtain rfl : k = n := by omega
          have HV : Hid ((0, k) = (D, N)) := lid (by rw [← HZ.out, HK.out, List.drop_eq_nil_of_le (by rw [HN.out]; exact Nat.le_refl _), refGo])
          obtain ⟨rfl, rfl⟩ := Prod.mk.inj HV.out
          go_wp2_with fail
          (with_reducible refine (awake_any _).mono ?_); rintro e w2 ⟨rfl, hb2⟩
          go_wp2_with fail
          go_ret
          exact ⟨rfl, hw1.trans ((hb.trans (hb2.mono hb.size)).mono hw1.size)⟩
    · have HE := lid hE
      have HRE : Hid (runE gn gd bn bd an ad en ed n = 1) := lid (by unfold runE; rw [hE]; rfl)
      clear hE
      go_enter Try.func6, Try.ntmps6
      go_wp2_with fail
      (with_reducible refine (Run_any gn gd bn bd an ad en ed l n cap ao _ HN.out h100 (HS.out.below hb0)).mono ?_); rintro e w1 ⟨rfl, hb1⟩
      rw [HRE.out]
      have hw1 := hb0.trans (hb1.mono (by simp))
      obtain ⟨t0, t1, t2, t3, t4, t5, t6, t7⟩ := hT0.below hb1 (by simp)
      clear hb1 hT0
      go_wp2_with fail
      (with_reducible refine (Check_any gn gd bn bd an ad en ed _).mono ?_); rintro e w2 ⟨rfl, hb2⟩
      rw [HE.out]
      have hw2 := hw1.trans (hb2.mono hw1.size)
      clear hb2
      go_wp2_with fail
      (with_reducible refine (awake_any _).mono ?_); rintro e w3 ⟨rfl, hb3⟩
      go_wp2_with fail
      go_ret
      exact ⟨rfl, hw2.trans (hb3.mono hw2.size)⟩
  · have h40a : 40 < (n : Int) := by omega
    have h40b : decide ((40 : Int) < n) = true := by simp; omega
    go_enter Try.func6, Try.ntmps6
    go_wp2_with fail
    (with_reducible refine (awake_any _).mono ?_); rintro e w3 ⟨rfl, hb3⟩
    go_wp2_with fail
    go_ret
    exact ⟨rfl, hb0.trans (hb3.mono (by simp))⟩

theorem u8_rem (x : Int) (m : Int) (hm : 0 < m) : ∃ p : Nat, x % m = p ∧ (p : Int) < m := by
  have := Int.emod_nonneg x (by omega : m ≠ 0)
  have := Int.emod_lt_of_pos x hm
  exact ⟨(x % m).toNat, by omega, by omega⟩

set_option maxRecDepth 100000 in
set_option maxHeartbeats 4000000 in
theorem LawMonotone_any (gn gd bn bd an ad en ed x y : Int) (w : World) (hx0 : 0 ≤ x) (hx1 : x ≤ 255) (hy0 : 0 ≤ y) (hy1 : y ≤ 255) :
    Calls Try.prog 7 #[.agg (tv gn gd bn bd an ad en ed), .int .u8 x, .int .u8 y] w fun e w' => e = .returned (.bool true) ∧ Below w.heap.size w w' := by
  have hb0 : Below w.heap.size w (w.alloc (Obj.cells (tv gn gd bn bd an ad en ed) 25)) := ba _ _
  have hT0 := TC.new w gn gd bn bd an ad en ed 25
  obtain ⟨p, hp, hp1⟩ := u8_rem x 40 (by omega)
  obtain ⟨f, hf, hf1⟩ := u8_rem y 40 (by omega)
  by_cases h39 : p + f ≤ 39
  · have h39a : decide ((39 : Int) < (p : Int) + f) = false := by simp; omega
    rcases trial_01 gn gd bn bd an ad en ed with hE | hE
    · have HE := lid hE
      obtain ⟨Gn, Gd, Bn, Bd, An, Ad, En, Ed, rfl, rfl, rfl, rfl, rfl, rfl, rfl, rfl, -, -, -, -, hlt, -⟩ := trial_ok hE
      clear hE
      have HP := lid (fun h => decS_pass (an := An) (ad := Ad) (en := En) (ed := Ed) hlt (p := p) (f := f) h)
      have HF := lid (fun h => decS_fail (an := An) (ad := Ad) (en := En) (ed := Ed) hlt (p := p) (f := f) h)
      have D1 := lid (dec_nat HE.out (p := p) (f := f) (by omega))
      have D2 := lid (dec_nat HE.out (p := p + 1) (f := f) (by omega))
      have D3 := lid (dec_nat HE.out (p := p) (f := f + 1) (by omega))
      clear hlt
      obtain ⟨p', hp'⟩ : ∃ z, p + 1 = z := ⟨_, rfl⟩
      obtain ⟨f', hf'⟩ : ∃ z, f + 1 = z := ⟨_, rfl⟩
      have hpi : (p : Int) + 1 = p' := by omega
      have hfi : (f : Int) + 1 = f' := by omega
      rw [hp'] at D2 HP
      rw [hf'] at D3 HF
      generalize decS Gn Gd Bn Bd An Ad En Ed p f = d at *
      generalize decS Gn Gd Bn Bd An Ad En Ed p' f = dx at *
      generalize decS Gn Gd Bn Bd An Ad En Ed p f' = dy at *
      go_enter Try.func7, Try.ntmps7
      go_wp2_with fail
      (with_reducible refine (Decide_any (Gn : Int) Gd Bn Bd An Ad En Ed p f _).mono ?_); rintro e w1 ⟨rfl, hb1⟩
      rw [D1.out.1, D1.out.2]
      have hw1 := hb0.trans (hb1.mono (by simp))
      have hT1 := hT0.below hb1 (by simp)
      have HT1 := lid hT1
      have hq1 : w.heap.size < w1.heap.size := by have := hb1.size; rw [World.size_alloc] at this; omega
      obtain ⟨t0, t1, t2, t3, t4, t5, t6, t7⟩ := hT1
      clear hb1 hT0
      go_wp2_with fail
      (with_reducible refine (Decide_any (Gn : Int) Gd Bn Bd An Ad En Ed p' f _).mono ?_); rintro e w2 ⟨rfl, hb2⟩
      rw [D2.out.1, D2.out.2]
      have hw2 := hw1.trans (hb2.mono hw1.size)
      have hT2 := HT1.out.below hb2 hq1
      clear t0 t1 t2 t3 t4 t5 t6 t7
      obtain ⟨t0, t1, t2, t3, t4, t5, t6, t7⟩ := hT2
      clear hb2
      go_wp2_with fail
      (with_reducible refine (Decide_any (Gn : Int) Gd Bn Bd An Ad En Ed p f' _).mono ?_); rintro e w3 ⟨rfl, hb3⟩
      rw [D3.out.1, D3.out.2]
      have hw3 := hw2.trans (hb3.mono hw2.size)
      clear hb3 t0 t1 t2 t3 t4 t5 t6 t7
      by_cases hd1 : d = 1
      · have hdx := HP.out hd1
        subst hd1 hdx
        clear HP HF
        go_wp2_with fail
        (with_reducible refine (awake_any _).mono ?_); rintro e w4 ⟨rfl, hb4⟩
        go_wp2_with fail
        go_ret
        exact ⟨rfl, hw3.trans (hb4.mono hw3.size)⟩
      · by_cases hd2 : d = 2
        · have hdy := HF.out hd2
          subst hd2 hdy
          clear HP HF
          go_wp2_with fail
          (with_reducible refine (awake_any _).mono ?_); rintro e w4 ⟨rfl, hb4⟩
          go_wp2_with fail
          go_ret
          exact ⟨rfl, hw3.trans (hb4.mono hw3.size)⟩
        · have e1 : (d != 1) = true := by simpa using hd1
          have e2 : (d != 2) = true := by simpa using hd2
          clear HP HF hd1 hd2
          go_wp2_with fail
          (with_reducible refine (awake_any _).mono ?_); rintro e w4 ⟨rfl, hb4⟩
          go_wp2_with fail
          go_ret
          exact ⟨rfl, hw3.trans (hb4.mono hw3.size)⟩
    · have D1 := lid (decE_bad hE (p : Int) f)
      clear hE
      go_enter Try.func7, Try.ntmps7
      go_wp2_with fail
      (with_reducible refine (Decide_any gn gd bn bd an ad en ed p f _).mono ?_); rintro e w1 ⟨rfl, hb1⟩
      rw [D1.out]
      have hw1 := hb0.trans (hb1.mono (by simp))
      clear hb1 hT0
      go_wp2_with fail
      (with_reducible refine (awake_any _).mono ?_); rintro e w4 ⟨rfl, hb4⟩
      go_wp2_with fail
      go_ret
      exact ⟨rfl, hw1.trans (hb4.mono hw1.size)⟩
  · have h39a : decide ((39 : Int) < (p : Int) + f) = true := by simp; omega
    have h39b : 39 < (p : Int) + f := by omega
    go_enter Try.func7, Try.ntmps7
    go_wp2_with fail
    (with_reducible refine (awake_any _).mono ?_); rintro e w4 ⟨rfl, hb4⟩
    go_wp2_with fail
    go_ret
    exact ⟨rfl, hb0.trans (hb4.mono (by simp))⟩
end Go.Proofs.Ytmlkegopbdfiaaa
