/-
  sprt.Run and the reference's.
-/
import Derived.Test.YtmlkegopbdfiaaaSprRefDec
namespace Go.Proofs.Ytmlkegopbdfiaaa
open Go.RowKit

def cvals (l : List Bool) : List Value := l.map Value.bool
theorem cvals_at {l : List Bool} {k : Nat} (h : k < l.length) : (cvals l)[k]? = some (.bool l[k]) := by simp [cvals, h]
theorem cvals_length (l : List Bool) : (cvals l).length = l.length := by simp [cvals]

/-- The first decision, and after how many outcomes. -/
def runGo (dec : Nat → Nat → Int) : List Bool → Nat → Nat → Nat → Int × Nat
  | [], p, f, i => (dec p f, i)
  | b :: l, p, f, i => if dec p f = 0 then runGo dec l (if b then p + 1 else p) (if b then f else f + 1) (i + 1) else (dec p f, i)
def refGo (dec : Nat → Nat → Int) : List Bool → Nat → Nat → Nat → Int × Nat
  | [], _, _, i => (0, i)
  | b :: l, p, f, i => if dec (if b then p + 1 else p) (if b then f else f + 1) = 0 then refGo dec l (if b then p + 1 else p) (if b then f else f + 1) (i + 1) else (dec (if b then p + 1 else p) (if b then f else f + 1), i + 1)
theorem runGo_ref (dec : Nat → Nat → Int) : ∀ (l : List Bool) (p f i : Nat), dec p f = 0 → runGo dec l p f i = refGo dec l p f i
  | [], p, f, i, h => by simp [runGo, refGo, h]
  | b :: l, p, f, i, h => by
    rw [runGo, if_pos h, refGo]
    generalize (if b then p + 1 else p) = p'
    generalize (if b then f else f + 1) = f'
    split
    · rename_i h'
      exact runGo_ref dec l p' f' (i + 1) h'
    · rename_i h'
      cases l <;> simp [runGo, h']
theorem runGo_stop {dec : Nat → Nat → Int} {l : List Bool} {p f i : Nat} (h : dec p f ≠ 0) : runGo dec l p f i = (dec p f, i) := by
  cases l <;> simp [runGo, h]
theorem runGo_bounds (dec : Nat → Nat → Int) : ∀ (l : List Bool) (p f i : Nat), (runGo dec l p f i).2 ≤ i + l.length
  | [], p, f, i => by simp [runGo]
  | b :: l, p, f, i => by
    rw [runGo]
    split
    · have := runGo_bounds dec l (if b then p + 1 else p) (if b then f else f + 1) (i + 1)
      simp only [List.length_cons]
      omega
    · simp

/-- The likelihood ratio of a valid trial is 1 at the start: no decision. -/
theorem decS_start {gn gd bn bd an ad en ed : Nat} (ha : RatioN an ad) (he : RatioN en ed) (h : an * ed + en * ad < ad * ed) : decS gn gd bn bd an ad en ed 0 0 = 0 := by
  obtain ⟨a1, a2, a3⟩ := ha
  obtain ⟨e1, e2, e3⟩ := he
  unfold decS aboveN belowN
  have h1 : (ed - en) * ad = ed * ad - en * ad := Nat.mul_sub_right_distrib ..
  have h2 : ed * (ad - an) = ed * ad - ed * an := Nat.mul_sub_left_distrib ..
  have h3 : ad * ed = ed * ad := Nat.mul_comm ..
  have h4 : an * ed = ed * an := Nat.mul_comm ..
  simp only [Nat.pow_zero, Nat.one_mul]
  rw [h1, h2, if_neg (by omega), if_neg (by omega)]
theorem ret_run {a a' b b' c c' : Int} (h : a = a') (k : b = b') (m : c = c') : Ending.returned (.tuple #[.int .i64 a, .int .i64 b, .int .i64 c]) = .returned (.tuple #[.int .i64 a', .int .i64 b', .int .i64 c']) := by rw [h, k, m]

def runE (gn gd bn bd an ad en ed : Int) (n : Nat) : Int := if trialE gn gd bn bd an ad en ed = 0 then (if n ≤ 40 then 0 else 4) else 1
def decN (gn gd bn bd an ad en ed : Int) (p f : Nat) : Int := decS gn.toNat gd.toNat bn.toNat bd.toNat an.toNat ad.toNat en.toNat ed.toNat p f
def runR (gn gd bn bd an ad en ed : Int) (l : List Bool) : Int × Nat := if trialE gn gd bn bd an ad en ed = 0 then (if l.length ≤ 40 then runGo (decN gn gd bn bd an ad en ed) l 0 0 0 else (0, 0)) else (0, 0)

set_option maxRecDepth 100000 in
set_option maxHeartbeats 4000000 in
theorem Run_any (gn gd bn bd an ad en ed : Int) (l : List Bool) (n cap : Nat) (ao : Option Addr) (w : World) (hn : l.length = n) (hmax : n ≤ 100000) (hs : Sl w 1 ao n (cvals l)) :
    Calls Try.prog 17 #[.agg (tv gn gd bn bd an ad en ed), .slice ao n cap] w fun e w' => e = .returned (.tuple #[.int .i64 (runR gn gd bn bd an ad en ed l).1, .int .i64 ((runR gn gd bn bd an ad en ed l).2 : Nat), .int .i64 (runE gn gd bn bd an ad en ed n)]) ∧ Below w.heap.size w w' := by
  have HN := lid hn
  have HS := lid hs
  clear hn hs
  have hb0 : Below w.heap.size w (w.alloc (Obj.cells (tv gn gd bn bd an ad en ed) 25)) := ba _ _
  have hT0 := TC.new w gn gd bn bd an ad en ed 25
  rcases trial_01 gn gd bn bd an ad en ed with hE | hE
  · have HE := lid hE
    obtain ⟨Gn, Gd, Bn, Bd, An, Ad, En, Ed, rfl, rfl, rfl, rfl, rfl, rfl, rfl, rfl, r1, r2, r3, r4, -, -⟩ := trial_ok hE
    clear hE
    have R1 := lid r1
    have R2 := lid r2
    have R3 := lid r3
    have R4 := lid r4
    clear r1 r2 r3 r4
    by_cases hn40 : n ≤ 40
    · have HR : Hid (runR (Gn : Int) Gd Bn Bd An Ad En Ed l = runGo (decS Gn Gd Bn Bd An Ad En Ed) l 0 0 0) := lid (by unfold runR; rw [if_pos HE.out, if_pos (by rw [HN.out]; exact hn40)]; rfl)
      have HEE : Hid (runE (Gn : Int) Gd Bn Bd An Ad En Ed n = 0) := lid (by unfold runE; rw [if_pos HE.out, if_pos hn40])
      have hn40' : (n : Int) ≤ 40 := by omega
      have hn40d : decide ((40 : Int) < n) = false := by simp; omega
      go_enter Try.func17, Try.ntmps17
      go_wp2_with fail
      (with_reducible refine (Check_any (Gn : Int) Gd Bn Bd An Ad En Ed _).mono ?_); rintro e w1 ⟨rfl, hb1⟩
      rw [HE.out]
      have hw1 := hb0.trans (hb1.mono (by simp))
      have hT1 := hT0.below hb1 (by simp)
      have hq1 : w.heap.size < w1.heap.size := by have := hb1.size; rw [World.size_alloc] at this; omega
      have hS1 := lid (HS.out.below hw1)
      have HT1 := lid hT1
      clear hb1 hT0 hT1
      go_wp2_with fail
      go_loopw [8, 9, 10, 11] (fun vp vf i _ wr => ∃ k P F : Nat, k ≤ n ∧ vp = .int .i64 P ∧ vf = .int .i64 F ∧ i = .int .i64 k ∧ P + F = k ∧ Hid (runGo (decS Gn Gd Bn Bd An Ad En Ed) l 0 0 0 = runGo (decS Gn Gd Bn Bd An Ad En Ed) (l.drop k) P F k) ∧ Below w1.heap.size w1 wr) (fun _ _ i _ _ => n - (intOf i).toNat)
      case atStart => exact ⟨0, 0, 0, Nat.zero_le _, rfl, rfl, rfl, rfl, lid rfl, Below.refl _ _⟩
      case round =>
        obtain ⟨k, P, F, hk, rfl, rfl, rfl, hPF, HK, hb⟩ := hrel
        obtain ⟨t0, t1, t2, t3, t4, t5, t6, t7⟩ := HT1.out.below hb hq1
        have hP : P ≤ 40 := by omega
        have hF : F ≤ 40 := by omega
        go_wp2_with fail
        (with_reducible refine (decide_any Gn Gd Bn Bd An Ad En Ed P F _ R1.out R2.out R3.out R4.out hP hF).mono ?_); rintro e w2 ⟨rfl, hb2⟩
        have hb2' := hb.trans (hb2.mono hb.size)
        by_cases hd : decS Gn Gd Bn Bd An Ad En Ed P F = 0
        · rw [hd]
          have HD := lid hd
          clear hd
          by_cases hlt : k < n
          · have hkl : k < l.length := by rw [HN.out]; exact hlt
            obtain ⟨b1, o1, rfl, hlb, hcell⟩ := (hS1.out.below hb2').at_ (k := k) (by omega)
            have x0 := hcell k _ (cvals_at hkl)
            have HX : Hid (l.drop k = l[k] :: l.drop (k + 1)) := lid (List.drop_eq_getElem_cons hkl)
            have e1 : ((k : Int) == (n : Int)) = false := by simp; omega
            have e2 : (k == n) = false := by simp; omega
            have hkn : (k : Int) < n := by omega
            clear hcell t0 t1 t2 t3 t4 t5 t6 t7
            generalize l[k] = b at *
            cases b with
            | true =>
              go_wp2_with fail
              go_roundw
              case rel => exact ⟨k + 1, P + 1, F, by omega, by go_num, rfl, by go_num, by omega, lid (by rw [HK.out, HX.out, runGo, if_pos HD.out]; rfl), hb2'⟩
              case measure => simp [intOf]; omega
            | false =>
              go_wp2_with fail
              go_roundw
              case rel => exact ⟨k + 1, P, F + 1, by omega, rfl, by go_num, by go_num, by omega, lid (by rw [HK.out, HX.out, runGo, if_pos HD.out]; rfl), hb2'⟩
              case measure => simp [intOf]; omega
          · obtain rfl : k = n := by omega
            have HV : Hid (runGo (decS Gn Gd Bn Bd An Ad En Ed) l 0 0 0 = (0, k)) := lid (by rw [HK.out, List.drop_eq_nil_of_le (by rw [HN.out]; exact Nat.le_refl _), runGo, HD.out])
            go_wp2_with fail
            go_ret3
            exact ⟨ret_run (by rw [HR.out, HV.out]) (by rw [HR.out, HV.out]) HEE.out.symm, hw1.trans (hb2'.mono hw1.size)⟩
        · have HV : Hid (runGo (decS Gn Gd Bn Bd An Ad En Ed) l 0 0 0 = (decS Gn Gd Bn Bd An Ad En Ed P F, k)) := lid (by rw [HK.out, runGo_stop hd])
          generalize decS Gn Gd Bn Bd An Ad En Ed P F = d at *
          have hd1 : (d != 0) = true := by simpa using hd
          clear hd t0 t1 t2 t3 t4 t5 t6 t7
          go_wp2_with fail
          go_ret3
          exact ⟨ret_run (by rw [HR.out, HV.out]) (by rw [HR.out, HV.out]) HEE.out.symm, hw1.trans (hb2'.mono hw1.size)⟩
    · have HR : Hid (runR (Gn : Int) Gd Bn Bd An Ad En Ed l = (0, 0)) := lid (by unfold runR; rw [if_pos HE.out, if_neg (by rw [HN.out]; exact hn40)])
      have HEE : Hid (runE (Gn : Int) Gd Bn Bd An Ad En Ed n = 4) := lid (by unfold runE; rw [if_pos HE.out, if_neg hn40])
      have hn40' : 40 < (n : Int) := by omega
      have hn40d : decide ((40 : Int) < n) = true := by simp; omega
      go_enter Try.func17, Try.ntmps17
      go_wp2_with fail
      (with_reducible refine (Check_any (Gn : Int) Gd Bn Bd An Ad En Ed _).mono ?_); rintro e w1 ⟨rfl, hb1⟩
      rw [HE.out]
      have hw1 := hb0.trans (hb1.mono (by simp))
      go_wp2_with fail
      go_ret3
      exact ⟨ret_run (by rw [HR.out]) (by rw [HR.out]; rfl) HEE.out.symm, hw1⟩
  · have HE := lid hE
    have HR : Hid (runR gn gd bn bd an ad en ed l = (0, 0)) := lid (by unfold runR; rw [hE]; rfl)
    have HEE : Hid (runE gn gd bn bd an ad en ed n = 1) := lid (by unfold runE; rw [hE]; rfl)
    clear hE
    go_enter Try.func17, Try.ntmps17
    go_wp2_with fail
    (with_reducible refine (Check_any gn gd bn bd an ad en ed _).mono ?_); rintro e w1 ⟨rfl, hb1⟩
    rw [HE.out]
    have hw1 := hb0.trans (hb1.mono (by simp))
    go_wp2_with fail
    go_ret3
    exact ⟨ret_run (by rw [HR.out]) (by rw [HR.out]; rfl) HEE.out.symm, hw1⟩
end Go.Proofs.Ytmlkegopbdfiaaa
