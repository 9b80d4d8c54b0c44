/-
  LeaseTime: the law walk.
-/
import Derived.Test.YtghkldodceamcaaLeaLawOne
import Derived.Test.YtghkldodceamcaaLeaPlain
namespace Go.Proofs.Ytghkldodceamcaa
open Go.RowKit

abbrev newS : ByteArray := ⟨#[110, 101, 119]⟩
theorem newS_size : newS.size ≤ maxLen := by decide
theorem gone_take {l : List Lz} {k : Nat} (h : k < l.length) (x : Lz) : memB (l.take (k + 1)) x = (memB (l.take k) x || decide (l[k] = x)) := memB_take h
set_option maxRecDepth 100000 in
set_option maxHeartbeats 16000000 in
theorem LawTime_any (t : Ls) (ao : Option Addr) (n cap : Nat) (job : Dg) (m b : Nat) (w : World) (h : LsA w ao n t) (hcap : n ≤ cap) (hz : ao = none → cap = 0) (hm : m < 256) (hbb : b < 256) :
    Calls Try.prog 4 #[.agg (tcells t ao n cap), dv job, .int .u8 m, .int .u8 b] w fun e w' => e = .returned (.bool true) ∧ Below w.heap.size w w' := by
  have hb : Below w.heap.size w w := Below.refl _ _
  have HA := lid (show LsB w 0 ao n cap t from ⟨h, hcap, hz, fun _ _ => Nat.zero_le _⟩)
  clear h hcap hz
  go_enter Try.func4, Try.ntmps4
  go_wp2_with fail
  have bw : w.heap.size ≤ w.heap.size := hb.size
  obtain ⟨W0, hW⟩ : ∃ y, (w.alloc (.cells (tcells t ao n cap) 24)).alloc (.cells #[.int .u64 job.1.toNat, .int .u64 job.2.toNat] 27) = y := ⟨_, rfl⟩
  rw [hW]
  have hbW : Below w.heap.size w W0 := by rw [← hW]; exact (((Below.refl w.heap.size w).alloc (Nat.le_refl _) _).alloc (by simp only [World.size_alloc]; omega) _)
  have gW0 : w.heap.size + 1 < W0.heap.size := by rw [← hW]; simp only [World.size_alloc]; omega
  have BT : Hid (W0.heap[w.heap.size]? = some (.cells (tcells t ao n cap) 24 (0, 0))) := lid (by
    rw [← hW]
    iterate 1 rw [Below.heap_alloc _ _ _ (by simp only [World.size_alloc]; omega)]
    have := heap_alloc_new w (.cells (tcells t ao n cap) 24)
    exact this)
  have BJ : Hid (W0.heap[w.heap.size + 1]? = some (.cells #[.int .u64 job.1.toNat, .int .u64 job.2.toNat] 27 (0, 0))) := lid (by
    rw [← hW]
    have := heap_alloc_new (w.alloc (.cells (tcells t ao n cap) 24)) (.cells #[.int .u64 job.1.toNat, .int .u64 job.2.toNat] 27)
    simp only [World.size_alloc] at this
    exact this)
  clear hW
  replace HA := lid (HA.out.below hbW)
  replace hb := hb.trans (hbW.mono hb.size)
  have mW0 := hbW.size
  clear hbW
  (with_reducible refine (leaGreat_any t ao n cap W0 HA.out.A).mono ?_); rintro e w1 ⟨rfl, hb1⟩
  replace HA := lid (HA.out.below hb1)
  replace BT := lid ((hb1.block _ (row_lt BT.out)).trans BT.out)
  replace BJ := lid ((hb1.block _ (row_lt BJ.out)).trans BJ.out)
  replace hb := hb.trans (hb1.mono hb.size)
  have mw1 := hb1.size
  clear hb1
  cases hS : smallLs t with
  | false =>
    clear hS
    simp only [Bool.not_false]
    go_wp2_with fail
    (with_reducible refine (awake_any _).mono ?_); rintro e wa ⟨rfl, hb1⟩
    have hfin := hb.trans (hb1.mono hb.size)
    go_wp2_with fail
    go_ret
    exact ⟨rfl, hfin⟩
  | true =>
  have HSM := lid hS
  clear hS
  simp only [Bool.not_true]
  have q1 := row_cell BT.out 0
  have q2 := row_cell BT.out 1
  have q3 := row_cell BT.out 2
  have q4 := row_lt BT.out
  go_wp2_with fail
  clear q1 q2 q3 q4
  have CK := lid (leaCheck_any t ao n cap w1 HA.out.A HA.out.le)
  obtain ⟨c, hc⟩ : ∃ c, checkLs t = c := ⟨_, rfl⟩
  rw [hc] at CK
  have HC := lid hc
  clear hc
  (with_reducible refine (CK.out).mono ?_); rintro e w2 ⟨rfl, hb1⟩
  clear CK
  replace HA := lid (HA.out.below hb1)
  replace BT := lid ((hb1.block _ (row_lt BT.out)).trans BT.out)
  replace BJ := lid ((hb1.block _ (row_lt BJ.out)).trans BJ.out)
  replace hb := hb.trans (hb1.mono hb.size)
  have mw2 := hb1.size
  clear hb1
  by_cases hc0 : c = 0
  case neg =>
    have d0 : (c == 0) = false := by simpa using hc0
    go_wp2_with fail
    (with_reducible refine (awake_any _).mono ?_); rintro e wa ⟨rfl, hb1⟩
    have hfin := hb.trans (hb1.mono hb.size)
    go_wp2_with fail
    go_ret
    exact ⟨rfl, hfin⟩
  subst hc0
  have HV := lid (check_iff.1 HC.out)
  have hn12 : n ≤ 12 := by have h1 := small12 HSM.out; rw [HA.out.A.len] at h1; exact h1
  have v0 := HV.out.c0
  have v1 := HV.out.c1
  have v2 := HV.out.e0
  have v3 := HV.out.e1
  clear HC
  have q5 := row_cell BT.out 0
  have q6 := row_cell BT.out 1
  have q7 := row_cell BT.out 2
  have q8 := row_cell BJ.out 0
  have q9 := row_cell BJ.out 1
  have q10 := row_lt BT.out
  have q11 := row_lt BJ.out
  go_wp2_with fail
  clear q5 q6 q7 q8 q9 q10 q11
  have CG := lid (grant_any t ao n cap job newS m w2 HA.out.A HA.out.le HA.out.z newS_size)
  by_cases hE : grantE t job newS m = 0
  case neg =>
    obtain ⟨E, hEE⟩ : ∃ E, grantE t job newS m = E := ⟨_, rfl⟩
    obtain ⟨T, hT⟩ : ∃ T, grantL t job newS m = T := ⟨_, rfl⟩
    obtain ⟨X, hX⟩ : ∃ T, grantX t job newS m = T := ⟨_, rfl⟩
    rw [hEE, hT, hX] at CG
    rw [hEE] at hE
    clear hEE hT hX
    have d0 : (E == 0) = false := by simpa using hE
    (with_reducible refine (CG.out).mono ?_); rintro e w3 ⟨_, rfl, ⟨ao1, n1, cap1, rfl, hA⟩, hb1⟩
    clear CG
    replace HA := lid (HA.out.below hb1)
    replace BT := lid ((hb1.block _ (row_lt BT.out)).trans BT.out)
    replace BJ := lid ((hb1.block _ (row_lt BJ.out)).trans BJ.out)
    replace hb := hb.trans (hb1.mono hb.size)
    have mw3 := hb1.size
    clear hb1
    go_wp2_with fail
    have lBTw3 := row_lt BT.out
    have lBJw3 := row_lt BJ.out
    have bw3 : w.heap.size ≤ w3.heap.size := hb.size
    obtain ⟨W3, hW⟩ : ∃ y, (w3.alloc (.cells (tcells T ao1 n1 cap1) 24)).alloc (.cells (lzc X) 31) = y := ⟨_, rfl⟩
    rw [hW]
    have hbW : Below w3.heap.size w3 W3 := by rw [← hW]; exact (((Below.refl w3.heap.size w3).alloc (Nat.le_refl _) _).alloc (by simp only [World.size_alloc]; omega) _)
    have gW3 : w3.heap.size + 1 < W3.heap.size := by rw [← hW]; simp only [World.size_alloc]; omega
    have BT1 : Hid (W3.heap[w3.heap.size]? = some (.cells (tcells T ao1 n1 cap1) 24 (0, 0))) := lid (by
      rw [← hW]
      iterate 1 rw [Below.heap_alloc _ _ _ (by simp only [World.size_alloc]; omega)]
      have := heap_alloc_new w3 (.cells (tcells T ao1 n1 cap1) 24)
      exact this)
    have BX1 : Hid (W3.heap[w3.heap.size + 1]? = some (.cells (lzc X) 31 (0, 0))) := lid (by
      rw [← hW]
      have := heap_alloc_new (w3.alloc (.cells (tcells T ao1 n1 cap1) 24)) (.cells (lzc X) 31)
      simp only [World.size_alloc] at this
      exact this)
    clear hW
    replace HA := lid (HA.out.below hbW)
    replace BT := lid ((hbW.block _ (row_lt BT.out)).trans BT.out)
    replace BJ := lid ((hbW.block _ (row_lt BJ.out)).trans BJ.out)
    replace hb := hb.trans (hbW.mono hb.size)
    have mW3 := hbW.size
    clear hbW
    (with_reducible refine (awake_any _).mono ?_); rintro e wa ⟨rfl, hb1⟩
    have hfin := hb.trans (hb1.mono hb.size)
    go_wp2_with fail
    go_ret
    exact ⟨rfl, hfin⟩
  have HTX := grant_good hE
  have HVT := lid (grant_keeps hE)
  rw [HTX.1, HTX.2.1, HTX.2.2, show withX t job newS m = (job, newS, t.clock + m, t.epoch + 1) from rfl] at CG
  have HTL : Hid ((withL t t.l job newS m).l = t.l ++ [(job, newS, t.clock + m, t.epoch + 1)] ∧ (withL t t.l job newS m).clock = t.clock) := lid ⟨rfl, rfl⟩
  obtain ⟨T, hT⟩ : ∃ T, withL t t.l job newS m = T := ⟨_, rfl⟩
  rw [hT] at CG HVT HTL
  clear HTX hT hE
  (with_reducible refine (CG.out).mono ?_); rintro e w3 ⟨_, rfl, ⟨ao1, n1, cap1, rfl, hA⟩, hb1⟩
  clear CG
  replace HA := lid (HA.out.below hb1)
  replace BT := lid ((hb1.block _ (row_lt BT.out)).trans BT.out)
  replace BJ := lid ((hb1.block _ (row_lt BJ.out)).trans BJ.out)
  replace hb := hb.trans (hb1.mono hb.size)
  have mw3 := hb1.size
  clear hb1
  have HA1 := lid hA
  clear hA
  have q12 := row_cell BT.out 0
  have q13 := row_cell BT.out 1
  have q14 := row_cell BT.out 2
  have q15 := row_cell BJ.out 0
  have q16 := row_cell BJ.out 1
  have q17 := row_lt BT.out
  have q18 := row_lt BJ.out
  go_wp2_with fail
  clear q12 q13 q14 q15 q16 q17 q18
  have lBTw3 := row_lt BT.out
  have lBJw3 := row_lt BJ.out
  have bw3 : w.heap.size ≤ w3.heap.size := hb.size
  obtain ⟨W3, hW⟩ : ∃ y, (w3.alloc (.cells (tcells T ao1 n1 cap1) 24)).alloc (.cells (lzc (job, newS, t.clock + m, t.epoch + 1)) 31) = y := ⟨_, rfl⟩
  rw [hW]
  have hbW : Below w3.heap.size w3 W3 := by rw [← hW]; exact (((Below.refl w3.heap.size w3).alloc (Nat.le_refl _) _).alloc (by simp only [World.size_alloc]; omega) _)
  have gW3 : w3.heap.size + 1 < W3.heap.size := by rw [← hW]; simp only [World.size_alloc]; omega
  have BT1 : Hid (W3.heap[w3.heap.size]? = some (.cells (tcells T ao1 n1 cap1) 24 (0, 0))) := lid (by
    rw [← hW]
    iterate 1 rw [Below.heap_alloc _ _ _ (by simp only [World.size_alloc]; omega)]
    have := heap_alloc_new w3 (.cells (tcells T ao1 n1 cap1) 24)
    exact this)
  have BX1 : Hid (W3.heap[w3.heap.size + 1]? = some (.cells (lzc (job, newS, t.clock + m, t.epoch + 1)) 31 (0, 0))) := lid (by
    rw [← hW]
    have := heap_alloc_new (w3.alloc (.cells (tcells T ao1 n1 cap1) 24)) (.cells (lzc (job, newS, t.clock + m, t.epoch + 1)) 31)
    simp only [World.size_alloc] at this
    exact this)
  clear hW
  replace HA := lid (HA.out.below hbW)
  replace BT := lid ((hbW.block _ (row_lt BT.out)).trans BT.out)
  replace BJ := lid ((hbW.block _ (row_lt BJ.out)).trans BJ.out)
  replace HA1 := lid (HA1.out.below hbW)
  replace hb := hb.trans (hbW.mono hb.size)
  have mW3 := hbW.size
  clear hbW
  have HXT : Hid ((job, newS, t.clock + m, t.epoch + 1) ∈ T.l) := lid (by rw [HTL.out.1]; simp)
  have CH := lid (holds_any T ao1 n1 cap1 (job, newS, t.clock + m, t.epoch + 1) W3 HA1.out.A HA1.out.le)
  rw [holds_iff.2 ⟨HVT.out, HXT.out⟩] at CH
  (with_reducible refine (CH.out).mono ?_); rintro e w4 ⟨rfl, hb1⟩
  clear CH
  replace HA := lid (HA.out.below hb1)
  replace BT := lid ((hb1.block _ (row_lt BT.out)).trans BT.out)
  replace BJ := lid ((hb1.block _ (row_lt BJ.out)).trans BJ.out)
  replace HA1 := lid (HA1.out.below hb1)
  replace BT1 := lid ((hb1.block _ (row_lt BT1.out)).trans BT1.out)
  replace BX1 := lid ((hb1.block _ (row_lt BX1.out)).trans BX1.out)
  replace hb := hb.trans (hb1.mono hb.size)
  have mw4 := hb1.size
  clear hb1
  have q19 := row_cell BT.out 0
  have q20 := row_cell BT.out 1
  have q21 := row_cell BT.out 2
  have q22 := row_cell BT1.out 0
  have q23 := row_cell BT1.out 1
  have q24 := row_cell BT1.out 2
  have q25 := row_lt BT.out
  have q26 := row_lt BT1.out
  go_wp2_with fail
  clear q19 q20 q21 q22 q23 q24 q25 q26
  have CV := lid (advance_any T ao1 n1 cap1 (t.clock + b) w4 HA1.out.A HA1.out.le HA1.out.z)
  by_cases hF : advE T (t.clock + b) = 0
  case neg =>
    have hgt : 1099511627776 < t.clock + b := by
      unfold advE at hF
      rw [if_neg (by simp [check_iff.2 HVT.out])] at hF
      split at hF
      · rename_i h1; rw [HTL.out.2] at h1; omega
      · exact absurd rfl hF
    obtain ⟨E, hEE⟩ : ∃ E, advE T (t.clock + b) = E := ⟨_, rfl⟩
    obtain ⟨U, hU⟩ : ∃ U, advL T (t.clock + b) = U := ⟨_, rfl⟩
    obtain ⟨G, hG⟩ : ∃ G, advG T (t.clock + b) = G := ⟨_, rfl⟩
    rw [hEE, hU, hG] at CV
    rw [hEE] at hF
    clear hEE hU hG
    have d0 : (E == 0) = false := by simpa using hF
    have d1 : decide (1099511627776 < t.clock + b) = true := by simpa using hgt
    (with_reducible refine (CV.out).mono ?_); rintro e w5 ⟨_, _, rfl, ⟨ao2, n2, cap2, rfl, hA⟩, ⟨aog, ng, capg, rfl, hG⟩, hb1⟩
    clear CV
    replace HA := lid (HA.out.below hb1)
    replace BT := lid ((hb1.block _ (row_lt BT.out)).trans BT.out)
    replace BJ := lid ((hb1.block _ (row_lt BJ.out)).trans BJ.out)
    replace HA1 := lid (HA1.out.below hb1)
    replace BT1 := lid ((hb1.block _ (row_lt BT1.out)).trans BT1.out)
    replace BX1 := lid ((hb1.block _ (row_lt BX1.out)).trans BX1.out)
    replace hb := hb.trans (hb1.mono hb.size)
    have mw5 := hb1.size
    clear hb1
    have q27 := row_cell BT.out 0
    have q28 := row_cell BT.out 1
    have q29 := row_cell BT.out 2
    have q30 := row_lt BT.out
    go_wp2_with fail
    clear q27 q28 q29 q30
    have lBTw5 := row_lt BT.out
    have lBJw5 := row_lt BJ.out
    have lBT1w5 := row_lt BT1.out
    have lBX1w5 := row_lt BX1.out
    have bw5 : w.heap.size ≤ w5.heap.size := hb.size
    obtain ⟨W5, hW⟩ : ∃ y, w5.alloc (.cells (tcells U ao2 n2 cap2) 24) = y := ⟨_, rfl⟩
    rw [hW]
    have hbW : Below w5.heap.size w5 W5 := by rw [← hW]; exact ((Below.refl w5.heap.size w5).alloc (Nat.le_refl _) _)
    have gW5 : w5.heap.size + 0 < W5.heap.size := by rw [← hW]; simp only [World.size_alloc]; omega
    have BT2 : Hid (W5.heap[w5.heap.size]? = some (.cells (tcells U ao2 n2 cap2) 24 (0, 0))) := lid (by
      rw [← hW]
      have := heap_alloc_new w5 (.cells (tcells U ao2 n2 cap2) 24)
      exact this)
    clear hW
    replace HA := lid (HA.out.below hbW)
    replace BT := lid ((hbW.block _ (row_lt BT.out)).trans BT.out)
    replace BJ := lid ((hbW.block _ (row_lt BJ.out)).trans BJ.out)
    replace HA1 := lid (HA1.out.below hbW)
    replace BT1 := lid ((hbW.block _ (row_lt BT1.out)).trans BT1.out)
    replace BX1 := lid ((hbW.block _ (row_lt BX1.out)).trans BX1.out)
    replace hb := hb.trans (hbW.mono hb.size)
    have mW5 := hbW.size
    clear hbW
    (with_reducible refine (awake_any _).mono ?_); rintro e wa ⟨rfl, hb1⟩
    have hfin := hb.trans (hb1.mono hb.size)
    go_wp2_with fail
    go_ret
    exact ⟨rfl, hfin⟩
  have HTX := advL_ok hF
  have HVU := lid (adv_keeps hF)
  rw [HTX.1, HTX.2, hF] at CV
  have HUL : Hid ((⟨t.clock + b, T.epoch, keepL T.l (t.clock + b)⟩ : Ls).l = keepL T.l (t.clock + b)) := lid rfl
  obtain ⟨U, hU⟩ : ∃ U : Ls, ⟨t.clock + b, T.epoch, keepL T.l (t.clock + b)⟩ = U := ⟨_, rfl⟩
  have HGL := lid (keep_gone T.l (t.clock + b))
  have HGM : Hid (memB (goneL T.l (t.clock + b)) (job, newS, t.clock + m, t.epoch + 1) = !decide (b < m)) := lid (by
    rw [Bool.eq_iff_iff, memB_iff, gone_mem]
    simp only [HXT.out, true_and, Bool.not_eq_true', decide_eq_false_iff_not]
    omega)
  have HKM : Hid (holdsB U (job, newS, t.clock + m, t.epoch + 1) = decide (b < m)) := lid (by
    rw [Bool.eq_iff_iff, holds_iff, ← hU, keep_mem]
    simp only [HVU.out, HXT.out, true_and, decide_eq_true_eq]
    omega)
  obtain ⟨G, hG⟩ : ∃ G, goneL T.l (t.clock + b) = G := ⟨_, rfl⟩
  rw [hU] at CV HVU HUL
  rw [hG] at CV HGM HGL
  rw [← HUL.out] at HGL
  clear HTX hU hG hF
  (with_reducible refine (CV.out).mono ?_); rintro e w5 ⟨_, _, rfl, ⟨ao2, n2, cap2, rfl, hA⟩, ⟨aog, ng, capg, rfl, hG⟩, hb1⟩
  clear CV
  replace HA := lid (HA.out.below hb1)
  replace BT := lid ((hb1.block _ (row_lt BT.out)).trans BT.out)
  replace BJ := lid ((hb1.block _ (row_lt BJ.out)).trans BJ.out)
  replace HA1 := lid (HA1.out.below hb1)
  replace BT1 := lid ((hb1.block _ (row_lt BT1.out)).trans BT1.out)
  replace BX1 := lid ((hb1.block _ (row_lt BX1.out)).trans BX1.out)
  replace hb := hb.trans (hb1.mono hb.size)
  have mw5 := hb1.size
  clear hb1
  have HA2 := lid hA
  have HG := lid hG
  clear hA hG
  go_wp2_with fail
  have lBTw5 := row_lt BT.out
  have lBJw5 := row_lt BJ.out
  have lBT1w5 := row_lt BT1.out
  have lBX1w5 := row_lt BX1.out
  have bw5 : w.heap.size ≤ w5.heap.size := hb.size
  obtain ⟨W5, hW⟩ : ∃ y, w5.alloc (.cells (tcells U ao2 n2 cap2) 24) = y := ⟨_, rfl⟩
  rw [hW]
  have hbW : Below w5.heap.size w5 W5 := by rw [← hW]; exact ((Below.refl w5.heap.size w5).alloc (Nat.le_refl _) _)
  have gW5 : w5.heap.size + 0 < W5.heap.size := by rw [← hW]; simp only [World.size_alloc]; omega
  have BT2 : Hid (W5.heap[w5.heap.size]? = some (.cells (tcells U ao2 n2 cap2) 24 (0, 0))) := lid (by
    rw [← hW]
    have := heap_alloc_new w5 (.cells (tcells U ao2 n2 cap2) 24)
    exact this)
  clear hW
  replace HA := lid (HA.out.below hbW)
  replace BT := lid ((hbW.block _ (row_lt BT.out)).trans BT.out)
  replace BJ := lid ((hbW.block _ (row_lt BJ.out)).trans BJ.out)
  replace HA1 := lid (HA1.out.below hbW)
  replace BT1 := lid ((hbW.block _ (row_lt BT1.out)).trans BT1.out)
  replace BX1 := lid ((hbW.block _ (row_lt BX1.out)).trans BX1.out)
  replace HA2 := lid (HA2.out.below hbW)
  replace HG := lid (HG.out.below hbW)
  replace hb := hb.trans (hbW.mono hb.size)
  have mW5 := hbW.size
  clear hbW
  have hng : ng ≤ 13 := by
    have h1 := HGL.out
    have h2 := HG.out.len
    have h3 := congrArg List.length HTL.out.1
    have h4 := HA.out.A.len
    simp at h3
    omega
  go_loopw [15, 17, 87] (fun e _ i wr => ∃ k : Nat, k ≤ ng ∧ i = .int .i64 k ∧ e = .bool (memB (G.take k) (job, newS, t.clock + m, t.epoch + 1)) ∧ Below W5.heap.size W5 wr) (fun _ _ i _ => ng - (intOf i).toNat)
  case atStart => exact ⟨0, Nat.zero_le _, rfl, rfl, Below.refl _ _⟩
  case round =>
    obtain ⟨k, hk, rfl, rfl, hb1⟩ := hrel
    have hbr := hb1
    replace HA := lid (HA.out.below hb1)
    replace BT := lid ((hb1.block _ (row_lt BT.out)).trans BT.out)
    replace BJ := lid ((hb1.block _ (row_lt BJ.out)).trans BJ.out)
    replace HA1 := lid (HA1.out.below hb1)
    replace BT1 := lid ((hb1.block _ (row_lt BT1.out)).trans BT1.out)
    replace BX1 := lid ((hb1.block _ (row_lt BX1.out)).trans BX1.out)
    replace HA2 := lid (HA2.out.below hb1)
    replace HG := lid (HG.out.below hb1)
    replace BT2 := lid ((hb1.block _ (row_lt BT2.out)).trans BT2.out)
    replace hb := hb.trans (hb1.mono hb.size)
    have mwr := hb1.size
    clear hb1
    have q27 := row_cell BX1.out 0
    have q28 := row_cell BX1.out 1
    have q29 := row_cell BX1.out 2
    have q30 := row_cell BX1.out 3
    have q31 := row_cell BX1.out 4
    have q32 := row_lt BX1.out
    by_cases hlt : k < ng
    · have hkl : k < G.length := by rw [HG.out.len]; exact hlt
      obtain ⟨b1, o1, rfl, hlb, hcell⟩ := HG.out.sl.at_ hlt
      have x0 := hcell (k * 5 + 0) _ (lzcells_at hkl).1
      have x1 := hcell (k * 5 + 1) _ (lzcells_at hkl).2.1
      have x2 := hcell (k * 5 + 2) _ (lzcells_at hkl).2.2.1
      have x3 := hcell (k * 5 + 3) _ (lzcells_at hkl).2.2.2.1
      have x4 := hcell (k * 5 + 4) _ (lzcells_at hkl).2.2.2.2
      rw [← Nat.add_assoc] at x1 x2 x3 x4
      rw [Nat.add_zero] at x0
      have dk : decide ((k : Int) < (ng : Int)) = true := by simp; omega
      have HMT := lid (gone_take hkl (job, newS, t.clock + m, t.epoch + 1))
      obtain ⟨r, hr⟩ : ∃ y, G[k] = y := ⟨_, rfl⟩
      rw [hr] at x0 x1 x2 x3 x4 HMT
      clear hr hcell
      cases hme : memB (G.take k) (job, newS, t.clock + m, t.epoch + 1) with
      | true =>
        rw [hme] at HMT
        clear hme
        go_wp2_with fail
        go_roundw
        case rel => exact ⟨k + 1, by omega, by go_num, by rw [HMT.out]; rfl, hbr.trans ((ba _ _).mono hbr.size)⟩
        case measure => simp [intOf]; omega
      | false =>
        rw [hme] at HMT
        clear hme
        have HQ := lid (lz_beq r (job, newS, t.clock + m, t.epoch + 1))
        go_wp2_with fail
        all_goals (refine ⟨⟨k + 1, by omega, by go_num, ?_, hbr.trans ((ba _ _).mono hbr.size)⟩, by simp [intOf]; omega⟩; rw [HMT.out, ← HQ.out]; simp_all)
    · obtain rfl : k = ng := by omega
      have HGF : Hid (G.take k = G) := lid (List.take_of_length_le (by rw [HG.out.len]; exact Nat.le_refl _))
      have dk : decide ((k : Int) < (k : Int)) = false := by simp
      have HLN : Hid ((n2 : Int) + (k : Int) = (n1 : Int)) := lid (by
        have h1 := HGL.out
        have h2 := HG.out.len
        have h3 := HA2.out.A.len
        have h4 := HA1.out.A.len
        omega)
      have hn1 : n1 ≤ 13 := by
        have h1 := HA1.out.A.len
        have h3 := congrArg List.length HTL.out.1
        have h4 := HA.out.A.len
        simp at h3
        omega
      have hn2 : n2 ≤ 13 := by have h1 := HLN.out; omega
      rw [HGF.out, HGM.out]
      have CH := lid (holds_any U ao2 n2 cap2 (job, newS, t.clock + m, t.epoch + 1) wr HA2.out.A HA2.out.le)
      rw [HKM.out] at CH
      have q33 := row_cell BT2.out 0
      have q34 := row_cell BT2.out 1
      have q35 := row_cell BT2.out 2
      have q36 := row_lt BT2.out
      go_wp2_with fail
      clear q27 q28 q29 q30 q31 q32 q33 q34 q35 q36
      (with_reducible refine (CH.out).mono ?_); rintro e w6 ⟨rfl, hb1⟩
      clear CH
      replace HA := lid (HA.out.below hb1)
      replace BT := lid ((hb1.block _ (row_lt BT.out)).trans BT.out)
      replace BJ := lid ((hb1.block _ (row_lt BJ.out)).trans BJ.out)
      replace HA1 := lid (HA1.out.below hb1)
      replace BT1 := lid ((hb1.block _ (row_lt BT1.out)).trans BT1.out)
      replace BX1 := lid ((hb1.block _ (row_lt BX1.out)).trans BX1.out)
      replace HA2 := lid (HA2.out.below hb1)
      replace HG := lid (HG.out.below hb1)
      replace BT2 := lid ((hb1.block _ (row_lt BT2.out)).trans BT2.out)
      replace hb := hb.trans (hb1.mono hb.size)
      have mw6 := hb1.size
      clear hb1
      have q37 := row_cell BT2.out 0
      have q38 := row_cell BT2.out 1
      have q39 := row_cell BT2.out 2
      have q40 := row_cell BT1.out 0
      have q41 := row_cell BT1.out 1
      have q42 := row_cell BT1.out 2
      have q43 := row_lt BT2.out
      have q44 := row_lt BT1.out
      have hln := HLN.out
      by_cases hbm : b < m
      · rw [show decide (b < m) = true from decide_eq_true hbm]
        have u1 : decide ((b : Int) < (m : Int)) = true := by simp; omega
        have u3 : decide (b < m) = true := by simp; omega
        have u2 : ((n2 : Int) + (k : Int) == (n1 : Int)) = true := by simpa using hln
        clear hbm
        simp only [Bool.not_true]
        go_wp2_with fail
        (with_reducible refine (awake_any _).mono ?_); rintro e w7 ⟨rfl, hb7⟩
        have hfin := hb.trans (hb7.mono hb.size)
        go_wp2_with fail
        go_ret
        exact ⟨rfl, hfin⟩
      · rw [show decide (b < m) = false from decide_eq_false hbm]
        have u1 : decide ((b : Int) < (m : Int)) = false := by simp; omega
        have u3 : decide (b < m) = false := by simp; omega
        have u2 : ((n2 : Int) + (k : Int) == (n1 : Int)) = true := by simpa using hln
        clear hbm
        simp only [Bool.not_false]
        go_wp2_with fail
        (with_reducible refine (awake_any _).mono ?_); rintro e w7 ⟨rfl, hb7⟩
        have hfin := hb.trans (hb7.mono hb.size)
        go_wp2_with fail
        go_ret
        exact ⟨rfl, hfin⟩
end Go.Proofs.Ytghkldodceamcaa
