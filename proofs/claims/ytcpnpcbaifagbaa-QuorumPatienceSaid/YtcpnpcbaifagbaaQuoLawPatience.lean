/-
  QuorumPatience: the law's walk.
-/
import Derived.Test.YtcpnpcbaifagbaaQuoLawLiars
namespace Go.Proofs.Ytcpnpcbaifagbaa
open Go.RowKit
theorem most_take {l : List Vt} {j : Nat} (hj : j < l.length) : mostB (vsOf (l.take j)) ≤ mostB (vsOf (l.take (j + 1))) := by
  rw [List.take_succ_eq_append_getElem hj, vsOf_snoc]
  exact most_step _ _
theorem va_take {w : World} {ao : Option Addr} {n cap j : Nat} {l : List Vt} (h : VA w ao n cap l) (hj : j ≤ n) : VA w ao j cap (l.take j) :=
  ⟨by rw [List.length_take, h.len]; omega, by
    have := h.sl.take hj
    rwa [show (vcells l).take (j * 2) = vcells (l.take j) from flat_take vte_length l j] at this, Nat.le_trans hj h.le, h.max, h.z, fun v hv => h.sz v (List.mem_of_mem_take hv)⟩
set_option maxRecDepth 100000 in
set_option maxHeartbeats 16000000 in
theorem LawPatience_any (l : List Vt) (n cap : Nat) (ao : Option Addr) (k : Dg) (m : Nat) (w : World) (h : VA w ao n cap l) (hm : m < 256) :
    Calls Try.prog 6 #[dv k, .slice ao n cap, .int .u8 (m : Int)] w fun e w' => e = .returned (.bool true) ∧ Below w.heap.size w w' := by
  have HVA := lid h
  clear h
  unfold dv
  go_enter Try.func6, Try.ntmps6
  go_wp2_with fail
  obtain ⟨W0, hW0⟩ : ∃ y, w.alloc (.cells #[.int .u64 k.1.toNat, .int .u64 k.2.toNat] 25) = y := ⟨_, rfl⟩
  rw [hW0]
  have KB : Hid (W0.heap[w.heap.size]? = some (.cells #[.int .u64 k.1.toNat, .int .u64 k.2.toNat] 25 (0, 0))) := lid (by rw [← hW0]; exact heap_alloc_new _ _)
  have hb0 : Below w.heap.size w W0 := by rw [← hW0]; exact ba _ _
  clear hW0
  replace HVA := lid (HVA.out.below hb0)
  have CF := lid (few_any l n cap ao W0 HVA.out)
  cases hf : fewB l with
  | false =>
    rw [hf] at CF
    clear hf
    (with_reducible refine (CF.out).mono ?_); rintro e w1 ⟨rfl, hb1⟩
    go_wp2_with fail
    (with_reducible refine (awake_any _).mono ?_); rintro e w2 ⟨rfl, hb2⟩
    have h2 := hb1.trans (hb2.mono hb1.size)
    go_wp2_with fail
    go_ret
    exact ⟨rfl, hb0.trans (h2.mono hb0.size)⟩
  | true =>
    have HF := lid (few_yes hf)
    rw [hf] at CF
    clear hf
    have hn10 : n ≤ 10 := by rw [← HVA.out.len]; exact HF.out.1
    (with_reducible refine (CF.out).mono ?_); rintro e w1 ⟨rfl, hb1⟩
    clear CF
    replace KB := lid ((hb1.block _ (row_lt KB.out)).trans KB.out)
    replace HVA := lid (HVA.out.below hb1)
    replace hb0 := hb0.trans (hb1.mono hb0.size)
    clear hb1
    by_cases hm0 : m = 0
    · have d0 : ((m : Int) == 0) = true := by simp; omega
      clear hm0
      go_wp2_with fail
      (with_reducible refine (awake_any _).mono ?_); rintro e w2 ⟨rfl, hb2⟩
      go_wp2_with fail
      go_ret
      exact ⟨rfl, hb0.trans (hb2.mono hb0.size)⟩
    have d0 : ((m : Int) == 0) = false := by simp; omega
    have hm1 : 1 ≤ m := by omega
    clear hm0
    go_wp2_with fail
    go_loopw [7, 8, 9, 10, 11, 23] (fun f _ _ _ _ i wr => ∃ (j : Nat) (b : Bool), j ≤ n + 1 ∧ i = .int .i64 j ∧ f = .bool b ∧ Hid (b = true → 0 < j ∧ (m : Int) ≤ mostB (vsOf (l.take (j - 1)))) ∧ Below w1.heap.size w1 wr) (fun _ _ _ _ _ i _ => n + 1 - (intOf i).toNat)
    case atStart => exact ⟨0, false, Nat.zero_le _, rfl, rfl, lid (fun e => by cases e), Below.refl _ _⟩
    case round =>
      obtain ⟨j, b, hj, rfl, rfl, HBF, hb⟩ := hrel
      by_cases hlt : j < n + 1
      · have hjn : j ≤ n := by omega
        have d1 : decide ((j : Int) < (n : Int) + 1) = true := by simp; omega
        have hcap := HVA.out.le
        have hmx : cap ≤ 9223372036854775807 := HVA.out.max
        have HVj := lid (va_take (HVA.out.below hb) hjn)
        have HFj : Hid ((l.take j).length ≤ 10) := lid (Nat.le_trans (List.length_take_le _ _) (by omega))
        have p0 := (bc hb (row_lt KB.out) 0).trans (row_cell KB.out 0)
        have p1 := (bc hb (row_lt KB.out) 1).trans (row_cell KB.out 1)
        have lK : w.heap.size < wr.heap.size := Nat.lt_of_lt_of_le (row_lt KB.out) hb.size
        have CV := lid (votes_any (l.take j) j cap ao k wr.drew (by omega) (HVj.out.below (Below.refl _ _).drew))
        go_wp2_with fail
        refine wp_region_seq (fun w' => ∃ s : Since wr.heap.size wr, w' = s.world) [(0, true), (1, true), (2, true), (3, true), (4, false), (5, false)] (by kernel_rfl) (by kernel_rfl) (by intro c d v a w h; cases d <;> exact h) (since (Below.refl _ _).drew) ?_
        repeat (first | (refine seq_skip (by rfl) (by rfl) ?_; simp only [Act.put, List.setIfInBounds_toArray, List.set_cons_succ, List.set_cons_zero]) | (refine seq_float (by rfl) (by rfl) (by rfl) ?_; intro K hK; go_big_quiet_op; go_big_quiet_on))
        refine seq_chain (by rfl) ?_
        intro K hK
        go_wp2_with fail
        (with_reducible refine (CV.out).mono ?_); rintro e w2 ⟨rs, ao2, n2, c2, rfl, hM, hB, hb2⟩
        have hb2' : Below wr.heap.size wr w2 := (Below.refl _ _).drew.trans hb2
        have HM := lid hM
        have HB := lid hB
        have HR := lid (votes_rows hB hM HFj.out)
        clear hM hB CV hb2
        go_wp2_with fail
        refine hK.out _ _ (since hb2') ?_
        clear hK K
        repeat (first | (refine seq_skip (by rfl) (by rfl) ?_; simp only [Act.put, List.setIfInBounds_toArray, List.set_cons_succ, List.set_cons_zero]) | (refine seq_float (by rfl) (by rfl) (by rfl) ?_; intro K hK; go_big_quiet_op; go_big_quiet_on))
        refine seq_chain (by rfl) ?_
        intro K hK
        go_wp2_with fail
        refine hK.out _ _ (since hb2') ?_
        clear hK K
        repeat (first | (refine seq_skip (by rfl) (by rfl) ?_; simp only [Act.put, List.setIfInBounds_toArray, List.set_cons_succ, List.set_cons_zero]) | (refine seq_float (by rfl) (by rfl) (by rfl) ?_; intro K hK; go_big_quiet_op; go_big_quiet_on))
        refine seq_nil ?_
        have hb12 := hb.trans (hb2'.mono hb.size)
        have q0 := (bc hb12 (row_lt KB.out) 0).trans (row_cell KB.out 0)
        have q1 := (bc hb12 (row_lt KB.out) 1).trans (row_cell KB.out 1)
        have HAB : Hid (aboutB (rs.map Rw.bal) k = vsOf (l.take j)) := lid (by rw [HM.out, votes_about])
        have CD := lid (Decide_any rs n2 c2 ao2 k (m : Int) w2 (by have := HR.out.2.1; omega) HB.out (fun r hr => by have := HR.out.2.2 r hr; omega) HR.out.1)
        rw [HAB.out] at CD
        have HFI := lid (found_iff (vs := vsOf (l.take j)) (n := (m : Int)) (by omega))
        obtain ⟨R, hR⟩ : ∃ y, decB (vsOf (l.take j)) (m : Int) = y := ⟨_, rfl⟩
        rw [hR] at CD HFI
        clear hR p0 p1 lK hb2'
        obtain ⟨ro, rb⟩ := R
        go_wp2_with fail
        (with_reducible refine (CD.out).mono ?_); rintro e w3 ⟨rfl, hb3⟩
        have hb13 := hb12.trans (hb3.mono hb12.size)
        have p0 := (bc hb13 (row_lt KB.out) 0).trans (row_cell KB.out 0)
        have p1 := (bc hb13 (row_lt KB.out) 1).trans (row_cell KB.out 1)
        have CM := lid (Missing_any rs n2 c2 ao2 k (m : Int) w3 (by have := HR.out.2.1; omega) (HB.out.below hb3) (fun r hr => by have := HR.out.2.2 r hr; omega) HR.out.1 (by omega) (by omega))
        rw [HAB.out] at CM
        have HMI := lid (missing_iff (vs := vsOf (l.take j)) (n := (m : Int)))
        obtain ⟨mm, hmm⟩ : ∃ y, missB (vsOf (l.take j)) (m : Int) = y := ⟨_, rfl⟩
        rw [hmm] at CM HMI
        have HE : Hid ((mm == 0) = rb) := lid (by rw [HMI.out]; exact HFI.out.symm)
        have HBN : Hid (b = true → rb = true) := lid (fun e => by
          obtain ⟨h0, h1⟩ := HBF.out e
          have h2 := most_take (l := l) (j := j - 1) (by rw [HVA.out.len]; omega)
          rw [show j - 1 + 1 = j by omega] at h2
          have h3 : rb = decide ((m : Int) ≤ mostB (vsOf (l.take j))) := HFI.out
          rw [h3]
          exact decide_eq_true (by omega))
        have HNX : Hid (rb = true → 0 < j + 1 ∧ (m : Int) ≤ mostB (vsOf (l.take (j + 1 - 1)))) := lid (fun e => by
          refine ⟨by omega, ?_⟩
          have h3 : rb = decide ((m : Int) ≤ mostB (vsOf (l.take j))) := HFI.out
          rw [e] at h3
          rw [show j + 1 - 1 = j by omega]
          exact of_decide_eq_true h3.symm)
        have de := HE.out
        clear hmm CD hb3 q0 q1 hb12
        cases b with
        | true =>
          have hrb := HBN.out rfl
          subst hrb
          go_wp2_with fail
          (with_reducible refine (CM.out).mono ?_); rintro e w4 ⟨rfl, hb4⟩
          have hb14 := hb13.trans (hb4.mono hb13.size)
          go_wp2_with fail
          go_roundw
          case rel => exact ⟨j + 1, true, by omega, by go_num, rfl, lid (fun _ => HNX.out trivial), hb14⟩
          case measure => simp [intOf]; omega
        | false =>
          cases rb with
          | true =>
            go_wp2_with fail
            (with_reducible refine (CM.out).mono ?_); rintro e w4 ⟨rfl, hb4⟩
            have hb14 := hb13.trans (hb4.mono hb13.size)
            go_wp2_with fail
            go_roundw
            case rel => exact ⟨j + 1, true, by omega, by go_num, rfl, lid (fun _ => HNX.out trivial), hb14⟩
            case measure => simp [intOf]; omega
          | false =>
            go_wp2_with fail
            (with_reducible refine (CM.out).mono ?_); rintro e w4 ⟨rfl, hb4⟩
            have hb14 := hb13.trans (hb4.mono hb13.size)
            go_wp2_with fail
            go_roundw
            case rel => exact ⟨j + 1, false, by omega, by go_num, rfl, HNX, hb14⟩
            case measure => simp [intOf]; omega
      · obtain rfl : j = n + 1 := by omega
        have d1 : decide (((n + 1 : Nat) : Int) < (n : Int) + 1) = false := by simp
        have e1 : ((n + 1 : Nat) : Int) = (n : Int) + 1 := by omega
        go_wp2_with fail
        (with_reducible refine (awake_any _).mono ?_); rintro e w2 ⟨rfl, hb2⟩
        have hb12 := hb.trans (hb2.mono hb.size)
        go_wp2_with fail
        go_ret
        exact ⟨rfl, hb0.trans (hb12.mono hb0.size)⟩
end Go.Proofs.Ytcpnpcbaifagbaa
