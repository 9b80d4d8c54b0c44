/-
  The law: no element of the result can be left out.
-/
import Derived.Test.YtnjcoejnknpfoaaMinLawBase
namespace Go.Proofs.Ytnjcoejnknpfoaa
open Go.RowKit Go.Shelf
set_option maxRecDepth 100000 in
set_option maxHeartbeats 8000000 in
theorem LawOne_any (m : Nat) (hm : m < 256) (L : List Sw) (ok oc : Nat) (ob : Option Addr) (q r : Int) (w : World) (hG : GA w ob ok oc L) (hr : 0 ≤ r) :
    Calls Try.prog 6 #[.int .u8 m, .agg #[.slice ob ok oc, .int .u64 q, .int .u8 r]] w fun e w' => e = .returned (.bool true) ∧ Below w.heap.size w w' := by
  have CSH := lid (fun (w1 : World) (hb : Below w.heap.size w w1) => short_any L ok oc ob q r w1 (hG.below hb))
  cases hs : shortB L with
  | false =>
    rw [hs] at CSH
    clear hs hG
    go_enter Try.func6, Try.ntmps6
    go_wp2_with fail
    (with_reducible refine (CSH.out _ (ba _ _)).mono ?_); rintro e w2 ⟨rfl, hb2⟩
    have g2 := (ba w (.cells #[.slice ob ok oc, .int .u64 q, .int .u8 r] 42)).trans (hb2.mono (by simp))
    clear hb2
    go_wp2_with fail
    (with_reducible refine (awake_any _).mono ?_); rintro e w3 ⟨rfl, hb3⟩
    go_wp2_with fail
    go_ret
    exact ⟨ret_bool rfl, g2.trans (hb3.mono g2.size)⟩
  | true =>
    rw [hs] at CSH
    obtain ⟨h6, h10⟩ := short_good hs
    obtain ⟨n, hn⟩ : ∃ n, m % 11 = n := ⟨_, rfl⟩
    have hn10 : n ≤ 10 := by omega
    have hnI : (m : Int) % 11 = (n : Int) := by omega
    obtain ⟨T, R, hT⟩ := trc_ex (orcF L q r n) n
    have CRUN := lid (fun (w1 : World) (hb : Below w.heap.size w w1) => run_any n (by omega) L ok oc ob q r w1 (hG.below hb) hr (by have := hG.len; omega) (fun s hs => by have := h10 s hs; omega) T R hT)
    have CBAD := lid (fun (w1 : World) (hb : Below w.heap.size w w1) (xs : List Int) (n2 c2 : Nat) (a2 : Option Addr) (hx : IA w1 a2 n2 c2 xs) (h2 : n2 ≤ 1000) => bad_any L ok oc ob q r xs n2 c2 a2 n w1 (hG.below hb) hx hr (by omega) (by have := hG.len; omega) (fun s hs => by have := h10 s hs; omega))
    have HT := lid hT
    have HW := lid (orc_whole L q r n)
    have HRL : Hid (R.length ≤ n) := lid hT.rlen
    change Hid (∀ (w1 : World) (hb : Below w.heap.size w w1) (xs : List Int) (n2 c2 : Nat) (a2 : Option Addr) (hx : IA w1 a2 n2 c2 xs) (h2 : n2 ≤ 1000), Calls Try.prog 27 #[.agg #[.slice ob ok oc, .int .u64 q, .int .u8 r], .slice a2 n2 c2, .int .i64 n] w1 fun e w' => e = .returned (.bool (orcF L q r n xs)) ∧ Below w1.heap.size w1 w') at CBAD
    obtain ⟨f, hf⟩ : ∃ f, orcF L q r n = f := ⟨_, rfl⟩
    rw [hf] at HT HW CBAD
    clear hs hG h6 h10 hT hf hr
    have hm0 : (0 : Int) ≤ (m : Int) := Int.natCast_nonneg m
    go_enter Try.func6, Try.ntmps6
    go_wp2_with fail
    obtain ⟨W1, hW1⟩ : ∃ y, w.alloc (.cells #[.slice ob ok oc, .int .u64 q, .int .u8 r] 42) = y := ⟨_, rfl⟩
    have g1 : Below w.heap.size w W1 := by rw [← hW1]; exact ba _ _
    have HO1 : Hid (W1.heap[w.heap.size]? = some (.cells #[.slice ob ok oc, .int .u64 q, .int .u8 r] 42 (0, 0))) := lid (by rw [← hW1]; exact h_new rfl _)
    rw [hW1]
    clear hW1
    (with_reducible refine (CSH.out W1 g1).mono ?_); rintro e w2 ⟨rfl, hb2⟩
    have HO2 := lid ((hb2.block _ (row_lt HO1.out)).trans HO1.out)
    have g2 := g1.trans (hb2.mono g1.size)
    clear hb2 CSH
    have l2 := row_lt HO2.out
    have x0 := row_cell HO2.out 0
    have x1 := row_cell HO2.out 1
    have x2 := row_cell HO2.out 2
    go_wp2_with fail
    (with_reducible refine (CRUN.out w2 g2).mono ?_); rintro e w3 ⟨a3, n3, c3, vo, base, rs, rfl, hI, hrs, hO, hb3⟩
    have HI := lid hI
    have HRS := lid hrs
    have HOU := lid hO
    have HO3 := lid ((hb3.block _ (row_lt HO2.out)).trans HO2.out)
    have g3 := g2.trans (hb3.mono g2.size)
    have hn3 : n3 ≤ 10 := by have := hI.len; have := HRL.out; omega
    clear hI hrs hO hb3 CRUN x0 x1 x2 l2
    have HIT := lid (HT.out.hit HW.out)
    have HASC := lid HT.out.asc
    have HMIN := lid (HT.out.min HW.out)
    have HLEN := lid HI.out.len
    have l3 := row_lt HO3.out
    have x0 := row_cell HO3.out 0
    have x1 := row_cell HO3.out 1
    have x2 := row_cell HO3.out 2
    go_wp2_with fail
    (with_reducible refine (CBAD.out w3 g3 R n3 c3 a3 HI.out (by omega)).mono ?_); rintro e w4 ⟨rfl, hb4⟩
    rw [HIT.out]
    have HO4 := lid ((hb4.block _ (row_lt HO3.out)).trans HO3.out)
    have g4 := g3.trans (hb4.mono g3.size)
    have HI4 := lid (HI.out.below hb4)
    clear hb4 l3 x0 x1 x2
    go_wp2_with fail
    go_loopw [36] (fun vi wr => ∃ i : Nat, i ≤ n3 ∧ vi = .int .i64 i ∧ Hid (Below w4.heap.size w4 wr)) (fun vi _ => n3 - (intOf vi).toNat)
    case atStart => exact ⟨0, Nat.zero_le _, rfl, lid (Below.refl _ _)⟩
    case round =>
      obtain ⟨i, hi, rfl, HB⟩ := hrel
      obtain ⟨wq, rfl⟩ : ∃ y, y = wr := ⟨_, rfl⟩
      have gq := g4.trans (HB.out.mono g4.size)
      by_cases hlt : i < n3
      · have di : decide ((i : Int) < (n3 : Int)) = true := by simp; omega
        have hil : i < R.length := by rw [HLEN.out]; exact hlt
        have HIQ := lid (HI4.out.below HB.out)
        obtain ⟨b1, o1, rfl, hlb, hcell⟩ := HIQ.out.sl.at_ hlt
        have y0 := hcell i _ (ivals_at hil)
        have HOQ := lid ((HB.out.block _ (row_lt HO4.out)).trans HO4.out)
        have lO := row_lt HOQ.out
        have x0 := row_cell HOQ.out 0
        have x1 := row_cell HOQ.out 1
        have x2 := row_cell HOQ.out 2
        have HXR := lid (HASC.out.2 _ (List.getElem_mem hil))
        have HLX := lid (HMIN.out _ (List.getElem_mem hil))
        have HPV : Hid (∀ (p : Nat) (hp : p < R.length), p < i → R[p] < R[i]) := lid (fun p hp hpi => (List.pairwise_iff_getElem.1 HASC.out.1) p i hp hil hpi)
        rcases Nat.eq_zero_or_pos i with h0 | h0
        · have di0 : decide ((0 : Int) < (i : Int)) = false := by simp; omega
          have di1 : decide (0 < i) = false := by simp; omega
          obtain ⟨x, hx⟩ : ∃ x, R[i] = x := ⟨_, rfl⟩
          rw [hx] at y0 HXR HLX
          have dx0 : decide (x < 0) = false := by have := HXR.out.1; simp; omega
          have dx1 : decide ((n : Int) ≤ x) = false := by have := HXR.out.2; simp; omega
          clear hcell hx HPV h0
          go_wp2_with fail
          refine wp_region_seq (fun w' => ∃ s : Since wq.heap.size wq, w' = s.world) [(0, true), (1, true), (2, true), (3, true), (4, true), (5, true), (6, true), (7, true), (8, true), (9, true), (10, true), (11, true), (12, true), (13, true), (14, true), (15, true), (16, true), (17, true), (18, true), (19, true), (20, true), (21, true), (22, true), (23, true), (25, true), (24, false), (26, false), (27, true)] (by kernel_rfl) (by kernel_rfl) (by intro c d v a w h; first | (cases d <;> exact h) | cases h.1) (since (Below.refl _ _).drew) ?_
          repeat (first | (refine seq_skip (by rfl) (by rfl) ?_; simp only [Act.put, List.setIfInBounds_toArray, List.set_cons_succ, List.set_cons_zero]) | (refine seq_float (by rfl) (by rfl) (by rfl) ?_; intro K hK; go_big_quiet_op; go_big_quiet_on))
          refine seq_chain (by rfl) ?_
          intro K hK
          go_wp2_with fail
          (with_reducible refine (Without_any R n3 c3 _ x wq.drew (by omega) (HIQ.out.below (Below.refl _ _).drew)).mono ?_); rintro e w5 ⟨v5, k5, rfl, hown5, hb5⟩
          obtain ⟨a5, c5, rfl, hI5⟩ := IA.of_own hown5
          have h5 : Below wq.heap.size wq w5 := (Below.refl _ _).drew.trans hb5
          have HI5 := lid hI5
          have hk5 : k5 ≤ 10 := by
            have h1 := hI5.len
            have h2 := lessI_le R x
            have h3 := HIQ.out.len
            omega
          clear hown5 hI5 hb5
          go_wp2_with fail
          refine hK.out _ _ (since h5) ?_
          clear hK K
          repeat (first | (refine seq_skip (by rfl) (by rfl) ?_; simp only [Act.put, List.setIfInBounds_toArray, List.set_cons_succ, List.set_cons_zero]) | (refine seq_float (by rfl) (by rfl) (by rfl) ?_; intro K hK; go_big_quiet_op; go_big_quiet_on))
          refine seq_chain (by rfl) ?_
          intro K hK
          go_wp2_with fail
          (with_reducible refine (CBAD.out w5 (gq.trans (h5.mono gq.size)) (lessI R x) k5 c5 a5 HI5.out (by omega)).mono ?_); rintro e w6 ⟨rfl, hb6⟩
          rw [HLX.out]
          have h6 := h5.trans (hb6.mono h5.size)
          have HB6 := lid (HB.out.trans (h6.mono HB.out.size))
          clear hb6
          go_wp2_with fail
          refine hK.out _ _ (since h6) ?_
          clear hK K
          repeat (first | (refine seq_skip (by rfl) (by rfl) ?_; simp only [Act.put, List.setIfInBounds_toArray, List.set_cons_succ, List.set_cons_zero]) | (refine seq_float (by rfl) (by rfl) (by rfl) ?_; intro K hK; go_big_quiet_op; go_big_quiet_on))
          refine seq_nil ?_
          go_wp2_with fail
          go_roundw
          case rel => exact ⟨i + 1, by omega, by go_num, HB6⟩
          case measure => simp [intOf]; omega
        · have di0 : decide ((0 : Int) < (i : Int)) = true := by simp; omega
          have di1 : decide (0 < i) = true := by simp; omega
          obtain ⟨i', hi'⟩ : ∃ i', i - 1 = i' := ⟨_, rfl⟩
          have hpl : i' < R.length := by omega
          have hp3 : i' < n3 := by omega
          have z0 := hcell i' _ (ivals_at hpl)
          have HLP := lid (HPV.out i' hpl (by omega))
          obtain ⟨x, hx⟩ : ∃ x, R[i] = x := ⟨_, rfl⟩
          obtain ⟨z, hz⟩ : ∃ z, R[i'] = z := ⟨_, rfl⟩
          rw [hx] at y0 HXR HLX HLP
          rw [hz] at z0 HLP
          have dx0 : decide (x < 0) = false := by have := HXR.out.1; simp; omega
          have dx1 : decide ((n : Int) ≤ x) = false := by have := HXR.out.2; simp; omega
          have dx2 : decide (x ≤ z) = false := by have := HLP.out; simp; omega
          have ei : ((i : Int)) - 1 = (i' : Int) := by omega
          clear hcell hx hz HPV h0 hi' hpl
          go_wp2_with fail
          refine wp_region_seq (fun w' => ∃ s : Since wq.heap.size wq, w' = s.world) [(0, true), (1, true), (2, true), (3, true), (4, true), (5, true), (6, true), (7, true), (8, true), (9, true), (10, true), (11, true), (12, true), (13, true), (14, true), (15, true), (16, true), (17, true), (18, true), (19, true), (20, true), (21, true), (22, true), (23, true), (25, true), (24, false), (26, false), (27, true)] (by kernel_rfl) (by kernel_rfl) (by intro c d v a w h; first | (cases d <;> exact h) | cases h.1) (since (Below.refl _ _).drew) ?_
          repeat (first | (refine seq_skip (by rfl) (by rfl) ?_; simp only [Act.put, List.setIfInBounds_toArray, List.set_cons_succ, List.set_cons_zero]) | (refine seq_float (by rfl) (by rfl) (by rfl) ?_; intro K hK; go_big_quiet_op; go_big_quiet_on))
          refine seq_chain (by rfl) ?_
          intro K hK
          go_wp2_with fail
          (with_reducible refine (Without_any R n3 c3 _ x wq.drew (by omega) (HIQ.out.below (Below.refl _ _).drew)).mono ?_); rintro e w5 ⟨v5, k5, rfl, hown5, hb5⟩
          obtain ⟨a5, c5, rfl, hI5⟩ := IA.of_own hown5
          have h5 : Below wq.heap.size wq w5 := (Below.refl _ _).drew.trans hb5
          have HI5 := lid hI5
          have hk5 : k5 ≤ 10 := by
            have h1 := hI5.len
            have h2 := lessI_le R x
            have h3 := HIQ.out.len
            omega
          clear hown5 hI5 hb5
          go_wp2_with fail
          refine hK.out _ _ (since h5) ?_
          clear hK K
          repeat (first | (refine seq_skip (by rfl) (by rfl) ?_; simp only [Act.put, List.setIfInBounds_toArray, List.set_cons_succ, List.set_cons_zero]) | (refine seq_float (by rfl) (by rfl) (by rfl) ?_; intro K hK; go_big_quiet_op; go_big_quiet_on))
          refine seq_chain (by rfl) ?_
          intro K hK
          go_wp2_with fail
          (with_reducible refine (CBAD.out w5 (gq.trans (h5.mono gq.size)) (lessI R x) k5 c5 a5 HI5.out (by omega)).mono ?_); rintro e w6 ⟨rfl, hb6⟩
          rw [HLX.out]
          have h6 := h5.trans (hb6.mono h5.size)
          have HB6 := lid (HB.out.trans (h6.mono HB.out.size))
          clear hb6
          go_wp2_with fail
          refine hK.out _ _ (since h6) ?_
          clear hK K
          repeat (first | (refine seq_skip (by rfl) (by rfl) ?_; simp only [Act.put, List.setIfInBounds_toArray, List.set_cons_succ, List.set_cons_zero]) | (refine seq_float (by rfl) (by rfl) (by rfl) ?_; intro K hK; go_big_quiet_op; go_big_quiet_on))
          refine seq_nil ?_
          go_wp2_with fail
          go_roundw
          case rel => exact ⟨i + 1, by omega, by go_num, HB6⟩
          case measure => simp [intOf]; omega
      · obtain rfl : i = n3 := by omega
        have di : decide ((i : Int) < (i : Int)) = false := by simp
        go_wp2_with fail
        (with_reducible refine (awake_any wq).mono ?_); rintro e w9 ⟨rfl, hb9⟩
        go_wp2_with fail
        go_ret
        exact ⟨ret_bool rfl, gq.trans (hb9.mono gq.size)⟩
end Go.Proofs.Ytnjcoejnknpfoaa
