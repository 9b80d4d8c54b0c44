/-
  The law: questions are few and different.
-/
import Derived.Test.YtnjcoejnknpfoaaMinLawBase
namespace Go.Proofs.Ytnjcoejnknpfoaa
open Go.RowKit Go.Shelf
theorem shl_small : ∀ n < 6, wrap64 (wrap64 (2 ^ n) - 1) = ((2 ^ n - 1 : Nat) : Int) := by decide +kernel
theorem tri_small : ∀ n : Nat, n < 11 → wrap64 ((wrap64 ((n : Int) * ((n : Int) + 1))).tdiv 2) = ((n * (n + 1) / 2 : Nat) : Int) := by decide +kernel
set_option maxRecDepth 100000 in
set_option maxHeartbeats 8000000 in
theorem LawQuestions_any (m : Nat) (hm : m < 256) (L : List Sw) (ok oc : Nat) (ob : Option Addr) (q r : Int) (w : World) (hG : GA w ob ok oc L) (hr : 0 ≤ r) :
    Calls Try.prog 8 #[.int .u8 m, .agg #[.slice ob ok oc, .int .u64 q, .int .u8 r]] w fun e w' => e = .returned (.bool true) ∧ Below w.heap.size w w' := by
  have CSH := lid (fun (w1 : World) (hb : Below w.heap.size w w1) => short_any L ok oc ob q r w1 (hG.below hb))
  cases hs : shortB L with
  | false =>
    rw [hs] at CSH
    clear hs hG
    go_enter Try.func8, Try.ntmps8
    go_wp2_with fail
    (with_reducible refine (CSH.out _ (ba _ _)).mono ?_); rintro e w2 ⟨rfl, hb2⟩
    have g2 := (ba w (.cells #[.slice ob ok oc, .int .u64 q, .int .u8 r] 42)).trans (hb2.mono (by simp))
    clear hb2
    go_wp2_with fail
    (with_reducible refine (awake_any _).mono ?_); rintro e w3 ⟨rfl, hb3⟩
    go_wp2_with fail
    go_ret
    exact ⟨ret_bool rfl, g2.trans (hb3.mono g2.size)⟩
  | true =>
    rw [hs] at CSH
    obtain ⟨h6, h10⟩ := short_good hs
    obtain ⟨n, hn⟩ : ∃ n, m % 11 = n := ⟨_, rfl⟩
    have hn10 : n ≤ 10 := by omega
    have hnI : (m : Int) % 11 = (n : Int) := by omega
    obtain ⟨T, R, hT⟩ := trc_ex (orcF L q r n) n
    have CRUN := lid (fun (w1 : World) (hb : Below w.heap.size w w1) => run_any n (by omega) L ok oc ob q r w1 (hG.below hb) hr (by have := hG.len; omega) (fun s hs => by have := h10 s hs; omega) T R hT)
    have CBAD := lid (fun (w1 : World) (hb : Below w.heap.size w w1) (xs : List Int) (n2 c2 : Nat) (a2 : Option Addr) (hx : IA w1 a2 n2 c2 xs) (h2 : n2 ≤ 1000) => bad_any L ok oc ob q r xs n2 c2 a2 n w1 (hG.below hb) hx hr (by omega) (by have := hG.len; omega) (fun s hs => by have := h10 s hs; omega))
    have HT := lid hT
    have HW := lid (orc_whole L q r n)
    have HRL : Hid (R.length ≤ n) := lid hT.rlen
    change Hid (∀ (w1 : World) (hb : Below w.heap.size w w1) (xs : List Int) (n2 c2 : Nat) (a2 : Option Addr) (hx : IA w1 a2 n2 c2 xs) (h2 : n2 ≤ 1000), Calls Try.prog 27 #[.agg #[.slice ob ok oc, .int .u64 q, .int .u8 r], .slice a2 n2 c2, .int .i64 n] w1 fun e w' => e = .returned (.bool (orcF L q r n xs)) ∧ Below w1.heap.size w1 w') at CBAD
    obtain ⟨f, hf⟩ : ∃ f, orcF L q r n = f := ⟨_, rfl⟩
    rw [hf] at HT HW CBAD
    clear hs hG h6 h10 hT hf hr
    have hm0 : (0 : Int) ≤ (m : Int) := Int.natCast_nonneg m
    go_enter Try.func8, Try.ntmps8
    go_wp2_with fail
    obtain ⟨W1, hW1⟩ : ∃ y, w.alloc (.cells #[.slice ob ok oc, .int .u64 q, .int .u8 r] 42) = y := ⟨_, rfl⟩
    have g1 : Below w.heap.size w W1 := by rw [← hW1]; exact ba _ _
    have HO1 : Hid (W1.heap[w.heap.size]? = some (.cells #[.slice ob ok oc, .int .u64 q, .int .u8 r] 42 (0, 0))) := lid (by rw [← hW1]; exact h_new rfl _)
    rw [hW1]
    clear hW1
    (with_reducible refine (CSH.out W1 g1).mono ?_); rintro e w2 ⟨rfl, hb2⟩
    have HO2 := lid ((hb2.block _ (row_lt HO1.out)).trans HO1.out)
    have g2 := g1.trans (hb2.mono g1.size)
    clear hb2 CSH
    have l2 := row_lt HO2.out
    have x0 := row_cell HO2.out 0
    have x1 := row_cell HO2.out 1
    have x2 := row_cell HO2.out 2
    go_wp2_with fail
    (with_reducible refine (CRUN.out w2 g2).mono ?_); rintro e w3 ⟨a3, n3, c3, vo, base, rs, rfl, hI, hrs, hO, hb3⟩
    have HI := lid hI
    have HRS := lid hrs
    have HOU := lid hO
    have HO3 := lid ((hb3.block _ (row_lt HO2.out)).trans HO2.out)
    have g3 := g2.trans (hb3.mono g2.size)
    have hn3 : n3 ≤ 10 := by have := hI.len; have := HRL.out; omega
    clear hI hrs hO hb3 CRUN x0 x1 x2 l2
    obtain ⟨a5, c5, rfl, hGA⟩ := HOU.out.ga
    have HGA := lid hGA
    have hcap : rs.length ≤ c5 := hGA.le
    have HLEN : Hid (rs.length = T.length) := lid (by rw [← HRS.out, List.length_map])
    have hr55 : rs.length ≤ 55 := by have := HLEN.out; have := HT.out.len60 hn10; omega
    have HAT : Hid (∀ (i : Nat) (h : i < rs.length) (h2 : i < T.length), T[i] = (rs[i]).vs) := lid (fun i h h2 => by simp only [← HRS.out, List.getElem_map])
    have HSHORT := lid HT.out.short
    have HNODUP := lid HT.out.nodup
    have HFEW := lid HT.out.len
    clear hGA
    go_wp2_with fail
    go_loopw [31] (fun vi wr => ∃ i : Nat, i ≤ rs.length ∧ vi = .int .i64 i ∧ Hid (Below w3.heap.size w3 wr)) (fun vi _ => rs.length - (intOf vi).toNat)
    case atStart => exact ⟨0, Nat.zero_le _, rfl, lid (Below.refl _ _)⟩
    case round =>
      obtain ⟨i, hi, rfl, HB⟩ := hrel
      obtain ⟨wq, rfl⟩ : ∃ y, y = wr := ⟨_, rfl⟩
      by_cases hlt : i < rs.length
      · have di : decide ((i : Int) < (rs.length : Int)) = true := by simp; omega
        have hic : i ≤ c5 := by omega
        have hi55 : i ≤ 55 := by omega
        obtain ⟨b1, o1, rfl, hlb0, hcell0⟩ := (HGA.out).sl.at_ hlt
        have hcell := fun j u hu => (bc HB.out hlb0 (o1 + j)).trans (hcell0 j u hu)
        have hlb := Nat.lt_of_lt_of_le hlb0 HB.out.size
        have y0 := hcell i _ (gcells_at hlt)
        have HIX := lid ((HGA.out.below HB.out).ok _ (List.getElem_mem hlt))
        have hiT : i < T.length := by rw [← HLEN.out]; exact hlt
        have HXI := lid (HAT.out i hlt hiT)
        have HSH : Hid ((rs[i]).vs.length < n) := lid (by rw [← HXI.out]; exact HSHORT.out _ (List.getElem_mem hiT))
        have HNE : Hid (∀ (p : Nat) (hp : p < rs.length), p < i → ¬ (rs[i]).vs = (rs[p]).vs) := lid (fun p hp hpi e => by
          have hpT : p < T.length := by rw [← HLEN.out]; exact hp
          rw [← HXI.out, ← HAT.out p hp hpT] at e
          exact (List.pairwise_iff_getElem.1 HNODUP.out) p i hpT hiT hpi e.symm)
        obtain ⟨x, hx⟩ : ∃ x, rs[i] = x := ⟨_, rfl⟩
        rw [hx] at y0 HIX HSH HNE
        obtain ⟨k, hk⟩ : ∃ k, x.vs.length = k := ⟨_, rfl⟩
        rw [hk] at HIX HSH
        replace y0 : wq.cell? ⟨b1, o1 + i, none⟩ = some (.slice x.ao k x.cap) := by rw [y0, ← hk]
        have hkn : k < n := HSH.out
        have dk : decide ((n : Int) ≤ (k : Int)) = false := by simp; omega
        have dk2 : decide (n ≤ k) = false := by simp; omega
        have HC0 := lid hcell0
        have HLB0 := lid hlb0
        clear hcell hcell0 hx hk HXI hiT hlb0
        go_wp2_with fail
        go_loopw [44] (fun vi wr => ∃ p : Nat, p ≤ i ∧ vi = .int .i64 p ∧ Hid (Below w3.heap.size w3 wr) ∧ Hid (Below wq.heap.size wq wr)) (fun vi _ => i - (intOf vi).toNat)
        case atStart => exact ⟨0, Nat.zero_le _, rfl, HB, lid (Below.refl _ _)⟩
        case round =>
          obtain ⟨p, hp, rfl, HBP, HBQ⟩ := hrel
          by_cases hpl : p < i
          · have dp : decide ((p : Int) < (i : Int)) = true := by simp; omega
            have hpr : p < rs.length := by omega
            have z0 := (bc HBP.out HLB0.out (o1 + p)).trans (HC0.out p _ (gcells_at hpr))
            have hlp := Nat.lt_of_lt_of_le HLB0.out HBP.out.size
            have HIZ := lid ((HGA.out.below HBP.out).ok _ (List.getElem_mem hpr))
            have HNZ := lid (HNE.out p hpr hpl)
            have HSZ : Hid ((rs[p]).vs.length < n) := lid (by
              have hpT : p < T.length := by rw [← HLEN.out]; exact hpr
              rw [← HAT.out p hpr hpT]
              exact HSHORT.out _ (List.getElem_mem hpT))
            obtain ⟨z, hz⟩ : ∃ z, rs[p] = z := ⟨_, rfl⟩
            rw [hz] at z0 HIZ HNZ HSZ
            obtain ⟨kz, hkz⟩ : ∃ k, z.vs.length = k := ⟨_, rfl⟩
            rw [hkz] at HIZ HSZ
            replace z0 : wr.cell? ⟨b1, o1 + p, none⟩ = some (.slice z.ao kz z.cap) := by rw [z0, ← hkz]
            have hkz10 : kz < n := HSZ.out
            have CQ := lid (SameSet_any x.vs z.vs k x.cap kz z.cap x.ao z.ao wr (by omega) (by omega) (HIX.out.below HBQ.out) HIZ.out)
            clear hz hkz
            go_wp2_with fail
            (with_reducible refine (CQ.out).mono ?_); rintro e w7 ⟨rfl, hb7⟩
            rw [decide_eq_false HNZ.out]
            have HBP7 := lid (HBP.out.trans (hb7.mono HBP.out.size))
            have HBQ7 := lid (HBQ.out.trans (hb7.mono HBQ.out.size))
            clear hb7 CQ
            go_wp2_with fail
            go_roundw
            case rel =>
              exact ⟨p + 1, by omega, by go_num, HBP7, HBQ7⟩
            case measure => simp [intOf]; omega
          · obtain rfl : p = i := by omega
            have dp : decide ((p : Int) < (p : Int)) = false := by simp
            go_wp2_with fail
            go_roundw
            case rel => exact ⟨p + 1, by omega, by go_num, HBP⟩
            case measure => simp [intOf]; omega
      · obtain rfl : i = rs.length := by omega
        have di : decide ((rs.length : Int) < (rs.length : Int)) = false := by simp
        have g4 := g3.trans (HB.out.mono g3.size)
        by_cases h5 : n ≤ 5
        · have d5 : decide ((n : Int) ≤ 5) = true := by simp; omega
          obtain ⟨B, hB⟩ : ∃ B : Nat, 2 ^ n - 1 = B := ⟨_, rfl⟩
          have hq : rs.length ≤ B := by
            have h1 := HFEW.out
            rw [if_pos h5, ← HLEN.out] at h1
            omega
          have heq : wrap64 (wrap64 (2 ^ n) - 1) = (B : Int) := by rw [shl_small n (by omega), hB]
          have dq : decide ((rs.length : Int) ≤ (B : Int)) = true := by simp; omega
          have dq2 : decide (rs.length ≤ B) = true := by simp; omega
          clear hB
          go_wp2_with fail
          (with_reducible refine (awake_any wq).mono ?_); rintro e w9 ⟨rfl, hb9⟩
          go_wp2_with fail
          go_ret
          exact ⟨ret_bool rfl, g4.trans (hb9.mono g4.size)⟩
        · have d5 : decide ((n : Int) ≤ 5) = false := by simp; omega
          obtain ⟨B, hB⟩ : ∃ B : Nat, n * (n + 1) / 2 = B := ⟨_, rfl⟩
          have hq : rs.length ≤ B := by
            have h1 := HFEW.out
            rw [if_neg h5, ← HLEN.out] at h1
            omega
          have heq : wrap64 ((wrap64 ((n : Int) * ((n : Int) + 1))).tdiv 2) = (B : Int) := by rw [tri_small n (by omega), hB]
          have dq : decide ((rs.length : Int) ≤ (B : Int)) = true := by simp; omega
          have dq2 : decide (rs.length ≤ B) = true := by simp; omega
          clear hB
          go_wp2_with fail
          (with_reducible refine (awake_any wq).mono ?_); rintro e w9 ⟨rfl, hb9⟩
          go_wp2_with fail
          go_ret
          exact ⟨ret_bool rfl, g4.trans (hb9.mono g4.size)⟩
end Go.Proofs.Ytnjcoejnknpfoaa
