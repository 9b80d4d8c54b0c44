/-
  The law: monotone searches find a minimal set.
-/
import Derived.Test.YtnjcoejnknpfoaaMinLawBase
namespace Go.Proofs.Ytnjcoejnknpfoaa
open Go.RowKit Go.Shelf
/-- A set within the numbers from 0 to n - 1. -/
def inB (n : Nat) (b : List Int) : Bool := b.all fun x => decide (0 ≤ x) && decide (x < n)
theorem hasI_iff {l : List Int} {x : Int} : hasI l x = true ↔ x ∈ l := by
  unfold hasI
  rw [List.any_eq_true]
  constructor
  · rintro ⟨y, hy, e⟩
    obtain rfl : y = x := by simpa using e
    exact hy
  · exact fun h => ⟨x, h, by simp⟩
theorem contI_iff {l m : List Int} : contI l m = true ↔ ∀ x ∈ m, x ∈ l := by
  unfold contI
  rw [List.all_eq_true]
  exact ⟨fun h x hx => hasI_iff.1 (h x hx), fun h x hx => hasI_iff.2 (h x hx)⟩
/-- The result is no more than a set that it contains. -/
theorem mono_min {L : List Sw} {n : Nat} {T : List (List Int)} {R b : List Int} (h : Trc (orcF L 0 0 n) n T R) (hb : b ∈ L.map Sw.vs) (hc : contI R b = true) : contI b R = true := by
  rw [contI_iff]
  intro x hx
  refine Decidable.byContradiction fun hn => ?_
  have h1 := h.min (orc_whole L 0 0 n) x hx
  rw [orc_lit] at h1
  have h2 : contI (lessI R x) b = true := contI_iff.2 (fun y hy => mem_lessI.2 ⟨contI_iff.1 hc y hy, fun e => hn (e ▸ hy)⟩)
  have h3 : ((L.map Sw.vs).any fun b => contI (lessI R x) b) = true := List.any_eq_true.2 ⟨b, hb, h2⟩
  rw [h3, Bool.or_true] at h1
  cases h1
/-- The result is one of the sets, or the whole set. -/
def foundB (n : Nat) (R : List Int) (l : List (List Int)) : Bool := decide (R.length = n) || l.any fun b => inB n b && contI R b
theorem mono_found {L : List Sw} {n : Nat} {T : List (List Int)} {R : List Int} (h : Trc (orcF L 0 0 n) n T R) : foundB n R (L.map Sw.vs) = true := by
  have h1 := h.hit (orc_whole L 0 0 n)
  rw [orc_lit] at h1
  unfold foundB
  rcases Bool.or_eq_true_iff.1 h1 with h2 | h2
  · have : R.length = n := by simp at h2; omega
    simp [this]
  · obtain ⟨b, hb, hc⟩ := List.any_eq_true.1 h2
    have hin : inB n b = true := by
      unfold inB
      rw [List.all_eq_true]
      intro x hx
      have := h.asc.2 x (contI_iff.1 hc x hx)
      simp
      omega
    rw [show ((L.map Sw.vs).any fun b => inB n b && contI R b) = true from List.any_eq_true.2 ⟨b, hb, by rw [hin, hc]; rfl⟩, Bool.or_true]
theorem foundB_snoc {n : Nat} {R : List Int} {l : List (List Int)} {p : Nat} (h : p < l.length) : foundB n R (l.take (p + 1)) = (foundB n R (l.take p) || (inB n l[p] && contI R l[p])) := by
  unfold foundB
  rw [List.take_succ_eq_append_getElem h, List.any_append]
  simp [Bool.or_assoc]
theorem inB_snoc {n : Nat} {l : List Int} {p : Nat} (h : p < l.length) : inB n (l.take (p + 1)) = (inB n (l.take p) && (decide (0 ≤ l[p]) && decide (l[p] < n))) := by
  unfold inB
  rw [List.take_succ_eq_append_getElem h, List.all_append]
  simp
set_option maxRecDepth 100000 in
set_option maxHeartbeats 8000000 in
theorem LawMonotone_any (m : Nat) (hm : m < 256) (L : List Sw) (ok oc : Nat) (ob : Option Addr) (w : World) (hG : GA w ob ok oc L) :
    Calls Try.prog 7 #[.int .u8 m, .slice ob ok oc] w fun e w' => e = .returned (.bool true) ∧ Below w.heap.size w w' := by
  have CSH := lid (fun (w1 : World) (hb : Below w.heap.size w w1) => short_any L ok oc ob 0 0 w1 (hG.below hb))
  obtain ⟨n, hn⟩ : ∃ n, m % 11 = n := ⟨_, rfl⟩
  have hn10 : n ≤ 10 := by omega
  have hnI : (m : Int) % 11 = (n : Int) := by omega
  have hm0 : (0 : Int) ≤ (m : Int) := Int.natCast_nonneg m
  cases hs : shortB L with
  | false =>
    rw [hs] at CSH
    clear hs hG
    go_enter Try.func7, Try.ntmps7
    go_wp2_with fail
    (with_reducible refine (CSH.out _ (ba _ _)).mono ?_); rintro e w2 ⟨rfl, hb2⟩
    have g2 := (ba w (.cells #[.slice ob ok oc, .int .u64 0, .int .u8 0] 42)).trans (hb2.mono (by simp))
    clear hb2
    go_wp2_with fail
    (with_reducible refine (awake_any _).mono ?_); rintro e w3 ⟨rfl, hb3⟩
    go_wp2_with fail
    go_ret
    exact ⟨ret_bool rfl, g2.trans (hb3.mono g2.size)⟩
  | true =>
    rw [hs] at CSH
    obtain ⟨h6, h10⟩ := short_good hs
    obtain ⟨T, R, hT⟩ := trc_ex (orcF L 0 0 n) n
    have CRUN := lid (fun (w1 : World) (hb : Below w.heap.size w w1) => run_any n (by omega) L ok oc ob 0 0 w1 (hG.below hb) (by decide) (by have := hG.len; omega) (fun s hs => by have := h10 s hs; omega) T R hT)
    have HT := lid hT
    have HG := lid hG
    have HL10 := lid h10
    have hok : ok ≤ 6 := by have := hG.len; omega
    have HRL : Hid (R.length ≤ n) := lid hT.rlen
    clear hs hG h6 h10 hT
    go_enter Try.func7, Try.ntmps7
    go_wp2_with fail
    obtain ⟨W1, hW1⟩ : ∃ y, w.alloc (.cells #[.slice ob ok oc, .int .u64 0, .int .u8 0] 42) = y := ⟨_, rfl⟩
    have g1 : Below w.heap.size w W1 := by rw [← hW1]; exact ba _ _
    have HO1 : Hid (W1.heap[w.heap.size]? = some (.cells #[.slice ob ok oc, .int .u64 0, .int .u8 0] 42 (0, 0))) := lid (by rw [← hW1]; exact h_new rfl _)
    rw [hW1]
    clear hW1
    (with_reducible refine (CSH.out W1 g1).mono ?_); rintro e w2 ⟨rfl, hb2⟩
    have HO2 := lid ((hb2.block _ (row_lt HO1.out)).trans HO1.out)
    have g2 := g1.trans (hb2.mono g1.size)
    clear hb2 CSH
    have l2 := row_lt HO2.out
    have x0 := row_cell HO2.out 0
    have x1 := row_cell HO2.out 1
    have x2 := row_cell HO2.out 2
    go_wp2_with fail
    (with_reducible refine (CRUN.out w2 g2).mono ?_); rintro e w3 ⟨a3, n3, c3, vo, base, rs, rfl, hI, hrs, hO, hb3⟩
    have HI := lid hI
    have g3 := g2.trans (hb3.mono g2.size)
    have hn3 : n3 ≤ 10 := by have := hI.len; have := HRL.out; omega
    have HG3 := lid (HG.out.below g3)
    clear hrs hO hb3 CRUN x0 x1 x2 l2
    obtain ⟨fb, hfb⟩ : ∃ fb, ((n3 : Int) == (n : Int)) = fb := ⟨_, rfl⟩
    have hfb2 : decide (n3 = n) = fb := by rw [← hfb, Bool.eq_iff_iff]; simp; omega
    have hfb3 : (n3 == n) = fb := by rw [← hfb2, Bool.eq_iff_iff]; simp
    have HFB : Hid (foundB n R [] = fb) := lid (by rw [← hfb2]; unfold foundB; rw [hI.len]; simp)
    clear hI
    go_wp2_with fail
    clear hfb hfb2 hfb3
    go_loopw [10, 40] (fun vf vi wr => ∃ (p : Nat) (b : Bool), p ≤ ok ∧ vi = .int .i64 p ∧ vf = .bool b ∧ Hid (foundB n R ((L.map Sw.vs).take p) = b) ∧ Hid (w3 = wr)) (fun _ vi _ => ok - (intOf vi).toNat)
    case atStart => exact ⟨0, fb, Nat.zero_le _, rfl, rfl, HFB, lid rfl⟩
    case round =>
      obtain ⟨p, fb2, hp, rfl, rfl, HF, HW⟩ := hrel
      have hW := HW.out
      subst hW
      by_cases hlt : p < ok
      · have dp : decide ((p : Int) < (ok : Int)) = true := by simp; omega
        have hkl : p < L.length := by rw [HG3.out.len]; exact hlt
        obtain ⟨b1, o1, rfl, hlb, hcell⟩ := HG3.out.sl.at_ hlt
        have y0 := hcell p _ (gcells_at hkl)
        have HIX := lid (HG3.out.ok _ (List.getElem_mem hkl))
        have HXL := lid (HL10.out _ (List.getElem_mem hkl))
        have hkm : p < (L.map Sw.vs).length := by rw [List.length_map]; exact hkl
        have HSN := lid (foundB_snoc (n := n) (R := R) hkm)
        have HMN : Hid (contI R (L[p]).vs = true → contI (L[p]).vs R = true) := lid (mono_min HT.out (List.mem_map.2 ⟨_, List.getElem_mem hkl, rfl⟩))
        rw [show (L.map Sw.vs)[p] = (L[p]).vs by simp] at HSN
        obtain ⟨x, hx⟩ : ∃ x, L[p] = x := ⟨_, rfl⟩
        rw [hx] at y0 HIX HXL HSN HMN
        obtain ⟨k, hk⟩ : ∃ k, x.vs.length = k := ⟨_, rfl⟩
        rw [hk] at HIX HXL
        have hk10 : k ≤ 10 := HXL.out
        have HKX := lid hk
        replace y0 : w3.cell? ⟨b1, o1 + p, none⟩ = some (.slice x.ao k x.cap) := by rw [y0, ← hk]
        clear hcell hx hk hkm
        go_wp2_with fail
        go_loopw [13, 46] (fun vb vi wr => ∃ (j : Nat) (b : Bool), j ≤ k ∧ vi = .int .i64 j ∧ vb = .bool b ∧ Hid (inB n (x.vs.take j) = b) ∧ Hid (w3 = wr)) (fun _ vi _ => k - (intOf vi).toNat)
        case atStart => exact ⟨0, true, Nat.zero_le _, rfl, rfl, lid rfl, lid rfl⟩
        case round =>
          obtain ⟨j, b, hj, rfl, rfl, HB, HW2⟩ := hrel
          have hW := HW2.out
          subst hW
          by_cases hjk : j < k
          · have dj : decide ((j : Int) < (k : Int)) = true := by simp; omega
            have hjl : j < x.vs.length := by rw [HKX.out]; exact hjk
            obtain ⟨b2, o2, hao, hlb2, hcell2⟩ := HIX.out.sl.at_ hjk
            have z0 := hcell2 j _ (ivals_at hjl)
            have HNX := lid (inB_snoc (n := n) hjl)
            obtain ⟨v, hv⟩ : ∃ v, x.vs[j] = v := ⟨_, rfl⟩
            rw [hv] at z0 HNX
            rw [HB.out] at HNX
            obtain ⟨d1, hd1⟩ : ∃ d1, decide (0 ≤ v) = d1 := ⟨_, rfl⟩
            obtain ⟨d2, hd2⟩ : ∃ d2, decide (v < (n : Int)) = d2 := ⟨_, rfl⟩
            rw [hd1, hd2] at HNX
            rw [hao]
            clear hcell2 hv
            cases b <;> cases d1 <;> cases d2 <;> (
              go_wp2_with fail
              go_roundw
              case rel => exact ⟨j + 1, _, by omega, by go_num, rfl, HNX, lid trivial⟩
              case measure => simp [intOf]; omega)
          · obtain rfl : j = k := by omega
            have dj : decide ((j : Int) < (j : Int)) = false := by simp
            have HIN : Hid (inB n x.vs = b) := lid (by have := HB.out; rwa [List.take_of_length_le (Nat.le_of_eq HKX.out)] at this)
            rw [HF.out, HIN.out] at HSN
            have C1 := lid (contains_any R x.vs n3 c3 j x.cap a3 x.ao w3 (by omega) (by omega) HI.out HIX.out)
            have C2 := lid (contains_any x.vs R j x.cap n3 c3 x.ao a3 w3 (by omega) (by omega) HIX.out HI.out)
            cases b with
            | false =>
              have HS2 : Hid (foundB n R ((L.map Sw.vs).take (p + 1)) = fb2) := lid (by rw [HSN.out]; simp)
              clear HSN C1 C2 HMN
              go_wp2_with fail
              go_roundw
              case rel => exact ⟨p + 1, fb2, by omega, by go_num, rfl, HS2, lid trivial⟩
              case measure => simp [intOf]; omega
            | true =>
              cases hc : contI R x.vs with
              | true =>
                have hc2 := HMN.out hc
                rw [hc] at C1 HSN
                rw [hc2] at C2
                have HS2 : Hid (foundB n R ((L.map Sw.vs).take (p + 1)) = true) := lid (by rw [HSN.out]; simp)
                clear HSN HMN hc hc2
                go_wp2_with fail
                (with_reducible refine (C1.out).mono ?_); rintro e w4 ⟨rfl, rfl⟩
                go_wp2_with fail
                (with_reducible refine (C2.out).mono ?_); rintro e w4 ⟨rfl, rfl⟩
                cases fb2 with
                | true =>
                  go_wp2_with fail
                  go_roundw
                  case rel => exact ⟨p + 1, true, by omega, by go_num, rfl, HS2, lid trivial⟩
                  case measure => simp [intOf]; omega
                | false =>
                  go_wp2_with fail
                  (with_reducible refine (C1.out).mono ?_); rintro e w4 ⟨rfl, rfl⟩
                  go_wp2_with fail
                  go_roundw
                  case rel => exact ⟨p + 1, true, by omega, by go_num, rfl, HS2, lid trivial⟩
                  case measure => simp [intOf]; omega
              | false =>
                rw [hc] at C1 HSN
                have HS2 : Hid (foundB n R ((L.map Sw.vs).take (p + 1)) = fb2) := lid (by rw [HSN.out]; simp)
                clear HSN HMN hc C2
                go_wp2_with fail
                (with_reducible refine (C1.out).mono ?_); rintro e w4 ⟨rfl, rfl⟩
                cases fb2 with
                | true =>
                  go_wp2_with fail
                  go_roundw
                  case rel => exact ⟨p + 1, true, by omega, by go_num, rfl, HS2, lid trivial⟩
                  case measure => simp [intOf]; omega
                | false =>
                  go_wp2_with fail
                  (with_reducible refine (C1.out).mono ?_); rintro e w4 ⟨rfl, rfl⟩
                  go_wp2_with fail
                  go_roundw
                  case rel => exact ⟨p + 1, false, by omega, by go_num, rfl, HS2, lid trivial⟩
                  case measure => simp [intOf]; omega
      · obtain rfl : p = ok := by omega
        have dp : decide ((p : Int) < (p : Int)) = false := by simp
        have HFT : fb2 = true := by
          have h1 := HF.out
          rw [List.take_of_length_le (by rw [List.length_map]; exact Nat.le_of_eq HG3.out.len)] at h1
          rw [← h1]
          exact mono_found HT.out
        subst HFT
        go_wp2_with fail
        (with_reducible refine (awake_any w3).mono ?_); rintro e w9 ⟨rfl, hb9⟩
        go_wp2_with fail
        go_ret
        exact ⟨ret_bool rfl, g3.trans (hb9.mono g3.size)⟩
end Go.Proofs.Ytnjcoejnknpfoaa
