/-
  The law: small searches find a smallest bad set.
-/
import Derived.Test.YtnjcoejnknpfoaaMinLawBase
namespace Go.Proofs.Ytnjcoejnknpfoaa
open Go.RowKit Go.Shelf
def upK (n j : Nat) : List (List Int) := (List.range j).flatMap fun j => setsL n j 0
theorem upK_all : ∀ n < 6, upK n (n + 1) = allSets n := by decide +kernel
theorem upK_succ (n j : Nat) : upK n (j + 1) = upK n j ++ setsL n j 0 := by
  unfold upK
  rw [List.range_succ, List.flatMap_append]
  simp
theorem upK_split {n j m : Nat} (h : j ≤ m) : ∃ r, upK n m = upK n j ++ r := by
  induction m with
  | zero =>
    obtain rfl : j = 0 := by omega
    exact ⟨[], by rw [List.append_nil]⟩
  | succ m ih =>
    by_cases hj : j = m + 1
    · subst hj
      exact ⟨[], by rw [List.append_nil]⟩
    · obtain ⟨r, hr⟩ := ih (by omega)
      exact ⟨r ++ setsL n m 0, by rw [upK_succ, hr, List.append_assoc]⟩
theorem find_at {f : List Int → Bool} {l a b : List (List Int)} {s R : List Int} (h : l.find? f = some R) (e : l = a ++ s :: b) (ha : ∀ x ∈ a, f x = false) (hs : f s = true) : R = s := by
  subst e
  have hn : a.find? f = none := List.find?_eq_none.2 (fun x hx => by simp [ha x hx])
  rw [List.find?_append, hn] at h
  simp [hs] at h
  exact h.symm
set_option maxRecDepth 100000 in
set_option maxHeartbeats 8000000 in
theorem LawSmallest_any (m : Nat) (hm : m < 256) (L : List Sw) (ok oc : Nat) (ob : Option Addr) (q r : Int) (w : World) (hG : GA w ob ok oc L) (hr : 0 ≤ r) :
    Calls Try.prog 5 #[.int .u8 m, .agg #[.slice ob ok oc, .int .u64 q, .int .u8 r]] w fun e w' => e = .returned (.bool true) ∧ Below w.heap.size w w' := by
  have CSH := lid (fun (w1 : World) (hb : Below w.heap.size w w1) => short_any L ok oc ob q r w1 (hG.below hb))
  cases hs : shortB L with
  | false =>
    rw [hs] at CSH
    clear hs hG
    go_enter Try.func5, Try.ntmps5
    go_wp2_with fail
    (with_reducible refine (CSH.out _ (ba _ _)).mono ?_); rintro e w2 ⟨rfl, hb2⟩
    have g2 := (ba w (.cells #[.slice ob ok oc, .int .u64 q, .int .u8 r] 42)).trans (hb2.mono (by simp))
    clear hb2
    go_wp2_with fail
    (with_reducible refine (awake_any _).mono ?_); rintro e w3 ⟨rfl, hb3⟩
    go_wp2_with fail
    go_ret
    exact ⟨ret_bool rfl, g2.trans (hb3.mono g2.size)⟩
  | true =>
    rw [hs] at CSH
    obtain ⟨h6, h10⟩ := short_good hs
    obtain ⟨n, hn⟩ : ∃ n, m % 6 = n := ⟨_, rfl⟩
    have hn10 : n ≤ 5 := by omega
    have hnI : (m : Int) % 6 = (n : Int) := by omega
    obtain ⟨T, R, hT⟩ := trc_ex (orcF L q r n) n
    have CRUN := lid (fun (w1 : World) (hb : Below w.heap.size w w1) => run_any n (by omega) L ok oc ob q r w1 (hG.below hb) hr (by have := hG.len; omega) (fun s hs => by have := h10 s hs; omega) T R hT)
    have CBAD := lid (fun (w1 : World) (hb : Below w.heap.size w w1) (xs : List Int) (n2 c2 : Nat) (a2 : Option Addr) (hx : IA w1 a2 n2 c2 xs) (h2 : n2 ≤ 1000) => bad_any L ok oc ob q r xs n2 c2 a2 n w1 (hG.below hb) hx hr (by omega) (by have := hG.len; omega) (fun s hs => by have := h10 s hs; omega))
    have HT := lid hT
    have HW := lid (orc_whole L q r n)
    have HRL : Hid (R.length ≤ n) := lid hT.rlen
    change Hid (∀ (w1 : World) (hb : Below w.heap.size w w1) (xs : List Int) (n2 c2 : Nat) (a2 : Option Addr) (hx : IA w1 a2 n2 c2 xs) (h2 : n2 ≤ 1000), Calls Try.prog 27 #[.agg #[.slice ob ok oc, .int .u64 q, .int .u8 r], .slice a2 n2 c2, .int .i64 n] w1 fun e w' => e = .returned (.bool (orcF L q r n xs)) ∧ Below w1.heap.size w1 w') at CBAD
    obtain ⟨f, hf⟩ : ∃ f, orcF L q r n = f := ⟨_, rfl⟩
    rw [hf] at HT HW CBAD
    clear hs hG h6 h10 hT hf hr
    have hm0 : (0 : Int) ≤ (m : Int) := Int.natCast_nonneg m
    go_enter Try.func5, Try.ntmps5
    go_wp2_with fail
    obtain ⟨W1, hW1⟩ : ∃ y, w.alloc (.cells #[.slice ob ok oc, .int .u64 q, .int .u8 r] 42) = y := ⟨_, rfl⟩
    have g1 : Below w.heap.size w W1 := by rw [← hW1]; exact ba _ _
    have HO1 : Hid (W1.heap[w.heap.size]? = some (.cells #[.slice ob ok oc, .int .u64 q, .int .u8 r] 42 (0, 0))) := lid (by rw [← hW1]; exact h_new rfl _)
    rw [hW1]
    clear hW1
    (with_reducible refine (CSH.out W1 g1).mono ?_); rintro e w2 ⟨rfl, hb2⟩
    have HO2 := lid ((hb2.block _ (row_lt HO1.out)).trans HO1.out)
    have g2 := g1.trans (hb2.mono g1.size)
    clear hb2 CSH
    have l2 := row_lt HO2.out
    have x0 := row_cell HO2.out 0
    have x1 := row_cell HO2.out 1
    have x2 := row_cell HO2.out 2
    go_wp2_with fail
    (with_reducible refine (CRUN.out w2 g2).mono ?_); rintro e w3 ⟨a3, n3, c3, vo, base, rs, rfl, hI, hrs, hO, hb3⟩
    have HI := lid hI
    have HRS := lid hrs
    have HOU := lid hO
    have HO3 := lid ((hb3.block _ (row_lt HO2.out)).trans HO2.out)
    have g3 := g2.trans (hb3.mono g2.size)
    have hn3 : n3 ≤ 10 := by have := hI.len; have := HRL.out; omega
    clear hI hrs hO hb3 CRUN x0 x1 x2 l2
    have HFIRST := lid (HT.out.first hn10 HW.out)
    have HIT := lid (HT.out.hit HW.out)
    have l3 := row_lt HO3.out
    have x0 := row_cell HO3.out 0
    have x1 := row_cell HO3.out 1
    have x2 := row_cell HO3.out 2
    go_wp2_with fail
    (with_reducible refine (CBAD.out w3 g3 R n3 c3 a3 HI.out (by omega)).mono ?_); rintro e w4 ⟨rfl, hb4⟩
    rw [HIT.out]
    have HO4 := lid ((hb4.block _ (row_lt HO3.out)).trans HO3.out)
    have g4 := g3.trans (hb4.mono g3.size)
    have HI4 := lid (HI.out.below hb4)
    clear hb4 l3 x0 x1 x2
    go_wp2_with fail
    go_loopw [37] (fun vi wr => ∃ j : Nat, j ≤ n + 1 ∧ vi = .int .i64 j ∧ Hid (∀ s ∈ upK n j, f s = false) ∧ Hid (Below w4.heap.size w4 wr)) (fun vi _ => n + 1 - (intOf vi).toNat)
    case atStart => exact ⟨0, Nat.zero_le _, rfl, lid (fun s hs => by simp [upK] at hs), lid (Below.refl _ _)⟩
    case round =>
      obtain ⟨j, hj, rfl, HF, HB⟩ := hrel
      obtain ⟨wq, rfl⟩ : ∃ y, y = wr := ⟨_, rfl⟩
      by_cases hlt : j < n + 1
      · have dj : decide ((j : Int) < (n : Int) + 1) = true := by simp; omega
        have CI : Hid (Calls Try.prog 28 #[.int .i64 0, .int .i64 n, .int .i64 j] wq fun e w' => ∃ (rs : List Sw) (vo : Value), e = .returned vo ∧ rs.map Sw.vs = setsL n j 0 ∧ OutF w' wq.heap.size vo rs ∧ Below wq.heap.size wq w') := lid (Sets_any n (by omega) j (by omega) 0 (by omega) wq)
        go_wp2_with fail
        (with_reducible refine (CI.out).mono ?_); rintro e w5 ⟨r2, v2, rfl, hM2, hG2, hb2⟩
        obtain ⟨a2, c2, rfl, hGA⟩ := hG2.g.ga
        have HM2 := lid hM2
        have HGA := lid hGA
        have hr32 : r2.length ≤ 32 := by
          have h1 := congrArg List.length hM2
          rw [List.length_map] at h1
          have := sets_bound n (by omega) j (by omega) 0 (by omega)
          omega
        have HB5 := lid (HB.out.trans (hb2.mono HB.out.size))
        clear CI hM2 hG2 hb2 hGA
        go_wp2_with fail
        go_loopw [44] (fun vi wr => ∃ p : Nat, p ≤ r2.length ∧ vi = .int .i64 p ∧ Hid (∀ s ∈ (setsL n j 0).take p, f s = false) ∧ Hid (Below w5.heap.size w5 wr)) (fun vi _ => r2.length - (intOf vi).toNat)
        case atStart => exact ⟨0, Nat.zero_le _, rfl, lid (fun s hs => by simp at hs), lid (Below.refl _ _)⟩
        case round =>
          obtain ⟨p, hp, rfl, HFP, HBP⟩ := hrel
          have HB6 := lid (HB5.out.trans (HBP.out.mono HB5.out.size))
          have g6 := g4.trans (HB6.out.mono g4.size)
          have HO6 := lid ((HB6.out.block _ (row_lt HO4.out)).trans HO4.out)
          have l6 := row_lt HO6.out
          have x0 := row_cell HO6.out 0
          have x1 := row_cell HO6.out 1
          have x2 := row_cell HO6.out 2
          by_cases hpl : p < r2.length
          · have dp : decide ((p : Int) < (r2.length : Int)) = true := by simp; omega
            obtain ⟨b1, o1, rfl, hlb, hcell⟩ := (HGA.out.below HBP.out).sl.at_ hpl
            have y0 := hcell p _ (gcells_at hpl)
            have hpl' : p < (setsL n j 0).length := by rw [← HM2.out, List.length_map]; exact hpl
            have HSP : Hid ((setsL n j 0)[p] = (r2[p]).vs) := lid (by simp only [← HM2.out, List.getElem_map])
            have HTK : Hid (f (r2[p]).vs = false → ∀ s ∈ (setsL n j 0).take (p + 1), f s = false) := lid (fun e s hs => by
              rw [List.take_succ_eq_append_getElem hpl', HSP.out, List.mem_append, List.mem_singleton] at hs
              rcases hs with hs | rfl
              · exact HFP.out s hs
              · exact e)
            have HEQ : Hid (f (r2[p]).vs = true → R = (r2[p]).vs) := lid (fun e => by
              obtain ⟨rr, hrr⟩ := upK_split (n := n) (j := j + 1) (m := n + 1) (by omega)
              refine find_at (a := upK n j ++ (setsL n j 0).take p) (b := (setsL n j 0).drop (p + 1) ++ rr) HFIRST.out ?_ ?_ e
              · rw [← upK_all n (by omega), hrr, upK_succ, ← HSP.out]
                have h1 := (List.take_append_drop p (setsL n j 0)).symm
                rw [List.drop_eq_getElem_cons hpl'] at h1
                rw [List.append_assoc, List.append_assoc]
                congr 1
                rw [show (setsL n j 0).take p ++ (setsL n j 0)[p] :: ((setsL n j 0).drop (p + 1) ++ rr) = ((setsL n j 0).take p ++ (setsL n j 0)[p] :: (setsL n j 0).drop (p + 1)) ++ rr by rw [List.append_assoc, List.cons_append], ← h1]
              · intro x hx
                rcases List.mem_append.1 hx with hx | hx
                · exact HF.out x hx
                · exact HFP.out x hx)
            have HIX := lid ((HGA.out.below HBP.out).ok _ (List.getElem_mem hpl))
            have HL5 : Hid ((r2[p]).vs.length = j) := lid (setsL_len' n j 0 _ (by rw [← HM2.out]; exact List.mem_map.2 ⟨_, List.getElem_mem hpl, rfl⟩))
            obtain ⟨x, hx⟩ : ∃ x, r2[p] = x := ⟨_, rfl⟩
            rw [hx] at y0 HTK HEQ HIX HL5
            obtain ⟨k, hk⟩ : ∃ k, x.vs.length = k := ⟨_, rfl⟩
            rw [hk] at HIX HL5
            replace y0 : wr.cell? ⟨b1, o1 + p, none⟩ = some (.slice x.ao k x.cap) := by rw [y0, ← hk]
            have hk5 : k ≤ 10 := by rw [HL5.out]; omega
            clear hcell hx hk HSP hpl'
            go_wp2_with fail
            (with_reducible refine (CBAD.out wr g6 x.vs k x.cap x.ao HIX.out (by omega)).mono ?_); rintro e w7 ⟨rfl, hb7⟩
            have HBP7 := lid (HBP.out.trans (hb7.mono HBP.out.size))
            have g7 := g6.trans (hb7.mono g6.size)
            have HIX7 := lid (HIX.out.below hb7)
            have HI7 := lid ((HI4.out.below HB6.out).below hb7)
            clear hb7 x0 x1 x2 y0
            cases hf : f x.vs with
            | false =>
              have HT2 := lid (HTK.out hf)
              clear hf HTK HEQ
              go_wp2_with fail
              go_roundw
              case rel => exact ⟨p + 1, by omega, by go_num, HT2, HBP7⟩
              case measure => simp [intOf]; omega
            | true =>
              have HE2 := lid (HEQ.out hf)
              clear hf HTK HEQ
              have CQ := lid (SameSet_any R x.vs n3 c3 k x.cap a3 x.ao w7 (by omega) (by omega) HI7.out HIX7.out)
              go_wp2_with fail
              (with_reducible refine (CQ.out).mono ?_); rintro e w8 ⟨rfl, hb8⟩
              rw [decide_eq_true HE2.out]
              have g8 := g7.trans (hb8.mono g7.size)
              clear hb8 CQ
              go_wp2_with fail
              (with_reducible refine (awake_any w8).mono ?_); rintro e w9 ⟨rfl, hb9⟩
              go_wp2_with fail
              go_ret
              exact ⟨ret_bool rfl, g8.trans (hb9.mono g8.size)⟩
          · obtain rfl : p = r2.length := by omega
            have dp : decide ((r2.length : Int) < (r2.length : Int)) = false := by simp
            have HF2 : Hid (∀ s ∈ upK n (j + 1), f s = false) := lid (fun s hs => by
              rw [upK_succ, List.mem_append] at hs
              rcases hs with hs | hs
              · exact HF.out s hs
              · exact HFP.out s (by rw [List.take_of_length_le (by rw [← HM2.out, List.length_map]; exact Nat.le_refl _)]; exact hs))
            go_wp2_with fail
            go_roundw
            case rel => exact ⟨j + 1, by omega, by go_num, HF2, HB6⟩
            case measure => simp [intOf]; omega
      · exfalso
        obtain rfl : j = n + 1 := by omega
        have h1 := HF.out (upto n) (by rw [upK_all n (by omega)]; simp [allSets])
        rw [HW.out] at h1
        cases h1
end Go.Proofs.Ytnjcoejnknpfoaa
