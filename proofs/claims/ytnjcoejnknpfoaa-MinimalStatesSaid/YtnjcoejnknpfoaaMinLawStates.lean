/-
  The law: searches are valid and end.
-/
import Derived.Test.YtnjcoejnknpfoaaMinLawBase
namespace Go.Proofs.Ytnjcoejnknpfoaa
open Go.RowKit Go.Shelf
/-- Tell with any set. -/
theorem tell_other {n : Nat} (hN : GoodN (n : Int)) {r : Ex} {i : Nat} {lk : List Kw} {cap : Nat} {ao : Option Addr} {o : List Int} {n1 c1 : Nat} {a1 : Option Addr} (w1 : World) (hi : i ≤ 60) (hE : Exm (lk.map Kw.kn) n r) (hk : KA w1 ao i cap lk) (hl : ∀ q ∈ lk, q.vs.length ≤ 20) (hI : IA w1 a1 n1 c1 o) (hn1 : n1 ≤ 20) :
    Calls Try.prog 23 #[.agg #[.int .i64 n, .slice ao i cap], .slice a1 n1 c1, .bool true] w1 fun e w' => ∃ (N : Int) (a' : Option Addr) (k' c' : Nat), e = .returned (.tuple #[.agg #[.int .i64 N, .slice a' k' c'], .int .i64 (tellE r o)]) ∧ (tellE r o ≠ 0 → k' = 0) ∧ Below w1.heap.size w1 w' := by
  refine (Tell_any n hN lk i cap ao o n1 c1 a1 true w1 (by omega) hk hl hI hn1).mono ?_
  rintro e w' ⟨r2, l', k', c', a', hE2, rfl, hka, hkn', hl', hb, _, _⟩
  obtain rfl := hE2.det hE
  refine ⟨_, a', k', c', rfl, fun h0 => ?_, hb⟩
  rw [if_neg h0] at hkn'
  have h1 := congrArg List.length hkn'
  rw [List.length_map, hka.len] at h1
  simpa using h1
set_option maxRecDepth 100000 in
set_option maxHeartbeats 8000000 in
theorem LawStates_any (m : Nat) (hm : m < 256) (L : List Sw) (ok ocp : Nat) (ob : Option Addr) (q r : Int) (o : List Int) (no co : Nat) (ao0 : Option Addr) (w : World) (hG : GA w ob ok ocp L) (hr : 0 ≤ r) (hO : IA w ao0 no co o) :
    Calls Try.prog 9 #[.int .u8 m, .agg #[.slice ob ok ocp, .int .u64 q, .int .u8 r], .slice ao0 no co] w fun e w' => e = .returned (.bool true) ∧ Below w.heap.size w w' := by
  have CSH := lid (fun (w1 : World) (hb : Below w.heap.size w w1) => short_any L ok ocp ob q r w1 (hG.below hb))
  have hmx : no ≤ 9223372036854775807 := Nat.le_trans hO.le hO.max
  obtain ⟨n, hnn⟩ : ∃ n, m % 11 = n := ⟨_, rfl⟩
  have hn10 : n ≤ 10 := by omega
  have hnI : (m : Int) % 11 = (n : Int) := by omega
  have hm0 : (0 : Int) ≤ (m : Int) := Int.natCast_nonneg m
  cases hs : shortB L with
  | false =>
    rw [hs] at CSH
    clear hs hG hO
    go_enter Try.func9, Try.ntmps9
    go_wp2_with fail
    (with_reducible refine (CSH.out _ (ba _ _)).mono ?_); rintro e w2 ⟨rfl, hb2⟩
    have g2 := (ba w (.cells #[.slice ob ok ocp, .int .u64 q, .int .u8 r] 42)).trans (hb2.mono (by simp))
    clear hb2
    go_wp2_with fail
    (with_reducible refine (awake_any _).mono ?_); rintro e w3 ⟨rfl, hb3⟩
    go_wp2_with fail
    go_ret
    exact ⟨ret_bool rfl, g2.trans (hb3.mono g2.size)⟩
  | true =>
    rw [hs] at CSH
    by_cases h12 : 12 < no
    · have d12 : decide ((12 : Int) < (no : Int)) = true := by simp; omega
      have d121 : decide (12 < no) = true := by simp; omega
      clear hs hG hO h12
      go_enter Try.func9, Try.ntmps9
      go_wp2_with fail
      (with_reducible refine (CSH.out _ (ba _ _)).mono ?_); rintro e w2 ⟨rfl, hb2⟩
      have g2 := (ba w (.cells #[.slice ob ok ocp, .int .u64 q, .int .u8 r] 42)).trans (hb2.mono (by simp))
      clear hb2
      go_wp2_with fail
      (with_reducible refine (awake_any _).mono ?_); rintro e w3 ⟨rfl, hb3⟩
      go_wp2_with fail
      go_ret
      exact ⟨ret_bool rfl, g2.trans (hb3.mono g2.size)⟩
    have d12 : decide ((12 : Int) < (no : Int)) = false := by simp; omega
    have d121 : decide (12 < no) = false := by simp; omega
    have hno12 : no ≤ 12 := by omega
    obtain ⟨h6, h10⟩ := short_good hs
    have hN : GoodN (n : Int) := .inr (by omega)
    obtain ⟨T, R, hT⟩ := trc_ex (orcF L q r n) n
    have HTR := lid hT
    have HT55 := lid (hT.len60 hn10)
    have HTS := lid hT.short
    have HO := lid hO
    have CS : Hid (∀ w1 : World, Calls Try.prog 13 #[.int .i64 n] w1 fun e w' => e = .returned (.tuple #[.agg #[.int .i64 n, .slice none 0 0], .int .i64 0]) ∧ Below w1.heap.size w1 w') := lid (fun w1 => by
      have := Start_any n w1
      rwa [show startN (n : Int) = n by unfold startN; rw [if_neg (by omega)], show startE (n : Int) = 0 by unfold startE; rw [if_neg (by omega)]] at this)
    have CB : Hid (∀ (w1 : World) (xs : List Int) (n2 c2 : Nat) (a2 : Option Addr), Below w.heap.size w w1 → IA w1 a2 n2 c2 xs → n2 ≤ 1000 → Calls Try.prog 27 #[.agg #[.slice ob ok ocp, .int .u64 q, .int .u8 r], .slice a2 n2 c2, .int .i64 n] w1 fun e w' => e = .returned (.bool (orcF L q r n xs)) ∧ Below w1.heap.size w1 w') := lid (fun w1 xs n2 c2 a2 hb hx h2 => bad_any L ok ocp ob q r xs n2 c2 a2 n w1 (hG.below hb) hx hr (by omega) (by have := hG.len; omega) (fun s hs => by have := h10 s hs; omega))
    obtain ⟨f, hf⟩ : ∃ f, orcF L q r n = f := ⟨_, rfl⟩
    rw [hf] at HTR CB
    clear hT hG hf hr hs h6 h10 h12 hO hnn
    go_enter Try.func9, Try.ntmps9
    go_wp2_with fail
    obtain ⟨W1, hW1⟩ : ∃ y, w.alloc (.cells #[.slice ob ok ocp, .int .u64 q, .int .u8 r] 42) = y := ⟨_, rfl⟩
    have g1 : Below w.heap.size w W1 := by rw [← hW1]; exact ba _ _
    have rO : W1.heap[w.heap.size]? = some (.cells #[.slice ob ok ocp, .int .u64 q, .int .u8 r] 42 (0, 0)) := by rw [← hW1]; exact h_new rfl _
    rw [hW1]
    clear hW1
    (with_reducible refine (CSH.out W1 g1).mono ?_); rintro e w2 ⟨rfl, hb2⟩
    have rO2 := (hb2.block _ (row_lt rO)).trans rO
    have g2 := g1.trans (hb2.mono g1.size)
    clear hb2 CSH rO
    go_wp2_with fail
    (with_reducible refine (CS.out w2).mono ?_); rintro e w3 ⟨rfl, hb3⟩
    have rO3 := (hb3.block _ (row_lt rO2)).trans rO2
    have g3 := g2.trans (hb3.mono g2.size)
    have hz3 : w.heap.size < w3.heap.size := row_lt rO3
    clear hb3 rO2
    go_wp2_with fail
    obtain ⟨b0, hb0⟩ : ∃ y, w3.heap.size = y := ⟨_, rfl⟩
    have HI0 : Hid (RunI w b0 n #[.slice ob ok ocp, .int .u64 q, .int .u8 r] f T 0 0 (.slice none 0 0) none 0 [] [] (w3.alloc (.cells #[.int .i64 n, .slice none 0 0] 24))) := lid (by
      subst hb0
      refine ⟨g3.alloc g3.size _, hz3, (h_old hz3 _).trans rO3, h_new rfl _, ka_nil _, rfl, (fun q hq => by cases hq), (fun b o e => by cases e), (fun q hq => by cases hq), ⟨World.ownsRow_nil _ _ _ _, (fun r hr => by cases hr), (fun r hr => by cases hr)⟩, (fun r hr => by cases hr), rfl, fun g e => ⟨(fun b o e => by cases e), (fun q hq => by cases hq)⟩⟩)
    obtain ⟨W3, hW3⟩ : ∃ y, w3.alloc (.cells #[.int .i64 n, .slice none 0 0] 24) = y := ⟨_, rfl⟩
    rw [hb0]
    rw [hW3] at HI0 ⊢
    clear hW3 hb0 rO3 g1 g2 g3 hz3
    have HEX0 : Hid (Exm [] n ⟨0, (stAt T R 0).done, (stAt T R 0).set⟩) := lid (by have := HTR.out.exm hn10 (Nat.zero_le _); exact this)
    have CC0 := lid (Check_any n hN [] 0 0 none W3 (by omega) (ka_nil _) (fun r hr => by cases hr))
    (with_reducible refine (CC0.out).mono ?_); rintro e w4 ⟨rr, hE, rfl, hb4⟩
    obtain rfl := hE.det HEX0.out
    have HI4 := lid (HI0.out.below hb4)
    clear hE hb4 CC0 HEX0
    go_wp2_with fail
    go_loopw [41] (fun vi wr => ∃ (i cap : Nat) (ao : Option Addr) (lk : List Kw), i ≤ T.length ∧ vi = .int .i64 i ∧ Hid (RunI w b0 n #[.slice ob ok ocp, .int .u64 q, .int .u8 r] f T i 0 (.slice none 0 0) ao cap lk [] wr)) (fun vi _ => 100 - (intOf vi).toNat)
    case atStart => exact ⟨0, 0, none, [], Nat.zero_le _, rfl, HI4⟩
    case round =>
      obtain ⟨i, cap, ao, lk, hi, rfl, HI⟩ := hrel
      obtain ⟨wq, rfl⟩ : ∃ y, y = wr := ⟨_, rfl⟩
      have hi55 : i ≤ 55 := by have := HT55.out; omega
      have di : decide ((i : Int) < 100) = true := by simp; omega
      have CN := lid (fun (w5 : World) (hb5 : Below wq.heap.size wq w5) => Next_any n hN lk i cap ao w5 (by omega) (HI.out.ka.below hb5) HI.out.l20)
      have CR := lid (fun (w5 : World) (hb5 : Below wq.heap.size wq w5) => Result_any n hN lk i cap ao w5 (by omega) (HI.out.ka.below hb5) HI.out.l20)
      by_cases hlt : i < T.length
      · have HST := lid (stAt_open (R := R) hlt)
        have HSI := lid (List.getElem?_eq_getElem hlt)
        have HSS : Hid (T[i].length < n) := lid (HTS.out _ (List.getElem_mem hlt))
        obtain ⟨S, hS⟩ : ∃ y, T[i] = y := ⟨_, rfl⟩
        rw [hS] at HST HSI HSS
        clear hS
        have HEX : Hid (Exm (lk.map Kw.kn) n ⟨0, false, S⟩) := lid (by
          have := HTR.out.exm hn10 hi
          rw [HST.out, ← HI.out.kn] at this
          exact this)
        have CT := lid (fun (w5 : World) (hb5 : Below wq.heap.size wq w5) => tell_other hN w5 (by omega) HEX.out (HI.out.ka.below hb5) HI.out.l20 ((HO.out.below HI.out.b).below hb5) (by omega))
        have s0 := row_cell HI.out.srch 0
        have s1 := row_cell HI.out.srch 1
        have lS := row_lt HI.out.srch
        go_wp2_with fail
        (with_reducible refine (CN.out wq (Below.refl _ _)).mono ?_); rintro e w5 ⟨rr, a1, n1, c1, hE, rfl, hIA, hb5, _⟩
        obtain rfl := hE.det HEX.out
        have HI5 := lid (HI.out.below hb5)
        have HIA : Hid (IA w5 a1 n1 c1 S) := lid hIA
        rw [show Ex.open ⟨0, false, S⟩ = true from rfl]
        clear hE hIA CN
        replace s0 := row_cell HI5.out.srch 0
        replace s1 := row_cell HI5.out.srch 1
        have lS5 := row_lt HI5.out.srch
        go_wp2_with fail
        (with_reducible refine (CT.out w5 hb5).mono ?_); rintro e w6 ⟨tN, a', k', c', rfl, hk0, hb6⟩
        have hn1 : n1 ≤ 10 := by have := HIA.out.len; have := HSS.out; omega
        obtain ⟨te, hte⟩ : ∃ y, tellE ⟨0, false, S⟩ o = y := ⟨_, rfl⟩
        have HTE : Hid (S ≠ o → te = 11) := lid (fun hne => by rw [← hte]; unfold tellE; simp [Ne.symm hne])
        rw [hte]
        have HI6 := lid (HI5.out.below hb6)
        have HIA6 := lid (HIA.out.below hb6)
        clear hk0 hte hb5 hb6 CT CR s0 s1 lS lS5 HI5 HIA
        go_wp2_with fail
        obtain ⟨w7, hw7⟩ : ∃ y, w6.alloc (.cells #[.int .i64 tN, .slice a' k' c'] 24) = y := ⟨_, rfl⟩
        have hb7 : Below w6.heap.size w6 w7 := by rw [← hw7]; exact ba _ _
        have HI7 := lid (HI6.out.below hb7)
        have HIA7 := lid (HIA6.out.below hb7)
        rw [hw7]
        clear hw7 hb7 HI6 HIA6
        have CQ := lid (SameSet_any S o n1 c1 no co a1 ao0 w7 (by omega) (by omega) HIA7.out (HO.out.below HI7.out.b))
        (with_reducible refine (CQ.out).mono ?_); rintro e w9 ⟨rfl, hb9⟩
        have HI9 := lid (HI7.out.below hb9)
        have HIA9 := lid (HIA7.out.below hb9)
        clear hb9 CQ
        have hle0 := HI9.out.le0
        have lO9 := row_lt HI9.out.orc
        have t0 := SinceX.cell (B := w9.heap.size) (X := b0) (W := w9) w.heap.size 0 lO9 (by omega) (row_cell HI9.out.orc 0)
        have t1 := SinceX.cell (B := w9.heap.size) (X := b0) (W := w9) w.heap.size 1 lO9 (by omega) (row_cell HI9.out.orc 1)
        have t2 := SinceX.cell (B := w9.heap.size) (X := b0) (W := w9) w.heap.size 2 lO9 (by omega) (row_cell HI9.out.orc 2)
        by_cases hso : S = o
        · rw [decide_eq_true hso]
          clear hso HTE
          go_wp2_with fail
          refine wp_region_mix (fun w' => ∃ s : SinceX w9.heap.size b0 w9, w' = s.world) [(1, true), (2, true), (3, true), (4, true)] [(0, []), (5, [])] [(6, false), (7, true), (8, true), (9, true), (10, false), (11, false)] (by kernel_rfl) (by kernel_rfl) (by intro c d v a w h; cases d <;> exact h) (sincex (KeptX.refl _ _ _).drew) ?_
          repeat (first | (refine seq_skip (by rfl) (by rfl) ?_; simp only [Act.put, List.setIfInBounds_toArray, List.set_cons_succ, List.set_cons_zero]) | (refine seq_float (by rfl) (by rfl) (by rfl) ?_; intro K hK; go_big_quiet_op; go_big_quiet_on))
          refine seq_nil (mix_go [92, 97] [u92, u97] (RM2 0 5 (.agg #[.int .i64 n, .slice ao i cap]) (.bool (f S)) w9) rfl (by simp only [putAll, Act.put, List.setIfInBounds_toArray, List.set_cons_succ, List.set_cons_zero]) (fun s h => RM2.start _ _ _ _ _ _ _ _ (Below.refl _ _).drew s (h (0, []) (by simp)) (h (5, []) (by simp))) ⟨?_, ?_, trivial⟩ ?_)
          · intro s vs wm _ _ hneed _ hR
            have hR' := lid hR
            obtain ⟨x, y, rfl, hB1, -, -⟩ := hR
            have HIM := HI9.out.below hB1
            have s0 := row_cell HIM.srch 0
            have s1 := row_cell HIM.srch 1
            have lSM := row_lt HIM.srch
            simp only [putAll, Act.put, List.setIfInBounds_toArray, List.set_cons_succ, List.set_cons_zero]
            refine mix_op (by rfl) ?_
            intro K hK
            go_wp2_with fail
            exact hK.out _ _ ⟨sincex (kx_below hB1), [_, y], rfl, by simp only [putAll, Act.put, List.setIfInBounds_toArray, List.set_cons_succ, List.set_cons_zero], hR'.out.one (by decide) hB1⟩
          · intro s vs wm _ _ hneed _ hR
            have hR' := lid hR
            obtain ⟨x, y, rfl, hB1, -, -⟩ := hR
            simp only [putAll, Act.put, List.setIfInBounds_toArray, List.set_cons_succ, List.set_cons_zero]
            refine mix_op (by rfl) ?_
            intro K hK
            go_wp2_with fail
            (with_reducible refine (CB.out _ S n1 c1 a1 (HI9.out.b.trans (hB1.mono HI9.out.b.size)) (HIA9.out.below hB1) (by omega)).mono ?_); rintro e w10 ⟨rfl, hb10⟩
            go_wp2_with fail
            exact hK.out _ _ ⟨sincex (kx_below (hB1.trans (hb10.mono hB1.size))), [x, _], rfl, by simp only [putAll, Act.put, List.setIfInBounds_toArray, List.set_cons_succ, List.set_cons_zero], hR'.out.two (by decide) (hB1.trans (hb10.mono hB1.size))⟩
          · intro s vs wm _ hall _ hR
            obtain ⟨x, y, rfl, hB1, hx, hy⟩ := hR
            obtain rfl := hx (hall (0, []) (by simp))
            obtain rfl := hy (hall (5, []) (by simp))
            have HIM := lid (HI9.out.below hB1)
            have HIAM := lid (HIA9.out.below hB1)
            have hB1s := hB1.size
            clear hall hx hy
            simp only [putAll, Act.put, List.setIfInBounds_toArray, List.set_cons_succ, List.set_cons_zero]
            have CTT := lid (tell_run hN wm (by omega) HEX.out HIM.out.ka HIM.out.l20 HIAM.out (by omega) HIM.out.kn HSI.out)
            refine seq_chain (by rfl) ?_
            intro K hK
            go_wp2_with fail
            (with_reducible refine (CTT.out).mono ?_); rintro e w11 ⟨a5, c5, lk', rfl, hka, hkn, hl', hb11, hfa, hfq⟩
            have HNX := lid (HIM.out.tell hb11 hka hkn hl' hfa hfq)
            have HIN := lid (HIM.out.below hb11)
            have g11 := hB1.trans (hb11.mono hB1s)
            clear hka hkn hl' hfa hfq CTT
            go_wp2_with fail
            refine hK.out _ _ (sincex (kx_below g11)) ?_
            clear hK K
            repeat (first | (refine seq_skip (by rfl) (by rfl) ?_; simp only [Act.put, List.setIfInBounds_toArray, List.set_cons_succ, List.set_cons_zero]) | (refine seq_float (by rfl) (by rfl) (by rfl) ?_; intro K hK; go_big_quiet_op; go_big_quiet_on))
            have s0 := row_cell HIN.out.srch 0
            have s1 := row_cell HIN.out.srch 1
            have f0 := row_fz HIN.out.srch 0
            have f1 := row_fz HIN.out.srch 1
            have lS11 := row_lt HIN.out.srch
            refine seq_chain (by rfl) ?_
            intro K hK
            go_wp2_with fail
            refine hK.out _ _ (sincex (set2_keptx' (kx_below g11))) ?_
            clear hK K
            repeat (first | (refine seq_skip (by rfl) (by rfl) ?_; simp only [Act.put, List.setIfInBounds_toArray, List.set_cons_succ, List.set_cons_zero]) | (refine seq_float (by rfl) (by rfl) (by rfl) ?_; intro K hK; go_big_quiet_op; go_big_quiet_on))
            refine seq_chain (by rfl) ?_
            intro K hK
            go_wp2_with fail
            refine hK.out _ _ (sincex (set2_keptx' (kx_below g11))) ?_
            clear hK K
            repeat (first | (refine seq_skip (by rfl) (by rfl) ?_; simp only [Act.put, List.setIfInBounds_toArray, List.set_cons_succ, List.set_cons_zero]) | (refine seq_float (by rfl) (by rfl) (by rfl) ?_; intro K hK; go_big_quiet_op; go_big_quiet_on))
            refine seq_nil ?_
            obtain ⟨w12, hw12⟩ : ∃ y, (w11.setCell ⟨b0, 0, none⟩ (.int .i64 n)).setCell ⟨b0, 1, none⟩ (.slice a5 (i + 1) c5) = y := ⟨_, rfl⟩
            rw [hw12] at HNX ⊢
            clear hw12 s0 s1 f0 f1 lS11 HIN g11 hB1 hB1s
            have s0 := row_cell HNX.out.srch 0
            have s1 := row_cell HNX.out.srch 1
            have lS12 := row_lt HNX.out.srch
            have HEX2 : Hid (Exm (lk'.map Kw.kn) n ⟨0, (stAt T R (i + 1)).done, (stAt T R (i + 1)).set⟩) := lid (by rw [HNX.out.kn]; exact HTR.out.exm hn10 (by omega))
            have CC := lid (Check_any n hN lk' (i + 1) c5 a5 w12 (by omega) HNX.out.ka HNX.out.l20)
            go_wp2_with fail
            (with_reducible refine (CC.out).mono ?_); rintro e w13 ⟨rr, hE, rfl, hb13⟩
            obtain rfl := hE.det HEX2.out
            have HN13 := lid (HNX.out.below hb13)
            clear hE hb13 s0 s1 lS12 CC
            have s0 := row_cell HN13.out.srch 0
            have s1 := row_cell HN13.out.srch 1
            have lS13 := row_lt HN13.out.srch
            go_wp2_with fail
            go_roundw
            case rel => exact ⟨i + 1, c5, a5, lk', by omega, by go_num, HN13⟩
            case measure => simp [intOf]; omega
        · rw [decide_eq_false hso]
          have ht := HTE.out hso
          rw [ht]
          clear hso HTE ht
          go_wp2_with fail
          refine wp_region_mix (fun w' => ∃ s : SinceX w9.heap.size b0 w9, w' = s.world) [(1, true), (2, true), (3, true), (4, true)] [(0, []), (5, [])] [(6, false), (7, true), (8, true), (9, true), (10, false), (11, false)] (by kernel_rfl) (by kernel_rfl) (by intro c d v a w h; cases d <;> exact h) (sincex (KeptX.refl _ _ _).drew) ?_
          repeat (first | (refine seq_skip (by rfl) (by rfl) ?_; simp only [Act.put, List.setIfInBounds_toArray, List.set_cons_succ, List.set_cons_zero]) | (refine seq_float (by rfl) (by rfl) (by rfl) ?_; intro K hK; go_big_quiet_op; go_big_quiet_on))
          refine seq_nil (mix_go [92, 97] [u92, u97] (RM2 0 5 (.agg #[.int .i64 n, .slice ao i cap]) (.bool (f S)) w9) rfl (by simp only [putAll, Act.put, List.setIfInBounds_toArray, List.set_cons_succ, List.set_cons_zero]) (fun s h => RM2.start _ _ _ _ _ _ _ _ (Below.refl _ _).drew s (h (0, []) (by simp)) (h (5, []) (by simp))) ⟨?_, ?_, trivial⟩ ?_)
          · intro s vs wm _ _ hneed _ hR
            have hR' := lid hR
            obtain ⟨x, y, rfl, hB1, -, -⟩ := hR
            have HIM := HI9.out.below hB1
            have s0 := row_cell HIM.srch 0
            have s1 := row_cell HIM.srch 1
            have lSM := row_lt HIM.srch
            simp only [putAll, Act.put, List.setIfInBounds_toArray, List.set_cons_succ, List.set_cons_zero]
            refine mix_op (by rfl) ?_
            intro K hK
            go_wp2_with fail
            exact hK.out _ _ ⟨sincex (kx_below hB1), [_, y], rfl, by simp only [putAll, Act.put, List.setIfInBounds_toArray, List.set_cons_succ, List.set_cons_zero], hR'.out.one (by decide) hB1⟩
          · intro s vs wm _ _ hneed _ hR
            have hR' := lid hR
            obtain ⟨x, y, rfl, hB1, -, -⟩ := hR
            simp only [putAll, Act.put, List.setIfInBounds_toArray, List.set_cons_succ, List.set_cons_zero]
            refine mix_op (by rfl) ?_
            intro K hK
            go_wp2_with fail
            (with_reducible refine (CB.out _ S n1 c1 a1 (HI9.out.b.trans (hB1.mono HI9.out.b.size)) (HIA9.out.below hB1) (by omega)).mono ?_); rintro e w10 ⟨rfl, hb10⟩
            go_wp2_with fail
            exact hK.out _ _ ⟨sincex (kx_below (hB1.trans (hb10.mono hB1.size))), [x, _], rfl, by simp only [putAll, Act.put, List.setIfInBounds_toArray, List.set_cons_succ, List.set_cons_zero], hR'.out.two (by decide) (hB1.trans (hb10.mono hB1.size))⟩
          · intro s vs wm _ hall _ hR
            obtain ⟨x, y, rfl, hB1, hx, hy⟩ := hR
            obtain rfl := hx (hall (0, []) (by simp))
            obtain rfl := hy (hall (5, []) (by simp))
            have HIM := lid (HI9.out.below hB1)
            have HIAM := lid (HIA9.out.below hB1)
            have hB1s := hB1.size
            clear hall hx hy
            simp only [putAll, Act.put, List.setIfInBounds_toArray, List.set_cons_succ, List.set_cons_zero]
            have CTT := lid (tell_run hN wm (by omega) HEX.out HIM.out.ka HIM.out.l20 HIAM.out (by omega) HIM.out.kn HSI.out)
            refine seq_chain (by rfl) ?_
            intro K hK
            go_wp2_with fail
            (with_reducible refine (CTT.out).mono ?_); rintro e w11 ⟨a5, c5, lk', rfl, hka, hkn, hl', hb11, hfa, hfq⟩
            have HNX := lid (HIM.out.tell hb11 hka hkn hl' hfa hfq)
            have HIN := lid (HIM.out.below hb11)
            have g11 := hB1.trans (hb11.mono hB1s)
            clear hka hkn hl' hfa hfq CTT
            go_wp2_with fail
            refine hK.out _ _ (sincex (kx_below g11)) ?_
            clear hK K
            repeat (first | (refine seq_skip (by rfl) (by rfl) ?_; simp only [Act.put, List.setIfInBounds_toArray, List.set_cons_succ, List.set_cons_zero]) | (refine seq_float (by rfl) (by rfl) (by rfl) ?_; intro K hK; go_big_quiet_op; go_big_quiet_on))
            have s0 := row_cell HIN.out.srch 0
            have s1 := row_cell HIN.out.srch 1
            have f0 := row_fz HIN.out.srch 0
            have f1 := row_fz HIN.out.srch 1
            have lS11 := row_lt HIN.out.srch
            refine seq_chain (by rfl) ?_
            intro K hK
            go_wp2_with fail
            refine hK.out _ _ (sincex (set2_keptx' (kx_below g11))) ?_
            clear hK K
            repeat (first | (refine seq_skip (by rfl) (by rfl) ?_; simp only [Act.put, List.setIfInBounds_toArray, List.set_cons_succ, List.set_cons_zero]) | (refine seq_float (by rfl) (by rfl) (by rfl) ?_; intro K hK; go_big_quiet_op; go_big_quiet_on))
            refine seq_chain (by rfl) ?_
            intro K hK
            go_wp2_with fail
            refine hK.out _ _ (sincex (set2_keptx' (kx_below g11))) ?_
            clear hK K
            repeat (first | (refine seq_skip (by rfl) (by rfl) ?_; simp only [Act.put, List.setIfInBounds_toArray, List.set_cons_succ, List.set_cons_zero]) | (refine seq_float (by rfl) (by rfl) (by rfl) ?_; intro K hK; go_big_quiet_op; go_big_quiet_on))
            refine seq_nil ?_
            obtain ⟨w12, hw12⟩ : ∃ y, (w11.setCell ⟨b0, 0, none⟩ (.int .i64 n)).setCell ⟨b0, 1, none⟩ (.slice a5 (i + 1) c5) = y := ⟨_, rfl⟩
            rw [hw12] at HNX ⊢
            clear hw12 s0 s1 f0 f1 lS11 HIN g11 hB1 hB1s
            have s0 := row_cell HNX.out.srch 0
            have s1 := row_cell HNX.out.srch 1
            have lS12 := row_lt HNX.out.srch
            have HEX2 : Hid (Exm (lk'.map Kw.kn) n ⟨0, (stAt T R (i + 1)).done, (stAt T R (i + 1)).set⟩) := lid (by rw [HNX.out.kn]; exact HTR.out.exm hn10 (by omega))
            have CC := lid (Check_any n hN lk' (i + 1) c5 a5 w12 (by omega) HNX.out.ka HNX.out.l20)
            go_wp2_with fail
            (with_reducible refine (CC.out).mono ?_); rintro e w13 ⟨rr, hE, rfl, hb13⟩
            obtain rfl := hE.det HEX2.out
            have HN13 := lid (HNX.out.below hb13)
            clear hE hb13 s0 s1 lS12 CC
            have s0 := row_cell HN13.out.srch 0
            have s1 := row_cell HN13.out.srch 1
            have lS13 := row_lt HN13.out.srch
            go_wp2_with fail
            go_roundw
            case rel => exact ⟨i + 1, c5, a5, lk', by omega, by go_num, HN13⟩
            case measure => simp [intOf]; omega
      · obtain rfl : i = T.length := by omega
        have HST := lid (stAt_done (T := T) (R := R))
        have HEX : Hid (Exm (lk.map Kw.kn) n ⟨0, true, R⟩) := lid (by
          have := HTR.out.exm hn10 hi
          rw [HST.out, ← HI.out.kn] at this
          exact this)
        have CT := lid (fun (w5 : World) (hb5 : Below wq.heap.size wq w5) => tell_other hN w5 (by omega) HEX.out (HI.out.ka.below hb5) HI.out.l20 ((HO.out.below HI.out.b).below hb5) (by omega))
        have s0 := row_cell HI.out.srch 0
        have s1 := row_cell HI.out.srch 1
        have lS := row_lt HI.out.srch
        go_wp2_with fail
        (with_reducible refine (CN.out wq (Below.refl _ _)).mono ?_); rintro e w5 ⟨rr, a1, n1, c1, hE, rfl, hIA, hb5, _⟩
        obtain rfl := hE.det HEX.out
        have HI5 := lid (HI.out.below hb5)
        have HIA : Hid (IA w5 a1 n1 c1 []) := lid hIA
        rw [show Ex.open ⟨0, true, R⟩ = false from rfl]
        clear hE hIA CN
        replace s0 := row_cell HI5.out.srch 0
        replace s1 := row_cell HI5.out.srch 1
        have lS5 := row_lt HI5.out.srch
        go_wp2_with fail
        (with_reducible refine (CT.out w5 hb5).mono ?_); rintro e w6 ⟨tN, a', k', c', rfl, hk0, hb6⟩
        have ht : tellE ⟨0, true, R⟩ o = 18 := rfl
        obtain rfl := hk0 (by rw [ht]; decide)
        rw [ht]
        have HI6 := lid (HI5.out.below hb6)
        have g6 := hb5.trans (hb6.mono hb5.size)
        clear ht hb6 CT s0 s1 lS lS5
        have s0 := row_cell HI6.out.srch 0
        have s1 := row_cell HI6.out.srch 1
        have lS6 := row_lt HI6.out.srch
        go_wp2_with fail
        obtain ⟨w7, hw7⟩ : ∃ y, w6.alloc (.cells #[.int .i64 tN, .slice a' 0 c'] 24) = y := ⟨_, rfl⟩
        have hb7 : Below w6.heap.size w6 w7 := by rw [← hw7]; exact ba _ _
        have HX7 : Hid (w7.heap[w6.heap.size]? = some (.cells #[.int .i64 tN, .slice a' 0 c'] 24 (0, 0))) := lid (by rw [← hw7]; exact h_new rfl _)
        obtain ⟨b7, hb7e⟩ : ∃ y, w6.heap.size = y := ⟨_, rfl⟩
        rw [hb7e] at HX7
        have g7 := g6.trans (hb7.mono g6.size)
        have HI7 := lid (HI6.out.below hb7)
        rw [hw7, hb7e]
        clear hw7 hb7 hb7e s0 s1 lS6
        (with_reducible refine (CR.out w7 g7).mono ?_); rintro e w8 ⟨rr, a2, n2, c2, hE, rfl, hIA2, hb8, _⟩
        obtain rfl := hE.det HEX.out
        rw [show Ex.fin ⟨0, true, R⟩ = true from rfl]
        have HI8 := lid (HI7.out.below hb8)
        have HX8 := lid ((hb8.block _ (row_lt HX7.out)).trans HX7.out)
        clear hE hIA2 hb8
        have s0 := row_cell HI8.out.srch 0
        have s1 := row_cell HI8.out.srch 1
        have lS8 := row_lt HI8.out.srch
        have x0 := row_cell HX8.out 0
        have x1 := row_cell HX8.out 1
        have lX8 := row_lt HX8.out
        go_wp2_with fail
        (with_reducible refine (awake_any w8).mono ?_); rintro e w9 ⟨rfl, hb9⟩
        have HB9 := lid (HI8.out.b.trans (hb9.mono HI8.out.b.size))
        clear hb9
        go_wp2_with fail
        go_ret
        exact ⟨ret_bool rfl, HB9.out⟩
end Go.Proofs.Ytnjcoejnknpfoaa
