/-
  out of the reference.
-/
import Derived.Test.YtnjcoejnknpfoaaMinRAll
namespace Go.Proofs.Ytnjcoejnknpfoaa
open Go.RowKit Go.Shelf
set_option maxRecDepth 100000 in
set_option maxHeartbeats 8000000 in
theorem refOut_any (n : Nat) (hn5 : 5 < n) (hn10 : n ≤ 10) (l : List Kw) (k cap : Nat) (ao : Option Addr) (w : World) (hk : k ≤ 100) (h : KA w ao k cap l) (hl : ∀ r ∈ l, r.vs.length ≤ 20) :
    Calls Try.prog 40 #[askV ao k cap 0 none 0 0 false, .int .i64 n] w (rStP (l.map Kw.kn) n w) := by
  have HK := lid h
  have HL := lid hl
  obtain ⟨kn, hkn⟩ : ∃ y, l.map Kw.kn = y := ⟨_, rfl⟩
  have HKL : Hid (kn.length = k) := lid (by rw [← hkn, List.length_map]; exact h.len)
  have HASK : Hid (∀ (u : Nat) (xs : List Int) (a2 : Option Addr) (n2 c2 : Nat) (w1 : World), u ≤ k → Below w.heap.size w w1 → IA w1 a2 n2 c2 xs → n2 ≤ 20 → Calls Try.prog 43 #[askV ao k cap u none 0 0 false, .slice a2 n2 c2] w1 fun e w' => ∃ (u' : Int) (aq : Option Addr) (nq cq : Nat) (sp b : Bool), e = .returned (.tuple #[askV ao k cap u' aq nq cq sp, .bool b]) ∧ AskO kn u xs a2 n2 c2 u' aq nq cq sp b ∧ Below w1.heap.size w1 w') := lid (fun u xs a2 n2 c2 w1 hu hb hx hn => by
    rw [← hkn]
    exact refAsk2 l k cap ao u xs a2 n2 c2 w1 hk hu (h.below hb) hl hx hn)
  rw [hkn]
  have HLD : Hid (∀ st, OutR kn (upto n) true [] 0 st → Leads kn n st) := lid (fun st e => by unfold Leads; rw [if_neg (by omega)]; exact e)
  clear h hl hkn
  go_enter Try.func40, Try.ntmps40
  go_wp2_with fail
  obtain ⟨W0, hW0⟩ : ∃ y, (w.alloc (.cells (askC ao k cap 0 none 0 0 false) 73)).alloc (.cells #[.slice none 0 0, .bool false, .int .i64 0] 60) = y := ⟨_, rfl⟩
  have g0 : Below w.heap.size w W0 := by rw [← hW0]; exact (ba _ _).alloc (by simp) _
  have rA : W0.heap[w.heap.size]? = some (.cells (askC ao k cap ((0 : Nat) : Int) none 0 0 false) 73 (0, 0)) := by rw [← hW0]; exact (h_old (by simp) _).trans (h_new rfl _)
  have rR : W0.heap[w.heap.size + 1]? = some (.cells #[.slice none 0 0, .bool false, .int .i64 0] 60 (0, 0)) := by rw [← hW0]; exact h_new (by simp) _
  rw [hW0]
  have HLT0 : Hid (w.heap.size + 1 < W0.heap.size) := lid (row_lt rR)
  clear hW0
  (with_reducible refine (Whole_any n W0 (by omega)).mono ?_); rintro e w1 ⟨v1, rfl, hown1, hb1⟩
  obtain ⟨ao1, cap1, rfl, hA1⟩ := IA.of_own hown1
  have HC1 : Hid (Cur w1 (w.heap.size + 2) ao1 n cap1 (upto n)) := lid ⟨hA1, fun b o e => by
    have := ownsRow_row hown1 b (by subst e; rfl)
    have := HLT0.out
    omega, upto_nodup n, upto_inR (by omega)⟩
  have HA1 := lid ((hb1.block _ (row_lt rA)).trans rA)
  have HR1 := lid ((hb1.block _ (row_lt rR)).trans rR)
  have g1 := g0.trans (hb1.mono g0.size)
  clear hown1 hA1 hb1 rA rR g0
  go_wp2_with fail
  go_loopw [5, 6] (fun vc vch wr => ∃ (q qc : Nat) (qa : Option Addr) (now : List Int) (ch : Bool) (u : Nat), vc = .slice qa q qc ∧ vch = .bool ch ∧ q ≤ n ∧ u ≤ k ∧ Hid (Cur wr (w.heap.size + 2) qa q qc now) ∧ Hid (wr.heap[w.heap.size]? = some (.cells (askC ao k cap u none 0 0 false) 73 (0, 0))) ∧ Hid (wr.heap[w.heap.size + 1]? = some (.cells #[.slice none 0 0, .bool false, .int .i64 0] 60 (0, 0))) ∧ Hid (To kn n now ch [] u) ∧ Below w.heap.size w wr) (fun vc vch _ => 2 * lenOf vc + boolN vch)
  case atStart => exact ⟨n, cap1, ao1, upto n, true, 0, rfl, rfl, Nat.le_refl _, Nat.zero_le _, HC1, HA1, HR1, lid (fun st h => h), g1⟩
  case round =>
    obtain ⟨q, qc, qa, now, ch, u, rfl, rfl, hq, huk, HC, HA, HR, HT, hb⟩ := hrel
    obtain ⟨wq, rfl⟩ : ∃ y, y = wr := ⟨_, rfl⟩
    cases ch with
    | false =>
      have lA := row_lt HA.out
      have lR := row_lt HR.out
      have p1 := row_cell HA.out 1
      have y0 := row_cell HR.out 0
      have z0 := row_fz HR.out 0
      have y1 := row_cell HR.out 1
      have z1 := row_fz HR.out 1
      have y2 := row_cell HR.out 2
      have z2 := row_fz HR.out 2
      have HB := lid hb
      go_wp2_with fail
      exact bodyPost_ret (res_state rfl _ _ (w.heap.size + 1) _ _ _ _ _ rfl (set3_row HR.out _ _ _)) rfl ⟨⟨now, true, u⟩, qa, q, qc, HLD.out _ (HT.out _ OutR.fin), rfl, set3_ia HC.out.a (fun b o e => by have := HC.out.f b o e; omega), set3_below HB.out (by omega), HC.out.f⟩
    | true =>
      have HLN := lid (HC.out.a.len)
      have HDN := lid (HC.out.d)
      go_wp2_with fail
      go_loopw [5, 6, 8] (fun vc vch vi wr => ∃ (q2 qc2 : Nat) (qa2 : Option Addr) (now2 : List Int) (ch2 : Bool) (u2 j : Nat), vc = .slice qa2 q2 qc2 ∧ vch = .bool ch2 ∧ vi = .int .i64 j ∧ j ≤ q ∧ q2 ≤ q ∧ u2 ≤ k ∧ Hid (ch2 = true → q2 < q) ∧ Hid (Cur wr (w.heap.size + 2) qa2 q2 qc2 now2) ∧ Hid (Cur wr (w.heap.size + 2) qa q qc now) ∧ Hid (wr.heap[w.heap.size]? = some (.cells (askC ao k cap u2 none 0 0 false) 73 (0, 0))) ∧ Hid (wr.heap[w.heap.size + 1]? = some (.cells #[.slice none 0 0, .bool false, .int .i64 0] 60 (0, 0))) ∧ Hid (∀ y ∈ now.drop j, y ∈ now2) ∧ Hid (To kn n now2 ch2 (now.drop j) u2) ∧ Below w.heap.size w wr) (fun _ _ vi _ => q - (intOf vi).toNat)
      case atStart => exact ⟨q, qc, qa, now, false, u, 0, rfl, rfl, rfl, Nat.zero_le _, Nat.le_refl _, huk, lid (fun h => (by cases h)), HC, HC, HA, HR, lid (fun y h => by simpa using h), lid (fun st h => HT.out st (OutR.again (by simpa using h))), hb⟩
      case round =>
        obtain ⟨q2, qc2, qa2, now2, ch2, u2, j, rfl, rfl, rfl, hj, hq2, huk2, HCH, HC2, HP, HA2, HR2, HIN, HT2, hb2⟩ := hrel
        obtain ⟨wz, rfl⟩ : ∃ y, y = wr := ⟨_, rfl⟩
        by_cases hlt : j < q
        · have dj : decide ((j : Int) < (q : Int)) = true := by simp; omega
          have hjl : j < now.length := by rw [HLN.out]; exact hlt
          obtain ⟨b1, o1, rfl, hlb, hcell⟩ := HP.out.a.sl.at_ hlt
          have x0 := hcell j _ (ivals_at hjl)
          have HDR : Hid (now.drop j = now[j] :: now.drop (j + 1)) := lid (List.drop_eq_getElem_cons hjl)
          obtain ⟨y, hy⟩ : ∃ y, now[j] = y := ⟨_, rfl⟩
          rw [hy] at x0 HDR
          have HM2 : Hid (y ∈ now2) := lid (HIN.out y (by rw [HDR.out]; exact List.mem_cons_self))
          have HND : Hid (∀ z ∈ now.drop (j + 1), z ≠ y) := lid (by
            have h := HDN.out.sublist (List.drop_sublist j now)
            rw [HDR.out] at h
            intro z hz e
            subst e
            exact (List.nodup_cons.1 h).1 hz)
          have HL2 := lid (HC2.out.a.len)
          clear hcell hy
          go_wp2_with fail
          (with_reducible refine (Without_any now2 q2 qc2 qa2 y wz (by omega) HC2.out.a).mono ?_); rintro e w3 ⟨v3, q5, rfl, hown3, hb3⟩
          obtain ⟨qa5, qc5, rfl, hA5⟩ := IA.of_own hown3
          have lR2 := row_lt HR2.out
          have h52 : q5 < q2 := by rw [← hA5.len, ← HL2.out]; exact lessI_lt HM2.out
          have HC5 : Hid (Cur w3 (w.heap.size + 2) qa5 q5 qc5 (lessI now2 y)) := lid ⟨hA5, fun b o e => by
            have := ownsRow_row hown3 b (by subst e; rfl)
            omega, lessI_nodup HC2.out.d, lessI_inR HC2.out.r⟩
          have HKF3 : Hid (KF (w.heap.size + 2) (w.heap.size + 2) wz w3) := lid (KF.below hb3)
          have HA3 := lid ((hb3.block _ (row_lt HA2.out)).trans HA2.out)
          have HR3 := lid ((hb3.block _ (row_lt HR2.out)).trans HR2.out)
          have hb03 := hb2.trans (hb3.mono hb2.size)
          clear hown3 hA5 hb3 x0 HA2 HR2 hb2
          have lA3 := row_lt HA3.out
          have lR3 := row_lt HR3.out
          have p0 := row_cell HA3.out 0
          have p1 := row_cell HA3.out 1
          have p2 := row_cell HA3.out 2
          have p3 := row_cell HA3.out 3
          have CE := lid (HASK.out u2 (lessI now2 y) qa5 q5 qc5 w3 huk2 hb03 HC5.out.a (by omega))
          go_wp2_with fail
          (with_reducible refine (CE.out).mono ?_); rintro e w4 ⟨u1, aq, nq, cq, sp, b, rfl, HO, hb4⟩
          have HAW := lid ((hb4.block _ lA3).trans HA3.out)
          have HRW := lid ((hb4.block _ lR3).trans HR3.out)
          have HKF4 : Hid (KF (w.heap.size + 2) (w.heap.size + 2) w3 w4) := lid (KF.below hb4)
          have hb04 := hb03.trans (hb4.mono hb03.size)
          have HC7 := lid (HC5.out.kf HKF4.out)
          have lA4 := row_lt HAW.out
          have lR4 := row_lt HRW.out
          clear hb4 hb03 CE HA3 HR3 p0 p1 p2 p3
          have p0 := row_cell HAW.out 0
          have p1 := row_cell HAW.out 1
          have p2 := row_cell HAW.out 2
          have p3 := row_cell HAW.out 3
          have f0 := row_fz HAW.out 0
          have f1 := row_fz HAW.out 1
          have f2 := row_fz HAW.out 2
          have f3 := row_fz HAW.out 3
          have y0 := row_cell HRW.out 0
          have y1 := row_cell HRW.out 1
          have y2 := row_cell HRW.out 2
          have z0 := row_fz HRW.out 0
          have z1 := row_fz HRW.out 1
          have z2 := row_fz HRW.out 2
          have HOO := lid HO
          clear HO
          rcases HOO.out with ⟨rfl, rfl, rfl, rfl, v, rfl, ha⟩ | ⟨rfl, rfl, rfl, rfl, rfl, rfl, ha⟩
          · have HQ := lid ha
            have HV : Hid (v ≤ k) := lid (by have := (ask1_le ha (by rw [HKL.out]; exact huk2)).2; rw [HKL.out] at this; exact this)
            clear ha HOO
            cases b with
            | false =>
              go_wp2_with fail
              go_roundw
              case rel => exact ⟨q2, qc2, qa2, now2, ch2, v, j + 1, rfl, rfl, by go_num, by omega, by omega, HV.out, HCH, lid ((HC2.out.kf HKF3.out).kf (HKF4.out.trans (((set4_kf (by omega) (by omega)).trans (KF.below (B0 := w.heap.size + 2) (B := w.heap.size + 2) (ba _ _)))))), lid ((HP.out.kf HKF3.out).kf (HKF4.out.trans (((set4_kf (by omega) (by omega)).trans (KF.below (B0 := w.heap.size + 2) (B := w.heap.size + 2) (ba _ _)))))), lid ((h_old (by simp only [World.size_setCell]; omega) _).trans (set4_row HAW.out _ _ _ _)), lid ((h_old (by simp only [World.size_setCell]; omega) _).trans (row_other (row_other (row_other (row_other HRW.out (by omega)) (by omega)) (by omega)) (by omega))), lid (fun z hz => HIN.out z (by rw [HDR.out]; exact List.mem_cons_of_mem _ hz)), lid (fun st h => HT2.out st (by rw [HDR.out]; exact OutR.good HQ.out h)), (set4_below hb04 (Nat.le_refl _)).alloc (by simp only [World.size_setCell]; have := hb04.size; omega) _⟩
              case measure => simp [intOf]; omega
            | true =>
              go_wp2_with fail
              go_roundw
              case rel => exact ⟨q5, qc5, qa5, lessI now2 y, true, v, j + 1, rfl, rfl, by go_num, by omega, by omega, HV.out, lid (fun _ => by omega), lid (HC7.out.kf (((set4_kf (by omega) (by omega)).trans (KF.below (B0 := w.heap.size + 2) (B := w.heap.size + 2) (ba _ _))))), lid ((HP.out.kf HKF3.out).kf (HKF4.out.trans (((set4_kf (by omega) (by omega)).trans (KF.below (B0 := w.heap.size + 2) (B := w.heap.size + 2) (ba _ _)))))), lid ((h_old (by simp only [World.size_setCell]; omega) _).trans (set4_row HAW.out _ _ _ _)), lid ((h_old (by simp only [World.size_setCell]; omega) _).trans (row_other (row_other (row_other (row_other HRW.out (by omega)) (by omega)) (by omega)) (by omega))), lid (fun z hz => mem_lessI.2 ⟨HIN.out z (by rw [HDR.out]; exact List.mem_cons_of_mem _ hz), HND.out z hz⟩), lid (fun st h => HT2.out st (by rw [HDR.out]; exact OutR.bad HQ.out h)), (set4_below hb04 (Nat.le_refl _)).alloc (by simp only [World.size_setCell]; have := hb04.size; omega) _⟩
              case measure => simp [intOf]; omega
          · have HQ := lid ha
            clear ha HOO
            go_wp2_with fail
            exact bodyPost_ret (res_state rfl _ _ (w.heap.size + 1) _ _ _ _ _ rfl ((h_old (by simp only [World.size_setCell]; omega) _).trans (set3_row (row_other (row_other (row_other (row_other HRW.out (by omega)) (by omega)) (by omega)) (by omega)) _ _ _))) rfl ⟨⟨lessI now2 y, false, u2⟩, _, _, _, HLD.out _ (HT2.out _ (by rw [HDR.out]; exact OutR.stop HQ.out)), rfl, (set3_ia (set4_ia HC7.out.a (fun b o e => by have := HC7.out.f b o e; omega)) (fun b o e => by have := HC7.out.f b o e; omega)).below (ba _ _), (set3_below (set4_below hb04 (Nat.le_refl _)) (by omega)).alloc (by simp only [World.size_setCell]; have := hb04.size; omega) _, HC7.out.f⟩
        · obtain rfl : j = q := by omega
          have dj : decide ((j : Int) < (j : Int)) = false := by simp
          have HT3 : Hid (To kn n now2 ch2 [] u2) := lid (by
            have := HT2.out
            rwa [List.drop_of_length_le (by rw [HLN.out]; exact Nat.le_refl _)] at this)
          go_wp2_with fail
          go_roundw
          case rel => exact ⟨q2, qc2, qa2, now2, ch2, u2, rfl, rfl, by omega, huk2, HC2, HA2, HR2, HT3, hb2⟩
          case measure =>
            have := HCH.out
            cases ch2 with
            | true =>
              have := this rfl
              simp only [lenOf, boolN]
              omega
            | false =>
              simp only [lenOf, boolN]
              omega
end Go.Proofs.Ytnjcoejnknpfoaa
