/-
  TopTreeDiffs: the law holds.
-/
import Derived.Test.YtphjillihapbfaaGreatDoorGrpV
namespace Go.Proofs.YtphjillihapbfaaGreatDoor
open Go.RowKit

set_option maxRecDepth 100000 in
set_option maxHeartbeats 16000000 in
theorem TopDiffs_any (S : List Fw) (n cap : Nat) (ao : Option Addr) (w : World) (h : LA w ao n cap S) :
    Calls Tryz.prog 3 #[.slice ao n cap] w fun e w' => e = .returned (.bool true) ∧ Below w.heap.size w w' := by
  have CX := lid example_any
  have hmx : n ≤ 9223372036854775807 := Nat.le_trans h.le h.max
  have HLA := lid h
  clear h
  by_cases h1 : n < 1
  · have d1 : decide ((n : Int) < 1) = true := by simp; omega
    clear h1
    go_enter Tryz.func3, Tryz.ntmps3
    go_wp2_with fail
    (with_reducible refine (CX.out _).mono ?_); rintro e w1 ⟨rfl, hb1⟩
    go_wp2_with fail
    go_ret
    exact ⟨rfl, hb1⟩
  have d1 : decide ((n : Int) < 1) = false := by simp; omega
  by_cases h4 : 4 < n
  · have d2 : decide ((4 : Int) < (n : Int)) = true := by simp; omega
    clear h1 h4
    go_enter Tryz.func3, Tryz.ntmps3
    go_wp2_with fail
    (with_reducible refine (CX.out _).mono ?_); rintro e w1 ⟨rfl, hb1⟩
    go_wp2_with fail
    go_ret
    exact ⟨rfl, hb1⟩
  have d2 : decide ((4 : Int) < (n : Int)) = false := by simp; omega
  have HN := lid HLA.out.len
  have HSL : Hid (Sl w 1 ao n (S.map fwc)) := lid HLA.out.sl
  have hn4 : n ≤ 4 := by omega
  have hn1 : 1 ≤ n := by omega
  clear h1 h4
  go_enter Tryz.func3, Tryz.ntmps3
  go_wp2_with fail
  have HRI0 : Hid (RI w (w.alloc (Obj.cells #[] 31)) S 0 none 0 0 [] [] (.slice (some ⟨w.heap.size, 0, none⟩) 0 0)) := lid ⟨GoodP.nil, PA.nil _, Lo.nil _, ownsRow_empty rfl (Nat.le_refl _), rfl, (fun k h => by cases h), (fun x hx => by cases hx), Nat.le_refl _⟩
  go_loopw [3, 4, 5, 36] (fun u3 u4 u5 u36 wr => ∃ (i : Nat) (ap : Option Addr) (np cp : Nat) (q : List It) (ds : List Dg), i ≤ n ∧ u3 = .slice ap np cp ∧ u5 = .int .i64 0 ∧ u36 = .int .i64 i ∧ Hid (RI w wr S i ap np cp q ds u4) ∧ Below w.heap.size w wr) (fun _ _ _ u36 _ => n - (intOf u36).toNat)
  case atStart => exact ⟨0, none, 0, 0, [], [], Nat.zero_le _, rfl, rfl, rfl, HRI0, ba _ _⟩
  case round =>
    obtain ⟨i, ap, np, cp, q, ds, hi, rfl, rfl, rfl, HRI, hb⟩ := hrel
    rename_i u4 u5 u36
    by_cases hlt : i < n
    · have hiS : i < S.length := by rw [HN.out]; exact hlt
      obtain ⟨b1, o1, rfl, hlb, hcell⟩ := (HSL.out.below hb).at_ hlt
      have x0 := hcell i (fwc S[i]) (by rw [List.getElem?_map, List.getElem?_eq_getElem hiS]; rfl)
      have dk : decide ((i : Int) < (n : Int)) = true := by simp; omega
      have HFA := lid ((HLA.out.el _ (List.getElem_mem hiS)).below hb)
      obtain ⟨r, hr⟩ : ∃ r, S[i] = r := ⟨_, rfl⟩
      have HR := lid hr
      rw [hr] at x0 HFA
      obtain ⟨l, la, lc⟩ := r
      replace x0 : wr.cell? ⟨b1, o1 + i, none⟩ = some (.slice la l.length lc) := x0
      replace HFA : Hid (FA wr la l.length lc l) := HFA
      obtain ⟨W1, hW1⟩ : ∃ y, wr.alloc (Obj.cells #[.int .u64 0, .int .u64 0] 31) = y := ⟨_, rfl⟩
      have hb1 : Below wr.heap.size wr W1 := by rw [← hW1]; exact ba _ _
      have hR1 : W1.heap[wr.heap.size]? = some (.cells #[.int .u64 0, .int .u64 0] 31 (0, 0)) := by rw [← hW1]; exact h_new rfl _
      have HW1 := lid hW1
      have HB1 := lid hb1
      have HR1 := lid hR1
      have HBW := lid (hb.trans (hb1.mono hb.size))
      have CG := lid (fGreat_any l l.length lc la W1 (HFA.out.below hb1))
      clear hcell hr hW1 hb1 hR1
      cases hg : fgreat l with
      | true =>
        rw [hg] at CG
        clear hg
        go_wp2_with fail
        rw [HW1.out]
        (with_reducible refine (CG.out).mono ?_); rintro e w2 ⟨rfl, rfl⟩
        go_wp2_with fail
        (with_reducible refine (CX.out _).mono ?_); rintro e w2 ⟨rfl, hb2⟩
        go_wp2_with fail
        go_ret
        exact ⟨rfl, HBW.out.trans (hb2.mono HBW.out.size)⟩
      | false =>
        rw [hg] at CG
        obtain ⟨h10, hzz⟩ := great_ten hg
        have H10 := lid h10
        have HZZ : Hid (∀ f ∈ l, f.2.size ≤ 200) := lid (fun f hf => (hzz f hf).2)
        have CS := lid (Store_any q l l.length lc np cp la ap W1 HRI.out.good (HRI.out.pa.below HB1.out) (HRI.out.lo.mono HB1.out.size) (HFA.out.below HB1.out) HZZ.out h10 (by have := HRI.out.np; omega))
        clear hg hzz h10
        go_wp2_with fail
        rw [HW1.out]
        (with_reducible refine (CG.out).mono ?_); rintro e w2 ⟨rfl, rfl⟩
        go_wp2_with fail
        (with_reducible refine (CS.out).mono ?_); rintro e w3 ⟨hb3, a3, n3, c3, d, e', rfl, hres⟩
        have hR3 := (hb3.block _ (row_lt HR1.out)).trans HR1.out
        have HB3 := lid (HB1.out.trans (hb3.mono HB1.out.size))
        have hlw : wr.heap.size < w2.heap.size := row_lt HR1.out
        have hz3 : w2.heap.size ≤ w3.heap.size := hb3.size
        have hzw : w.heap.size ≤ wr.heap.size := hb.size
        obtain ⟨W5, hW5⟩ : ∃ y, (w3.setCell ⟨wr.heap.size, 0, none⟩ (.int .u64 d.1.toNat)).setCell ⟨wr.heap.size, 1, none⟩ (.int .u64 d.2.toNat) = y := ⟨_, rfl⟩
        have hg5 : w3.grownBy W5 (some wr.heap.size) := by rw [← hW5]; exact (grown_set w3 _ _ _).trans (grown_set _ _ _ _)
        have hR5 : W5.heap[wr.heap.size]? = some (.cells #[.int .u64 d.1.toNat, .int .u64 d.2.toNat] 31 (0, 0)) := by
          rw [← hW5]
          have h1 := row_set hR3 0 (.int .u64 d.1.toNat)
          have h2 := row_set h1 1 (.int .u64 d.2.toNat)
          simpa using h2
        have y0 : w3.cell? ⟨wr.heap.size, 0, none⟩ = some (.int .u64 0) := row_cell hR3 0
        have y1 : w3.cell? ⟨wr.heap.size, 1, none⟩ = some (.int .u64 0) := row_cell hR3 1
        have yf0 := row_fz hR3 0
        have yf1 := row_fz hR3 1
        have ly := row_lt hR3
        have z0 : W5.cell? ⟨wr.heap.size, 0, none⟩ = some (.int .u64 d.1.toNat) := row_cell hR5 0
        have z1 : W5.cell? ⟨wr.heap.size, 1, none⟩ = some (.int .u64 d.2.toNat) := row_cell hR5 1
        have lz := row_lt hR5
        have HBW5 : Hid (Below w.heap.size w W5) := lid ((hb.trans (HB3.out.mono hzw)).grown hg5 (by omega) (fun r e => by cases e; exact hzw))
        have HW5 := lid hW5
        have HG5 := lid hg5
        rcases hres with ⟨rfl, htc, q', hq', hpa', hlo', hfr'⟩ | ⟨he, -⟩
        · obtain ⟨g1, g2, g3⟩ := SL.store HRI.out.good htc H10.out HZZ.out hq'
          have hrm := storeP_room htc H10.out hq'
          rw [hpa'.len, HRI.out.pa.len] at hrm
          have HG1 := lid g1
          have HG2 := lid g2
          have HG3 := lid g3
          have HPA5 : Hid (PA W5 a3 n3 c3 q') := lid (hpa'.grown hg5 (fun x hx e => by
            have e2 := Option.some.inj e
            rcases hfr' x hx with ⟨y, hy, e3⟩ | h3
            · have := HRI.out.lo y hy
              omega
            · omega))
          have HNE : Hid (∀ x, a3 = some x → some x.block ≠ u4.ownBlock ∧ x.block < w3.heap.size) := lid (fun x hx => ⟨fun e => by
            rcases hfr' x hx with ⟨y, hy, e3⟩ | h3
            · exact HRI.out.ne y hy (by rw [e3]; exact e)
            · have := (HRI.out.row.lt _ e.symm).2
              omega, hlo' x hx⟩)
          have HROW : Hid (W5.ownsRow w.heap.size 31 2 u4 i (dcells ds)) := lid ((HRI.out.row.kept (grown_below HB3.out none) (by cases hv : u4.ownBlock <;> simp)).kept hg5 (by
            cases hv : u4.ownBlock with
            | none => exact .inl rfl
            | some g => exact .inr (fun e => by have := (HRI.out.row.lt g hv).2; have := Option.some.inj e; omega)))
          have hz5 : w3.heap.size ≤ W5.heap.size := hg5.size
          have hnp : n3 ≤ 1021 * (i + 1) := by have := HRI.out.np; omega
          clear htc hq' hpa' hlo' hfr' g1 g2 g3 hg5 hR5 hR3 hW5 hrm
          go_wp2_with (first | (with_reducible refine swap_world HW5.out ?_) | (at_builtin; go_must (refine wpList_append_new_at (w := W5) #[.int .u64 d.1.toNat, .int .u64 d.2.toNat] rfl _ _ 26 rfl w.heap.size 31 (.agg #[.int .u64 0, .int .u64 0]) 2 16 info_dg2 Tryz.underlying26 rfl (by decide) u4 _ _ HROW.out rfl rfl rfl (by intro u hu; simp at hu; rcases hu with rfl | rfl <;> rfl) (by simp only [maxLen]; omega) (by omega) (by omega) ?_)))
          intro v11 w11 hown11 hg11 hat11
          have hgA : W5.grownBy w11 u4.ownBlock := (grown_below (ba W5 _) _).trans hg11
          have hB11 : Below w.heap.size w w11 := HBW5.out.grown hgA (by have := HBW5.out.size; omega) (fun r e => (HROW.out.lt r e).1)
          have HRI11 : Hid (RI w w11 S (i + 1) a3 n3 c3 q' (ds ++ [d]) v11) := lid (by
            refine ⟨HG1.out, HPA5.out.grown hgA (fun x hx => (HNE.out x hx).1), (fun x hx => ?_), ?_, by rw [List.length_append, HRI.out.len]; rfl, (fun k h h' => ?_), (fun x hx e => ?_), hnp⟩
            · have := (HNE.out x hx).2
              have := hgA.size
              omega
            · rw [dcells_append]
              exact hown11
            · by_cases hk : k < ds.length
              · rw [List.getElem_append_left hk]
                exact (HRI.out.sl k hk h').mono HG1.out HG2.out
              · have hk2 : k = ds.length := by rw [List.length_append] at h; simp at h; omega
                subst hk2
                have e1 : (ds ++ [d])[ds.length] = d := by simp
                have e2 : S[ds.length].l = l := by
                  have : S[ds.length] = S[i] := by congr 1; exact HRI.out.len
                  rw [this, HR.out]
                rw [e1, e2]
                exact HG3.out
            · obtain ⟨h5, h6⟩ := HNE.out x hx
              rcases hat11 with h7 | h7
              · rw [h7] at e
                exact h5 e
              · rw [h7] at e
                have := Option.some.inj e
                omega)
          clear hown11 hg11 hat11 hgA z0 z1 y0 y1 yf0 yf1 ly lz
          go_wp2_with fail
          go_roundw
          case rel => exact ⟨i + 1, a3, n3, c3, q', ds ++ [d], by omega, rfl, rfl, by go_num, HRI11, hB11⟩
          case measure => simp [intOf]; omega
        · have uK : (e' == 0) = false := by simpa using he
          clear he hg5 hR5 hR3 hW5
          go_wp2_with (with_reducible refine swap_world HW5.out ?_)
          (with_reducible refine (CX.out _).mono ?_); rintro e w6 ⟨rfl, hb6⟩
          clear y0 y1 yf0 yf1 z0 z1 ly lz
          go_wp2_with fail
          go_ret
          exact ⟨rfl, HBW5.out.trans (hb6.mono HBW5.out.size)⟩
    · obtain rfl : n = i := by omega
      obtain ⟨m, hm⟩ : ∃ m, n = m + 1 := ⟨n - 1, by omega⟩
      have hm1 : (n : Int) - 1 = (m : Int) := by omega
      have wm : IntKind.i64.wrap (m : Int) = m := IntWalk.i64_in _ (by omega)
      have hmn : m < n := by omega
      have hmn2 : n ≤ m + 1 := by omega
      clear hm
      obtain ⟨V, rfl⟩ : ∃ y, y = wr := ⟨_, rfl⟩
      obtain ⟨ra, rc, rfl, hrc, hrc', hrsl⟩ := Sl.of_own HRI.out.row
      have HRSL : Hid (Sl V 2 ra n (dcells ds)) := lid hrsl
      have HBV := lid hb
      have HDL := lid HRI.out.len
      have h0 : 0 < n := by omega
      obtain ⟨b0, o0, rfl, hlb0, hcell0⟩ := (HSL.out.below hb).at_ h0
      have h0S : 0 < S.length := by rw [HN.out]; exact h0
      have y0 := hcell0 0 (fwc S[0]) (by rw [List.getElem?_map, List.getElem?_eq_getElem h0S]; rfl)
      rw [Nat.add_zero] at y0
      have HFA0 := lid ((HLA.out.el _ (List.getElem_mem h0S)).below hb)
      obtain ⟨⟨l0, la0, lc0⟩, hr0⟩ : ∃ r, S[0] = r := ⟨_, rfl⟩
      have HR0 := lid hr0
      rw [hr0] at y0 HFA0
      replace y0 : V.cell? ⟨b0, o0, none⟩ = some (.slice la0 l0.length lc0) := y0
      replace HFA0 : Hid (FA V la0 l0.length lc0 l0) := HFA0
      have dn : decide ((n : Int) < (n : Int)) = false := by simp
      clear hcell0 hr0 hrsl hrc hrc' hb
      go_wp2_with fail
      have HRC0 : Hid (RC V (V.alloc (Obj.cells #[] 36)) S 0 la0 l0.length lc0 [] (.slice (some ⟨V.heap.size, 0, none⟩) 0 0)) := lid (by
        refine ⟨fun h => ?_, ownsRow_empty rfl (Nat.le_refl _), rfl, (fun r hr => by cases hr), (fun j h => by cases h), fun h x hx => ?_⟩
        · rw [HR0.out]
          exact HFA0.out.below (ba _ _)
        · have := HFA0.out.lo h x hx
          refine ⟨fun e => ?_, by simp; omega⟩
          have : x.block = V.heap.size := Option.some.inj e
          omega)
      have hnpq : np ≤ 90000 := by have := HRI.out.np; omega
      go_loopw [10, 11, 67] (fun u10 u11 u67 wr => ∃ (k : Nat) (na : Option Addr) (nn nc : Nat) (CS : List Cw), k ≤ m ∧ u67 = .int .i64 k ∧ u10 = .slice na nn nc ∧ Hid (RC V wr S k na nn nc CS u11) ∧ Below V.heap.size V wr) (fun _ _ u67 _ => m - (intOf u67).toNat)
      case atStart => exact ⟨0, la0, l0.length, lc0, [], Nat.zero_le _, rfl, rfl, HRC0, ba _ _⟩
      case round =>
        clear HRC0
        obtain ⟨k, na, nn, nc, CS, hk, rfl, rfl, HRC, hb⟩ := hrel
        rename_i u11 u67
        by_cases hlt2 : k < m
        · have hk0 : k < n := by omega
          have hk1 : k + 1 < n := by omega
          have hkS : k < S.length := by rw [HN.out]; exact hk0
          have hkS1 : k + 1 < S.length := by rw [HN.out]; exact hk1
          have hkd : k < ds.length := by rw [HDL.out]; exact hk0
          have hkd1 : k + 1 < ds.length := by rw [HDL.out]; exact hk1
          have HBW : Hid (Below w.heap.size w wr) := lid (HBV.out.trans (hb.mono HBV.out.size))
          obtain ⟨b2, o2, rfl, hlb2, hcell2⟩ := (HRSL.out.below hb).at_ hk0
          have x0 := hcell2 _ _ (dcells_at hkd).1
          have x1 := hcell2 _ _ (dcells_at hkd).2
          have x2 := hcell2 _ _ (dcells_at hkd1).1
          have x3 := hcell2 _ _ (dcells_at hkd1).2
          rw [← Nat.add_assoc] at x1 x3
          have e0 : ((k + 1 : Nat) : Int) = (k : Int) + 1 := by omega
          have dk : decide ((k : Int) < (m : Int)) = true := by simp; omega
          have dk1 : decide ((k : Int) + 1 < (n : Int)) = true := by simp; omega
          have dk0 : decide ((k : Int) < (n : Int)) = true := by simp; omega
          have HSA := lid (HRI.out.sl k hkd hkS)
          have HSB := lid (HRI.out.sl (k + 1) hkd1 hkS1)
          have HFN := lid (HRC.out.now hkS)
          obtain ⟨b3, o3, e3, hlb3, hcell3⟩ := (HSL.out.below HBW.out).at_ hk1
          have y4 := hcell3 (k + 1) (fwc S[k + 1]) (by rw [List.getElem?_map, List.getElem?_eq_getElem hkS1]; rfl)
          have HFB := lid ((HLA.out.el _ (List.getElem_mem hkS1)).below HBW.out)
          obtain ⟨⟨B, bA, bC⟩, hB⟩ : ∃ r, S[k + 1] = r := ⟨_, rfl⟩
          have HBE := lid hB
          obtain ⟨A, hA⟩ : ∃ A, S[k].l = A := ⟨_, rfl⟩
          have HAE := lid hA
          rw [hB] at y4 HSB HFB
          rw [hA] at HSA HFN
          replace y4 : wr.cell? ⟨b3, o3 + (k + 1), none⟩ = some (.slice bA B.length bC) := y4
          replace HFB : Hid (FA wr bA B.length bC B) := HFB
          replace HSB : Hid (SL q ds[k + 1] B) := HSB
          obtain ⟨da, hda⟩ : ∃ d, ds[k] = d := ⟨_, rfl⟩
          obtain ⟨db, hdb⟩ : ∃ d, ds[k + 1] = d := ⟨_, rfl⟩
          rw [hda] at x0 x1 HSA
          rw [hdb] at x2 x3 HSB
          obtain ⟨eb, eo⟩ : b0 = b3 ∧ o0 = o3 := by injection e3 with e3; injection e3 with h1 h2; exact ⟨h1, h2⟩
          subst eb eo
          have CD : Hid (∀ W, Below wr.heap.size wr W → Calls Tryz.prog 7 #[.slice ap np cp, .agg #[.int .u64 da.1.toNat, .int .u64 da.2.toNat], .agg #[.int .u64 db.1.toNat, .int .u64 db.2.toNat]] W fun e w' => Below W.heap.size W w' ∧ ∃ (a : Option Addr) (n' c : Nat) (C : List Ch), e = .returned (.tuple #[.slice a n' c, .int .i64 0]) ∧ CA w' a n' c C ∧ Chg A B C ∧ n' ≤ 20 ∧ Nw W w' a) := lid (fun W hW => diff_sl q np cp ap da db A B W HRI.out.good hnpq ((HRI.out.pa.below hb).below hW) ((HRI.out.lo.mono hb.size).mono hW.size) HSA.out HSB.out)
          have CD1 := lid (CD.out wr.drew (Below.refl _ _).drew)
          clear hcell2 hcell3 hB hA hda hdb e3 CD
          go_wp2_with fail
          refine wp_region_seq (fun w' => ∃ s : Since wr.heap.size wr, w' = s.world) [(0, true), (1, true), (2, true), (3, true), (4, true), (5, true), (6, true), (7, true), (8, true), (9, true), (10, false), (11, true), (12, true), (13, true), (14, false), (15, false)] (by kernel_rfl) (by kernel_rfl) (by intro c d v a w h; first | (cases d <;> exact h) | cases h.1) (since (Below.refl _ _).drew) ?_
          repeat (first | (refine seq_skip (by rfl) (by rfl) ?_; simp only [Act.put, List.setIfInBounds_toArray, List.set_cons_succ, List.set_cons_zero]) | (refine seq_float (by rfl) (by rfl) (by rfl) ?_; intro K hK; go_big_quiet_op; go_big_quiet_on))
          refine seq_chain (by rfl) ?_
          intro K hK
          go_wp2_with fail
          (with_reducible refine (CD1.out).mono ?_); rintro e w5 ⟨hb5, a5, n5, c5, C, rfl, hCA, hChg, h20, hnw⟩
          obtain rfl : C.length = n5 := hCA.len
          have hb5' : Below wr.heap.size wr w5 := (Below.refl _ wr).drew.trans hb5
          have HCA := lid hCA
          have HCHG := lid hChg
          have HNW : Hid (∀ x, a5 = some x → wr.heap.size ≤ x.block ∧ x.block < w5.heap.size) := lid hnw
          have H20 := lid h20
          have HB5 := lid hb5'
          have CP := lid (patch_sl q A B C da db nn nc C.length c5 na a5 w5 HSA.out HSB.out (HFN.out.below hb5') hCA hChg (by omega))
          clear hCA hChg hnw h20 hb5 CD1
          go_wp2_with fail
          refine hK.out _ _ (since hb5') ?_
          clear hK K
          repeat (first | (refine seq_skip (by rfl) (by rfl) ?_; simp only [Act.put, List.setIfInBounds_toArray, List.set_cons_succ, List.set_cons_zero]) | (refine seq_float (by rfl) (by rfl) (by rfl) ?_; intro K hK; go_big_quiet_op; go_big_quiet_on))
          refine seq_chain (by rfl) ?_
          intro K hK
          go_wp2_with fail
          refine hK.out _ _ (since hb5') ?_
          clear hK K
          repeat (first | (refine seq_skip (by rfl) (by rfl) ?_; simp only [Act.put, List.setIfInBounds_toArray, List.set_cons_succ, List.set_cons_zero]) | (refine seq_float (by rfl) (by rfl) (by rfl) ?_; intro K hK; go_big_quiet_op; go_big_quiet_on))
          refine seq_chain (by rfl) ?_
          intro K hK
          go_wp2_with fail
          refine hK.out _ _ (since hb5') ?_
          clear hK K
          repeat (first | (refine seq_skip (by rfl) (by rfl) ?_; simp only [Act.put, List.setIfInBounds_toArray, List.set_cons_succ, List.set_cons_zero]) | (refine seq_float (by rfl) (by rfl) (by rfl) ?_; intro K hK; go_big_quiet_op; go_big_quiet_on))
          refine seq_nil ?_
          clear hb5'
          go_wp2_with fail
          (with_reducible refine (CP.out).mono ?_); rintro e w6 ⟨hb6, a6, n6, c6, rfl, hf6, hnw6⟩
          have HB6 := lid (HB5.out.trans (hb6.mono HB5.out.size))
          have HB56 := lid hb6
          have hB10 : B.length ≤ 10 := HSB.out.ten
          have CQ := lid (SameF_same B n6 B.length c6 bC a6 bA w6 hf6 (HFB.out.below HB6.out) (by have := hf6.len; omega))
          have y5 := (bc HB6.out hlb3 _).trans y4
          have HF6 := lid hf6
          have HNW6 : Hid (∀ x, a6 = some x → w5.heap.size ≤ x.block ∧ x.block < w6.heap.size) := lid hnw6
          have hl6 := Nat.lt_of_lt_of_le hlb3 HB6.out.size
          clear hb6 hf6 hnw6 x0 x1 x2 x3 y4 hlb3
          go_wp2_with fail
          (with_reducible refine (CQ.out).mono ?_); rintro e w7 ⟨rfl, hb7⟩
          have HB7 := lid (HB6.out.trans (hb7.mono HB6.out.size))
          have HROW : Hid (w7.ownsRow V.heap.size 36 1 u11 k (CS.map cwc)) := lid (HRC.out.row.kept (grown_below HB7.out none) (by cases hv : u11.ownBlock <;> simp))
          have hzr : ∀ g, u11.ownBlock = some g → V.heap.size ≤ g ∧ g < wr.heap.size := fun g hg => HRC.out.row.lt g hg
          have HZR := lid hzr
          have hz5 := HB5.out.size
          have hz6 := HB6.out.size
          have hz7 := HB7.out.size
          have hz67 : w6.heap.size ≤ w7.heap.size := hb7.size
          have hz56 : w5.heap.size ≤ w6.heap.size := HB56.out.size
          have H57 : Hid (Below w5.heap.size w5 w7) := lid (HB56.out.trans (hb7.mono hz56))
          have HF7 := lid (HF6.out.below hb7)
          have HVR := lid (hb.trans (HB7.out.mono hb.size))
          have hvs := HVR.out.size
          clear hb7 hzr y5 hl6
          go_wp2_with (at_builtin; go_must (refine wpList_append_new_at (w := w7) #[.slice a5 C.length c5] rfl _ _ 35 rfl V.heap.size 36 (.slice none 0 0) 1 24 info_fcs Tryz.underlying35 rfl (by decide) u11 _ _ HROW.out rfl rfl rfl (by intro u hu; simp at hu; subst hu; rfl) (by simp only [maxLen]; omega) (by omega) (by omega) ?_))
          intro v8 w8 hown8 hg8 hat8
          have hgA : w7.grownBy w8 u11.ownBlock := (grown_below (ba w7 _) _).trans hg8
          have hz8 := hgA.size
          have HRC8 : Hid (RC V w8 S (k + 1) a6 n6 c6 (CS ++ [⟨C, a5, c5⟩]) v8) := lid (by
            have hat : v8.ownBlock = u11.ownBlock ∨ ∃ g, v8.ownBlock = some g ∧ w7.heap.size ≤ g := by
              rcases hat8 with h | h
              · exact .inl h
              · exact .inr ⟨_, h, by simp⟩
            have hno : ∀ y : Nat, some y ≠ u11.ownBlock → y < w7.heap.size → some y ≠ v8.ownBlock := fun y h1 h2 e => by
              rcases hat with h | ⟨g, h, hg⟩
              · exact h1 (by rw [e, h])
              · rw [h] at e
                have := Option.some.inj e
                omega
            have hnew : ∀ y : Nat, wr.heap.size ≤ y → some y ≠ u11.ownBlock := fun y h1 e => by
              have := (HZR.out y e.symm).2
              omega
            refine ⟨fun h => ?_, ?_, by rw [List.length_append, HRC.out.len]; rfl, fun r hr => ?_, fun j h h0 h1 => ?_, fun _ x hx => ?_⟩
            · rw [HBE.out]
              exact HF7.out.grown hgA (fun x hx => hnew _ (by have := (HNW6.out x hx).1; omega))
            · rw [List.map_append]
              exact hown8
            · rcases List.mem_append.1 hr with hr | hr
              · obtain ⟨q1, q2, q3⟩ := HRC.out.ca r hr
                refine ⟨(q1.below HB7.out).grown hgA (fun x hx => (q3 x hx).1), q2, fun x hx => ?_⟩
                obtain ⟨q4, q5⟩ := q3 x hx
                exact ⟨hno _ q4 (by omega), by omega⟩
              · simp only [List.mem_singleton] at hr
                subst hr
                have h57 : Below w5.heap.size w5 w7 := H57.out
                refine ⟨(HCA.out.below h57).grown hgA (fun x hx => hnew _ (HNW.out x hx).1), H20.out, fun x hx => ?_⟩
                obtain ⟨q4, q5⟩ := HNW.out x hx
                exact ⟨hno _ (hnew _ q4) (by omega), by omega⟩
            · by_cases hj : j < CS.length
              · rw [List.getElem_append_left hj]
                exact HRC.out.chg j hj h0 h1
              · have hj2 : j = CS.length := by rw [List.length_append] at h; simp at h; omega
                have hjk : j = k := hj2.trans HRC.out.len
                have e1 : (CS ++ [(⟨C, a5, c5⟩ : Cw)])[j].c = C := by subst hj2; simp
                rw [e1]
                subst hjk
                rw [HAE.out, HBE.out]
                exact HCHG.out
            · obtain ⟨q4, q5⟩ := HNW6.out x hx
              exact ⟨hno _ (hnew _ (by omega)) (by omega), by omega⟩)
          have hB8 : Below V.heap.size V w8 := HVR.out.grown hgA (by omega) (fun r e => (HZR.out r e).1)
          clear hown8 hg8 hat8 hgA
          go_wp2_with fail
          go_roundw
          case rel => exact ⟨k + 1, a6, n6, c6, _, by omega, by go_num, rfl, HRC8, hB8⟩
          case measure => simp [intOf]; omega
        · obtain rfl : m = k := by omega
          obtain ⟨V1, rfl⟩ : ∃ y, y = wr := ⟨_, rfl⟩
          obtain ⟨ua, uc, rfl, -, -, husl⟩ := Sl.of_own HRC.out.row
          have HUSL : Hid (Sl V1 1 ua m (CS.map cwc)) := lid husl
          have hm0 : 0 < n := by omega
          have hmS : m < S.length := by rw [HN.out]; exact hmn
          have hmd : m < ds.length := by rw [HDL.out]; exact hmn
          have h0d : 0 < ds.length := by rw [HDL.out]; exact hm0
          have HBW : Hid (Below w.heap.size w V1) := lid (HBV.out.trans (hb.mono HBV.out.size))
          obtain ⟨b2, o2, rfl, hlb2, hcell2⟩ := (HRSL.out.below hb).at_ hm0
          have x0 := hcell2 _ _ (dcells_at h0d).1
          have x1 := hcell2 _ _ (dcells_at h0d).2
          have x2 := hcell2 _ _ (dcells_at hmd).1
          have x3 := hcell2 _ _ (dcells_at hmd).2
          rw [← Nat.add_assoc] at x1 x3
          rw [Nat.zero_mul, Nat.add_zero] at x0 x1
          have dk : decide ((m : Int) < (m : Int)) = false := by simp
          have dkn : decide ((m : Int) < (n : Int)) = true := by simp; omega
          have d0n : decide ((0 : Int) < (n : Int)) = true := by simp; omega
          have HSA0 : Hid (SL q ds[0] l0) := lid (by
            have := HRI.out.sl 0 h0d h0S
            rwa [HR0.out] at this)
          have HSZ0 := lid (HRI.out.sl m hmd hmS)
          have HFN0 := lid (HRC.out.now hmS)
          obtain ⟨b3, o3, e3, hlb3, hcell3⟩ := (HSL.out.below HBW.out).at_ hmn
          have y4 := hcell3 m (fwc S[m]) (by rw [List.getElem?_map, List.getElem?_eq_getElem hmS]; rfl)
          have y1 := (bc hb hlb0 _).trans y0
          have HFZ0 := lid ((HLA.out.el _ (List.getElem_mem hmS)).below HBW.out)
          obtain ⟨⟨Z, zA, zC⟩, hZ⟩ : ∃ r, S[m] = r := ⟨_, rfl⟩
          have HZE := lid hZ
          rw [hZ] at y4 HSZ0 HFZ0 HFN0
          replace y4 : V1.cell? ⟨b3, o3 + m, none⟩ = some (.slice zA Z.length zC) := y4
          have HFZ : Hid (FA V1 zA Z.length zC Z) := HFZ0
          have HSZ : Hid (SL q ds[m] Z) := HSZ0
          have HFN : Hid (FA V1 na nn nc Z) := HFN0
          have HFA1 := lid (HFA0.out.below hb)
          obtain ⟨da, hda⟩ : ∃ d, ds[0] = d := ⟨_, rfl⟩
          obtain ⟨db, hdb⟩ : ∃ d, ds[m] = d := ⟨_, rfl⟩
          rw [hda] at x0 x1 HSA0
          rw [hdb] at x2 x3 HSZ
          obtain ⟨eb, eo⟩ : b0 = b3 ∧ o0 = o3 := by injection e3 with e3; injection e3 with h1 h2; exact ⟨h1, h2⟩
          subst eb eo
          have CD : Hid (∀ W, Below V1.heap.size V1 W → Calls Tryz.prog 7 #[.slice ap np cp, .agg #[.int .u64 da.1.toNat, .int .u64 da.2.toNat], .agg #[.int .u64 db.1.toNat, .int .u64 db.2.toNat]] W fun e w' => Below W.heap.size W w' ∧ ∃ (a : Option Addr) (n' c : Nat) (C : List Ch), e = .returned (.tuple #[.slice a n' c, .int .i64 0]) ∧ CA w' a n' c C ∧ Chg l0 Z C ∧ n' ≤ 20 ∧ Nw W w' a) := lid (fun W hW => diff_sl q np cp ap da db l0 Z W HRI.out.good hnpq ((HRI.out.pa.below hb).below hW) ((HRI.out.lo.mono hb.size).mono hW.size) HSA0.out HSZ.out)
          have CD1 := lid (CD.out V1.drew (Below.refl _ _).drew)
          have hnn : nn ≤ 10 := by have h1 := HFN.out.len; have h2 := HSZ.out.ten; omega
          clear hcell2 hcell3 hZ hda hdb e3 CD HFZ0 HSZ0 HFN0 husl
          go_wp2_with fail
          refine wp_region_seq (fun w' => ∃ s : Since V1.heap.size V1, w' = s.world) [(0, true), (1, true), (2, true), (3, true), (4, true), (5, true), (6, true), (7, true), (8, false), (9, true), (10, true), (11, true), (12, false), (13, false)] (by kernel_rfl) (by kernel_rfl) (by intro c d v a w h; first | (cases d <;> exact h) | cases h.1) (since (Below.refl _ _).drew) ?_
          repeat (first | (refine seq_skip (by rfl) (by rfl) ?_; simp only [Act.put, List.setIfInBounds_toArray, List.set_cons_succ, List.set_cons_zero]) | (refine seq_float (by rfl) (by rfl) (by rfl) ?_; intro K hK; go_big_quiet_op; go_big_quiet_on))
          refine seq_chain (by rfl) ?_
          intro K hK
          go_wp2_with fail
          (with_reducible refine (CD1.out).mono ?_); rintro e w5 ⟨hb5, a5, n5, c5, C, rfl, hCA, hChg, h20, -⟩
          have hb5' : Below V1.heap.size V1 w5 := (Below.refl _ V1).drew.trans hb5
          have HB5 := lid hb5'
          have y5 := (bc hb5' hlb3 _).trans y1
          have hl5 := Nat.lt_of_lt_of_le hlb3 hb5'.size
          have CP := lid (patch_sl q l0 Z C da db l0.length lc0 n5 c5 la0 a5 w5 HSA0.out HSZ.out (HFA1.out.below hb5') hCA hChg (by omega))
          clear hCA hChg h20 hb5 CD1
          go_wp2_with fail
          refine hK.out _ _ (since hb5') ?_
          clear hK K
          repeat (first | (refine seq_skip (by rfl) (by rfl) ?_; simp only [Act.put, List.setIfInBounds_toArray, List.set_cons_succ, List.set_cons_zero]) | (refine seq_float (by rfl) (by rfl) (by rfl) ?_; intro K hK; go_big_quiet_op; go_big_quiet_on))
          refine seq_chain (by rfl) ?_
          intro K hK
          go_wp2_with fail
          refine hK.out _ _ (since hb5') ?_
          clear hK K
          repeat (first | (refine seq_skip (by rfl) (by rfl) ?_; simp only [Act.put, List.setIfInBounds_toArray, List.set_cons_succ, List.set_cons_zero]) | (refine seq_float (by rfl) (by rfl) (by rfl) ?_; intro K hK; go_big_quiet_op; go_big_quiet_on))
          refine seq_chain (by rfl) ?_
          intro K hK
          go_wp2_with fail
          refine hK.out _ _ (since hb5') ?_
          clear hK K
          repeat (first | (refine seq_skip (by rfl) (by rfl) ?_; simp only [Act.put, List.setIfInBounds_toArray, List.set_cons_succ, List.set_cons_zero]) | (refine seq_float (by rfl) (by rfl) (by rfl) ?_; intro K hK; go_big_quiet_op; go_big_quiet_on))
          refine seq_nil ?_
          clear hb5' x0 x1 x2 x3 y1
          go_wp2_with fail
          (with_reducible refine (CP.out).mono ?_); rintro e w6 ⟨hb6, a6, n6, c6, rfl, hf6, -⟩
          have HB6 := lid (HB5.out.trans (hb6.mono HB5.out.size))
          have CQ := lid (SameF_same Z n6 nn c6 nc a6 na w6 hf6 (HFN.out.below HB6.out) (by have h1 := hf6.len; have h2 := HSZ.out.ten; omega))
          clear hb6 hf6 y5 hl5
          go_wp2_with fail
          (with_reducible refine (CQ.out).mono ?_); rintro e w7 ⟨rfl, hb7⟩
          have HB7 := lid (HB6.out.trans (hb7.mono HB6.out.size))
          have y7 := (bc HB7.out hlb3 _).trans y4
          have hl7 := Nat.lt_of_lt_of_le hlb3 HB7.out.size
          have CQ2 := lid (SameF_same Z nn Z.length nc zC na zA w7 (HFN.out.below HB7.out) (HFZ.out.below HB7.out) (by omega))
          clear hb7 y4
          go_wp2_with fail
          (with_reducible refine (CQ2.out).mono ?_); rintro e w8 ⟨rfl, hb8⟩
          have HB8 := lid (HB7.out.trans (hb8.mono HB7.out.size))
          have HFN8 : Hid (∀ h : m < S.length, FA w8 na nn nc S[m].l) := lid (fun h => by rw [HZE.out]; exact HFN.out.below HB8.out)
          have HBW8 : Hid (Below w.heap.size w w8) := lid (HBW.out.trans (HB8.out.mono HBW.out.size))
          clear hb8 y7 hl7 hlb3
          go_wp2_with fail
          go_loopw [10, 155] (fun u10 u155 wr => ∃ (j t : Nat) (a : Option Addr) (n' c : Nat), j + t = m ∧ u155 = .int .i64 j ∧ u10 = .slice a n' c ∧ Hid (∀ h : t < S.length, FA wr a n' c S[t].l) ∧ Below w8.heap.size w8 wr) (fun _ u155 _ => m - (intOf u155).toNat)
          case atStart => exact ⟨0, m, na, nn, nc, by omega, rfl, rfl, HFN8, Below.refl _ _⟩
          case round =>
            obtain ⟨j, t, a, n', c, hjt, rfl, rfl, HFJ, hb3⟩ := hrel
            by_cases hlt3 : j < m
            · obtain ⟨t, rfl⟩ : ∃ t2, t = t2 + 1 := ⟨t - 1, by omega⟩
              obtain ⟨p1, hp1⟩ : ∃ p1, (m : Int) - 1 = ((p1 : Nat) : Int) := ⟨m - 1, by omega⟩
              have wp1 : IntKind.i64.wrap (p1 : Int) = p1 := IntWalk.i64_in _ (by omega)
              have ht1 : (p1 : Int) - (j : Int) = (t : Int) := by omega
              have wt : IntKind.i64.wrap (t : Int) = t := IntWalk.i64_in _ (by omega)
              have htm : t < m := by omega
              have dt : decide ((t : Int) < (m : Int)) = true := by simp; omega
              have dj : decide ((j : Int) < (m : Int)) = true := by simp; omega
              have htC : t < CS.length := by rw [HRC.out.len]; exact htm
              have htS : t < S.length := by rw [HN.out]; omega
              have htS1 : t + 1 < S.length := by rw [HN.out]; omega
              have htd : t < ds.length := by rw [HDL.out]; omega
              have htd1 : t + 1 < ds.length := by rw [HDL.out]; omega
              have HBJ : Hid (Below V1.heap.size V1 wr) := lid (HB8.out.trans (hb3.mono HB8.out.size))
              obtain ⟨b4, o4, rfl, hlb4, hcell4⟩ := (HUSL.out.below HBJ.out).at_ htm
              have x0 := hcell4 t (cwc CS[t]) (by rw [List.getElem?_map, List.getElem?_eq_getElem htC]; rfl)
              have hca := (HRC.out.ca _ (List.getElem_mem htC)).1
              have h20 := (HRC.out.ca _ (List.getElem_mem htC)).2.1
              have hchg := (HRC.out.chg t htC htS htS1).opp
              have HFT := lid (HFJ.out htS1)
              have HSA := lid (HRI.out.sl t htd htS)
              have HSB := lid (HRI.out.sl (t + 1) htd1 htS1)
              obtain ⟨⟨C, cA, cC⟩, hC⟩ : ∃ r, CS[t] = r := ⟨_, rfl⟩
              obtain ⟨A, hA⟩ : ∃ A, S[t].l = A := ⟨_, rfl⟩
              obtain ⟨B, hB⟩ : ∃ B, S[t + 1].l = B := ⟨_, rfl⟩
              have HAE := lid hA
              rw [hC] at x0 hca h20 hchg
              rw [hA] at HSA hchg
              rw [hB] at HSB HFT hchg
              replace x0 : wr.cell? ⟨b4, o4 + t, none⟩ = some (.slice cA C.length cC) := x0
              replace hca : CA V1 cA C.length cC C := hca
              replace h20 : C.length ≤ 20 := h20
              replace hchg : Chg B A (C.map oppC) := hchg
              have HCHG := lid hchg
              have H20 := lid h20
              have CO := lid (Opposite_any C C.length cC cA wr (hca.below HBJ.out) (by omega))
              obtain ⟨N, hNc⟩ : ∃ N, C.length = N := ⟨_, rfl⟩
              rw [hNc] at x0 CO H20
              clear hcell4 hca h20 hchg hC hA hB hNc
              go_wp2_with fail
              (with_reducible refine (CO.out).mono ?_); rintro e w9 ⟨hb9, a9, c9, rfl, hca9⟩
              have HB9 := lid (hb3.trans (hb9.mono hb3.size))
              have CP := lid (patch_sl q B A (C.map oppC) ds[t + 1] ds[t] n' c N c9 a a9 w9 HSB.out HSA.out (HFT.out.below hb9) hca9 HCHG.out (by have := H20.out; omega))
              clear hb9 hca9
              go_wp2_with fail
              (with_reducible refine (CP.out).mono ?_); rintro e w10 ⟨hb10, a10, n10, c10, rfl, hf10, -⟩
              have HF10 : Hid (∀ h : t < S.length, FA w10 a10 n10 c10 S[t].l) := lid (fun h => by rw [HAE.out]; exact hf10)
              have hB10 := HB9.out.trans (hb10.mono HB9.out.size)
              clear hb10 hf10 x0
              go_wp2_with fail
              go_roundw
              case rel => exact ⟨j + 1, t, a10, n10, c10, by omega, by go_num, rfl, HF10, hB10⟩
              case measure => simp [intOf]; omega
            · obtain rfl : t = 0 := by omega
              have hjm : (j : Int) = (m : Int) := by omega
              have dj : decide ((m : Int) < (m : Int)) = false := by simp
              have HBX : Hid (Below V1.heap.size V1 wr) := lid (HB8.out.trans (hb3.mono HB8.out.size))
              have HF0 : Hid (FA wr a n' c l0) := lid (by have := HFJ.out h0S; rwa [HR0.out] at this)
              have HBX0 := lid (hb.trans (HBX.out.mono hb.size))
              have y9 := (bc HBX0.out hlb0 _).trans y0
              have hl9 := Nat.lt_of_lt_of_le hlb0 HBX0.out.size
              have CQ := lid (SameF_same l0 n' l0.length c lc0 a la0 wr HF0.out (HFA0.out.below HBX0.out) (by have h1 := HF0.out.len; have h2 := HSA0.out.ten; omega))
              go_wp2_with fail
              (with_reducible refine (CQ.out).mono ?_); rintro e w9 ⟨rfl, hb9⟩
              have HB9 := lid (HBW8.out.trans ((hb3.trans (hb9.mono hb3.size)).mono HBW8.out.size))
              clear hb9 y9 hl9
              go_wp2_with fail
              (with_reducible refine (CX.out _).mono ?_); rintro e w10 ⟨rfl, hb10⟩
              go_wp2_with fail
              go_ret
              exact ⟨rfl, HB9.out.trans (hb10.mono HB9.out.size)⟩
end Go.Proofs.YtphjillihapbfaaGreatDoor
