/-
  tree.Patch.
-/
import Derived.Test.YtphjillihapbfaaGreatDoorTreeChg
import Derived.Test.YtphjillihapbfaaGreatDoorTreeKeys
import Derived.Test.YtphjillihapbfaaGreatDoorGrpR
namespace Go.Proofs.YtphjillihapbfaaGreatDoor
open Go.RowKit

def mapS (g : ByteArray → Option ByteArray) : MF := fun p => (g p).map .string
theorem mapS_nil : mapS (findF []) = fun _ => none := rfl
theorem mapS_file {A : List Fl} {f : Fl} (h : ∀ g ∈ A, g.1 ≠ f.1) : mapS (findF (A ++ [f])) = putF (mapS (findF A)) f.1 (.string f.2) := by
  funext p
  unfold mapS putF
  rw [findF_snoc]
  by_cases e : p = f.1
  · subst e
    rw [findF_not h]
    simp
  · have e' : ¬ f.1 = p := fun h => e h.symm
    simp [e, e']
theorem mapS_put (g : ByteArray → Option ByteArray) (c : List Ch) (q d : ByteArray) (oa : Option ByteArray) : mapS (patF g (c ++ [(q, oa, some d)])) = putF (mapS (patF g c)) q (.string d) := by
  funext p
  unfold mapS putF
  rw [patF_snoc]
  by_cases e : p = q <;> simp [e]
theorem mapS_del (g : ByteArray → Option ByteArray) (c : List Ch) (q : ByteArray) (oa : Option ByteArray) : mapS (patF g (c ++ [(q, oa, none)])) = delF (mapS (patF g c)) q := by
  funext p
  unfold mapS delF
  rw [patF_snoc]
  by_cases e : p = q <;> simp [e]
theorem mapS_some {g : ByteArray → Option ByteArray} {p : ByteArray} : (mapS g p).isSome = true ↔ (g p).isSome = true := by
  unfold mapS
  cases g p <;> simp
theorem zero_st (w : World) : (zeroValue 9).run Tryz.prog w = .ok (.string ⟨#[]⟩) w := by kernel_rfl
theorem fileL_snoc (g : ByteArray → Option ByteArray) (L : List ByteArray) (p : ByteArray) : fileL g (L ++ [p]) = fileL g L ++ [(p, (g p).getD ⟨#[]⟩)] := by simp [fileL]
theorem FA.of_own {w : World} {base n : Nat} {v : Value} {l : List Fl} (h : w.ownsRow base 45 2 v n (fcells l)) (hn : l.length = n) (hz : ∀ f ∈ l, f.1.size ≤ maxLen ∧ f.2.size ≤ maxLen) : ∃ a c, v = .slice a n c ∧ FA w a n c l := by
  obtain ⟨a, c, rfl, h1, h2, h3⟩ := Sl.of_own h
  refine ⟨a, c, rfl, hn, h3, h1, h2, (fun e => ?_), hz⟩
  subst e
  rcases h.2 with ⟨e, _⟩ | ⟨g, cap, cur, e, _⟩
  · injection e
  · injection e with e3 _ _
    cases e3
set_option maxRecDepth 100000 in
set_option maxHeartbeats 16000000 in
theorem Patch_any (l b : List Fl) (c : List Ch) (n cap m ccap : Nat) (ao co : Option Addr) (w : World) (hF : FA w ao n cap l) (hC : CA w co m ccap c) (hG : Chg l b c) (hl : treeC l = 0) (hb : treeC b = 0)
    (hzl : ∀ f ∈ l, f.2.size ≤ 60000) (hzb : ∀ f ∈ b, f.2.size ≤ 60000) (hn : n ≤ 1000) (hm : m ≤ 1000) :
    Calls Tryz.prog 8 #[.slice ao n cap, .slice co m ccap] w fun e w' => Below w.heap.size w w' ∧ ∃ (a : Option Addr) (n' c' : Nat), e = .returned (.tuple #[.slice a n' c', .int .i64 0]) ∧ FA w' a n' c' b ∧ Nw w w' a := by
  have CT := lid (treeCheck_any l n cap ao w hF hzl)
  have HVL := lid (treeC_zero hl)
  have HVB := lid (treeC_zero hb)
  have HF := lid hF
  have HC := lid hC
  have HG := lid hG
  have HN1 := lid hF.len
  have HN2 := lid hC.len
  have HSL : Hid (Sl w 2 ao n (fcells l)) := lid hF.sl
  have HSC : Hid (Sl w 5 co m (ccells c)) := lid hC.sl
  have HZ1 : Hid (∀ f ∈ l, f.1.size ≤ maxLen ∧ f.2.size ≤ maxLen) := lid hF.sz
  have HZB := lid hzb
  have HTL := lid hl
  have HTB := lid hb
  clear hF hC hG hl hb hzl hzb
  have hmm := @run_makeMap Tryz.prog
  go_enter Tryz.func8, Tryz.ntmps8
  go_wp2_with fail
  (with_reducible refine (CT.out).mono ?_); rintro e w1 ⟨rfl, hb1⟩
  rw [HTL.out]
  have hmade := World.ownsMap_made (H := Value) w1 Tryz.prog 9 heldR
  obtain ⟨W2, hW2⟩ : ∃ y, w1.alloc (Obj.map #[] 0) = y := ⟨_, rfl⟩
  have hb2 : Below w1.heap.size w1 W2 := by rw [← hW2]; exact ba _ _
  have HM0 : Hid (HM W2 w1.heap.size 0 (mapS (findF []))) := lid (by rw [← hW2]; exact HM.new hmade)
  have hz2 : w1.heap.size < W2.heap.size := by rw [← hW2]; simp
  have HW2 := lid hW2
  have HB1 := lid hb1
  have HB2 := lid hb2
  clear hb1 hmade hW2 hb2
  go_wp2_with fail
  rw [HW2.out]
  go_loopw [25] (fun i wr => ∃ j : Nat, j ≤ n ∧ i = .int .i64 j ∧ Hid (HM wr w1.heap.size j (mapS (findF (l.take j)))) ∧ Below w1.heap.size W2 wr) (fun i _ => n - (intOf i).toNat)
  case atStart => exact ⟨0, Nat.zero_le _, rfl, HM0, Below.refl _ _⟩
  case round =>
    obtain ⟨j, hj, rfl, HMj, hb⟩ := hrel
    by_cases hlt : j < n
    · have hjl : j < l.length := by rw [HN1.out]; exact hlt
      have hbw : Below w.heap.size w wr := HB1.out.trans ((HB2.out.trans hb).mono HB1.out.size)
      obtain ⟨b3, o3, rfl, hlb3, hc3⟩ := (HSL.out.below hbw).at_ hlt
      have x0 := hc3 (j * 2 + 0) _ (fcells_at hjl).1
      have x1 := hc3 (j * 2 + 1) _ (fcells_at hjl).2
      rw [← Nat.add_assoc] at x1
      rw [Nat.add_zero] at x0
      have dk : decide ((j : Int) < (n : Int)) = true := by simp; omega
      have HNE := lid (take_ne2 HVL.out.asc hjl)
      have HT : Hid (l.take (j + 1) = l.take j ++ [l[j]]) := lid (List.take_succ_eq_append_getElem hjl)
      have HSZ := lid (HZ1.out _ (List.getElem_mem hjl))
      obtain ⟨⟨q, d1⟩, hv⟩ : ∃ v, l[j] = v := ⟨_, rfl⟩
      rw [hv] at x0 x1 HNE HT HSZ
      replace x0 : wr.cell? ⟨b3, o3 + j * 2, none⟩ = some (Value.string q) := x0
      replace x1 : wr.cell? ⟨b3, o3 + j * 2 + 1, none⟩ = some (Value.string d1) := x1
      obtain ⟨W4, hW4⟩ : ∃ y, wr.alloc (Obj.cells #[.string q, .string d1] 45) = y := ⟨_, rfl⟩
      have hb4 : Below wr.heap.size wr W4 := by rw [← hW4]; exact ba _ _
      have hR4 : W4.heap[wr.heap.size]? = some (.cells #[.string q, .string d1] 45 (0, 0)) := by rw [← hW4]; exact h_new rfl _
      have r0 : W4.cell? ⟨wr.heap.size, 0, none⟩ = some (.string q) := row_cell hR4 0
      have r1 : W4.cell? ⟨wr.heap.size, 1, none⟩ = some (.string d1) := row_cell hR4 1
      have lr4 := row_lt hR4
      have HM4 := lid (HMj.out.below hb4)
      have HW4 := lid hW4
      have hzw := hb.size
      have hW : Below w1.heap.size W2 W4 := hb.trans (hb4.mono (by omega))
      clear hc3 hv hW4 hR4 hb4 hbw
      go_wp2_with (first | (with_reducible refine swap_world HW4.out ?_) | (at_mapUpdate; go_must (refine wpList_hm_put _ rfl _ _ _ 56 9 rfl Tryz.underlying56 w1.heap.size j _ rfl HM4.out (by simp only [maxLen]; omega) q (.string d1) rfl rfl HSZ.out.1 ?_)))
      intro w5 hm5 hg5
      have HM5 : Hid (HM w5 w1.heap.size (j + 1) (mapS (findF (l.take (j + 1))))) := lid (by
        rw [HT.out, mapS_file HNE.out]
        exact hm5)
      have hW5 : Below w1.heap.size W2 w5 := hW.grown hg5 (by have := hW.size; omega) (fun r e => by cases e; exact Nat.le_refl _)
      clear hm5 hg5 hW r0 r1 lr4
      go_wp2_with fail
      go_roundw
      case rel => exact ⟨j + 1, by omega, by go_num, HM5, hW5⟩
      case measure => simp [intOf]; omega
    · obtain rfl : j = n := by omega
      have HTA : Hid (l.take j = l) := lid (List.take_of_length_le (by rw [HN1.out]; exact Nat.le_refl _))
      rw [HTA.out] at HMj
      have hzw := hb.size
      obtain ⟨V, hVe⟩ : ∃ V, V = wr := ⟨_, rfl⟩
      have HBV : Hid (Below w1.heap.size w1 wr) := lid (HB2.out.trans hb)
      go_wp2_with fail
      go_loopw [37] (fun i wv => ∃ k : Nat, k ≤ m ∧ i = .int .i64 k ∧ Hid (HM wv w1.heap.size (j + k) (mapS (patF (findF l) (c.take k)))) ∧ Below w1.heap.size w1 wv) (fun i _ => m - (intOf i).toNat)
      case atStart => exact ⟨0, Nat.zero_le _, rfl, HMj, HBV.out⟩
      case round =>
        clear hVe HBV HMj hb hzw
        obtain ⟨k, hk, rfl, HMm, hb⟩ := hrel
        by_cases hlt2 : k < m
        · have hkl : k < c.length := by rw [HN2.out]; exact hlt2
          have hbw : Below w.heap.size w wr := HB1.out.trans (hb.mono HB1.out.size)
          obtain ⟨b3, o3, hco, hlb3, hc3⟩ := (HSC.out.below hbw).at_ hlt2
          obtain ⟨x0, x1, x2, x3, x4⟩ := ccells_at hkl
          replace x0 := hc3 _ _ x0
          replace x1 := hc3 _ _ x1
          replace x2 := hc3 _ _ x2
          replace x3 := hc3 _ _ x3
          replace x4 := hc3 _ _ x4
          rw [Nat.add_zero] at x0
          rw [← Nat.add_assoc] at x1 x2 x3 x4
          have dk : decide ((k : Int) < (m : Int)) = true := by simp; omega
          have hqp := HG.out.mem _ (List.getElem_mem hkl)
          have HT : Hid (c.take (k + 1) = c.take k ++ [c[k]]) := lid (List.take_succ_eq_append_getElem hkl)
          obtain ⟨⟨q, oa, ob⟩, hv⟩ : ∃ v, c[k] = v := ⟨_, rfl⟩
          rw [hv] at x0 x1 x2 x3 x4 hqp HT
          obtain ⟨u1, hu1⟩ : ∃ u, oa.isSome = u := ⟨_, rfl⟩
          obtain ⟨u3, hu3⟩ : ∃ u, oa.getD ⟨#[]⟩ = u := ⟨_, rfl⟩
          obtain ⟨u2, hu2⟩ : ∃ u, ob.isSome = u := ⟨_, rfl⟩
          obtain ⟨u4, hu4⟩ : ∃ u, ob.getD ⟨#[]⟩ = u := ⟨_, rfl⟩
          have hqs : q.size ≤ maxLen := Nat.le_trans (pathB_size hqp.1) (by simp [maxLen])
          replace x0 : wr.cell? ⟨b3, o3 + k * 5, none⟩ = some (Value.string q) := x0
          replace x1 : wr.cell? ⟨b3, o3 + k * 5 + 1, none⟩ = some (Value.bool u1) := by rw [← hu1]; exact x1
          replace x2 : wr.cell? ⟨b3, o3 + k * 5 + 2, none⟩ = some (Value.bool u2) := by rw [← hu2]; exact x2
          replace x3 : wr.cell? ⟨b3, o3 + k * 5 + 3, none⟩ = some (Value.string u3) := by rw [← hu3]; exact x3
          replace x4 : wr.cell? ⟨b3, o3 + k * 5 + 4, none⟩ = some (Value.string u4) := by rw [← hu4]; exact x4
          obtain ⟨W4, hW4⟩ : ∃ y, wr.alloc (Obj.cells #[.string q, .bool u1, .bool u2, .string u3, .string u4] 50) = y := ⟨_, rfl⟩
          have hb4 : Below wr.heap.size wr W4 := by rw [← hW4]; exact ba _ _
          have hR4 : W4.heap[wr.heap.size]? = some (.cells #[.string q, .bool u1, .bool u2, .string u3, .string u4] 50 (0, 0)) := by rw [← hW4]; exact h_new rfl _
          have hbw4 := hbw.trans (hb4.mono hbw.size)
          have CH := lid (checkChange_any l b c j cap m ccap k ao co W4 (HF.out.below hbw4) HVL.out.asc (by omega) (HC.out.below hbw4) (by omega) hlt2 HG.out)
          have lr4 := row_lt hR4
          have HR4 := lid hR4
          have HM4 := lid (HMm.out.below hb4)
          have HW4 := lid hW4
          have hzw := hb.size
          have hW : Below w1.heap.size w1 W4 := hb.trans (hb4.mono (by omega))
          have HU2 := lid hu2
          have HU4 := lid hu4
          subst hco
          clear hc3 hv hW4 hR4 hb4 hbw hbw4 hqp hu1 hu2 hu3 hu4 HMm hb
          go_wp2_with (with_reducible refine swap_world HW4.out ?_)
          (with_reducible refine (CH.out).mono ?_); rintro e w5 ⟨rfl, hb5⟩
          have hR5 := (hb5.block _ lr4).trans HR4.out
          have r0 : w5.cell? ⟨wr.heap.size, 0, none⟩ = some (.string q) := row_cell hR5 0
          have r2 : w5.cell? ⟨wr.heap.size, 2, none⟩ = some (.bool u2) := row_cell hR5 2
          have r4 : w5.cell? ⟨wr.heap.size, 4, none⟩ = some (.string u4) := row_cell hR5 4
          have lr5 := row_lt hR5
          have hW5 := hW.trans (hb5.mono (by have := hW.size; omega))
          have HM5 := lid (HM4.out.below hb5)
          clear hb5 hW x0 x1 x2 x3 x4 hR5 lr4 HM4 hlb3
          cases u2 with
          | true =>
            obtain ⟨d, rfl⟩ : ∃ d, ob = some d := Option.isSome_iff_exists.1 HU2.out
            obtain rfl : d = u4 := HU4.out
            go_wp2_with (at_mapUpdate; go_must (refine wpList_hm_put _ rfl _ _ _ 56 9 rfl Tryz.underlying56 w1.heap.size (j + k) _ rfl HM5.out (by simp only [maxLen]; omega) q (.string d) rfl rfl hqs ?_))
            intro w6 hm6 hg6
            have HM6 : Hid (HM w6 w1.heap.size (j + (k + 1)) (mapS (patF (findF l) (c.take (k + 1))))) := lid (by
              rw [HT.out, mapS_put]
              exact hm6)
            have hW6 : Below w1.heap.size w1 w6 := hW5.grown hg6 (by have := hW5.size; omega) (fun r e => by cases e; exact Nat.le_refl _)
            clear hm6 hg6 hW5 r0 r2 r4 lr5
            go_wp2_with fail
            go_roundw
            case rel => exact ⟨k + 1, by omega, by go_num, HM6, hW6⟩
            case measure => simp [intOf]; omega
          | false =>
            obtain rfl : ob = none := by
              have := HU2.out
              cases ob with
              | none => rfl
              | some d => cases this
            go_wp2_with (at_delete; go_must (refine wpList_hm_del _ rfl _ _ 56 9 rfl Tryz.underlying56 w1.heap.size (j + k) _ rfl HM5.out q rfl hqs ?_))
            intro w6 hm6 hg6
            have HM6 : Hid (HM w6 w1.heap.size (j + (k + 1)) (mapS (patF (findF l) (c.take (k + 1))))) := lid (by
              rw [HT.out, mapS_del]
              exact HM.more hm6 (by omega))
            have hW6 : Below w1.heap.size w1 w6 := hW5.grown hg6 (by have := hW5.size; omega) (fun r e => by cases e; exact Nat.le_refl _)
            clear hm6 hg6 hW5 r0 r2 r4 lr5
            go_wp2_with fail
            go_roundw
            case rel => exact ⟨k + 1, by omega, by go_num, HM6, hW6⟩
            case measure => simp [intOf]; omega
        · obtain rfl : k = m := by omega
          have HTB2 : Hid (c.take k = c) := lid (List.take_of_length_le (by rw [HN2.out]; exact Nat.le_refl _))
          rw [HTB2.out, patF_chg HG.out] at HMm
          have HB9 := lid hb
          clear hb
          go_wp2_with fail
          (with_reducible refine (keysS_fn w1.heap.size wr).mono ?_); rintro e w5 ⟨rfl, rfl⟩
          go_wp2_with fail
          (with_reducible refine (sortedS_any w1.heap.size (j + k) (mapS (findF b)) wr HMm.out (by omega)).mono ?_); rintro e w6 ⟨v6, K, rfl, hown6, hasc6, hmem6, hb6, hlen6⟩
          obtain ⟨a6, c6, rfl, hc6, hc6', hsl6⟩ := Sl.of_own hown6
          have h16 : Below wr.heap.size wr w6 := (ba wr _).trans (hb6.mono (Nat.le_succ _))
          have HM6 := lid (HMm.out.below h16)
          have HFL : Hid (fileL (findF b) K = b) := lid (fileL_eq HVB.out.asc hasc6 (fun p => (hmem6 p).trans mapS_some))
          have HMEM : Hid (∀ p, p ∈ K ↔ (mapS (findF b) p).isSome = true) := lid hmem6
          obtain ⟨N, hN⟩ : ∃ N, K.length = N := ⟨_, rfl⟩
          have HNN := lid hN
          rw [hN] at hlen6 hc6
          have HBW6 : Hid (Below w.heap.size w w6) := lid (HB1.out.trans ((HB9.out.trans (h16.mono HB9.out.size)).mono HB1.out.size))
          have HKN : Hid (Sl w6 1 a6 N (svals K)) := lid (by rw [← hN]; exact hsl6)
          rw [hN]
          clear hown6 hasc6 hmem6 hb6 hsl6 h16 hN
          go_wp2_with fail
          go_loopw [13, 64] (fun u13 u64 wv => ∃ (i : Nat), i ≤ N ∧ u64 = .int .i64 i ∧ Hid (wv.ownsRow w6.heap.size 45 2 u13 i (fcells (fileL (findF b) (K.take i)))) ∧ Below w6.heap.size w6 wv) (fun _ u64 _ => N - (intOf u64).toNat)
          case atStart => exact ⟨0, Nat.zero_le _, rfl, lid (World.ownsRow_nil _ _ _ _), Below.refl _ _⟩
          case round =>
            obtain ⟨i, hi, rfl, HOW, hb⟩ := hrel
            rename_i u13 u64
            by_cases hlt3 : i < N
            · have hiK : i < K.length := by rw [HNN.out]; exact hlt3
              obtain ⟨b3, o3, rfl, hlb3, hc3⟩ := (HKN.out.below hb).at_ hlt3
              have x0 := hc3 i _ (svals_at hiK)
              have dk : decide ((i : Int) < (N : Int)) = true := by simp; omega
              have HT : Hid (K.take (i + 1) = K.take i ++ [K[i]]) := lid (List.take_succ_eq_append_getElem hiK)
              have hmk := mapS_some.1 ((HMEM.out K[i]).1 (List.getElem_mem hiK))
              obtain ⟨q, hq⟩ : ∃ q, K[i] = q := ⟨_, rfl⟩
              rw [hq] at x0 HT hmk
              obtain ⟨d, hd⟩ := Option.isSome_iff_exists.1 hmk
              have hqs : q.size ≤ maxLen := Nat.le_trans (pathB_size (HVB.out.path _ ((find_asc HVB.out.asc).1 hd))) (by simp [maxLen])
              have HL0 := lid ((HM6.out.below hb).look Tryz.underlying56 (zero_st wr) q hqs)
              have hval : (mapS (findF b) q).getD (.string ⟨#[]⟩) = .string d := by unfold mapS; rw [hd]; rfl
              rw [hval] at HL0
              have HFS : Hid (fileL (findF b) (K.take (i + 1)) = fileL (findF b) (K.take i) ++ [(q, d)]) := lid (by rw [HT.out, fileL_snoc, hd]; rfl)
              have hzb := hb.size
              clear hval hq hmk hc3 hd
              go_wp2_with (first | (at_lookup; go_must (refine wpList_lookc _ false rfl _ _ 56 rfl _ _ _ rfl rfl HL0.out ?_)) | (at_builtin; go_must (refine wpList_append_new_at (w := wr) #[.string q, .string d] rfl _ _ 28 rfl w6.heap.size 45 (.agg #[.string ⟨#[]⟩, .string ⟨#[]⟩]) 2 32 info_fl Tryz.underlying28 rfl (by decide) u13 _ _ HOW.out rfl rfl rfl (by intro u hu; simp at hu; rcases hu with rfl | rfl <;> rfl) (by simp only [maxLen]; omega) (by omega) (by omega) ?_)))
              intro v11 w11 hown11 hg11 hat11
              have HO11 : Hid (w11.ownsRow w6.heap.size 45 2 v11 (i + 1) (fcells (fileL (findF b) (K.take (i + 1))))) := lid (by
                rw [HFS.out, fcells_append]
                exact hown11)
              have hB11 : Below w6.heap.size w6 w11 := (hb.trans ((ba wr (Obj.cells #[.string q, .string d] 45)).mono hzb)).grown hg11 (by simp; omega) (fun r e => (HOW.out.lt r e).1)
              clear hown11 hg11 hat11 x0
              go_wp2_with fail
              go_roundw
              case rel => exact ⟨i + 1, by omega, by go_num, HO11, hB11⟩
              case measure => simp [intOf]; omega
            · obtain rfl : i = N := by omega
              have HTK : Hid (K.take i = K) := lid (List.take_of_length_le (by rw [HNN.out]; exact Nat.le_refl _))
              rw [HTK.out, HFL.out] at HOW
              obtain ⟨a9, c9, rfl, hfa⟩ := FA.of_own HOW.out (by rw [← HFL.out, fileL, List.length_map, HNN.out]) (fun f hf => ⟨Nat.le_trans (pathB_size (HVB.out.path _ hf)) (by simp [maxLen]), Nat.le_trans (HZB.out f hf) (by simp [maxLen])⟩)
              have HFA := lid hfa
              have HNW : Hid (Nw w wr a9) := lid (fun x hx => by have := own_blk HOW.out x hx; have := HBW6.out.size; omega)
              have CB := lid (treeCheck_any b i c9 a9 wr hfa HZB.out)
              have HB10 := lid (HBW6.out.trans (hb.mono HBW6.out.size))
              clear hfa hb
              go_wp2_with fail
              (with_reducible refine (CB.out).mono ?_); rintro e w12 ⟨rfl, hb12⟩
              rw [HTB.out]
              go_wp2_with fail
              go_ret2
              exact ⟨HB10.out.trans (hb12.mono HB10.out.size), a9, _, c9, rfl, HFA.out.below hb12, fun x hx => ⟨(HNW.out x hx).1, Nat.lt_of_lt_of_le (HNW.out x hx).2 hb12.size⟩⟩
end Go.Proofs.YtphjillihapbfaaGreatDoor
