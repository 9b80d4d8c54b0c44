import Derived.Test.YtgcceepadlmelaaGreatDoorTopEd
namespace Go.Proofs.YtgcceepadlmelaaGreatDoor
set_option maxRecDepth 100000
set_option maxHeartbeats 32000000
open Go.RowKit
abbrev mve (p : Int × Int) : List Value := [.int .u8 p.1, .int .u8 p.2]
def mvs (l : List (Int × Int)) : List Value := l.flatMap mve
theorem mve_length (p : Int × Int) : (mve p).length = 2 := rfl
def ReoN (wr : World) (u : Value) (n : Nat) (S T : St) : Prop := ∃ K E ao cap, u = .slice ao n cap ∧ KLA wr ao n cap K ∧ K.map Kw.x = E.map Ed.k ∧ (∀ e ∈ E, e.vld) ∧ apL E S T
theorem ReoN.below {wr w' : World} {u : Value} {n : Nat} {S T : St} (h : ReoN wr u n S T) (hb : Below wr.heap.size wr w') : ReoN w' u n S T := by
 obtain ⟨K, E, ao, cap, h1, h2, h3⟩ := h
 exact ⟨K, E, ao, cap, h1, h2.below hb, h3⟩
theorem ReoN.move {wr : World} {u : Value} {n : Nat} {S T : St} (h : ReoN wr u n S T) (hn : n ≤ 100000) {f t : Nat} (hf : f < n) (ht : t < n) : Calls Tryz.prog 9 #[u, .int .i64 f, .int .i64 t] wr fun r w' => ∃ v ok, r = .returned (.tuple #[v, .bool ok]) ∧ Hid (Below wr.heap.size wr w' ∧ (ok = true → ReoN w' v n S T)) := by
 obtain ⟨K, E, ao, cap, rfl, h2, h3, h4, h5⟩ := h
 refine (Move_any ao n cap K wr h2 hn f t hf ht (valid_K h3 h4)).mono ?_
 rintro r w' ⟨h6, ⟨rfl, _⟩ | ⟨v, L, rfl, h7, h8⟩⟩
 ·exact ⟨_, false, rfl, lid ⟨h6, fun h => by cases h⟩⟩
 ·obtain ⟨hl, hmem⟩ := h8.mem
  obtain ⟨a2, c2, rfl, hk2⟩ := kla_own h7 (by rw [hl]; exact h2.len) (fun x hx => (h2.el x ((hmem x).1 hx)).below h6)
  obtain ⟨E', q1, q2, q3⟩ := sw_lead h8 h3 (fun e he => ⟨Ed.vld_fit (h4 e he), Ed.vld_named (h4 e he)⟩) h5
  exact ⟨_, true, rfl, lid ⟨h6, fun _ => ⟨L, E', a2, c2, rfl, hk2, q1, fun e he => h4 e (q2 e he), q3⟩⟩⟩
theorem Reordered_any (A B : List Mw) (X : List (Int × Int)) (ao bo mo : Option Addr) (n ca m cb r cr : Nat) (w : World) (hA : MLA w ao n ca A) (hB : MLA w bo m cb B) (hX : Sl w 2 mo r (mvs X)) (hXl : X.length = r) (hXb : ∀ p ∈ X, (0 ≤ p.1 ∧ p.1 ≤ 255) ∧ 0 ≤ p.2 ∧ p.2 ≤ 255) (hr : r ≤ cr) (hcr : cr ≤ maxLen) :
  Calls Tryz.prog 3 #[.slice ao n ca, .slice bo m cb, .slice mo r cr] w (TrueB w) := by
 have HA := lid hA
 have HB := lid hB
 have HX := lid (And.intro hX (And.intro hXl hXb))
 have CGA := lid (GreatL_any ao n ca A w hA)
 have CGB := lid (fun W (hW : Below w.heap.size w W) => GreatL_any bo m cb B W (hB.below hW))
 have CED := lid (fun W => edited_any W)
 have hcr' : cr ≤ 9223372036854775807 := hcr
 obtain ⟨g3, hg3⟩ : ∃ q, decide ((r : Int) > 20) = q := ⟨_, rfl⟩
 clear hA hB hX hXl hXb hcr
 go_enter Tryz.func3, Tryz.ntmps3
 go_wp2_with fail
 (with_reducible refine (CGA.out).mono ?_); rintro e w1 ⟨q1, rfl, hq1, hb1⟩
 have HB1 := lid hb1
 have HQ1 := lid hq1
 clear hb1 hq1 CGA
 have early : ∀ (W : World), Below w.heap.size w W → True := fun _ _ => trivial
 clear early
 cases q1 with
 | true =>
  go_wp2_with fail
  (with_reducible refine (CED.out _).mono ?_); rintro e w2 ⟨rfl, hb2⟩
  have HB2 := lid (HB1.out.trans (hb2.mono HB1.out.size))
  clear hb2
  go_wp2_with fail
  go_ret
  exact ⟨rfl, HB2.out⟩
 | false =>
  have hn4 : n ≤ 4 := HQ1.out rfl
  go_wp2_with fail
  (with_reducible refine (CGB.out _ HB1.out).mono ?_); rintro e w2 ⟨q2, rfl, hq2, hb2⟩
  have HB2 := lid (HB1.out.trans (hb2.mono HB1.out.size))
  have HQ2 := lid hq2
  clear hb2 hq2 CGB
  cases q2 with
  | true =>
   go_wp2_with fail
   (with_reducible refine (CED.out _).mono ?_); rintro e w3 ⟨rfl, hb3⟩
   have HB3 := lid (HB2.out.trans (hb3.mono HB2.out.size))
   clear hb3
   go_wp2_with fail
   go_ret
   exact ⟨rfl, HB3.out⟩
  | false =>
   have hm4 : m ≤ 4 := HQ2.out rfl
   cases g3 with
   | true =>
    go_wp2_with fail
    (with_reducible refine (CED.out _).mono ?_); rintro e w3 ⟨rfl, hb3⟩
    have HB3 := lid (HB2.out.trans (hb3.mono HB2.out.size))
    clear hb3
    go_wp2_with fail
    go_ret
    exact ⟨rfl, HB3.out⟩
   | false =>
    have CD := lid (Diff_any ao bo n ca m cb A B w2 (HA.out.below HB2.out) (HB.out.below HB2.out) (by omega) (by omega))
    go_wp2_with fail
    (with_reducible refine CD.out.mono ?_); rintro e w3 hD
    obtain ⟨v1, q, rfl, hb3, hor⟩ := hD
    have HB3 := lid (HB2.out.trans (hb3.mono HB2.out.size))
    clear hb3 CD
    rcases hor with ⟨hq0, _⟩ | ⟨rfl, hva, hvb, K, ho, hkw, hkx, hk6⟩
    ·have d1 : (q != 0) = true := by simpa using hq0
     have d2 : (q == 0) = false := by simpa using hq0
     go_wp2_with fail
     (with_reducible refine (CED.out _).mono ?_); rintro e w4 ⟨rfl, hb4⟩
     have HB4 := lid (HB3.out.trans (hb4.mono HB3.out.size))
     clear hb4
     go_wp2_with fail
     go_ret
     exact ⟨rfl, HB4.out⟩
    ·obtain ⟨k, hk⟩ : ∃ k, K.length = k := ⟨_, rfl⟩
     rw [hk] at ho hk6
     obtain ⟨a1, c1, rfl, hkla⟩ := kla_own ho hk hkw
     have hoa := ordM_ok hva.1 hva.2
     have hob := ordM_ok hvb.1 hvb.2
     have hvl := diff_vld hoa hob (modW_vd hva.2).2 (modW_vd hvb.2).2
     have hld := diff_lead hoa hob
     have c1k : k ≤ c1 := hkla.le
     have c1m : c1 ≤ 9223372036854775807 := hkla.max
     by_cases hk0 : k = 0
     ·subst hk0
      have hK0 : K = [] := List.eq_nil_of_length_eq_zero hk
      have hsame : A.map Mw.x = B.map Mw.x := by
       rw [hK0] at hkx
       have h0 : diffE (A.map Mw.x) (B.map Mw.x) = [] := List.map_eq_nil_iff.1 hkx.symm
       rw [h0] at hld
       exact absM_inj hoa hob hld
      have hnm : m = n := by have := congrArg List.length hsame; rw [List.length_map, List.length_map, HA.out.len, HB.out.len] at this; omega
      subst hnm
      have CS := lid (SameMs_any ao bo m ca cb A B w3 (HA.out.below HB3.out) (HB.out.below HB3.out) hsame)
      clear hva hvb ho hkw hkx hkla hoa hob hvl hld hsame
      go_wp2_with fail
      (with_reducible refine (CS.out).mono ?_); rintro e w4 ⟨rfl, hb4⟩
      have HB4 := lid (HB3.out.trans (hb4.mono HB3.out.size))
      clear hb4
      go_wp2_with fail
      (with_reducible refine (CED.out _).mono ?_); rintro e w5 ⟨rfl, hb5⟩
      have HB5 := lid (HB4.out.trans (hb5.mono HB4.out.size))
      clear hb5
      go_wp2_with fail
      go_ret
      exact ⟨rfl, HB5.out⟩
     ·have d0 : ((k : Int) == 0) = false := by simp; omega
      by_cases hk30 : 30 < k
      ·have d3 : decide ((k : Int) > 30) = true := by simp; omega
       clear hva hvb ho hkw hkx hkla hoa hob hvl hld
       go_wp2_with fail
       (with_reducible refine (CED.out _).mono ?_); rintro e w5 ⟨rfl, hb5⟩
       have HB5 := lid (HB3.out.trans (hb5.mono HB3.out.size))
       clear hb5
       go_wp2_with fail
       go_ret
       exact ⟨rfl, HB5.out⟩
      ·have d3 : decide ((k : Int) > 30) = false := by simp; omega
       have HR0 : Hid (ReoN w3 (.slice a1 k c1) k (absM (A.map Mw.x)) (absM (B.map Mw.x))) := lid ⟨K, _, a1, c1, rfl, hkla, hkx, hvl, hld⟩
       have HVA := lid hva
       have HVB := lid hvb
       have HOB := lid hob
       clear hva hvb ho hkw hkx hkla hoa hob hvl hld hk hk6
       go_wp2_with fail
       go_loopw [7, 62] (fun u7 u62 wr => ∃ j : Nat, j ≤ r ∧ u62 = .int .i64 j ∧ Hid (ReoN wr u7 k (absM (A.map Mw.x)) (absM (B.map Mw.x))) ∧ Hid (Below w.heap.size w wr)) (fun _ u62 _ => r - (intOf u62).toNat)
       case atStart => exact ⟨0, Nat.zero_le _, rfl, HR0, HB3⟩
       case round =>
        clear HR0 c1k c1m
        obtain ⟨j, hj, rfl, HR, HBW⟩ := hrel
        by_cases hjr : j < r
        ·have hjX : j < X.length := by rw [HX.out.2.1]; exact hjr
         obtain ⟨b, o, rfl, hbz, hc⟩ := HX.out.1.at_ (k := j) hjr
         obtain ⟨x, y, hxy⟩ : ∃ x y, X[j] = (x, y) := ⟨_, _, rfl⟩
         have hxb := HX.out.2.2 _ (List.getElem_mem hjX)
         rw [hxy] at hxb
         obtain ⟨⟨hx0, hx1⟩, hy0, hy1⟩ := hxb
         simp only at hx0 hx1 hy0 hy1
         have hcm : ∀ i u, (mve (x, y))[i]? = some u → i < 2 → wr.cell? ⟨b, o + (j * 2 + i), none⟩ = some u := fun i u hu hi => by rw [bc HBW.out hbz _]; exact hc _ u (by rw [show (mvs X)[j * 2 + i]? = (mve X[j])[i]? from flat_at mve_length hjX hi, hxy]; exact hu)
         have y0 : wr.cell? ⟨b, o + j * 2, none⟩ = some (.int .u8 x) := by have := hcm 0 _ rfl (by omega); exact this
         have y1 : wr.cell? ⟨b, o + j * 2 + 1, none⟩ = some (.int .u8 y) := by have := hcm 1 _ rfl (by omega); rwa [← Nat.add_assoc] at this
         have hlb : b < wr.heap.size := Nat.lt_of_lt_of_le hbz HBW.out.size
         obtain ⟨W0, hW0⟩ : ∃ z, wr.alloc (.cells #[.int .u8 x, .int .u8 y] 31) = z := ⟨_, rfl⟩
         have hb0 : Below wr.heap.size wr W0 := by rw [← hW0]; exact ba _ _
         have hRR : W0.heap[wr.heap.size]? = some (.cells #[.int .u8 x, .int .u8 y] 31 (0, 0)) := by rw [← hW0]; exact h_new rfl _
         have z0 : W0.cell? ⟨wr.heap.size, 0, none⟩ = some (.int .u8 x) := row_cell hRR 0
         have z1 : W0.cell? ⟨wr.heap.size, 1, none⟩ = some (.int .u8 y) := row_cell hRR 1
         have lz := row_lt hRR
         obtain ⟨K2, E2, a2, c2, hu7, _⟩ := HR.out
         subst hu7
         have hkp : (0 : Int) < (k : Int) := by omega
         obtain ⟨f, hf, hfk⟩ : ∃ f : Nat, x % (k : Int) = (f : Int) ∧ f < k := by
          have h1 := Int.emod_nonneg x (show (k : Int) ≠ 0 by omega)
          have h2 := Int.emod_lt_of_pos x hkp
          exact ⟨(x % (k : Int)).toNat, by omega, by omega⟩
         obtain ⟨t, ht, htk⟩ : ∃ t : Nat, y % (k : Int) = (t : Int) ∧ t < k := by
          have h1 := Int.emod_nonneg y (show (k : Int) ≠ 0 by omega)
          have h2 := Int.emod_lt_of_pos y hkp
          exact ⟨(y % (k : Int)).toNat, by omega, by omega⟩
         have CM : Hid (∀ V, Below wr.heap.size wr V → Calls Tryz.prog 9 #[.slice a2 k c2, .int .i64 (x % (k : Int)), .int .i64 (y % (k : Int))] V fun r w' => ∃ v ok, r = .returned (.tuple #[v, .bool ok]) ∧ Hid (Below V.heap.size V w' ∧ (ok = true → ReoN w' v k (absM (A.map Mw.x)) (absM (B.map Mw.x))))) := lid (fun V hV => by
          rw [hf, ht]
          exact (HR.out.below hV).move (by omega) hfk htk)
         have HW0 := lid hW0
         have HB0 := lid hb0
         clear hf hfk ht htk hkp hjX hc hxy hcm hW0 hb0 hRR
         go_wp2_with fail
         rw [HW0.out]
         refine qd (fun w' => ∃ s : Since W0.heap.size W0, w' = s.world) [(0, true), (1, true), (2, true), (4, true), (5, true), (7, true), (8, true), (10, true), (11, true), (3, true), (6, true), (9, true), (12, true), (13, false), (14, true), (15, true), (16, true), (17, false), (18, false)] ?_
         repeat (first | (refine qk ?_; simp only [Act.put, q1, q2, q3]) | (refine qf ?_; intro K hK; go_big_quiet_op; go_big_quiet_on))
         refine qc ?_
         intro K hK
         go_wp2_with fail
         (with_reducible refine (CM.out _ HB0.out.drew).mono ?_); rintro e w4 ⟨v4, ok, rfl, hm⟩
         have HM := lid hm.out
         have HB4 : Hid (Below W0.heap.size W0 w4) := lid ((Below.refl W0.heap.size W0).drew.trans hm.out.1)
         have HBW4 : Hid (Below wr.heap.size wr w4) := lid (HB0.out.trans (HB4.out.mono HB0.out.size))
         clear hm CM
         go_wp2_with fail
         refine hK.out _ _ (since HB4.out) ?_
         clear hK K
         repeat (first | (refine qk ?_; simp only [Act.put, q1, q2, q3]) | (refine qf ?_; intro K hK; go_big_quiet_op; go_big_quiet_on))
         refine qc ?_
         intro K hK
         go_wp2_with fail
         refine hK.out _ _ (since HB4.out) ?_
         clear hK K
         repeat (first | (refine qk ?_; simp only [Act.put, q1, q2, q3]) | (refine qf ?_; intro K hK; go_big_quiet_op; go_big_quiet_on))
         refine qc ?_
         intro K hK
         go_wp2_with fail
         refine hK.out _ _ (since HB4.out) ?_
         clear hK K
         repeat (first | (refine qk ?_; simp only [Act.put, q1, q2, q3]) | (refine qf ?_; intro K hK; go_big_quiet_op; go_big_quiet_on))
         refine seq_nil ?_
         have HBX : Hid (Below w.heap.size w w4) := lid (HBW.out.trans (HBW4.out.mono HBW.out.size))
         cases ok with
         | false =>
          have HRX := lid (HR.out.below HBW4.out)
          go_wp2_with fail
          go_roundw
          case measure => simp only [intOf]; omega
          case rel => exact ⟨j + 1, by omega, by simp, HRX, HBX⟩
         | true =>
          have HRX := lid (HM.out.2 rfl)
          obtain ⟨K3, E3, a3, c3, hv4, _⟩ := HRX.out
          subst hv4
          go_wp2_with fail
          go_roundw
          case measure => simp only [intOf]; omega
          case rel => exact ⟨j + 1, by omega, by simp, HRX, HBX⟩
        ·obtain rfl : j = r := by omega
         obtain ⟨K2, E2, a2, c2, hu7, hk2, hx2, hv2, hl2⟩ := HR.out
         subst hu7
         have CA : Hid (Calls Tryz.prog 10 #[.slice ao n ca, .slice a2 k c2] wr fun r w' => ∃ v M, r = .returned (.tuple #[v, .int .i64 0]) ∧ Hid (MO wr w' v M ∧ M.map Mw.x = B.map Mw.x)) := lid ((Apply_any ao a2 n ca k c2 A K2 E2 wr (HA.out.below HBW.out) hk2 (by omega) (by omega) hx2 hv2 HVA.out.1 HVA.out.2 (B.map Mw.x) HOB.out (modW_vd HVB.out.2).2 hl2).mono (by
          rintro r w' ⟨v, M, rfl, h1, h2⟩
          exact ⟨v, M, rfl, lid ⟨h1, h2⟩⟩))
         clear hk2 hx2 hv2 hl2 hjr
         go_wp2_with fail
         (with_reducible refine (CA.out).mono ?_); rintro e w5 ⟨v5, M, rfl, hm⟩
         have HBX : Hid (Below w.heap.size w w5) := lid (HBW.out.trans (hm.out.1.bel.mono HBW.out.size))
         have hlM : M.length = m := by have := congrArg List.length hm.out.2; rw [List.length_map, List.length_map, HB.out.len] at this; exact this
         obtain ⟨a5, c5, hv5, hmla⟩ := hm.out.1.mla
         rw [hlM] at hv5 hmla
         subst hv5
         have CS := lid (SameMs_any a5 bo m c5 cb M B w5 hmla (HB.out.below HBX.out) hm.out.2)
         clear hm hmla hlM CA
         go_wp2_with fail
         (with_reducible refine (CS.out).mono ?_); rintro e w6 ⟨rfl, hb6⟩
         have HB6 := lid (HBX.out.trans (hb6.mono HBX.out.size))
         clear hb6
         go_wp2_with fail
         (with_reducible refine (CED.out _).mono ?_); rintro e w7 ⟨rfl, hb7⟩
         have HB7 := lid (HB6.out.trans (hb7.mono HB6.out.size))
         clear hb7
         go_wp2_with fail
         go_ret
         exact ⟨rfl, HB7.out⟩
end Go.Proofs.YtgcceepadlmelaaGreatDoor
