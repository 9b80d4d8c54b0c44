/-
  object.Encode.
-/
import Derived.Test.YtphjillihapbfaaGreatDoorGrpH
namespace Go.Proofs.YtphjillihapbfaaGreatDoor
open Go.RowKit

def encT (o : Ob) : List UInt8 := if checkO o = 0 then encL o else []

set_option maxRecDepth 100000 in
set_option maxHeartbeats 16000000 in
theorem objEncode_any (o : Ob) (ae ap : Option Addr) (ne ce np cp : Nat) (w : World) (h : ObjA w ae ne ap np o) (hc : np ≤ cp) (hd : o.data.size ≤ 60000) :
    Calls Tryz.prog 42 #[.agg (ocells o ae ne ce ap np cp)] w fun e w' => e = .returned (.tuple #[.string (bstr (encT o)), .int .i64 (checkO o)]) ∧ Below w.heap.size w w' := by
  have hb0 := ba w (Obj.cells (ocells o ae ne ce ap np cp) 72)
  have HO0 := OBox.new w o ae ne ce ap np cp 72
  obtain ⟨W, hW⟩ : ∃ W, w.alloc (Obj.cells (ocells o ae ne ce ap np cp) 72) = W := ⟨_, rfl⟩
  rw [hW] at hb0 HO0
  have HA := lid (h.below hb0)
  have HW := lid hW
  have HEN := lid HW.out
  have HO := lid HO0
  have HN := lid h.plen
  have HM := lid h.elen
  have nm' : np ≤ 9223372036854775807 := h.pmax
  have mm' : ne ≤ 9223372036854775807 := h.emax
  have CC := lid (fun w (h : ObjA w ae ne ap np o) => check_any o ae ap ne ce np cp w h hc)
  have hds := lid hd
  clear hW h HO0 hd
  by_cases hv : checkO o = 0
  case neg =>
    have HV : Hid (encT o = []) := lid (by unfold encT; rw [if_neg hv])
    have uK : (checkO o == 0) = false := by simpa using hv
    clear hv
    go_enter Tryz.func42, Tryz.ntmps42
    go_wp2_with fail
    rw [HW.out]
    clear HW HEN
    (with_reducible refine (CC.out _ HA.out).mono ?_); rintro e w1 ⟨rfl, hb1⟩
    go_wp2_with fail
    go_ret2
    exact ⟨ret_se (by rw [HV.out]; rfl) rfl, hb0.trans (hb1.mono hb0.size)⟩
  have HC := lid hv
  have HT : Hid (encT o = encL o) := lid (by unfold encT; rw [if_pos hv])
  have HLL : Hid ((encL o).length ≤ 60012) := lid (encL_len hv hds.out)
  have O1 := HO.out
  obtain ⟨l0, c0, c1, c2, c3, c4, c5, c6, c7, c8⟩ := O1
  rw [← HW.out] at c0 c1 c2 c3 c4 c5 c6 c7 c8
  clear hv
  go_enter Tryz.func42, Tryz.ntmps42
  go_wp2_with fail
  rw [HW.out]
  clear HW HEN c0 c1 c2 c3 c4 c5 c6 c7 c8
  (with_reducible refine (CC.out _ HA.out).mono ?_); rintro e w1 ⟨rfl, hw1⟩
  rw [HC.out]
  obtain ⟨l1, c0, c1, c2, c3, c4, c5, c6, c7, c8⟩ := HO.out.below hw1
  clear l0
  have hsz1 := hw1.size
  obtain ⟨W2, hW2⟩ : ∃ W2, w1.alloc (Obj.cells #[.slice none 0 0, .bool false] 122) = W2 := ⟨_, rfl⟩
  have hw2 : Below W.heap.size W W2 := by rw [← hW2]; exact hw1.alloc hsz1 _
  have HW2 : Hid (Wr W.heap.size w1.heap.size [] W2) := lid (by rw [← hW2]; exact ⟨hsz1, .slice none 0 0, heap_alloc_new _ _, World.ownsRow_nil _ _ _ _, by simp [Value.ownBlock]⟩)
  have d0 : W2.cell? ⟨w.heap.size, 0, none⟩ = some (.int .i64 o.kind) := by rw [← hW2]; exact (cell_old_at l1 _ _).trans c0
  have hsb : w1.heap.size < W2.heap.size := HW2.out.lt
  obtain ⟨b, hb⟩ : ∃ b, w1.heap.size = b := ⟨_, rfl⟩
  have CN := lid (fun L n w (h : Wr W.heap.size b L w) hB hl hn => wNumber_any W.heap.size b L n w h hB hl hn)
  have CS := lid (fun L s w (h : Wr W.heap.size b L w) hB hl hn => wString_any W.heap.size b L s w h hB hl hn)
  have CD := lid (fun L (d : Dg) w (h : Wr W.heap.size b L w) hB hl => wDigest_any W.heap.size b L d.1 d.2 w h hB hl)
  have hPK : putB o.kind = true := by unfold putB; have := checkO_kind HC.out; simp; omega
  have HPK := lid hPK
  clear hPK c0 c1 c2 c3 c4 c5 c6 c7 c8
  rw [hb] at HW2 hsb
  have l2 : w.heap.size < W2.heap.size := by omega
  go_wp2_with fail
  clear hW2 hb d0 hw1 hsz1 l1 l2
  (with_reducible refine (CN.out [] o.kind _ HW2.out hw2.size (by simp) HPK.out).mono ?_); rintro e w3 ⟨rfl, hW3, hb3, ho3⟩
  have HW3 := lid hW3
  have hw3 := hw2.trans hb3
  clear hW3
  by_cases kk : o.kind = 1
  · obtain ⟨l3, c0, c1, c2, c3, c4, c5, c6, c7, c8⟩ := HO.out.below hw3
    clear c2 c3 c4 c5 c6 c7 c8
    have k1 : (o.kind == 1) = true := by simpa using kk
    have n2 : ¬ o.kind = 2 := by omega
    have n3 : ¬ o.kind = 3 := by omega
    have KN := lid n2
    have KN3 := lid n3
    clear kk n2 n3
    go_wp2_with fail
    (with_reducible refine (CS.out ([] ++ putI o.kind) o.data _ HW3.out hw3.size (by have := oputI_len o.kind; simp; omega) hds.out).mono ?_); rintro e w4 ⟨rfl, hW4, hb4, ho4⟩
    have HW4 := lid hW4
    have hw4 := hw3.trans hb4
    clear hW4
    obtain ⟨l4, c0, c1, c2, c3, c4, c5, c6, c7, c8⟩ := HO.out.below hw4
    clear c0 c1 c2 c3 c4 c5 c6 c7 c8
    have hfin : Hid ([] ++ putI o.kind ++ putX o.data.data.toList = encL o) := lid (by unfold encL; rw [if_neg KN.out, if_neg KN3.out]; rfl)
    obtain ⟨z0, v, z1, z2, z3⟩ := HW4.out
    rw [hfin.out] at z2
    obtain ⟨ao, cap, rfl⟩ := own_slice z2
    have e0 : w4.cell? ⟨b, 0, none⟩ = some (.slice ao (encL o).length cap) := by rw [Lib.cell_of_heap z1]; rfl
    have e1 : w4.cell? ⟨b, 1, none⟩ = some (.bool false) := by rw [Lib.cell_of_heap z1]; rfl
    have hcv := run_string_of_row (P := Tryz.prog) z2 Tryz.underlying120 Tryz.underlying5 Tryz.underlying9
    have hlen := HLL.out
    generalize (encL o).length = N at *
    have uN : decide ((65536 : Int) < (N : Int)) = false := by simp; omega
    have uN' : decide (65536 < N) = false := by simp; omega
    clear z1 z2 z3 hfin
    go_wp2_with fail
    go_ret2
    exact ⟨ret_se (by rw [HT.out]) HC.out.symm, hb0.trans (hw4.mono hb0.size)⟩
  have n1 := kk
  clear kk
  by_cases kk : o.kind = 4
  · obtain ⟨l3, c0, c1, c2, c3, c4, c5, c6, c7, c8⟩ := HO.out.below hw3
    clear c2 c3 c4 c5 c6 c7 c8
    have k1 : (o.kind == 1) = false := by simpa using n1
    have k4 : (o.kind == 4) = true := by simpa using kk
    have n2 : ¬ o.kind = 2 := by omega
    have n3 : ¬ o.kind = 3 := by omega
    have KN := lid n2
    have KN3 := lid n3
    clear kk n1 n2 n3
    go_wp2_with fail
    (with_reducible refine (CS.out ([] ++ putI o.kind) o.data _ HW3.out hw3.size (by have := oputI_len o.kind; simp; omega) hds.out).mono ?_); rintro e w4 ⟨rfl, hW4, hb4, ho4⟩
    have HW4 := lid hW4
    have hw4 := hw3.trans hb4
    clear hW4
    obtain ⟨l4, c0, c1, c2, c3, c4, c5, c6, c7, c8⟩ := HO.out.below hw4
    clear c0 c1 c2 c3 c4 c5 c6 c7 c8
    have hfin : Hid ([] ++ putI o.kind ++ putX o.data.data.toList = encL o) := lid (by unfold encL; rw [if_neg KN.out, if_neg KN3.out]; rfl)
    obtain ⟨z0, v, z1, z2, z3⟩ := HW4.out
    rw [hfin.out] at z2
    obtain ⟨ao, cap, rfl⟩ := own_slice z2
    have e0 : w4.cell? ⟨b, 0, none⟩ = some (.slice ao (encL o).length cap) := by rw [Lib.cell_of_heap z1]; rfl
    have e1 : w4.cell? ⟨b, 1, none⟩ = some (.bool false) := by rw [Lib.cell_of_heap z1]; rfl
    have hcv := run_string_of_row (P := Tryz.prog) z2 Tryz.underlying120 Tryz.underlying5 Tryz.underlying9
    have hlen := HLL.out
    generalize (encL o).length = N at *
    have uN : decide ((65536 : Int) < (N : Int)) = false := by simp; omega
    have uN' : decide (65536 < N) = false := by simp; omega
    clear z1 z2 z3 hfin
    go_wp2_with fail
    go_ret2
    exact ⟨ret_se (by rw [HT.out]) HC.out.symm, hb0.trans (hw4.mono hb0.size)⟩
  have n4 := kk
  clear kk
  by_cases kk : o.kind = 2
  · obtain ⟨l3, c0, c1, c2, c3, c4, c5, c6, c7, c8⟩ := HO.out.below hw3
    clear c1 c3 c4 c5 c6 c7 c8
    have k1 : (o.kind == 1) = false := by simpa using n1
    have k4 : (o.kind == 4) = false := by simpa using n4
    have k2 : (o.kind == 2) = true := by simpa using kk
    have HE := lid (checkO_ents HC.out kk)
    have HNM := lid (checkO_names HC.out kk)
    have HV : Hid (entsL o ne = encL o) := lid (by unfold encL; rw [if_pos kk, HM.out])
    have n200 : ne ≤ 200 := by have := HE.out.1; rw [HM.out] at this; exact this
    have hPN : putB (ne : Int) = true := by unfold putB; simp; omega
    have HPN := lid hPN
    clear kk n1 n4 hPN
    go_wp2_with fail
    (with_reducible refine (CN.out ([] ++ putI o.kind) (ne : Int) _ HW3.out hw3.size (by have := oputI_len o.kind; simp; omega) HPN.out).mono ?_); rintro e w4 ⟨rfl, hW4, hb4, ho4⟩
    have HW4 := lid hW4
    have hw4 := hw3.trans hb4
    clear hW4
    obtain ⟨l4, c0, c1, c2, c3, c4, c5, c6, c7, c8⟩ := HO.out.below hw4
    clear c0 c1 c3 c4 c5 c6 c7 c8
    have HZ : Hid ([] ++ putI o.kind ++ putI (ne : Int) = entsL o 0) := lid (by rw [entsL_zero, HM.out]; rfl)
    go_wp2_with fail
    go_loopw [7, 8, 39] (fun _ _ i wr => ∃ k : Nat, k ≤ ne ∧ i = .int .i64 k ∧ Hid (Wr W.heap.size b (entsL o k) wr) ∧ Below W.heap.size W wr) (fun _ _ i _ => ne - (intOf i).toNat)
    case atStart => exact ⟨0, Nat.zero_le _, rfl, lid (by rw [← HZ.out]; exact HW4.out), hw4⟩
    case round =>
      clear HW4 HW3 HW2 hw2 hw3 hw4 hb3 hb4 ho3 ho4 l3 l4 c2 hsb
      obtain ⟨k, hk, rfl, HWr, hwr⟩ := hrel
      by_cases hlt : k < ne
      · have hkl : k < o.ents.length := by rw [HM.out]; exact hlt
        obtain ⟨b1, o1, rfl, hlb, hcell⟩ := (HA.out.es.below hwr).at_ hlt
        have x0 := hcell (k * 4 + 0) _ (ecells_at hkl).1
        have x1 := hcell (k * 4 + 1) _ (ecells_at hkl).2.1
        have x2 := hcell (k * 4 + 2) _ (ecells_at hkl).2.2.1
        have x3 := hcell (k * 4 + 3) _ (ecells_at hkl).2.2.2
        rw [← Nat.add_assoc] at x1 x2 x3
        rw [Nat.add_zero] at x0
        have HSU := lid (entsL_succ hkl)
        have HEL : Hid ((entsL o k).length ≤ 20000) := lid (by have := entsL_len HNM.out (k := k) (by omega); omega)
        have HNS := lid (HNM.out _ (List.getElem_mem hkl))
        have dk : decide ((k : Int) < (ne : Int)) = true := by simp; omega
        clear hcell
        obtain ⟨r, hrk⟩ : ∃ r, o.ents[k] = r := ⟨_, rfl⟩
        rw [hrk] at x0 x1 x2 x3 HSU HNS
        obtain ⟨a, dir, d⟩ := r
        simp only at x0 x1 x2 x3
        clear hrk
        have HXA : Hid ((putX a.data.toList).length ≤ 30) := lid (by have := oputX_len a.data.toList; have h2 : a.data.toList.length ≤ 24 := HNS.out; omega)
        have AM : Hid (a.size ≤ 60000) := lid (Nat.le_trans HNS.out (by omega))
        have hbl : b < wr.heap.size := HWr.out.lt
        go_wp2_with fail
        obtain ⟨w4, hW4⟩ : ∃ W1, wr.alloc (Obj.cells #[.string a, .bool dir, .int .u64 d.1.toNat, .int .u64 d.2.toNat] 83) = W1 := ⟨_, rfl⟩
        have hw4 : Below W.heap.size W w4 := by rw [← hW4]; exact hwr.alloc hwr.size _
        have HW4 : Hid (Wr W.heap.size b (entsL o k) w4) := lid (by rw [← hW4]; exact HWr.out.below (ba _ _))
        have E4 : w4.heap[wr.heap.size]? = some (.cells #[.string a, .bool dir, .int .u64 d.1.toNat, .int .u64 d.2.toNat] 83 (0, 0)) := by rw [← hW4]; exact heap_alloc_new _ _
        rw [hW4]
        clear hW4 x0 x1 x2 x3 HWr hwr
        (with_reducible refine (CS.out (entsL o k) a _ HW4.out hw4.size (by have := HEL.out; omega) AM.out).mono ?_); rintro e w5 ⟨rfl, hW5, hb5, ho5⟩
        have HW5 := lid hW5
        have hw5 := hw4.trans hb5
        clear hW5
        have E5 : w5.heap[wr.heap.size]? = some (.cells #[.string a, .bool dir, .int .u64 d.1.toNat, .int .u64 d.2.toNat] 83 (0, 0)) := ho5 _ _ E4 (by intro e; cases e; omega) (by intro c fz e; cases e)
        have q1 : w5.cell? ⟨wr.heap.size, 1, none⟩ = some (.bool dir) := by rw [Lib.cell_of_heap E5]; rfl
        have l5 : wr.heap.size < w5.heap.size := (Array.getElem?_eq_some_iff.1 E5).1
        clear E4
        cases dir with
        | false =>
          have hD : putB 0 = true := by unfold putB; simp
          have HD := lid hD
          clear hD
          go_wp2_with fail
          (with_reducible refine (CN.out (entsL o k ++ putX a.data.toList) 0 _ HW5.out hw5.size (by have := HEL.out; have := HXA.out; rw [List.length_append]; omega) HD.out).mono ?_); rintro e w6 ⟨rfl, hW6, hb6, ho6⟩
          have HW6 := lid hW6
          have hw6 := hw5.trans hb6
          clear hW6
          have E6 : w6.heap[wr.heap.size]? = some (.cells #[.string a, .bool false, .int .u64 d.1.toNat, .int .u64 d.2.toNat] 83 (0, 0)) := ho6 _ _ E5 (by intro e; cases e; omega) (by intro c fz e; cases e)
          have q2 : w6.cell? ⟨wr.heap.size, 2, none⟩ = some (.int .u64 d.1.toNat) := by rw [Lib.cell_of_heap E6]; rfl
          have q3 : w6.cell? ⟨wr.heap.size, 3, none⟩ = some (.int .u64 d.2.toNat) := by rw [Lib.cell_of_heap E6]; rfl
          have l6 : wr.heap.size < w6.heap.size := (Array.getElem?_eq_some_iff.1 E6).1
          clear E5 E6
          go_wp2_with fail
          (with_reducible refine (CD.out (entsL o k ++ putX a.data.toList ++ putI 0) d _ HW6.out hw6.size (by have := HEL.out; have := HXA.out; have := oputI_len 0; rw [List.length_append, List.length_append]; omega)).mono ?_); rintro e w7 ⟨rfl, hW7, hb7, ho7⟩
          have HW7 := lid hW7
          have hw7 := hw6.trans hb7
          clear hW7
          go_wp2_with fail
          go_roundw
          case rel => exact ⟨k + 1, by omega, by go_num, lid (by rw [HSU.out]; have := HW7.out; rw [List.append_assoc, List.append_assoc] at this; exact this), hw7⟩
          case measure => simp [intOf]; omega
        | true =>
          have hD : putB 1 = true := by unfold putB; simp
          have HD := lid hD
          clear hD
          go_wp2_with fail
          (with_reducible refine (CN.out (entsL o k ++ putX a.data.toList) 1 _ HW5.out hw5.size (by have := HEL.out; have := HXA.out; rw [List.length_append]; omega) HD.out).mono ?_); rintro e w6 ⟨rfl, hW6, hb6, ho6⟩
          have HW6 := lid hW6
          have hw6 := hw5.trans hb6
          clear hW6
          have E6 : w6.heap[wr.heap.size]? = some (.cells #[.string a, .bool true, .int .u64 d.1.toNat, .int .u64 d.2.toNat] 83 (0, 0)) := ho6 _ _ E5 (by intro e; cases e; omega) (by intro c fz e; cases e)
          have q2 : w6.cell? ⟨wr.heap.size, 2, none⟩ = some (.int .u64 d.1.toNat) := by rw [Lib.cell_of_heap E6]; rfl
          have q3 : w6.cell? ⟨wr.heap.size, 3, none⟩ = some (.int .u64 d.2.toNat) := by rw [Lib.cell_of_heap E6]; rfl
          have l6 : wr.heap.size < w6.heap.size := (Array.getElem?_eq_some_iff.1 E6).1
          clear E5 E6
          go_wp2_with fail
          (with_reducible refine (CD.out (entsL o k ++ putX a.data.toList ++ putI 1) d _ HW6.out hw6.size (by have := HEL.out; have := HXA.out; have := oputI_len 1; rw [List.length_append, List.length_append]; omega)).mono ?_); rintro e w7 ⟨rfl, hW7, hb7, ho7⟩
          have HW7 := lid hW7
          have hw7 := hw6.trans hb7
          clear hW7
          go_wp2_with fail
          go_roundw
          case rel => exact ⟨k + 1, by omega, by go_num, lid (by rw [HSU.out]; have := HW7.out; rw [List.append_assoc, List.append_assoc] at this; exact this), hw7⟩
          case measure => simp [intOf]; omega
      · obtain rfl : k = ne := by omega
        have hfin : Hid (entsL o k = encL o) := lid (HV.out)
        obtain ⟨z0, v, z1, z2, z3⟩ := HWr.out
        rw [hfin.out] at z2
        obtain ⟨ao, cap, rfl⟩ := own_slice z2
        have e0 : wr.cell? ⟨b, 0, none⟩ = some (.slice ao (encL o).length cap) := by rw [Lib.cell_of_heap z1]; rfl
        have e1 : wr.cell? ⟨b, 1, none⟩ = some (.bool false) := by rw [Lib.cell_of_heap z1]; rfl
        have hcv := run_string_of_row (P := Tryz.prog) z2 Tryz.underlying120 Tryz.underlying5 Tryz.underlying9
        have hlen := HLL.out
        generalize (encL o).length = N at *
        have uN : decide ((65536 : Int) < (N : Int)) = false := by simp; omega
        have uN' : decide (65536 < N) = false := by simp; omega
        clear z1 z2 z3 hfin
        go_wp2_with fail
        go_ret2
        exact ⟨ret_se (by rw [HT.out]) HC.out.symm, hb0.trans (hwr.mono hb0.size)⟩
  have n2 := kk
  clear kk
  have n3 : o.kind = 3 := by have := checkO_kind HC.out; omega
  obtain ⟨l3, c0, c1, c2, c3, c4, c5, c6, c7, c8⟩ := HO.out.below hw3
  clear c1 c2 c5 c6 c7 c8
  have k1 : (o.kind == 1) = false := by simpa using n1
  have k4 : (o.kind == 4) = false := by simpa using n4
  have k2 : (o.kind == 2) = false := by simpa using n2
  have k3 : (o.kind == 3) = true := by simpa using n3
  have HE := lid (checkO_comm HC.out n3)
  have HV : Hid (parsL o np ++ (putX o.auth.data.toList ++ (putI o.time ++ putX o.msg.data.toList)) = encL o) := lid (by unfold encL; rw [if_neg n2, if_pos n3, HN.out])
  have n8 : np ≤ 8 := by have := HE.out.1; rw [HN.out] at this; exact this
  have hPN : putB (np : Int) = true := by unfold putB; simp; omega
  have HPN := lid hPN
  have HPT : Hid (putB o.time = true) := lid (by unfold putB; have := HE.out; simp; omega)
  have HAM : Hid (o.auth.size ≤ 60000) := lid (by have := HE.out; omega)
  have HAL : Hid (o.auth.data.toList.length ≤ 60000) := lid HAM.out
  have HMM : Hid (o.msg.size ≤ 60000) := lid (by have := HE.out; omega)
  clear n1 n2 n3 n4 hPN
  go_wp2_with fail
  (with_reducible refine (CD.out ([] ++ putI o.kind) o.tree _ HW3.out hw3.size (by have := oputI_len o.kind; simp; omega)).mono ?_); rintro e w4 ⟨rfl, hW4, hb4, ho4⟩
  have HW4 := lid hW4
  have hw4 := hw3.trans hb4
  clear hW4
  obtain ⟨l4, c0, c1, c2, c3, c4, c5, c6, c7, c8⟩ := HO.out.below hw4
  clear c0 c1 c2 c3 c4 c6 c7 c8
  go_wp2_with fail
  (with_reducible refine (CN.out ([] ++ putI o.kind ++ bytesU o.tree.1 o.tree.2) (np : Int) _ HW4.out hw4.size (by have := oputI_len o.kind; have := digL_len o.tree; unfold digL at this; simp; omega) HPN.out).mono ?_); rintro e w5 ⟨rfl, hW5, hb5, ho5⟩
  have HW5 := lid hW5
  have hw5 := hw4.trans hb5
  clear hW5
  obtain ⟨l5, c0, c1, c2, c3, c4, c5, c6, c7, c8⟩ := HO.out.below hw5
  clear c0 c1 c2 c3 c4 c6 c7 c8
  have HZ : Hid ([] ++ putI o.kind ++ bytesU o.tree.1 o.tree.2 ++ putI (np : Int) = parsL o 0) := lid (by rw [parsL_zero, HN.out, List.append_assoc]; rfl)
  go_wp2_with fail
  go_loopw [10, 64] (fun _ i wr => ∃ k : Nat, k ≤ np ∧ i = .int .i64 k ∧ Hid (Wr W.heap.size b (parsL o k) wr) ∧ Below W.heap.size W wr) (fun _ i _ => np - (intOf i).toNat)
  case atStart => exact ⟨0, Nat.zero_le _, rfl, lid (by rw [← HZ.out]; exact HW5.out), hw5⟩
  case round =>
    clear HW5 HW4 HW3 HW2 hw2 hw3 hw4 hw5 hb3 hb4 hb5 ho3 ho4 ho5 l3 l4 l5 c5 hsb
    obtain ⟨k, hk, rfl, HWr, hwr⟩ := hrel
    have HEL : Hid ((parsL o k).length ≤ 20000) := lid (by have := parsL_len o (k := k) (by rw [HN.out]; exact hk); omega)
    by_cases hlt : k < np
    · have hkl : k < o.pars.length := by rw [HN.out]; exact hlt
      rcases HA.out.ps.below hwr with h | ⟨b1, o1, rfl, hlb, hcell⟩
      · exfalso; omega
      have x01 := hcell.at hkl
      have HSU := lid (parsL_succ hkl)
      obtain ⟨d, hrk⟩ : ∃ d, o.pars[k] = d := ⟨_, rfl⟩
      rw [hrk] at x01 HSU
      obtain ⟨x0, x1⟩ := x01
      have dk : decide ((k : Int) < (np : Int)) = true := by simp; omega
      have hbl : b < wr.heap.size := HWr.out.lt
      clear hcell hrk
      go_wp2_with fail
      obtain ⟨w4, hW4⟩ : ∃ W1, wr.alloc (Obj.cells #[.int .u64 d.1.toNat, .int .u64 d.2.toNat] 31) = W1 := ⟨_, rfl⟩
      have hw4 : Below W.heap.size W w4 := by rw [← hW4]; exact hwr.alloc hwr.size _
      have HW4 : Hid (Wr W.heap.size b (parsL o k) w4) := lid (by rw [← hW4]; exact HWr.out.below (ba _ _))
      rw [hW4]
      clear hW4 x0 x1 HWr hwr
      (with_reducible refine (CD.out (parsL o k) d _ HW4.out hw4.size (by have := HEL.out; omega)).mono ?_); rintro e w7 ⟨rfl, hW7, hb7, ho7⟩
      have HW7 := lid hW7
      have hw7 := hw4.trans hb7
      clear hW7
      go_wp2_with fail
      go_roundw
      case rel => exact ⟨k + 1, by omega, by go_num, lid (by rw [HSU.out]; exact HW7.out), hw7⟩
      case measure => simp [intOf]; omega
    · obtain rfl : k = np := by omega
      obtain ⟨lr, c0, c1, c2, c3, c4, c5, c6, c7, c8⟩ := HO.out.below hwr
      clear c0 c1 c2 c3 c4 c5 c7 c8
      go_wp2_with fail
      (with_reducible refine (CS.out (parsL o k) o.auth _ HWr.out hwr.size (by have := HEL.out; omega) HAM.out).mono ?_); rintro e w5 ⟨rfl, hW5, hb5, ho5⟩
      have HW5 := lid hW5
      have hw5 := hwr.trans hb5
      clear hW5
      obtain ⟨l5, c0, c1, c2, c3, c4, c5, c6, c7, c8⟩ := HO.out.below hw5
      clear c0 c1 c2 c3 c4 c5 c6 c8
      go_wp2_with fail
      (with_reducible refine (CN.out (parsL o k ++ putX o.auth.data.toList) o.time _ HW5.out hw5.size (by have := HEL.out; have := oputX_len o.auth.data.toList; have h2 := HAL.out; rw [List.length_append]; omega) HPT.out).mono ?_); rintro e w6 ⟨rfl, hW6, hb6, ho6⟩
      have HW6 := lid hW6
      have hw6 := hw5.trans hb6
      clear hW6
      obtain ⟨l6, c0, c1, c2, c3, c4, c5, c6, c7, c8⟩ := HO.out.below hw6
      clear c0 c1 c2 c3 c4 c5 c6 c7
      go_wp2_with fail
      (with_reducible refine (CS.out (parsL o k ++ putX o.auth.data.toList ++ putI o.time) o.msg _ HW6.out hw6.size (by have := HEL.out; have := oputX_len o.auth.data.toList; have h2 := HAL.out; have := oputI_len o.time; rw [List.length_append, List.length_append]; omega) HMM.out).mono ?_); rintro e w7 ⟨rfl, hW7, hb7, ho7⟩
      have HW7 := lid hW7
      have hw7 := hw6.trans hb7
      clear hW7
      obtain ⟨l7, c0, c1, c2, c3, c4, c5, c6, c7, c8⟩ := HO.out.below hw7
      clear c0 c1 c2 c3 c4 c5 c6 c7 c8
      have hfin : Hid (parsL o k ++ putX o.auth.data.toList ++ putI o.time ++ putX o.msg.data.toList = encL o) := lid (by rw [← HV.out, List.append_assoc, List.append_assoc])
      obtain ⟨z0, v, z1, z2, z3⟩ := HW7.out
      rw [hfin.out] at z2
      obtain ⟨ao, cap, rfl⟩ := own_slice z2
      have e0 : w7.cell? ⟨b, 0, none⟩ = some (.slice ao (encL o).length cap) := by rw [Lib.cell_of_heap z1]; rfl
      have e1 : w7.cell? ⟨b, 1, none⟩ = some (.bool false) := by rw [Lib.cell_of_heap z1]; rfl
      have hcv := run_string_of_row (P := Tryz.prog) z2 Tryz.underlying120 Tryz.underlying5 Tryz.underlying9
      have hlen := HLL.out
      generalize (encL o).length = N at *
      have uN : decide ((65536 : Int) < (N : Int)) = false := by simp; omega
      have uN' : decide (65536 < N) = false := by simp; omega
      clear z1 z2 z3 hfin
      go_wp2_with fail
      go_ret2
      exact ⟨ret_se (by rw [HT.out]) HC.out.symm, hb0.trans (hw7.mono hb0.size)⟩
end Go.Proofs.YtphjillihapbfaaGreatDoor
