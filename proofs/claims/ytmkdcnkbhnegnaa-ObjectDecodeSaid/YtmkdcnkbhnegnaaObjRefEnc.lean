/-
  The reference's encode.
-/
import Derived.Test.YtmkdcnkbhnegnaaObjEnc
namespace Go.Proofs.Ytmkdcnkbhnegnaa
open Go.RowKit

set_option maxRecDepth 100000 in
set_option maxHeartbeats 16000000 in
theorem refEncodeL_any (o : Ob) (ae ap : Option Addr) (ne ce np cp : Nat) (w : World) (h : ObjA w ae ne ap np o) (hv : checkO o = 0) (hd : o.data.size ≤ 60000) :
    Calls Try.prog 26 #[.agg (ocells o ae ne ce ap np cp)] w fun e w' => e = .returned (.string (bstr (encL o))) ∧ Below w.heap.size w w' := by
  have hb0 := ba w (Obj.cells (ocells o ae ne ce ap np cp) 28)
  have HO0 := OBox.new w o ae ne ce ap np cp 28
  obtain ⟨W, hW⟩ : ∃ W, w.alloc (Obj.cells (ocells o ae ne ce ap np cp) 28) = W := ⟨_, rfl⟩
  rw [hW] at hb0 HO0
  have HA := lid (h.below hb0)
  have HW := lid hW
  have HEN := lid HW.out
  have HO := lid HO0
  have HN := lid h.plen
  have HM := lid h.elen
  have nm' : np ≤ 9223372036854775807 := h.pmax
  have mm' : ne ≤ 9223372036854775807 := h.emax
  have HC := lid hv
  have CN := lid (fun n w => refNumber_any n w)
  have CT := lid (fun s w hs => refText_any s w hs)
  have CB := lid (fun (d : Dg) w => Bytes_any d.1 d.2 w)
  have HS0 : Hid ((bstr (putI o.kind)).size ≤ 6) := lid (by rw [bstr_size]; exact oputI_len _)
  have hds : o.data.size ≤ 60000 := hd
  clear hW h HO0 hv hd
  have O1 := HO.out
  obtain ⟨l0, c0, c1, c2, c3, c4, c5, c6, c7, c8⟩ := O1
  rw [← HW.out] at c0 c1 c2 c3 c4 c5 c6 c7 c8
  go_enter Try.func26, Try.ntmps26
  go_wp2_with fail
  rw [HW.out]
  clear HW HEN c0 c1 c2 c3 c4 c5 c6 c7 c8
  (with_reducible refine (CN.out o.kind _).mono ?_); rintro e w2 ⟨rfl, hb2⟩
  have hw2 := hb0.trans (hb2.mono hb0.size)
  replace HO := lid (HO.out.below hb2)
  replace HA := lid (HA.out.below hb2)
  have O2 := HO.out
  obtain ⟨l2, c0, c1, c2, c3, c4, c5, c6, c7, c8⟩ := O2
  clear l0
  obtain ⟨S, hS⟩ : ∃ S, bstr (putI o.kind) = S := ⟨_, rfl⟩
  rw [hS] at HS0 ⊢
  have hs0 := HS0.out
  by_cases kk : o.kind = 2
  · have k2 : (o.kind == 2) = true := by simpa using kk
    have HE := lid (checkO_ents HC.out kk)
    have HNM := lid (checkO_names HC.out kk)
    have HV : Hid (encL o = entsL o ne) := lid (by unfold encL; rw [if_pos kk, HM.out])
    have n200 : ne ≤ 200 := by have := HE.out.1; rw [HM.out] at this; exact this
    have hsn : (bstr (putI (ne : Int))).size ≤ 6 := by rw [bstr_size]; exact oputI_len _
    have HZ : Hid (S ++ bstr (putI (ne : Int)) = bstr (entsL o 0)) := lid (by rw [← hS, bstr_append, entsL_zero, HM.out])
    clear kk hS hds
    go_wp2_with fail
    (with_reducible refine (CN.out (ne : Int) _).mono ?_); rintro e w3 ⟨rfl, hb3⟩
    have hw3 := hw2.trans (hb3.mono hw2.size)
    obtain ⟨N, hN⟩ : ∃ N, bstr (putI (ne : Int)) = N := ⟨_, rfl⟩
    rw [hN] at hsn HZ ⊢
    clear hN
    go_wp2_with fail
    replace HO := lid (HO.out.below hb3)
    replace HA := lid (HA.out.below hb3)
    clear c0 c1 c2 c3 c4 c5 c6 c7 c8 hb2 hb3
    go_loopw [3, 4, 5] (fun s i _ wr => ∃ k : Nat, k ≤ ne ∧ i = .int .i64 k ∧ s = .string (bstr (entsL o k)) ∧ Below w3.heap.size w3 wr) (fun _ i _ _ => ne - (intOf i).toNat)
    case atStart => exact ⟨0, Nat.zero_le _, rfl, by rw [HZ.out], Below.refl _ _⟩
    case round =>
      obtain ⟨k, hk, rfl, rfl, hb⟩ := hrel
      have HOr := HO.out.below hb
      obtain ⟨lr, c0, c1, c2, c3, c4, c5, c6, c7, c8⟩ := HOr
      clear c0 c1 c3 c4 c5 c6 c7 c8 hsn hs0
      by_cases hlt : k < ne
      · have hkl : k < o.ents.length := by rw [HM.out]; exact hlt
        obtain ⟨b1, o1, rfl, hlb, hcell⟩ := (HA.out.es.below hb).at_ hlt
        have x0 := hcell (k * 4 + 0) _ (ecells_at hkl).1
        have x1 := hcell (k * 4 + 1) _ (ecells_at hkl).2.1
        have x2 := hcell (k * 4 + 2) _ (ecells_at hkl).2.2.1
        have x3 := hcell (k * 4 + 3) _ (ecells_at hkl).2.2.2
        rw [← Nat.add_assoc] at x1 x2 x3
        rw [Nat.add_zero] at x0
        have HSU := lid (entsL_succ hkl)
        have HSL : Hid ((bstr (entsL o k)).size ≤ 12 + k * 52) := lid (by rw [bstr_size]; exact entsL_len HNM.out (by omega))
        have HNS := lid (HNM.out _ (List.getElem_mem hkl))
        clear hcell
        obtain ⟨r, hrk⟩ : ∃ r, o.ents[k] = r := ⟨_, rfl⟩
        rw [hrk] at x0 x1 x2 x3 HSU HNS
        obtain ⟨a, dir, d⟩ := r
        simp only at x0 x1 x2 x3
        clear hrk
        obtain ⟨PK, hPK⟩ : ∃ PK, bstr (entsL o k) = PK := ⟨_, rfl⟩
        have HST : Hid (PK ++ bstr (putX a.data.toList) ++ bstr (putI (dirI dir)) ++ bstr (bytesU d.1 d.2) = bstr (entsL o (k + 1))) := lid (by rw [HSU.out, ← hPK, bstr_append, bstr_append, bstr_append, List.append_assoc, List.append_assoc]; rfl)
        rw [hPK] at HSL ⊢
        clear hPK HSU
        have z0 : PK.size ≤ 20000 := by have := HSL.out; omega
        have z1 : (bstr (putX a.data.toList)).size ≤ 30 := by rw [bstr_size]; have := oputX_len a.data.toList; have h2 : a.data.toList.length ≤ 24 := HNS.out; omega
        have z2 : (bstr (putI (dirI dir))).size ≤ 6 := by rw [bstr_size]; exact oputI_len _
        have z3 : (bstr (bytesU d.1 d.2)).size = 16 := by rw [bstr_size]; exact bytesU_length _ _
        have am : a.size ≤ maxLen := Nat.le_trans HNS.out (by simp [maxLen])
        have AM := lid am
        clear am
        have dk : decide ((k : Int) < (ne : Int)) = true := by simp; omega
        have hD : ∃ D : Int, D = dirI dir := ⟨_, rfl⟩
        obtain ⟨D, hD⟩ := hD
        rw [← hD] at z2 HST
        have HX0 := lid x0
        have HX2 := lid x2
        have HX3 := lid x3
        cases dir with
        | false =>
          obtain rfl : D = 0 := by rw [hD]; rfl
          clear hD
          obtain ⟨XA, hXA⟩ : ∃ XA, bstr (putX a.data.toList) = XA := ⟨_, rfl⟩
          obtain ⟨XD, hXD⟩ : ∃ XD, bstr (putI 0) = XD := ⟨_, rfl⟩
          obtain ⟨XB, hXB⟩ : ∃ XB, bstr (bytesU d.1 d.2) = XB := ⟨_, rfl⟩
          have CA := lid (CT.out a · AM.out)
          have CD := lid (CN.out 0)
          have CE := lid (CB.out d)
          rw [hXA] at CA z1 HST
          rw [hXD] at CD z2 HST
          rw [hXB] at CE z3 HST
          clear hXA hXD hXB
          go_wp2_with fail
          refine wp_region_seq (fun w' => ∃ s : Since wr.heap.size wr, w' = s.world) [(0, true), (1, true), (2, true), (3, true), (4, true), (5, true), (6, true), (9, true), (12, true), (13, true), (14, true), (15, true), (16, true), (17, true), (7, false), (8, true), (10, false), (11, true), (18, false), (19, true), (20, false)] (by kernel_rfl) (by kernel_rfl) (by intro c d v a w h; cases d <;> exact h) (since (Below.refl _ _).drew) ?_
          repeat (first | (refine seq_skip (by rfl) (by rfl) ?_; simp only [Act.put, List.setIfInBounds_toArray, List.set_cons_succ, List.set_cons_zero]) | (refine seq_float (by rfl) (by rfl) (by rfl) ?_; intro K hK; go_big_quiet_op; go_big_quiet_on))
          refine seq_chain (by rfl) ?_
          intro K hK
          go_wp2_with fail
          (with_reducible refine (CA.out _).mono ?_); rintro e w4 ⟨rfl, hb4⟩
          have hs4 := (Below.refl wr.heap.size wr).drew.trans hb4
          go_wp2_with fail
          refine hK.out _ _ (since hs4) ?_
          clear hK K
          repeat (first | (refine seq_skip (by rfl) (by rfl) ?_; simp only [Act.put, List.setIfInBounds_toArray, List.set_cons_succ, List.set_cons_zero]) | (refine seq_float (by rfl) (by rfl) (by rfl) ?_; intro K hK; go_big_quiet_op; go_big_quiet_on))
          refine seq_chain (by rfl) ?_
          intro K hK
          go_wp2_with fail
          (with_reducible refine (CD.out _).mono ?_); rintro e w5 ⟨rfl, hb5⟩
          have hs5 := hs4.trans (hb5.mono hs4.size)
          go_wp2_with fail
          refine hK.out _ _ (since hs5) ?_
          clear hK K
          repeat (first | (refine seq_skip (by rfl) (by rfl) ?_; simp only [Act.put, List.setIfInBounds_toArray, List.set_cons_succ, List.set_cons_zero]) | (refine seq_float (by rfl) (by rfl) (by rfl) ?_; intro K hK; go_big_quiet_op; go_big_quiet_on))
          refine seq_chain (by rfl) ?_
          intro K hK
          go_wp2_with fail
          (with_reducible refine (CE.out _).mono ?_); rintro e w6 ⟨rfl, hb6⟩
          have hs6 := hs5.trans (hb6.mono hs5.size)
          go_wp2_with fail
          refine hK.out _ _ (since hs6) ?_
          clear hK K
          repeat (first | (refine seq_skip (by rfl) (by rfl) ?_; simp only [Act.put, List.setIfInBounds_toArray, List.set_cons_succ, List.set_cons_zero]) | (refine seq_float (by rfl) (by rfl) (by rfl) ?_; intro K hK; go_big_quiet_op; go_big_quiet_on))
          refine seq_chain (by rfl) ?_
          intro K hK
          go_wp2_with fail
          go_wp2_with fail
          refine hK.out _ _ (since hs6) ?_
          clear hK K
          refine seq_nil ?_
          go_wp2_with fail
          have hw6 := hb.trans (hs6.mono hb.size)
          go_wp2_with fail
          go_roundw
          case rel => exact ⟨k + 1, by omega, by go_num, by rw [HST.out], hw6⟩
          case measure => simp [intOf]; omega
        | true =>
          obtain rfl : D = 1 := by rw [hD]; rfl
          clear hD
          obtain ⟨XA, hXA⟩ : ∃ XA, bstr (putX a.data.toList) = XA := ⟨_, rfl⟩
          obtain ⟨XD, hXD⟩ : ∃ XD, bstr (putI 1) = XD := ⟨_, rfl⟩
          obtain ⟨XB, hXB⟩ : ∃ XB, bstr (bytesU d.1 d.2) = XB := ⟨_, rfl⟩
          have CA := lid (CT.out a · AM.out)
          have CD := lid (CN.out 1)
          have CE := lid (CB.out d)
          rw [hXA] at CA z1 HST
          rw [hXD] at CD z2 HST
          rw [hXB] at CE z3 HST
          clear hXA hXD hXB
          go_wp2_with fail
          refine wp_region_seq (fun w' => ∃ s : Since wr.heap.size wr, w' = s.world) [(0, true), (1, true), (2, true), (3, true), (4, true), (5, true), (6, true), (9, true), (12, true), (13, true), (14, true), (15, true), (16, true), (17, true), (7, false), (8, true), (10, false), (11, true), (18, false), (19, true), (20, false)] (by kernel_rfl) (by kernel_rfl) (by intro c d v a w h; cases d <;> exact h) (since (Below.refl _ _).drew) ?_
          repeat (first | (refine seq_skip (by rfl) (by rfl) ?_; simp only [Act.put, List.setIfInBounds_toArray, List.set_cons_succ, List.set_cons_zero]) | (refine seq_float (by rfl) (by rfl) (by rfl) ?_; intro K hK; go_big_quiet_op; go_big_quiet_on))
          refine seq_chain (by rfl) ?_
          intro K hK
          go_wp2_with fail
          (with_reducible refine (CA.out _).mono ?_); rintro e w4 ⟨rfl, hb4⟩
          have hs4 := (Below.refl wr.heap.size wr).drew.trans hb4
          go_wp2_with fail
          refine hK.out _ _ (since hs4) ?_
          clear hK K
          repeat (first | (refine seq_skip (by rfl) (by rfl) ?_; simp only [Act.put, List.setIfInBounds_toArray, List.set_cons_succ, List.set_cons_zero]) | (refine seq_float (by rfl) (by rfl) (by rfl) ?_; intro K hK; go_big_quiet_op; go_big_quiet_on))
          refine seq_chain (by rfl) ?_
          intro K hK
          go_wp2_with fail
          (with_reducible refine (CD.out _).mono ?_); rintro e w5 ⟨rfl, hb5⟩
          have hs5 := hs4.trans (hb5.mono hs4.size)
          go_wp2_with fail
          refine hK.out _ _ (since hs5) ?_
          clear hK K
          repeat (first | (refine seq_skip (by rfl) (by rfl) ?_; simp only [Act.put, List.setIfInBounds_toArray, List.set_cons_succ, List.set_cons_zero]) | (refine seq_float (by rfl) (by rfl) (by rfl) ?_; intro K hK; go_big_quiet_op; go_big_quiet_on))
          refine seq_chain (by rfl) ?_
          intro K hK
          go_wp2_with fail
          (with_reducible refine (CE.out _).mono ?_); rintro e w6 ⟨rfl, hb6⟩
          have hs6 := hs5.trans (hb6.mono hs5.size)
          go_wp2_with fail
          refine hK.out _ _ (since hs6) ?_
          clear hK K
          repeat (first | (refine seq_skip (by rfl) (by rfl) ?_; simp only [Act.put, List.setIfInBounds_toArray, List.set_cons_succ, List.set_cons_zero]) | (refine seq_float (by rfl) (by rfl) (by rfl) ?_; intro K hK; go_big_quiet_op; go_big_quiet_on))
          refine seq_chain (by rfl) ?_
          intro K hK
          go_wp2_with fail
          go_wp2_with fail
          refine hK.out _ _ (since hs6) ?_
          clear hK K
          refine seq_nil ?_
          go_wp2_with fail
          have hw6 := hb.trans (hs6.mono hb.size)
          go_wp2_with fail
          go_roundw
          case rel => exact ⟨k + 1, by omega, by go_num, by rw [HST.out], hw6⟩
          case measure => simp [intOf]; omega
      · obtain rfl : k = ne := by omega
        go_wp2_with fail
        go_ret
        exact ⟨ret_string (by rw [HV.out]), hw3.trans (hb.mono hw3.size)⟩
  have k2 : (o.kind == 2) = false := by simpa using kk
  have n2 := kk
  clear kk
  by_cases kk : o.kind = 3
  · have k3 : (o.kind == 3) = true := by simpa using kk
    have HE := lid (checkO_comm HC.out kk)
    have HV : Hid (encL o = parsL o np ++ (putX o.auth.data.toList ++ (putI o.time ++ putX o.msg.data.toList))) := lid (by unfold encL; rw [if_neg n2, if_pos kk, HN.out])
    have n8 : np ≤ 8 := by have := HE.out.1; rw [HN.out] at this; exact this
    have AM := lid HA.out.asz
    have MM := lid HA.out.msz
    have CT0 := lid (CB.out o.tree)
    have CN0 := lid (CN.out (np : Int))
    have t16 : (bstr (bytesU o.tree.1 o.tree.2)).size = 16 := by rw [bstr_size]; exact bytesU_length _ _
    have hsn : (bstr (putI (np : Int))).size ≤ 6 := by rw [bstr_size]; exact oputI_len _
    have HZ : Hid (S ++ bstr (bytesU o.tree.1 o.tree.2) ++ bstr (putI (np : Int)) = bstr (parsL o 0)) := lid (by rw [← hS, bstr_append, bstr_append, parsL_zero, HN.out, List.append_assoc]; rfl)
    obtain ⟨XT, hXT⟩ : ∃ XT, bstr (bytesU o.tree.1 o.tree.2) = XT := ⟨_, rfl⟩
    obtain ⟨XN, hXN⟩ : ∃ XN, bstr (putI (np : Int)) = XN := ⟨_, rfl⟩
    rw [hXT] at CT0 t16 HZ
    rw [hXN] at CN0 hsn HZ
    clear kk hS hds hXT hXN
    go_wp2_with fail
    refine wp_region_seq (fun w' => ∃ s : Since w2.heap.size w2, w' = s.world) [(0, true), (1, true), (2, true), (5, true), (6, true), (7, true), (3, false), (4, true), (8, false), (9, true), (10, false)] (by kernel_rfl) (by kernel_rfl) (by intro c d v a w h; cases d <;> exact h) (since (Below.refl _ _).drew) ?_
    repeat (first | (refine seq_skip (by rfl) (by rfl) ?_; simp only [Act.put, List.setIfInBounds_toArray, List.set_cons_succ, List.set_cons_zero]) | (refine seq_float (by rfl) (by rfl) (by rfl) ?_; intro K hK; go_big_quiet_op; go_big_quiet_on))
    refine seq_chain (by rfl) ?_
    intro K hK
    go_wp2_with fail
    (with_reducible refine (CT0.out _).mono ?_); rintro e w3 ⟨rfl, hb3⟩
    have hs3 := (Below.refl w2.heap.size w2).drew.trans hb3
    go_wp2_with fail
    refine hK.out _ _ (since hs3) ?_
    clear hK K
    repeat (first | (refine seq_skip (by rfl) (by rfl) ?_; simp only [Act.put, List.setIfInBounds_toArray, List.set_cons_succ, List.set_cons_zero]) | (refine seq_float (by rfl) (by rfl) (by rfl) ?_; intro K hK; go_big_quiet_op; go_big_quiet_on))
    refine seq_chain (by rfl) ?_
    intro K hK
    go_wp2_with fail
    (with_reducible refine (CN0.out _).mono ?_); rintro e w4 ⟨rfl, hb4⟩
    have hs4 := hs3.trans (hb4.mono hs3.size)
    go_wp2_with fail
    refine hK.out _ _ (since hs4) ?_
    clear hK K
    repeat (first | (refine seq_skip (by rfl) (by rfl) ?_; simp only [Act.put, List.setIfInBounds_toArray, List.set_cons_succ, List.set_cons_zero]) | (refine seq_float (by rfl) (by rfl) (by rfl) ?_; intro K hK; go_big_quiet_op; go_big_quiet_on))
    refine seq_chain (by rfl) ?_
    intro K hK
    go_wp2_with fail
    go_wp2_with fail
    refine hK.out _ _ (since hs4) ?_
    clear hK K
    refine seq_nil ?_
    go_wp2_with fail
    have hw4 := hw2.trans (hs4.mono hw2.size)
    go_wp2_with fail
    replace HO := lid (HO.out.below hs4)
    replace HA := lid (HA.out.below hs4)
    clear c0 c1 c2 c3 c4 c5 c6 c7 c8 hb2 hb3 hb4 hs3 hs4
    go_loopw [3, 6] (fun s i wr => ∃ k : Nat, k ≤ np ∧ i = .int .i64 k ∧ s = .string (bstr (parsL o k)) ∧ Below w4.heap.size w4 wr) (fun _ i _ => np - (intOf i).toNat)
    case atStart => exact ⟨0, Nat.zero_le _, rfl, by rw [HZ.out], Below.refl _ _⟩
    case round =>
      obtain ⟨k, hk, rfl, rfl, hb⟩ := hrel
      have HOr := lid (HO.out.below hb)
      obtain ⟨lr, c0, c1, c2, c3, c4, c5, c6, c7, c8⟩ := HOr.out
      have HSL : Hid ((bstr (parsL o k)).size ≤ 28 + k * 16) := lid (by rw [bstr_size]; exact parsL_len o (by rw [HN.out]; exact hk))
      clear c0 c1 c2 c3 c4 hsn hs0 t16
      by_cases hlt : k < np
      · have hkl : k < o.pars.length := by rw [HN.out]; exact hlt
        rcases HA.out.ps.below hb with h | ⟨b1, o1, rfl, hlb, hcell⟩
        · exfalso; omega
        have x01 := hcell.at hkl
        have HSU := lid (parsL_succ hkl)
        obtain ⟨d, hrk⟩ : ∃ d, o.pars[k] = d := ⟨_, rfl⟩
        rw [hrk] at x01 HSU
        obtain ⟨x0, x1⟩ := x01
        obtain ⟨PK, hPK⟩ : ∃ PK, bstr (parsL o k) = PK := ⟨_, rfl⟩
        have HST : Hid (PK ++ bstr (bytesU d.1 d.2) = bstr (parsL o (k + 1))) := lid (by rw [HSU.out, ← hPK, bstr_append]; rfl)
        rw [hPK] at HSL ⊢
        have z0 : PK.size ≤ 20000 := by have := HSL.out; omega
        have z3 : (bstr (bytesU d.1 d.2)).size = 16 := by rw [bstr_size]; exact bytesU_length _ _
        have dk : decide ((k : Int) < (np : Int)) = true := by simp; omega
        obtain ⟨XB, hXB⟩ : ∃ XB, bstr (bytesU d.1 d.2) = XB := ⟨_, rfl⟩
        have CE := lid (CB.out d)
        rw [hXB] at CE z3 HST
        clear hcell hrk hPK HSU hXB c6 c7 c8
        go_wp2_with fail
        (with_reducible refine (CE.out _).mono ?_); rintro e w5 ⟨rfl, hb5⟩
        have hw5 := hb.trans (hb5.mono hb.size)
        go_wp2_with fail
        go_roundw
        case rel => exact ⟨k + 1, by omega, by go_num, by rw [HST.out], hw5⟩
        case measure => simp [intOf]; omega
      · obtain rfl : k = np := by omega
        have z0 : (bstr (parsL o k)).size ≤ 20000 := by have := HSL.out; omega
        have z1 : (bstr (putX o.auth.data.toList)).size ≤ 30 := by rw [bstr_size]; have := oputX_len o.auth.data.toList; have h2 : o.auth.data.toList.length ≤ 24 := HE.out.2.1; omega
        have z2 : (bstr (putI o.time)).size ≤ 6 := by rw [bstr_size]; exact oputI_len _
        have z3 : (bstr (putX o.msg.data.toList)).size ≤ 206 := by rw [bstr_size]; have := oputX_len o.msg.data.toList; have h2 : o.msg.data.toList.length ≤ 200 := HE.out.2.2.2.2; omega
        have HST : Hid (bstr (parsL o k) ++ bstr (putX o.auth.data.toList) ++ bstr (putI o.time) ++ bstr (putX o.msg.data.toList) = bstr (encL o)) := lid (by rw [HV.out, bstr_append, bstr_append, bstr_append, List.append_assoc, List.append_assoc])
        have CA := lid (CT.out o.auth · AM.out)
        have CD := lid (CN.out o.time)
        have CE := lid (CT.out o.msg · MM.out)
        obtain ⟨PK, hPK⟩ : ∃ PK, bstr (parsL o k) = PK := ⟨_, rfl⟩
        obtain ⟨XA, hXA⟩ : ∃ XA, bstr (putX o.auth.data.toList) = XA := ⟨_, rfl⟩
        obtain ⟨XD, hXD⟩ : ∃ XD, bstr (putI o.time) = XD := ⟨_, rfl⟩
        obtain ⟨XB, hXB⟩ : ∃ XB, bstr (putX o.msg.data.toList) = XB := ⟨_, rfl⟩
        rw [hPK] at z0 HST ⊢
        rw [hXA] at CA z1 HST
        rw [hXD] at CD z2 HST
        rw [hXB] at CE z3 HST
        clear hPK hXA hXD hXB HSL
        go_wp2_with fail
        refine wp_region_seq (fun w' => ∃ s : Since wr.heap.size wr, w' = s.world) [(0, true), (1, true), (2, true), (5, true), (6, true), (9, true), (10, true), (3, false), (4, true), (7, false), (8, true), (11, false), (12, true), (13, false)] (by kernel_rfl) (by kernel_rfl) (by intro c d v a w h; cases d <;> exact h) (since (Below.refl _ _).drew) ?_
        repeat (first | (refine seq_skip (by rfl) (by rfl) ?_; simp only [Act.put, List.setIfInBounds_toArray, List.set_cons_succ, List.set_cons_zero]) | (refine seq_float (by rfl) (by rfl) (by rfl) ?_; intro K hK; go_big_quiet_op; go_big_quiet_on))
        refine seq_chain (by rfl) ?_
        intro K hK
        go_wp2_with fail
        (with_reducible refine (CA.out _).mono ?_); rintro e w5 ⟨rfl, hb5⟩
        have hs5 := (Below.refl wr.heap.size wr).drew.trans hb5
        go_wp2_with fail
        refine hK.out _ _ (since hs5) ?_
        clear hK K
        repeat (first | (refine seq_skip (by rfl) (by rfl) ?_; simp only [Act.put, List.setIfInBounds_toArray, List.set_cons_succ, List.set_cons_zero]) | (refine seq_float (by rfl) (by rfl) (by rfl) ?_; intro K hK; go_big_quiet_op; go_big_quiet_on))
        refine seq_chain (by rfl) ?_
        intro K hK
        go_wp2_with fail
        (with_reducible refine (CD.out _).mono ?_); rintro e w6 ⟨rfl, hb6⟩
        have hs6 := hs5.trans (hb6.mono hs5.size)
        go_wp2_with fail
        refine hK.out _ _ (since hs6) ?_
        clear hK K
        repeat (first | (refine seq_skip (by rfl) (by rfl) ?_; simp only [Act.put, List.setIfInBounds_toArray, List.set_cons_succ, List.set_cons_zero]) | (refine seq_float (by rfl) (by rfl) (by rfl) ?_; intro K hK; go_big_quiet_op; go_big_quiet_on))
        refine seq_chain (by rfl) ?_
        intro K hK
        go_wp2_with fail
        (with_reducible refine (CE.out _).mono ?_); rintro e w7 ⟨rfl, hb7⟩
        have hs7 := hs6.trans (hb7.mono hs6.size)
        go_wp2_with fail
        refine hK.out _ _ (since hs7) ?_
        clear hK K
        repeat (first | (refine seq_skip (by rfl) (by rfl) ?_; simp only [Act.put, List.setIfInBounds_toArray, List.set_cons_succ, List.set_cons_zero]) | (refine seq_float (by rfl) (by rfl) (by rfl) ?_; intro K hK; go_big_quiet_op; go_big_quiet_on))
        refine seq_chain (by rfl) ?_
        intro K hK
        go_wp2_with fail
        go_wp2_with fail
        refine hK.out _ _ (since hs7) ?_
        clear hK K
        refine seq_nil ?_
        go_wp2_with fail
        have hw7 := hw4.trans ((hb.trans (hs7.mono hb.size)).mono hw4.size)
        go_wp2_with fail
        go_ret
        exact ⟨ret_string HST.out, hw7⟩
  have k3 : (o.kind == 3) = false := by simpa using kk
  have HV : Hid (S ++ bstr (putX o.data.data.toList) = bstr (encL o)) := lid (by unfold encL; rw [if_neg n2, if_neg kk, ← hS, bstr_append])
  have z1 : (bstr (putX o.data.data.toList)).size ≤ 60006 := by rw [bstr_size]; have := oputX_len o.data.data.toList; have h2 : o.data.data.toList.length ≤ 60000 := hds; omega
  have AM := lid HA.out.dsz
  clear kk n2 hS
  go_wp2_with fail
  (with_reducible refine (CT.out o.data _ AM.out).mono ?_); rintro e w3 ⟨rfl, hb3⟩
  have hw3 := hw2.trans (hb3.mono hw2.size)
  go_wp2_with fail
  go_ret
  exact ⟨ret_string HV.out, hw3⟩
end Go.Proofs.Ytmkdcnkbhnegnaa
