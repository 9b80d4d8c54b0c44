/-
  Ballots: quorum.Vote.
-/
import Derived.Test.YtcpnpcbaifagbaaQuoPlain
namespace Go.Proofs.Ytcpnpcbaifagbaa
open Go.RowKit
theorem Else.va {w w' : World} {v : Value} {r : Rw} (h : Else w w' v) (hs : w.heap.size ≤ w'.heap.size) (hV : VA w r.ao r.vs.length r.cap r.vs) (hn : ∀ b o, r.ao = some ⟨b, o, none⟩ → some b ≠ v.ownBlock ∨ r.vs.length = 0) : VA w' r.ao r.vs.length r.cap r.vs := by
  refine ⟨hV.len, ⟨hV.sl.1, ?_⟩, hV.le, hV.max, hV.z, hV.sz⟩
  rcases hV.sl.2 with h0 | ⟨b, o, e, hb, hc⟩
  · exact .inl h0
  · rcases hn b o e with hne | h0
    · refine .inr ⟨b, o, e, by omega, fun j u hu => ?_⟩
      rw [← hc j u hu]
      exact World.cell?_of_block (w := w) (a := ⟨b, o + j, none⟩) (h b hb hne)
    · exact .inl h0
/-- What stood before the row was made does not lie in it. -/
theorem far {w w1 : World} {base : Nat} {e : TypeId} {size : Nat} {v : Value} {n : Nat} {xs : List Value} (h : w1.ownsRow base e size v n xs) (hb : w.heap.size ≤ base) {r : Rw} (hV : VA w r.ao r.vs.length r.cap r.vs) : ∀ b o, r.ao = some ⟨b, o, none⟩ → some b ≠ v.ownBlock ∨ r.vs.length = 0 := by
  intro b o e
  rcases hV.sl.2 with h0 | ⟨b', o', e', hb', _⟩
  · exact .inr h0
  · rw [e'] at e
    cases e
    refine .inl fun e2 => ?_
    have := ownsRow_row h b e2.symm
    omega

set_option maxRecDepth 100000 in
set_option maxHeartbeats 16000000 in
theorem Vote_any (l : List Rw) (n cap : Nat) (ao : Option Addr) (k : Dg) (wk o : ByteArray) (w : World) (hm : n ≤ 100000) (h : BA w ao n cap l) (hv : ∀ r ∈ l, r.vs.length ≤ 100000) (hwk : wk.size ≤ maxLen) (ho : o.size ≤ maxLen) :
    Calls Try.prog 12 #[.slice ao n cap, dv k, .string wk, .string o] w fun e w' => ∃ (l' : List Rw) (ao' : Option Addr) (n' cap' : Nat), e = .returned (.tuple #[.slice ao' n' cap', .int .i64 (voteE (l.map Rw.bal) k wk o)]) ∧ BA w' ao' n' cap' l' ∧ l'.map Rw.bal = voteL (l.map Rw.bal) k wk o ∧ Below w.heap.size w w' := by
  have HB := lid h
  have HVS := lid hv
  have hsw : wk.size ≤ 9223372036854775807 := hwk
  have hso : o.size ≤ 9223372036854775807 := ho
  have HWK := lid hwk
  have HOS := lid ho
  have KB : Hid ((w.alloc (.cells #[.int .u64 k.1.toNat, .int .u64 k.2.toNat] 25)).heap[w.heap.size]? = some (.cells #[.int .u64 k.1.toNat, .int .u64 k.2.toNat] 25 (0, 0))) := lid (heap_alloc_new _ _)
  have CK := lid (Check_any l n cap ao (w.alloc (.cells #[.int .u64 k.1.toNat, .int .u64 k.2.toNat] 25)) (by omega) (h.below (ba _ _)) (fun r hr => by have := hv r hr; omega))
  clear h hv hwk ho
  unfold dv
  go_enter Try.func12, Try.ntmps12
  go_wp2_with fail
  by_cases hck : checkB (l.map Rw.bal) = 0
  case neg =>
    have HE := lid (voteE_check (k := k) (wk := wk) (o := o) hck)
    obtain ⟨c, hc⟩ : ∃ c, checkB (l.map Rw.bal) = c := ⟨_, rfl⟩
    rw [hc] at CK hck
    have d1 : (c == 0) = false := by simpa using hck
    have d2 : (c != 0) = true := by simpa using hck
    clear hc hck
    (with_reducible refine (CK.out).mono ?_); rintro e w1 ⟨rfl, hb1⟩
    go_wp2_with fail
    go_ret2
    exact ⟨[], none, 0, 0, by rw [HE.out]; rfl, BA.nil, by rw [vote_bad HE.out (by decide)]; rfl, (ba _ _).trans (hb1.mono (by simp))⟩
  have HCK := lid hck
  rw [hck] at CK
  clear hck
  (with_reducible refine (CK.out).mono ?_); rintro e w1 ⟨rfl, hb1⟩
  clear CK
  have hk0 : w.heap.size < w1.heap.size := by have := hb1.size; simp at this; omega
  replace KB := lid ((hb1.block _ (by simp)).trans KB.out)
  have hb := (ba w (.cells #[.int .u64 k.1.toNat, .int .u64 k.2.toNat] 25)).trans (hb1.mono (by simp))
  clear hb1
  cases hw : workerB wk with
  | false =>
    have HE := lid (voteE_worker (k := k) (o := o) HCK.out hw)
    have CW := lid (isWorker_any wk w1 HWK.out)
    rw [hw] at CW
    clear hw
    go_wp2_with fail
    (with_reducible refine (CW.out).mono ?_); rintro e w2 ⟨rfl, rfl⟩
    go_wp2_with fail
    go_ret2
    exact ⟨[], none, 0, 0, by rw [HE.out]; rfl, BA.nil, by rw [vote_bad HE.out (by decide)]; rfl, hb⟩
  | true =>
    have HW := lid hw
    have CW := lid (isWorker_any wk w1 HWK.out)
    rw [hw] at CW
    clear hw
    by_cases hz : 65536 < o.size
    · have HE := lid (voteE_limit (k := k) HCK.out HW.out hz)
      have dz : decide ((65536 : Int) < (o.size : Int)) = true := by simp; omega
      clear hz
      go_wp2_with fail
      (with_reducible refine (CW.out).mono ?_); rintro e w2 ⟨rfl, rfl⟩
      go_wp2_with fail
      go_ret2
      exact ⟨[], none, 0, 0, by rw [HE.out]; rfl, BA.nil, by rw [vote_bad HE.out (by decide)]; rfl, hb⟩
    have HZ := lid hz
    have dz : decide ((65536 : Int) < (o.size : Int)) = false := by simp; omega
    clear hz
    have HBO := lid (checkB_ok.1 HCK.out)
    have HSR := lid (srtR_of HBO.out)
    have p0 := row_cell KB.out 0
    have p1 := row_cell KB.out 1
    go_wp2_with fail
    (with_reducible refine (CW.out).mono ?_); rintro e w1 ⟨rfl, rfl⟩
    clear CW
    go_wp2_with fail
    obtain ⟨W2, hW2⟩ : ∃ y, w1.alloc (.cells #[.string wk, .string o] 27) = y := ⟨_, rfl⟩
    rw [hW2]
    have VB : Hid (W2.heap[w1.heap.size]? = some (.cells #[.string wk, .string o] 27 (0, 0))) := lid (by rw [← hW2]; exact heap_alloc_new _ _)
    have hb2 : Below w1.heap.size w1 W2 := by rw [← hW2]; exact ba _ _
    have hv0 : w1.heap.size < W2.heap.size := by rw [← hW2]; simp
    clear hW2 p0 p1
    replace KB := lid ((hb2.block _ hk0).trans KB.out)
    replace hb := hb.trans (hb2.mono hb.size)
    clear hb2
    have CF := lid (find_any l n cap ao k W2 (by omega) (HB.out.below hb) HSR.out)
    (with_reducible refine (CF.out).mono ?_); rintro e w3 ⟨rfl, hpn, hb3⟩
    clear CF
    replace KB := lid ((hb3.block _ (by omega)).trans KB.out)
    replace VB := lid ((hb3.block _ hv0).trans VB.out)
    replace hb := hb.trans (hb3.mono hb.size)
    have hv1 : w1.heap.size < w3.heap.size := by have := hb3.size; omega
    clear hb3 hv0
    have CC := lid (Clone_ballot l n cap ao w3 HB.out.len (HB.out.below hb).sl HB.out.z (by omega))
    go_wp2_with fail
    (with_reducible refine (CC.out).mono ?_); rintro e w4 ⟨vr, rfl, hR, hb4⟩
    clear CC
    replace KB := lid ((hb4.block _ (by omega)).trans KB.out)
    replace VB := lid ((hb4.block _ hv1).trans VB.out)
    have HBA3 := lid (HB.out.below hb)
    replace hb := hb.trans (hb4.mono hb.size)
    have HBA := lid (HBA3.out.below hb4)
    have hb3c := hb4
    have HRW := lid hR
    have hv2 : w1.heap.size < w4.heap.size := by have := hb4.size; omega
    have h34 := hb4.size
    clear hb4 hR
    obtain ⟨aor, capr, rfl⟩ := own_slice HRW.out
    cases hh : hitR l k with
    | false =>
      have HA : Hid (aboutB (l.map Rw.bal) k = []) := lid (about_none hh)
      have HE : Hid (voteE (l.map Rw.bal) k wk o = 0) := lid (voteE_ok HCK.out HW.out HZ.out (by rw [HA.out]; rfl))
      have HL : Hid (voteL (l.map Rw.bal) k wk o = (l.take (posR l k)).map Rw.bal ++ (k, [(wk, o)]) :: (l.drop (posR l k)).map Rw.bal) := lid (by rw [vote_good HE.out, HA.out, put_new hh]; rfl)
      clear hh
      obtain ⟨i, hi⟩ : ∃ i, posR l k = i := ⟨_, rfl⟩
      rw [hi] at hpn HL ⊢
      clear hi
      have p0 := row_cell KB.out 0
      have p1 := row_cell KB.out 1
      have v0 := row_cell VB.out 0
      have v1 := row_cell VB.out 1
      go_wp2_with fail
      obtain ⟨W5, hW5⟩ : ∃ y, w4.alloc (.cells #[.string wk, .string o] 27) = y := ⟨_, rfl⟩
      obtain ⟨W6, hW6⟩ : ∃ y, W5.alloc (.cells #[.int .u64 k.1.toNat, .int .u64 k.2.toNat, .slice (some ⟨w4.heap.size, 0, none⟩) 1 1] 61) = y := ⟨_, rfl⟩
      have e5 : W5.heap.size = w4.heap.size + 1 := by rw [← hW5]; simp
      have hXB : W6.heap[W5.heap.size]? = some (.cells (rwc ⟨k, [(wk, o)], some ⟨w4.heap.size, 0, none⟩, 1⟩) 61 (0, 0)) := by rw [← hW6]; exact heap_alloc_new _ _
      have hVB : W6.heap[w4.heap.size]? = some (.cells (vtc (wk, o)) 27 (0, 0)) := by
        rw [← hW6, Below.heap_alloc _ _ _ (by omega), ← hW5]
        exact heap_alloc_new _ _
      have hb6 : Below w4.heap.size w4 W6 := by rw [← hW6, ← hW5]; exact ba2 _ _ _
      have hs6 : w4.heap.size + 1 < W6.heap.size := by rw [← hW6]; simp; omega
      rw [e5] at hXB
      have HR6 := lid (ownsRow_below HRW.out hb6)
      have hne : (Value.slice aor n capr).ownBlock ≠ some (w4.heap.size + 1) := fun e => by have := (HRW.out.lt _ e).2; omega
      have CI := lid (Insert_ballot l _ n i ⟨k, [(wk, o)], some ⟨w4.heap.size, 0, none⟩, 1⟩ w3.heap.size (w4.heap.size + 1) W6 HB.out.len (by omega) HR6.out (by omega) hpn hXB hne)
      rw [hW5] at *
      rw [e5] at *
      rw [hW6] at *
      have HBA6 := lid (HBA.out.below hb6)
      have HVA6 : Hid (VA W6 (some ⟨w4.heap.size, 0, none⟩) 1 1 [(wk, o)]) := lid ⟨rfl, ⟨rfl, .inr ⟨w4.heap.size, 0, rfl, row_lt hVB, fun j u hu => by rw [Nat.zero_add, row_cell hVB]; simpa [vcells] using hu⟩⟩, Nat.le_refl _, by simp [maxLen], fun e => (by cases e), fun v hv => by rw [List.mem_singleton.1 hv]; exact ⟨HWK.out, HOS.out⟩⟩
      have hown4 : some w4.heap.size ≠ (Value.slice aor n capr).ownBlock := fun e => by have := (HRW.out.lt _ e.symm).2; omega
      clear hW5 hW6 e5 hXB hVB p0 p1 v0 v1 hne
      have h6 : w.heap.size ≤ W6.heap.size := by have := hb.size; omega
      have hbb := hb.trans (hb6.mono hb.size)
      clear hb hb6 hb3c
      (with_reducible refine (CI.out).mono ?_); rintro e w7 ⟨v7, rfl, hown7, hb7, hel⟩
      have HEL := lid hel
      have HOW := lid hown7
      have h67 : W6.heap.size ≤ w7.heap.size := hb7.size
      obtain ⟨ao7, cap7, rfl⟩ := own_slice hown7
      clear hown7 hel CI
      go_wp2_with fail
      go_ret2
      have hok : ∀ r ∈ l.take i ++ ⟨k, [(wk, o)], some ⟨w4.heap.size, 0, none⟩, 1⟩ :: l.drop i, VA w7 r.ao r.vs.length r.cap r.vs := by
        intro r hr
        rcases List.mem_append.1 hr with hr | hr
        · exact HEL.out.va h67 (HBA6.out.ok r (List.mem_of_mem_take hr)) (far HRW.out (Nat.le_refl _) (HBA3.out.ok r (List.mem_of_mem_take hr)))
        · rcases List.mem_cons.1 hr with rfl | hr
          · exact HEL.out.va h67 HVA6.out (fun b o e => by cases e; exact .inl hown4)
          · exact HEL.out.va h67 (HBA6.out.ok r (List.mem_of_mem_drop hr)) (far HRW.out (Nat.le_refl _) (HBA3.out.ok r (List.mem_of_mem_drop hr)))
      obtain ⟨ao8, cap8, e8, hBA⟩ := BA.of_own HOW.out hok
      cases e8
      exact ⟨_, _, _, _, by rw [HE.out]; rfl, hBA, by rw [HL.out]; simp [Rw.bal], hbb.trans (hb7.mono (by omega))⟩
    | true =>
      have HRW4 := lid HRW.out
      obtain ⟨hp, hk⟩ := posR_hit HSR.out hh
      have HA : Hid (aboutB (l.map Rw.bal) k = (l[posR l k]).vs) := lid (about_some HSR.out hp hk)
      have HPS : Hid (∀ x : Rw, x.key = k → (l.set (posR l k) x).map Rw.bal = putB (l.map Rw.bal) k x.vs) := lid (fun x hx => put_set hp hk hx)
      have HCS : Hid (∀ x : Rw, x.key = k → (rcells l).set (posR l k * 3 + 2) (.slice x.ao x.vs.length x.cap) = rcells (l.set (posR l k) x)) := lid (fun x hx => rcells_set hp (hk.trans hx.symm))
      have HVX := lid (HBA.out.ok _ (List.getElem_mem hp))
      have hxs := HVS.out _ (List.getElem_mem hp)
      have HOX : Hid (VOk (l[posR l k]).vs) := lid ((HBO.out.ok (l[posR l k]).bal (List.mem_map.2 ⟨_, List.getElem_mem hp, rfl⟩)).2)
      have hpn2 : posR l k < n := by rw [← HB.out.len]; exact hp
      obtain ⟨b1, o1, e1, hlb, hcell⟩ := HBA.out.sl.at_ hpn2
      subst e1
      have x2 := hcell _ _ (rcells_at hp).2.2
      rw [← Nat.add_assoc] at x2
      obtain ⟨x, hx⟩ : ∃ x, l[posR l k] = x := ⟨_, rfl⟩
      rw [hx] at x2 HA HVX HOX hxs
      clear hh
      obtain ⟨i, hi⟩ : ∃ i, posR l k = i := ⟨_, rfl⟩
      rw [hi] at hpn2 HPS HCS x2 ⊢
      have hil : i < l.length := by rw [← hi]; exact hp
      clear hcell hx hi hpn hp hk
      obtain ⟨m, hmx⟩ : ∃ m, x.vs.length = m := ⟨_, rfl⟩
      rw [hmx] at x2 HVX hxs
      have HM := lid hmx
      clear hmx
      have CC := lid (Clone_vote x.vs m x.cap x.ao w4 HM.out HVX.out.sl HVX.out.z (by omega))
      go_wp2_with fail
      (with_reducible refine (CC.out).mono ?_); rintro e w5 ⟨vr2, rfl, hR2, hb5⟩
      clear CC x2
      replace KB := lid ((hb5.block _ (by omega)).trans KB.out)
      replace VB := lid ((hb5.block _ hv2).trans VB.out)
      replace HRW := lid (ownsRow_below HRW.out hb5)
      replace HBA := lid (HBA.out.below hb5)
      have HR2 := lid hR2
      have h45 := hb5.size
      replace hb := hb.trans (hb5.mono hb.size)
      replace hb3c := hb3c.trans (hb5.mono hb3c.size)
      have hv3 : w1.heap.size < w5.heap.size := by omega
      have hown5 : ∀ g, (Value.slice aor n capr).ownBlock = some g → g < w4.heap.size := fun g e => (HRW4.out.lt g e).2
      obtain ⟨ao2, cap2, rfl⟩ := own_slice hR2
      clear hb5 hR2
      have CB := lid (BSearch_votes x.vs m cap2 ao2 wk w5 HM.out (by omega) (own_sl HR2.out) (srtV_of HOX.out))
      go_wp2_with fail
      cases hx : hasV x.vs wk with
      | true =>
        have HE := lid (voteE_exists (o := o) HCK.out HW.out HZ.out (by rw [HA.out]; exact hx))
        rw [hx] at CB
        clear hx
        (with_reducible refine (CB.out).mono ?_); rintro e w6 ⟨rfl, hq, hb6⟩
        clear hq
        go_wp2_with fail
        go_ret2
        exact ⟨[], none, 0, 0, by rw [HE.out]; rfl, BA.nil, by rw [vote_bad HE.out (by decide)]; rfl, hb.trans (hb6.mono hb.size)⟩
      | false =>
        have HE := lid (voteE_ok (k := k) HCK.out HW.out HZ.out (by rw [HA.out]; exact hx))
        have HL : Hid (voteL (l.map Rw.bal) k wk o = putB (l.map Rw.bal) k (x.vs.take (posV x.vs wk) ++ (wk, o) :: x.vs.drop (posV x.vs wk))) := lid (by rw [vote_good HE.out, HA.out, insV_at])
        rw [hx] at CB
        clear hx
        (with_reducible refine (CB.out).mono ?_); rintro e w6 ⟨rfl, hq, hb6⟩
        obtain ⟨j, hj⟩ : ∃ j, posV x.vs wk = j := ⟨_, rfl⟩
        rw [hj] at hq HL ⊢
        clear hj CB
        replace KB := lid ((hb6.block _ (by omega)).trans KB.out)
        replace VB := lid ((hb6.block _ hv3).trans VB.out)
        replace HRW := lid (ownsRow_below HRW.out hb6)
        replace HR2 := lid (ownsRow_below HR2.out hb6)
        replace HBA := lid (HBA.out.below hb6)
        have h56 := hb6.size
        replace hb := hb.trans (hb6.mono hb.size)
        replace hb3c := hb3c.trans (hb6.mono hb3c.size)
        clear hb6
        have v0 := row_cell VB.out 0
        have v1 := row_cell VB.out 1
        go_wp2_with fail
        obtain ⟨W7, hW7⟩ : ∃ y, w6.alloc (.cells #[.string wk, .string o] 27) = y := ⟨_, rfl⟩
        have hXB : W7.heap[w6.heap.size]? = some (.cells (vtc (wk, o)) 27 (0, 0)) := by rw [← hW7]; exact heap_alloc_new _ _
        have hb7 : Below w6.heap.size w6 W7 := by rw [← hW7]; exact ba _ _
        have hs7 : w6.heap.size < W7.heap.size := by rw [← hW7]; simp
        have HR7 := lid (ownsRow_below HR2.out hb7)
        have hne : (Value.slice ao2 m cap2).ownBlock ≠ some w6.heap.size := fun e => by have := (HR2.out.lt _ e).2; omega
        have CI := lid (Insert_vote x.vs _ m j (wk, o) w4.heap.size w6.heap.size W7 HM.out (by omega) HR7.out (by omega) hq hXB hne)
        rw [hW7]
        replace HRW := lid (ownsRow_below HRW.out hb7)
        replace HBA := lid (HBA.out.below hb7)
        replace hb := hb.trans (hb7.mono hb.size)
        replace hb3c := hb3c.trans (hb7.mono hb3c.size)
        clear hW7 hXB v0 v1 hne hb7 HR2 HR7
        (with_reducible refine (CI.out).mono ?_); rintro e w8 ⟨v8, rfl, hown8, hb8, hel⟩
        clear hel CI
        have HOW := lid hown8
        have HSZ : Hid (∀ v ∈ x.vs.take j ++ (wk, o) :: x.vs.drop j, v.1.size ≤ maxLen ∧ v.2.size ≤ maxLen) := lid (fun v hv => by
          rcases List.mem_append.1 hv with hv | hv
          · exact HVX.out.sz v (List.mem_of_mem_take hv)
          · rcases List.mem_cons.1 hv with rfl | hv
            · exact ⟨HWK.out, HOS.out⟩
            · exact HVX.out.sz v (List.mem_of_mem_drop hv))
        obtain ⟨ao8, cap8, rfl, HV8⟩ := VA.of_own hown8 HSZ.out
        have hle : (x.vs.take j ++ (wk, o) :: x.vs.drop j).length = m + 1 := HV8.len
        obtain ⟨g, e8, hgl⟩ : ∃ g, aor = some ⟨g, 0, none⟩ ∧ g < w4.heap.size := by
          rcases HRW.out.2 with ⟨hv, h0⟩ | ⟨g, cap', cur, hv, hg, hcur, _⟩
          · exfalso
            have := HRW.out.1
            rw [h0, rcells_length] at this
            simp at this
            have e := HB.out.len
            omega
          · cases hv
            exact ⟨g, rfl, hown5 g rfl⟩
        subst e8
        have HRW8 : Hid (w8.ownsRow w3.heap.size 61 3 (.slice (some ⟨g, 0, none⟩) n capr) n (rcells l)) := lid (ownsRow_kept HRW.out (fun g' e => hb8.block g' (by cases e; exact hgl)))
        have hgf := (HRW8.out.lt g rfl).1
        have HLE : Hid ((x.vs.take j ++ (wk, o) :: x.vs.drop j).length = m + 1) := lid hle
        obtain ⟨x', hx'⟩ : ∃ y : Rw, (⟨k, x.vs.take j ++ (wk, o) :: x.vs.drop j, ao8, cap8⟩ : Rw) = y := ⟨_, rfl⟩
        have HRS : Hid ((w8.setCell ⟨g, i * 3 + 2, none⟩ (.slice ao8 (m + 1) cap8)).ownsRow w3.heap.size 61 3 (.slice (some ⟨g, 0, none⟩) n capr) n (rcells (l.set i x'))) := lid (by
          have h1 := own_setCell (j := i * 3 + 2) (u := .slice ao8 (m + 1) cap8) HRW8.out
          have h2 := HCS.out x' (by rw [← hx'])
          rw [← h2, ← hx', hle]
          exact h1)
        have HPX : Hid ((l.set i x').map Rw.bal = putB (l.map Rw.bal) k (x.vs.take j ++ (wk, o) :: x.vs.drop j)) := lid (by rw [HPS.out x' (by rw [← hx']), ← hx'])
        have HVX' : Hid (VA (w8.setCell ⟨g, i * 3 + 2, none⟩ (.slice ao8 (m + 1) cap8)) x'.ao x'.vs.length x'.cap x'.vs) := lid (by
          have h1 := own_other HOW.out (X := g) (fun g' e => by have := ownsRow_row HOW.out g' e; omega) (i * 3 + 2) (.slice ao8 (m + 1) cap8)
          obtain ⟨ao9, cap9, e9, h2⟩ := VA.of_own h1 HSZ.out
          cases e9
          rw [← hx', hle]
          exact h2)
        have hb9 := (hb3c.trans (hb8.mono (by omega))).setCell (p := ⟨g, i * 3 + 2, none⟩) hgf (.slice ao8 (m + 1) cap8)
        have hbw := (hb.trans (hb8.mono (by omega))).setCell (p := ⟨g, i * 3 + 2, none⟩) (show w.heap.size ≤ g by omega) (.slice ao8 (m + 1) cap8)
        have HBA9 : Hid (BA (w8.setCell ⟨g, i * 3 + 2, none⟩ (.slice ao8 (m + 1) cap8)) (some ⟨g, 0, none⟩) n capr (l.set i x')) := lid (by
          obtain ⟨ao9, cap9, e9, h2⟩ := BA.of_own HRS.out (fun r hr => by
            rcases List.mem_or_eq_of_mem_set hr with hr | rfl
            · exact (HBA3.out.ok r hr).below hb9
            · exact HVX'.out)
          cases e9
          exact h2)
        obtain ⟨c8, hc8, hz8⟩ : ∃ u, w8.cell? ⟨g, i * 3 + 2, none⟩ = some u ∧ w8.frozen? ⟨g, i * 3 + 2, none⟩ = false := by
          rcases HRW8.out.2 with ⟨hv, _⟩ | ⟨g', cap', cur, hv, _, hcur, hnc, _, hsz, _⟩
          · cases hv
          · cases hv
            have := Nat.mul_le_mul_right 3 hnc
            exact ⟨cur[i * 3 + 2]'(by omega), by rw [row_cell hcur, Array.getElem?_eq_getElem (by omega)], row_fz hcur _⟩
        have hgl8 : g < w8.heap.size := (HRW8.out.lt g rfl).2
        clear hb hb3c hb8 hb9 hown8 hle hx' HV8 hown5
        go_wp2_with fail
        go_ret2
        exact ⟨_, _, _, _, by rw [HE.out]; rfl, HBA9.out, by rw [HPX.out, HL.out], hbw⟩
end Go.Proofs.Ytcpnpcbaifagbaa
