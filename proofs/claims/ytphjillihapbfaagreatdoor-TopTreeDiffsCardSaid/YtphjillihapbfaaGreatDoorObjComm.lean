/-
  Why a commit is not valid: object and its reference.
-/
import Derived.Test.YtphjillihapbfaaGreatDoorGrpF
namespace Go.Proofs.YtphjillihapbfaaGreatDoor
open Go.RowKit

/-- Why parents are not valid: s have been before. -/
def parsGo : List Dg → List Dg → Int
  | _, [] => 0
  | s, d :: l => if zeroB d = true then 1 else if decide (d ∈ s) = true then 7 else parsGo (s ++ [d]) l
theorem pars_zero {s l : List Dg} {d : Dg} (h : zeroB d = true) : parsGo s (d :: l) = 1 := by simp [parsGo, h]
theorem pars_twice {s l : List Dg} {d : Dg} (h : zeroB d = false) (hs : decide (d ∈ s) = true) : parsGo s (d :: l) = 7 := by unfold parsGo; rw [if_neg (by simp [h]), if_pos hs]
theorem pars_next {s l : List Dg} {d : Dg} (h : zeroB d = false) (hs : decide (d ∈ s) = false) : parsGo s (d :: l) = parsGo (s ++ [d]) l := by rw [parsGo, if_neg (by simp [h]), if_neg (by rw [hs]; decide)]
def commE (o : Ob) : Int :=
  if zeroB o.tree = true then 1
  else if 8 < o.pars.length then 4
  else if parsGo [] o.pars = 0 then (if nameB o.auth = true then (if o.time < 0 ∨ 1099511627776 < o.time then 2 else if 200 < o.msg.size then 4 else 0) else 6)
  else parsGo [] o.pars
/-- An object in memory. -/
structure ObjA (w : World) (ae : Option Addr) (ne : Nat) (ap : Option Addr) (np : Nat) (o : Ob) : Prop where
  elen : o.ents.length = ne
  es : Sl w 4 ae ne (ecells o.ents)
  emax : ne ≤ maxLen
  esz : ∀ e ∈ o.ents, e.1.size ≤ maxLen
  plen : o.pars.length = np
  ps : DSl w ap o.pars
  pmax : np ≤ maxLen
  dsz : o.data.size ≤ maxLen
  asz : o.auth.size ≤ maxLen
  msz : o.msg.size ≤ maxLen
theorem ObjA.below {w w' : World} {ae ap : Option Addr} {ne np : Nat} {o : Ob} (h : ObjA w ae ne ap np o) (hb : Below w.heap.size w w') : ObjA w' ae ne ap np o :=
  ⟨h.elen, h.es.below hb, h.emax, h.esz, h.plen, h.ps.below hb, h.pmax, h.dsz, h.asz, h.msz⟩
abbrev ocells (o : Ob) (ae : Option Addr) (ne ce : Nat) (ap : Option Addr) (np cp : Nat) : Array Value := #[.int .i64 o.kind, .string o.data, .slice ae ne ce, .int .u64 o.tree.1.toNat, .int .u64 o.tree.2.toNat, .slice ap np cp, .string o.auth, .int .i64 o.time, .string o.msg]
/-- The cells of an object in a box. -/
def OBox (w : World) (k : Nat) (o : Ob) (ae : Option Addr) (ne ce : Nat) (ap : Option Addr) (np cp : Nat) : Prop :=
  k < w.heap.size ∧ w.cell? ⟨k, 0, none⟩ = some (.int .i64 o.kind) ∧ w.cell? ⟨k, 1, none⟩ = some (.string o.data) ∧ w.cell? ⟨k, 2, none⟩ = some (.slice ae ne ce) ∧ w.cell? ⟨k, 3, none⟩ = some (.int .u64 o.tree.1.toNat) ∧ w.cell? ⟨k, 4, none⟩ = some (.int .u64 o.tree.2.toNat) ∧ w.cell? ⟨k, 5, none⟩ = some (.slice ap np cp) ∧ w.cell? ⟨k, 6, none⟩ = some (.string o.auth) ∧ w.cell? ⟨k, 7, none⟩ = some (.int .i64 o.time) ∧ w.cell? ⟨k, 8, none⟩ = some (.string o.msg)
theorem OBox.new (w : World) (o : Ob) (ae : Option Addr) (ne ce : Nat) (ap : Option Addr) (np cp : Nat) (t : TypeId) : OBox (w.alloc (.cells (ocells o ae ne ce ap np cp) t)) w.heap.size o ae ne ce ap np cp := by
  refine ⟨by simp, ?_, ?_, ?_, ?_, ?_, ?_, ?_, ?_, ?_⟩ <;> (rw [cell_new_at rfl]; rfl)
theorem OBox.below {w w' : World} {k : Nat} {o : Ob} {ae ap : Option Addr} {ne ce np cp : Nat} (h : OBox w k o ae ne ce ap np cp) (hb : Below w.heap.size w w') : OBox w' k o ae ne ce ap np cp := by
  obtain ⟨h0, h1, h2, h3, h4, h5, h6, h7, h8, h9⟩ := h
  exact ⟨Nat.lt_of_lt_of_le h0 hb.size, (bc hb h0 _).trans h1, (bc hb h0 _).trans h2, (bc hb h0 _).trans h3, (bc hb h0 _).trans h4, (bc hb h0 _).trans h5, (bc hb h0 _).trans h6, (bc hb h0 _).trans h7, (bc hb h0 _).trans h8, (bc hb h0 _).trans h9⟩
theorem DSl.take {w : World} {ao : Option Addr} {l : List Dg} (h : DSl w ao l) (k : Nat) : DSl w ao (l.take k) := by
  rcases h with h | ⟨b, off, e, hlt, hc⟩
  · exact .inl (by rw [List.length_take, h, Nat.min_zero])
  · exact .inr ⟨b, off, e, hlt, hc.take k⟩

set_option maxRecDepth 100000 in
set_option maxHeartbeats 16000000 in
theorem checkCommit_any (o : Ob) (ae ap : Option Addr) (ne ce np cp : Nat) (w : World) (h : ObjA w ae ne ap np o) (hc : np ≤ cp) :
    Calls Tryz.prog 96 #[.agg (ocells o ae ne ce ap np cp)] w fun e w' => e = .returned (.int .i64 (commE o)) ∧ Below w.heap.size w w' := by
  have hb0 := ba w (Obj.cells (ocells o ae ne ce ap np cp) 72)
  have HO0 := OBox.new w o ae ne ce ap np cp 72
  obtain ⟨W, hW⟩ : ∃ W, w.alloc (Obj.cells (ocells o ae ne ce ap np cp) 72) = W := ⟨_, rfl⟩
  rw [hW] at hb0 HO0
  have HA := lid (h.below hb0)
  have HW := lid hW
  have HO := lid HO0
  have HN := lid h.plen
  have nm' : np ≤ 9223372036854775807 := h.pmax
  have mm : o.msg.size ≤ 9223372036854775807 := HA.out.msz
  clear hW h HO0
  have HZS := lid (zeroB_spell o.tree)
  cases hz : zeroB o.tree with
  | true =>
    have HV : Hid (commE o = 1) := lid (by unfold commE; rw [if_pos hz])
    rw [hz] at HZS
    have z0 := HZS.out
    clear hz
    go_enter Tryz.func96, Tryz.ntmps96
    go_wp2_with fail
    go_ret
    exact ⟨ret_int' HV.out.symm, by rw [HW.out]; exact hb0⟩
  | false =>
  have HZ := lid hz
  rw [hz] at HZS
  have z0 := HZS.out
  clear hz
  by_cases h8 : 8 < np
  · have HV : Hid (commE o = 4) := lid (by unfold commE; rw [if_neg (by rw [HZ.out]; decide), if_pos (by rw [HN.out]; exact h8)])
    have d8 : decide ((8 : Int) < (np : Int)) = true := by simp; omega
    go_enter Tryz.func96, Tryz.ntmps96
    go_wp2_with fail
    go_ret
    exact ⟨ret_int' HV.out.symm, by rw [HW.out]; exact hb0⟩
  have HL8 : Hid (¬ 8 < o.pars.length) := lid (by rw [HN.out]; exact h8)
  have d8 : decide ((8 : Int) < (np : Int)) = false := by simp; omega
  have HCP : Hid (¬ parsGo [] o.pars = 0 → commE o = parsGo [] o.pars) := lid (fun h => by unfold commE; rw [if_neg (by rw [HZ.out]; decide), if_neg HL8.out, if_neg h])
  go_enter Tryz.func96, Tryz.ntmps96
  go_wp2_with fail
  rw [HW.out]
  clear HW
  go_loopw [3, 4, 16] (fun _ _ i wr => ∃ (k : Nat), k ≤ np ∧ i = .int .i64 k ∧ Hid (parsGo [] o.pars = parsGo (o.pars.take k) (o.pars.drop k)) ∧ Below W.heap.size W wr) (fun _ _ i _ => np - (intOf i).toNat)
  case atStart => exact ⟨0, Nat.zero_le _, rfl, lid rfl, Below.refl _ _⟩
  case round =>
    obtain ⟨k, hk, rfl, HG, hb⟩ := hrel
    have hwr := hb0.trans (hb.mono hb0.size)
    by_cases hlt : k < np
    · have hkl : k < o.pars.length := by rw [HN.out]; exact hlt
      obtain ⟨l0, c0, c1, c2, c3, c4, c5, c6, c7, c8⟩ := HO.out.below hb
      obtain ⟨b1, o1, rfl, hlb1, hd1⟩ := (HA.out.ps.below hb).resolve_left (by omega)
      obtain ⟨x0, x1⟩ := hd1 k hkl
      have HD := lid (List.drop_eq_getElem_cons hkl)
      have HT := lid (List.take_succ_eq_append_getElem hkl)
      have dk : decide ((k : Int) < (np : Int)) = true := by simp; omega
      have hkc : k ≤ cp := by omega
      clear hd1
      obtain ⟨d, hd⟩ : ∃ d, o.pars[k] = d := ⟨_, rfl⟩
      rw [hd] at x0 x1 HD HT
      clear hd
      have HZD := lid (zeroB_spell d)
      cases hzd : zeroB d with
      | true =>
        have HP : Hid (parsGo [] o.pars = 1) := lid (by rw [HG.out, HD.out]; exact pars_zero hzd)
        have HV : Hid (commE o = 1) := lid (by rw [HCP.out (by rw [HP.out]; decide), HP.out])
        rw [hzd] at HZD
        have z1 := HZD.out
        clear hzd
        go_wp2_with fail
        go_ret
        exact ⟨ret_int' HV.out.symm, hwr.trans ((ba _ _).mono hwr.size)⟩
      | false =>
        have HZD2 := lid hzd
        rw [hzd] at HZD
        have z1 := HZD.out
        clear hzd
        go_wp2_with fail
        obtain ⟨W2, hW2⟩ : ∃ W2, wr.alloc (Obj.cells #[.int .u64 d.1.toNat, .int .u64 d.2.toNat] 31) = W2 := ⟨_, rfl⟩
        have hb2 : Below wr.heap.size wr W2 := by rw [← hW2]; exact ba _ _
        obtain ⟨lD, y0, y1⟩ : DBox W2 wr.heap.size d := by rw [← hW2]; exact DBox.new wr d _
        have e5 := (bc hb2 l0 5).trans c5
        have l2 : w.heap.size < W2.heap.size := by have := hb2.size; omega
        have hw2 := hwr.trans (hb2.mono hwr.size)
        have CC := lid (fun w' (h : Below W2.heap.size W2 w') => Contains_any (o.pars.take k) d k cp (some ⟨b1, o1, none⟩) w' (by simp; omega) (by omega) ((((HA.out.ps.below hb).below hb2).below h).take k))
        rw [hW2]
        clear hW2 x0 x1 c0 c1 c2 c3 c4 c5 c6 c7 c8
        refine wp_region_seq (fun w' => ∃ s : Since W2.heap.size W2, w' = s.world) [(0, true), (1, true), (2, true), (3, true), (4, true), (5, false)] (by kernel_rfl) (by kernel_rfl) (by intro c d v a w h; first | (cases d <;> exact h) | cases h.1) (since (Below.refl _ _).drew) ?_
        repeat (first | (refine seq_skip (by rfl) (by rfl) ?_; simp only [Act.put, List.setIfInBounds_toArray, List.set_cons_succ, List.set_cons_zero]) | (refine seq_float (by rfl) (by rfl) (by rfl) ?_; intro K hK; go_big_quiet_op; go_big_quiet_on))
        refine seq_chain (by rfl) ?_
        intro K hK
        go_wp2_with fail
        (with_reducible refine (CC.out _ (Below.refl _ _).drew).mono ?_); rintro e w3 ⟨rfl, hb3⟩
        have h3 : Below W2.heap.size W2 w3 := (Below.refl _ _).drew.trans hb3
        have hw3 := hw2.trans (h3.mono hw2.size)
        cases hm : decide (d ∈ o.pars.take k) with
        | true =>
          have HP : Hid (parsGo [] o.pars = 7) := lid (by rw [HG.out, HD.out]; exact pars_twice HZD2.out hm)
          have HV : Hid (commE o = 7) := lid (by rw [HCP.out (by rw [HP.out]; decide), HP.out])
          clear hm
          go_wp2_with fail
          refine hK.out _ _ (since h3) ?_
          clear hK K
          repeat (first | (refine seq_skip (by rfl) (by rfl) ?_; simp only [Act.put, List.setIfInBounds_toArray, List.set_cons_succ, List.set_cons_zero]) | (refine seq_float (by rfl) (by rfl) (by rfl) ?_; intro K hK; go_big_quiet_op; go_big_quiet_on))
          refine seq_nil ?_
          go_wp2_with fail
          go_ret
          exact ⟨ret_int' HV.out.symm, hw3⟩
        | false =>
          have HP : Hid (parsGo [] o.pars = parsGo (o.pars.take (k + 1)) (o.pars.drop (k + 1))) := lid (by rw [HG.out, HD.out, pars_next HZD2.out hm, HT.out])
          clear hm
          go_wp2_with fail
          refine hK.out _ _ (since h3) ?_
          clear hK K
          repeat (first | (refine seq_skip (by rfl) (by rfl) ?_; simp only [Act.put, List.setIfInBounds_toArray, List.set_cons_succ, List.set_cons_zero]) | (refine seq_float (by rfl) (by rfl) (by rfl) ?_; intro K hK; go_big_quiet_op; go_big_quiet_on))
          refine seq_nil ?_
          go_wp2_with fail
          go_roundw
          case rel => exact ⟨k + 1, by omega, by go_num, HP, hb.trans ((hb2.trans (h3.mono hb2.size)).mono hb.size)⟩
          case measure => simp [intOf]; omega
    · obtain rfl : k = np := by omega
      have HP0 : Hid (parsGo [] o.pars = 0) := lid (by rw [HG.out, List.drop_eq_nil_of_le (by rw [HN.out]; exact Nat.le_refl _)]; rfl)
      have HOX := HO.out.below hb
      obtain ⟨l0, c0, c1, c2, c3, c4, c5, c6, c7, c8⟩ := HOX
      have HOX := HO.out.below hb
      go_wp2_with fail
      (with_reducible refine (valid_any o.auth _ HA.out.asz).mono ?_); rintro e wv ⟨rfl, rfl⟩
      cases hB : nameB o.auth with
      | false =>
        have HV : Hid (commE o = 6) := lid (by unfold commE; rw [if_neg (by rw [HZ.out]; decide), if_neg HL8.out, if_pos HP0.out, if_neg (by rw [hB]; decide)])
        clear hB
        go_wp2_with fail
        go_ret
        exact ⟨ret_int' HV.out.symm, hwr⟩
      | true =>
        have HC1 : Hid (commE o = if o.time < 0 ∨ 1099511627776 < o.time then 2 else if 200 < o.msg.size then 4 else 0) := lid (by unfold commE; rw [if_neg (by rw [HZ.out]; decide), if_neg HL8.out, if_pos HP0.out, if_pos hB])
        clear hB
        by_cases t0 : o.time < 0
        · have HV : Hid (commE o = 2) := lid (by rw [HC1.out, if_pos (.inl t0)])
          have d0 : decide (o.time < 0) = true := decide_eq_true t0
          go_wp2_with fail
          go_ret
          exact ⟨ret_int' HV.out.symm, hwr⟩
        have d0 : decide (o.time < 0) = false := decide_eq_false t0
        by_cases t1 : 1099511627776 < o.time
        · have HV : Hid (commE o = 2) := lid (by rw [HC1.out, if_pos (.inr t1)])
          have d1 : decide (1099511627776 < o.time) = true := decide_eq_true t1
          clear t1
          go_wp2_with fail
          go_ret
          exact ⟨ret_int' HV.out.symm, hwr⟩
        have d1 : decide (1099511627776 < o.time) = false := decide_eq_false t1
        have HC2 : Hid (commE o = if 200 < o.msg.size then 4 else 0) := lid (by rw [HC1.out, if_neg (by rintro (h | h); exact t0 h; exact t1 h)])
        clear t1 HC1
        by_cases t2 : 200 < o.msg.size
        · have HV : Hid (commE o = 4) := lid (by rw [HC2.out, if_pos t2])
          have d2 : decide ((200 : Int) < (o.msg.size : Int)) = true := by simp; omega
          go_wp2_with fail
          go_ret
          exact ⟨ret_int' HV.out.symm, hwr⟩
        · have HV : Hid (commE o = 0) := lid (by rw [HC2.out, if_neg t2])
          have d2 : decide ((200 : Int) < (o.msg.size : Int)) = false := by simp; omega
          go_wp2_with fail
          go_ret
          exact ⟨ret_int' HV.out.symm, hwr⟩

end Go.Proofs.YtphjillihapbfaaGreatDoor
