/-
  Why an object is not valid, apart from its size: the reference's only and fields.
-/
import Derived.Test.YtmkdcnkbhnegnaaObjChk
namespace Go.Proofs.Ytmkdcnkbhnegnaa
open Go.RowKit

def onlyB (o : Ob) : Bool := if ((o.kind = 2 ∨ o.kind = 3) ∧ hasD o = true) ∨ (o.kind ≠ 2 ∧ hasE o = true) then false else decide (o.kind = 3) || !hasC o

set_option maxRecDepth 100000 in
set_option maxHeartbeats 64000000 in
theorem only_any (o : Ob) (ae ap : Option Addr) (ne ce np cp : Nat) (w : World) (h : ObjA w ae ne ap np o) :
    Calls Try.prog 44 #[.agg (ocells o ae ne ce ap np cp)] w fun e w' => e = .returned (.bool (onlyB o)) ∧ Below w.heap.size w w' := by
  have hb0 := ba w (Obj.cells (ocells o ae ne ce ap np cp) 28)
  have HO0 := OBox.new w o ae ne ce ap np cp 28
  obtain ⟨W, hW⟩ : ∃ W, w.alloc (Obj.cells (ocells o ae ne ce ap np cp) 28) = W := ⟨_, rfl⟩
  rw [hW] at hb0 HO0
  have HW := lid hW
  have HO := lid HO0
  have HN := lid h.plen
  have HM := lid h.elen
  have nm' : np ≤ 9223372036854775807 := h.pmax
  have mm' : ne ≤ 9223372036854775807 := h.emax
  have SD := lid (emptyB_spell o.data)
  have SA := lid (emptyB_spell o.auth)
  have SM := lid (emptyB_spell o.msg)
  have CZ := lid (fun d w => zero_any d w)
  have HEN := lid HW.out
  clear hW HO0 h
  have O1 := HO.out
  obtain ⟨l0, c0, c1, c2, c3, c4, c5, c6, c7, c8⟩ := O1
  by_cases kk : o.kind = 2
  · have k2 : (o.kind == 2) = true := by simpa using kk
    have k3 : (o.kind == 3) = false := by rw [kk]; rfl
    cases hD : emptyB o.data with
    | false =>
      have fD : hasD o = true := by unfold hasD; rw [hD]; rfl
      have uD := SD.out
      rw [hD] at uD
      clear c0 c1 c2 c3 c4 c5 c6 c7 c8 l0
      have HV : Hid (onlyB o = false) := lid (by simp [onlyB, kk, fD])
      go_enter Try.func44, Try.ntmps44
      go_wp2_with fail
      rw [HW.out]
      go_ret
      exact ⟨ret_bool' HV.out.symm, hb0⟩
    | true =>
    have fD : hasD o = false := by unfold hasD; rw [hD]; rfl
    have uD := SD.out
    rw [hD] at uD
    rw [← HW.out] at c3 c4
    go_enter Try.func44, Try.ntmps44
    go_wp2_with fail
    rw [HW.out]
    clear HW HEN c0 c1 c2 c3 c4 c5 c6 c7 c8
    (with_reducible refine (CZ.out o.tree _).mono ?_); rintro e w2 ⟨rfl, hb2⟩
    have hw2 := hb0.trans (hb2.mono hb0.size)
    obtain ⟨l2, c0, c1, c2, c3, c4, c5, c6, c7, c8⟩ := HO.out.below hb2
    clear c0 c1 c2 c3 c4 l0
    cases hZ : zeroB o.tree with
    | false =>
      have fC : hasC o = true := by unfold hasC; rw [hZ]; rfl
      have HV : Hid (onlyB o = false) := lid (by simp [onlyB, kk, fD, fC])
      clear hZ
      go_wp2_with fail
      go_ret
      exact ⟨ret_bool' HV.out.symm, hw2⟩
    | true =>
    by_cases hP : 0 < np
    · have fC : hasC o = true := by unfold hasC; rw [HN.out, decide_eq_true hP]; simp
      have uP : ((np : Int) == 0) = false := by simp; omega
      have uP' : (np == 0) = false := by simp; omega
      have HV : Hid (onlyB o = false) := lid (by simp [onlyB, kk, fD, fC])
      clear hZ
      go_wp2_with fail
      go_ret
      exact ⟨ret_bool' HV.out.symm, hw2⟩
    have uP : ((np : Int) == 0) = true := by simp; omega
    have uP' : (np == 0) = true := by simp; omega
    cases hAu : emptyB o.auth with
    | false =>
      have fC : hasC o = true := by unfold hasC; rw [hAu]; simp
      have uA := SA.out
      rw [hAu] at uA
      have HV : Hid (onlyB o = false) := lid (by simp [onlyB, kk, fD, fC])
      clear hZ hAu
      go_wp2_with fail
      go_ret
      exact ⟨ret_bool' HV.out.symm, hw2⟩
    | true =>
    have uA := SA.out
    rw [hAu] at uA
    by_cases tz : o.time = 0
    case neg =>
      have fC : hasC o = true := by unfold hasC; rw [decide_eq_false tz]; simp
      have uT : (o.time == 0) = false := by simpa using tz
      have HV : Hid (onlyB o = false) := lid (by simp [onlyB, kk, fD, fC])
      clear hZ hAu
      go_wp2_with fail
      go_ret
      exact ⟨ret_bool' HV.out.symm, hw2⟩
    have uT : (o.time == 0) = true := by simpa using tz
    cases hMs : emptyB o.msg with
    | false =>
      have fC : hasC o = true := by unfold hasC; rw [hMs]; simp
      have uM := SM.out
      rw [hMs] at uM
      have HV : Hid (onlyB o = false) := lid (by simp [onlyB, kk, fD, fC])
      clear hZ hAu hMs
      go_wp2_with fail
      go_ret
      exact ⟨ret_bool' HV.out.symm, hw2⟩
    | true =>
    have uM := SM.out
    rw [hMs] at uM
    have fC : hasC o = false := by unfold hasC; rw [hZ, HN.out, decide_eq_false hP, hAu, decide_eq_true tz, hMs]; rfl
    have HV : Hid (onlyB o = true) := lid (by simp [onlyB, kk, fD, fC])
    clear hZ hAu hMs
    go_wp2_with fail
    go_ret
    exact ⟨ret_bool' HV.out.symm, hw2⟩
  have n2 := kk
  clear kk
  by_cases kk : o.kind = 3
  · have k3 : (o.kind == 3) = true := by simpa using kk
    have k2 : (o.kind == 2) = false := by rw [kk]; rfl
    cases hD : emptyB o.data with
    | false =>
      have fD : hasD o = true := by unfold hasD; rw [hD]; rfl
      have uD := SD.out
      rw [hD] at uD
      clear c0 c1 c2 c3 c4 c5 c6 c7 c8 l0
      have HV : Hid (onlyB o = false) := lid (by simp [onlyB, kk, fD])
      go_enter Try.func44, Try.ntmps44
      go_wp2_with fail
      rw [HW.out]
      go_ret
      exact ⟨ret_bool' HV.out.symm, hb0⟩
    | true =>
    have fD : hasD o = false := by unfold hasD; rw [hD]; rfl
    have uD := SD.out
    rw [hD] at uD
    cases hE : decide (0 < ne) with
    | true =>
      have fE : hasE o = true := by unfold hasE; rw [HM.out]; exact hE
      have uE : decide ((0 : Int) < (ne : Int)) = true := by rw [← hE]; simp
      have uE' : decide (0 < ne) = true := hE
      clear c0 c1 c2 c3 c4 c5 c6 c7 c8 l0
      have HV : Hid (onlyB o = false) := lid (by simp [onlyB, kk, fD, fE])
      go_enter Try.func44, Try.ntmps44
      go_wp2_with fail
      rw [HW.out]
      go_ret
      exact ⟨ret_bool' HV.out.symm, hb0⟩
    | false =>
    have fE : hasE o = false := by unfold hasE; rw [HM.out]; exact hE
    have uE : decide ((0 : Int) < (ne : Int)) = false := by rw [← hE]; simp
    have uE' : decide (0 < ne) = false := hE
    clear c0 c1 c2 c3 c4 c5 c6 c7 c8 l0
    have HV : Hid (onlyB o = true) := lid (by simp [onlyB, kk, fD, fE])
    go_enter Try.func44, Try.ntmps44
    go_wp2_with fail
    rw [HW.out]
    go_ret
    exact ⟨ret_bool' HV.out.symm, hb0⟩
  have n3 := kk
  clear kk
  have k2 : (o.kind == 2) = false := by simpa using n2
  have k3 : (o.kind == 3) = false := by simpa using n3
  cases hE : decide (0 < ne) with
  | true =>
    have fE : hasE o = true := by unfold hasE; rw [HM.out]; exact hE
    have uE : decide ((0 : Int) < (ne : Int)) = true := by rw [← hE]; simp
    have uE' : decide (0 < ne) = true := hE
    clear c0 c1 c2 c3 c4 c5 c6 c7 c8 l0
    have HV : Hid (onlyB o = false) := lid (by simp [onlyB, n2, n3, fE])
    go_enter Try.func44, Try.ntmps44
    go_wp2_with fail
    rw [HW.out]
    go_ret
    exact ⟨ret_bool' HV.out.symm, hb0⟩
  | false =>
  have fE : hasE o = false := by unfold hasE; rw [HM.out]; exact hE
  have uE : decide ((0 : Int) < (ne : Int)) = false := by rw [← hE]; simp
  have uE' : decide (0 < ne) = false := hE
  rw [← HW.out] at c3 c4
  go_enter Try.func44, Try.ntmps44
  go_wp2_with fail
  rw [HW.out]
  clear HW HEN c0 c1 c2 c3 c4 c5 c6 c7 c8
  (with_reducible refine (CZ.out o.tree _).mono ?_); rintro e w2 ⟨rfl, hb2⟩
  have hw2 := hb0.trans (hb2.mono hb0.size)
  obtain ⟨l2, c0, c1, c2, c3, c4, c5, c6, c7, c8⟩ := HO.out.below hb2
  clear c0 c1 c2 c3 c4 l0
  cases hZ : zeroB o.tree with
  | false =>
    have fC : hasC o = true := by unfold hasC; rw [hZ]; rfl
    have HV : Hid (onlyB o = false) := lid (by simp [onlyB, n2, n3, fE, fC])
    clear hZ
    go_wp2_with fail
    go_ret
    exact ⟨ret_bool' HV.out.symm, hw2⟩
  | true =>
  by_cases hP : 0 < np
  · have fC : hasC o = true := by unfold hasC; rw [HN.out, decide_eq_true hP]; simp
    have uP : ((np : Int) == 0) = false := by simp; omega
    have uP' : (np == 0) = false := by simp; omega
    have HV : Hid (onlyB o = false) := lid (by simp [onlyB, n2, n3, fE, fC])
    clear hZ
    go_wp2_with fail
    go_ret
    exact ⟨ret_bool' HV.out.symm, hw2⟩
  have uP : ((np : Int) == 0) = true := by simp; omega
  have uP' : (np == 0) = true := by simp; omega
  cases hAu : emptyB o.auth with
  | false =>
    have fC : hasC o = true := by unfold hasC; rw [hAu]; simp
    have uA := SA.out
    rw [hAu] at uA
    have HV : Hid (onlyB o = false) := lid (by simp [onlyB, n2, n3, fE, fC])
    clear hZ hAu
    go_wp2_with fail
    go_ret
    exact ⟨ret_bool' HV.out.symm, hw2⟩
  | true =>
  have uA := SA.out
  rw [hAu] at uA
  by_cases tz : o.time = 0
  case neg =>
    have fC : hasC o = true := by unfold hasC; rw [decide_eq_false tz]; simp
    have uT : (o.time == 0) = false := by simpa using tz
    have HV : Hid (onlyB o = false) := lid (by simp [onlyB, n2, n3, fE, fC])
    clear hZ hAu
    go_wp2_with fail
    go_ret
    exact ⟨ret_bool' HV.out.symm, hw2⟩
  have uT : (o.time == 0) = true := by simpa using tz
  cases hMs : emptyB o.msg with
  | false =>
    have fC : hasC o = true := by unfold hasC; rw [hMs]; simp
    have uM := SM.out
    rw [hMs] at uM
    have HV : Hid (onlyB o = false) := lid (by simp [onlyB, n2, n3, fE, fC])
    clear hZ hAu hMs
    go_wp2_with fail
    go_ret
    exact ⟨ret_bool' HV.out.symm, hw2⟩
  | true =>
  have uM := SM.out
  rw [hMs] at uM
  have fC : hasC o = false := by unfold hasC; rw [hZ, HN.out, decide_eq_false hP, hAu, decide_eq_true tz, hMs]; rfl
  have HV : Hid (onlyB o = true) := lid (by simp [onlyB, n2, n3, fE, fC])
  clear hZ hAu hMs
  go_wp2_with fail
  go_ret
  exact ⟨ret_bool' HV.out.symm, hw2⟩

set_option maxRecDepth 100000 in
set_option maxHeartbeats 16000000 in
theorem fields_any (o : Ob) (ae ap : Option Addr) (ne ce np cp : Nat) (w : World) (h : ObjA w ae ne ap np o) (hc : np ≤ cp) (hd : o.data.size ≤ 60000) :
    Calls Try.prog 25 #[.agg (ocells o ae ne ce ap np cp)] w fun e w' => e = .returned (.int .i64 (checkO o)) ∧ Below w.heap.size w w' := by
  have hb0 := ba w (Obj.cells (ocells o ae ne ce ap np cp) 28)
  have HO0 := OBox.new w o ae ne ce ap np cp 28
  obtain ⟨W, hW⟩ : ∃ W, w.alloc (Obj.cells (ocells o ae ne ce ap np cp) 28) = W := ⟨_, rfl⟩
  rw [hW] at hb0 HO0
  have HA := lid (h.below hb0)
  have HW := lid hW
  have HO := lid HO0
  have HEN := lid HW.out
  have COn := lid (fun w (h : ObjA w ae ne ap np o) => only_any o ae ap ne ce np cp w h)
  have CCo := lid (fun w (h : ObjA w ae ne ap np o) => refCommit_any o ae ap ne ce np cp w h hc)
  have uL : decide ((65536 : Int) < (o.data.size : Int)) = false := by simp; omega
  have uL' : decide (65536 < o.data.size) = false := by simp; omega
  clear hW HO0 h hd
  have O1 := HO.out
  obtain ⟨l0, c0, c1, c2, c3, c4, c5, c6, c7, c8⟩ := O1
  by_cases hk : o.kind < 1 ∨ 4 < o.kind
  · have HV : Hid (checkO o = 9) := lid (by unfold checkO; rw [if_neg (by omega), if_neg (by omega), if_neg (by omega)])
    clear COn CCo
    by_cases h1 : o.kind < 1
    · have k1 : decide (o.kind < 1) = true := decide_eq_true h1
      clear c0 c1 c2 c3 c4 c5 c6 c7 c8 l0 hk h1
      go_enter Try.func25, Try.ntmps25
      go_wp2_with fail
      rw [HW.out]
      go_ret
      exact ⟨ret_int' HV.out.symm, hb0⟩
    · have k1 : decide (o.kind < 1) = false := decide_eq_false h1
      have k4 : decide (4 < o.kind) = true := decide_eq_true (by omega)
      clear c0 c1 c2 c3 c4 c5 c6 c7 c8 l0 hk h1
      go_enter Try.func25, Try.ntmps25
      go_wp2_with fail
      rw [HW.out]
      go_ret
      exact ⟨ret_int' HV.out.symm, hb0⟩
  have k1 : decide (o.kind < 1) = false := decide_eq_false (by omega)
  have k4 : decide (4 < o.kind) = false := decide_eq_false (by omega)
  have HK := lid hk
  clear hk
  rw [← HW.out] at c0 c1 c2 c3 c4 c5 c6 c7 c8
  go_enter Try.func25, Try.ntmps25
  go_wp2_with fail
  rw [HW.out]
  clear HW HEN c0 c1 c2 c3 c4 c5 c6 c7 c8
  have HAo := HA.out
  (with_reducible refine (COn.out _ HAo).mono ?_); rintro e w2 ⟨rfl, hb2⟩
  have hw2 := hb0.trans (hb2.mono hb0.size)
  obtain ⟨l2, c0, c1, c2, c3, c4, c5, c6, c7, c8⟩ := HO.out.below hb2
  replace HA := lid (HAo.below hb2)
  clear HAo
  cases hO : onlyB o with
  | false =>
    have HV : Hid (checkO o = 1) := lid (by
      have := HK.out
      unfold onlyB at hO
      unfold checkO
      rcases (by omega : o.kind = 1 ∨ o.kind = 2 ∨ o.kind = 3 ∨ o.kind = 4) with h | h | h | h <;> rw [h] at hO ⊢ <;> cases h1 : hasE o <;> cases h2 : hasC o <;> cases h3 : hasD o <;> simp_all)
    clear hO
    go_wp2_with fail
    go_ret
    exact ⟨ret_int' HV.out.symm, hw2⟩
  | true =>
  by_cases kk : o.kind = 2
  · have k2 : (o.kind == 2) = true := by simpa using kk
    have HV : Hid (checkO o = entsE o.ents) := lid (by
      unfold onlyB at hO
      unfold checkO
      rw [kk] at hO ⊢
      cases h1 : hasE o <;> cases h2 : hasC o <;> cases h3 : hasD o <;> simp_all)
    clear hO
    go_wp2_with fail
    (with_reducible refine (refEntries_any o.ents ne ce ae _ HA.out.elen HA.out.es HA.out.esz HA.out.emax).mono ?_); rintro e w3 ⟨rfl, hb3⟩
    go_wp2_with fail
    go_ret
    exact ⟨ret_int' HV.out.symm, hw2.trans (hb3.mono hw2.size)⟩
  have k2 : (o.kind == 2) = false := by simpa using kk
  have n2 := kk
  clear kk
  by_cases kk : o.kind = 3
  · have k3 : (o.kind == 3) = true := by simpa using kk
    have HV : Hid (checkO o = commE o) := lid (by
      unfold onlyB at hO
      unfold checkO
      rw [kk] at hO ⊢
      cases h1 : hasE o <;> cases h2 : hasC o <;> cases h3 : hasD o <;> simp_all)
    clear hO kk
    go_wp2_with fail
    (with_reducible refine (CCo.out _ HA.out).mono ?_); rintro e w3 ⟨rfl, hb3⟩
    go_wp2_with fail
    go_ret
    exact ⟨ret_int' HV.out.symm, hw2.trans (hb3.mono hw2.size)⟩
  have k3 : (o.kind == 3) = false := by simpa using kk
  have HV : Hid (checkO o = 0) := lid (by
    have := HK.out
    unfold onlyB at hO
    unfold checkO
    rcases (by omega : o.kind = 1 ∨ o.kind = 4) with h | h <;> rw [h] at hO ⊢ <;> cases h1 : hasE o <;> cases h2 : hasC o <;> cases h3 : hasD o <;> simp_all)
  clear hO
  go_wp2_with fail
  go_ret
  exact ⟨ret_int' HV.out.symm, hw2⟩
end Go.Proofs.Ytmkdcnkbhnegnaa
