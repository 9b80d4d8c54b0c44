/-
  Why an object is not valid, apart from its size: object.check.
-/
import Derived.Test.YtphjillihapbfaaGreatDoorObjComm
namespace Go.Proofs.YtphjillihapbfaaGreatDoor
open Go.RowKit

def emptyB (s : ByteArray) : Bool := decide (s = ⟨#[]⟩)
def hasD (o : Ob) : Bool := !emptyB o.data
def hasE (o : Ob) : Bool := decide (0 < o.ents.length)
def hasC (o : Ob) : Bool := !zeroB o.tree || (decide (0 < o.pars.length) || (!emptyB o.auth || (!decide (o.time = 0) || !emptyB o.msg)))
def checkO (o : Ob) : Int :=
  if o.kind = 1 ∨ o.kind = 4 then (if (hasE o || hasC o) = true then 1 else 0)
  else if o.kind = 2 then (if (hasD o || hasC o) = true then 1 else entsE o.ents)
  else if o.kind = 3 then (if (hasD o || hasE o) = true then 1 else commE o)
  else 9
theorem emptyB_spell (s : ByteArray) : (s.toList == []) = emptyB s := by
  have := str_beq s ⟨#[]⟩
  rwa [show (⟨#[]⟩ : ByteArray).toList = [] by rw [ByteArray.toList_eq]] at this

set_option maxRecDepth 100000 in
set_option maxHeartbeats 64000000 in
theorem check_any (o : Ob) (ae ap : Option Addr) (ne ce np cp : Nat) (w : World) (h : ObjA w ae ne ap np o) (hc : np ≤ cp) :
    Calls Tryz.prog 67 #[.agg (ocells o ae ne ce ap np cp)] w fun e w' => e = .returned (.int .i64 (checkO o)) ∧ Below w.heap.size w w' := by
  have hb0 := ba w (Obj.cells (ocells o ae ne ce ap np cp) 72)
  have HA := lid (h.below hb0)
  have HN := lid h.plen
  have HM := lid h.elen
  have nm' : np ≤ 9223372036854775807 := h.pmax
  have mm' : ne ≤ 9223372036854775807 := h.emax
  have SD := lid (emptyB_spell o.data)
  have SA := lid (emptyB_spell o.auth)
  have SM := lid (emptyB_spell o.msg)
  have SZ := lid (zeroB_spell o.tree)
  clear h
  cases hZ : zeroB o.tree with
  | false =>
    have fC : hasC o = true := by unfold hasC; rw [hZ]; rfl
    have uZ := SZ.out
    rw [hZ] at uZ
    clear hZ
    by_cases kk : o.kind = 1
    · have kq : (o.kind == 1) = true := by simpa using kk
      cases hE : decide (0 < ne) with
      | true =>
        have fE : hasE o = true := by unfold hasE; rw [HM.out]; exact hE
        have uE : decide ((0 : Int) < (ne : Int)) = true := by rw [← hE]; simp
        have uE' : decide (0 < ne) = true := hE
        have HV : Hid (checkO o = 1) := lid (by simp [checkO, kk, fE])
        clear fE hE kk
        go_enter Tryz.func67, Tryz.ntmps67
        go_wp2_with fail
        go_ret
        exact ⟨ret_int' HV.out.symm, hb0⟩
      | false =>
        have fE : hasE o = false := by unfold hasE; rw [HM.out]; exact hE
        have uE : decide ((0 : Int) < (ne : Int)) = false := by rw [← hE]; simp
        have uE' : decide (0 < ne) = false := hE
        have HV : Hid (checkO o = 1) := lid (by simp [checkO, kk, fE, fC])
        clear fE hE kk
        go_enter Tryz.func67, Tryz.ntmps67
        go_wp2_with fail
        go_ret
        exact ⟨ret_int' HV.out.symm, hb0⟩
    have n1 := kk
    clear kk
    by_cases kk : o.kind = 4
    · have kq : (o.kind == 4) = true := by simpa using kk
      have m1 : (o.kind == 1) = false := by simpa using n1
      cases hE : decide (0 < ne) with
      | true =>
        have fE : hasE o = true := by unfold hasE; rw [HM.out]; exact hE
        have uE : decide ((0 : Int) < (ne : Int)) = true := by rw [← hE]; simp
        have uE' : decide (0 < ne) = true := hE
        have HV : Hid (checkO o = 1) := lid (by simp [checkO, kk, fE])
        clear fE hE kk
        go_enter Tryz.func67, Tryz.ntmps67
        go_wp2_with fail
        go_ret
        exact ⟨ret_int' HV.out.symm, hb0⟩
      | false =>
        have fE : hasE o = false := by unfold hasE; rw [HM.out]; exact hE
        have uE : decide ((0 : Int) < (ne : Int)) = false := by rw [← hE]; simp
        have uE' : decide (0 < ne) = false := hE
        have HV : Hid (checkO o = 1) := lid (by simp [checkO, kk, fE, fC])
        clear fE hE kk
        go_enter Tryz.func67, Tryz.ntmps67
        go_wp2_with fail
        go_ret
        exact ⟨ret_int' HV.out.symm, hb0⟩
    have n4 := kk
    clear kk
    by_cases kk : o.kind = 2
    · have kq : (o.kind == 2) = true := by simpa using kk
      have m1 : (o.kind == 1) = false := by simpa using n1
      have m4 : (o.kind == 4) = false := by simpa using n4
      cases hD : emptyB o.data with
      | false =>
        have fD : hasD o = true := by unfold hasD; rw [hD]; rfl
        have uD := SD.out
        rw [hD] at uD
        have HV : Hid (checkO o = 1) := lid (by simp [checkO, kk, fD])
        clear fD hD kk
        go_enter Tryz.func67, Tryz.ntmps67
        go_wp2_with fail
        go_ret
        exact ⟨ret_int' HV.out.symm, hb0⟩
      | true =>
        have fD : hasD o = false := by unfold hasD; rw [hD]; rfl
        have uD := SD.out
        rw [hD] at uD
        have HV : Hid (checkO o = 1) := lid (by simp [checkO, kk, fD, fC])
        clear fD hD kk
        go_enter Tryz.func67, Tryz.ntmps67
        go_wp2_with fail
        go_ret
        exact ⟨ret_int' HV.out.symm, hb0⟩
    have n2 := kk
    clear kk
    by_cases kk : o.kind = 3
    · have kq : (o.kind == 3) = true := by simpa using kk
      have m1 : (o.kind == 1) = false := by simpa using n1
      have m4 : (o.kind == 4) = false := by simpa using n4
      have m2 : (o.kind == 2) = false := by simpa using n2
      cases hD : emptyB o.data with
      | false =>
        have fD : hasD o = true := by unfold hasD; rw [hD]; rfl
        have uD := SD.out
        rw [hD] at uD
        have HV : Hid (checkO o = 1) := lid (by simp [checkO, kk, fD])
        clear fD hD kk
        go_enter Tryz.func67, Tryz.ntmps67
        go_wp2_with fail
        go_ret
        exact ⟨ret_int' HV.out.symm, hb0⟩
      | true =>
        have fD : hasD o = false := by unfold hasD; rw [hD]; rfl
        have uD := SD.out
        rw [hD] at uD
        cases hE : decide (0 < ne) with
        | true =>
          have fE : hasE o = true := by unfold hasE; rw [HM.out]; exact hE
          have uE : decide ((0 : Int) < (ne : Int)) = true := by rw [← hE]; simp
          have uE' : decide (0 < ne) = true := hE
          have HV : Hid (checkO o = 1) := lid (by simp [checkO, kk, fD, fE])
          clear fE hE fD hD kk
          go_enter Tryz.func67, Tryz.ntmps67
          go_wp2_with fail
          go_ret
          exact ⟨ret_int' HV.out.symm, hb0⟩
        | false =>
          have fE : hasE o = false := by unfold hasE; rw [HM.out]; exact hE
          have uE : decide ((0 : Int) < (ne : Int)) = false := by rw [← hE]; simp
          have uE' : decide (0 < ne) = false := hE
          have HV : Hid (checkO o = commE o) := lid (by simp [checkO, kk, fD, fE])
          clear fE hE fD hD kk
          have CC := fun (w1 : World) (h1 : ObjA w1 ae ne ap np o) => checkCommit_any o ae ap ne ce np cp w1 h1 hc
          unfold ocells at CC
          have CL := lid CC
          clear CC
          go_enter Tryz.func67, Tryz.ntmps67
          go_wp2_with fail
          (with_reducible refine (CL.out _ HA.out).mono ?_); rintro e w2 ⟨rfl, hb2⟩
          go_wp2_with fail
          go_ret
          exact ⟨ret_int' HV.out.symm, hb0.trans (hb2.mono hb0.size)⟩
    have n3 := kk
    clear kk
    have m1 : (o.kind == 1) = false := by simpa using n1
    have m4 : (o.kind == 4) = false := by simpa using n4
    have m2 : (o.kind == 2) = false := by simpa using n2
    have m3 : (o.kind == 3) = false := by simpa using n3
    have HV : Hid (checkO o = 9) := lid (by simp [checkO, n1, n4, n2, n3])
    go_enter Tryz.func67, Tryz.ntmps67
    go_wp2_with fail
    go_ret
    exact ⟨ret_int' HV.out.symm, hb0⟩
  | true =>
  have uZ := SZ.out
  rw [hZ] at uZ
  by_cases hP : 0 < np
  · have fC : hasC o = true := by unfold hasC; rw [HN.out, decide_eq_true hP]; simp
    have uP : decide ((0 : Int) < (np : Int)) = true := by simp; omega
    have uP' : decide (0 < np) = true := decide_eq_true hP
    clear hZ
    by_cases kk : o.kind = 1
    · have kq : (o.kind == 1) = true := by simpa using kk
      cases hE : decide (0 < ne) with
      | true =>
        have fE : hasE o = true := by unfold hasE; rw [HM.out]; exact hE
        have uE : decide ((0 : Int) < (ne : Int)) = true := by rw [← hE]; simp
        have uE' : decide (0 < ne) = true := hE
        have HV : Hid (checkO o = 1) := lid (by simp [checkO, kk, fE])
        clear fE hE kk
        go_enter Tryz.func67, Tryz.ntmps67
        go_wp2_with fail
        go_ret
        exact ⟨ret_int' HV.out.symm, hb0⟩
      | false =>
        have fE : hasE o = false := by unfold hasE; rw [HM.out]; exact hE
        have uE : decide ((0 : Int) < (ne : Int)) = false := by rw [← hE]; simp
        have uE' : decide (0 < ne) = false := hE
        have HV : Hid (checkO o = 1) := lid (by simp [checkO, kk, fE, fC])
        clear fE hE kk
        go_enter Tryz.func67, Tryz.ntmps67
        go_wp2_with fail
        go_ret
        exact ⟨ret_int' HV.out.symm, hb0⟩
    have n1 := kk
    clear kk
    by_cases kk : o.kind = 4
    · have kq : (o.kind == 4) = true := by simpa using kk
      have m1 : (o.kind == 1) = false := by simpa using n1
      cases hE : decide (0 < ne) with
      | true =>
        have fE : hasE o = true := by unfold hasE; rw [HM.out]; exact hE
        have uE : decide ((0 : Int) < (ne : Int)) = true := by rw [← hE]; simp
        have uE' : decide (0 < ne) = true := hE
        have HV : Hid (checkO o = 1) := lid (by simp [checkO, kk, fE])
        clear fE hE kk
        go_enter Tryz.func67, Tryz.ntmps67
        go_wp2_with fail
        go_ret
        exact ⟨ret_int' HV.out.symm, hb0⟩
      | false =>
        have fE : hasE o = false := by unfold hasE; rw [HM.out]; exact hE
        have uE : decide ((0 : Int) < (ne : Int)) = false := by rw [← hE]; simp
        have uE' : decide (0 < ne) = false := hE
        have HV : Hid (checkO o = 1) := lid (by simp [checkO, kk, fE, fC])
        clear fE hE kk
        go_enter Tryz.func67, Tryz.ntmps67
        go_wp2_with fail
        go_ret
        exact ⟨ret_int' HV.out.symm, hb0⟩
    have n4 := kk
    clear kk
    by_cases kk : o.kind = 2
    · have kq : (o.kind == 2) = true := by simpa using kk
      have m1 : (o.kind == 1) = false := by simpa using n1
      have m4 : (o.kind == 4) = false := by simpa using n4
      cases hD : emptyB o.data with
      | false =>
        have fD : hasD o = true := by unfold hasD; rw [hD]; rfl
        have uD := SD.out
        rw [hD] at uD
        have HV : Hid (checkO o = 1) := lid (by simp [checkO, kk, fD])
        clear fD hD kk
        go_enter Tryz.func67, Tryz.ntmps67
        go_wp2_with fail
        go_ret
        exact ⟨ret_int' HV.out.symm, hb0⟩
      | true =>
        have fD : hasD o = false := by unfold hasD; rw [hD]; rfl
        have uD := SD.out
        rw [hD] at uD
        have HV : Hid (checkO o = 1) := lid (by simp [checkO, kk, fD, fC])
        clear fD hD kk
        go_enter Tryz.func67, Tryz.ntmps67
        go_wp2_with fail
        go_ret
        exact ⟨ret_int' HV.out.symm, hb0⟩
    have n2 := kk
    clear kk
    by_cases kk : o.kind = 3
    · have kq : (o.kind == 3) = true := by simpa using kk
      have m1 : (o.kind == 1) = false := by simpa using n1
      have m4 : (o.kind == 4) = false := by simpa using n4
      have m2 : (o.kind == 2) = false := by simpa using n2
      cases hD : emptyB o.data with
      | false =>
        have fD : hasD o = true := by unfold hasD; rw [hD]; rfl
        have uD := SD.out
        rw [hD] at uD
        have HV : Hid (checkO o = 1) := lid (by simp [checkO, kk, fD])
        clear fD hD kk
        go_enter Tryz.func67, Tryz.ntmps67
        go_wp2_with fail
        go_ret
        exact ⟨ret_int' HV.out.symm, hb0⟩
      | true =>
        have fD : hasD o = false := by unfold hasD; rw [hD]; rfl
        have uD := SD.out
        rw [hD] at uD
        cases hE : decide (0 < ne) with
        | true =>
          have fE : hasE o = true := by unfold hasE; rw [HM.out]; exact hE
          have uE : decide ((0 : Int) < (ne : Int)) = true := by rw [← hE]; simp
          have uE' : decide (0 < ne) = true := hE
          have HV : Hid (checkO o = 1) := lid (by simp [checkO, kk, fD, fE])
          clear fE hE fD hD kk
          go_enter Tryz.func67, Tryz.ntmps67
          go_wp2_with fail
          go_ret
          exact ⟨ret_int' HV.out.symm, hb0⟩
        | false =>
          have fE : hasE o = false := by unfold hasE; rw [HM.out]; exact hE
          have uE : decide ((0 : Int) < (ne : Int)) = false := by rw [← hE]; simp
          have uE' : decide (0 < ne) = false := hE
          have HV : Hid (checkO o = commE o) := lid (by simp [checkO, kk, fD, fE])
          clear fE hE fD hD kk
          have CC := fun (w1 : World) (h1 : ObjA w1 ae ne ap np o) => checkCommit_any o ae ap ne ce np cp w1 h1 hc
          unfold ocells at CC
          have CL := lid CC
          clear CC
          go_enter Tryz.func67, Tryz.ntmps67
          go_wp2_with fail
          (with_reducible refine (CL.out _ HA.out).mono ?_); rintro e w2 ⟨rfl, hb2⟩
          go_wp2_with fail
          go_ret
          exact ⟨ret_int' HV.out.symm, hb0.trans (hb2.mono hb0.size)⟩
    have n3 := kk
    clear kk
    have m1 : (o.kind == 1) = false := by simpa using n1
    have m4 : (o.kind == 4) = false := by simpa using n4
    have m2 : (o.kind == 2) = false := by simpa using n2
    have m3 : (o.kind == 3) = false := by simpa using n3
    have HV : Hid (checkO o = 9) := lid (by simp [checkO, n1, n4, n2, n3])
    go_enter Tryz.func67, Tryz.ntmps67
    go_wp2_with fail
    go_ret
    exact ⟨ret_int' HV.out.symm, hb0⟩
  have uP : decide ((0 : Int) < (np : Int)) = false := by simp; omega
  have uP' : decide (0 < np) = false := decide_eq_false hP
  cases hAu : emptyB o.auth with
  | false =>
    have fC : hasC o = true := by unfold hasC; rw [hAu]; simp
    have uA := SA.out
    rw [hAu] at uA
    clear hZ hAu
    by_cases kk : o.kind = 1
    · have kq : (o.kind == 1) = true := by simpa using kk
      cases hE : decide (0 < ne) with
      | true =>
        have fE : hasE o = true := by unfold hasE; rw [HM.out]; exact hE
        have uE : decide ((0 : Int) < (ne : Int)) = true := by rw [← hE]; simp
        have uE' : decide (0 < ne) = true := hE
        have HV : Hid (checkO o = 1) := lid (by simp [checkO, kk, fE])
        clear fE hE kk
        go_enter Tryz.func67, Tryz.ntmps67
        go_wp2_with fail
        go_ret
        exact ⟨ret_int' HV.out.symm, hb0⟩
      | false =>
        have fE : hasE o = false := by unfold hasE; rw [HM.out]; exact hE
        have uE : decide ((0 : Int) < (ne : Int)) = false := by rw [← hE]; simp
        have uE' : decide (0 < ne) = false := hE
        have HV : Hid (checkO o = 1) := lid (by simp [checkO, kk, fE, fC])
        clear fE hE kk
        go_enter Tryz.func67, Tryz.ntmps67
        go_wp2_with fail
        go_ret
        exact ⟨ret_int' HV.out.symm, hb0⟩
    have n1 := kk
    clear kk
    by_cases kk : o.kind = 4
    · have kq : (o.kind == 4) = true := by simpa using kk
      have m1 : (o.kind == 1) = false := by simpa using n1
      cases hE : decide (0 < ne) with
      | true =>
        have fE : hasE o = true := by unfold hasE; rw [HM.out]; exact hE
        have uE : decide ((0 : Int) < (ne : Int)) = true := by rw [← hE]; simp
        have uE' : decide (0 < ne) = true := hE
        have HV : Hid (checkO o = 1) := lid (by simp [checkO, kk, fE])
        clear fE hE kk
        go_enter Tryz.func67, Tryz.ntmps67
        go_wp2_with fail
        go_ret
        exact ⟨ret_int' HV.out.symm, hb0⟩
      | false =>
        have fE : hasE o = false := by unfold hasE; rw [HM.out]; exact hE
        have uE : decide ((0 : Int) < (ne : Int)) = false := by rw [← hE]; simp
        have uE' : decide (0 < ne) = false := hE
        have HV : Hid (checkO o = 1) := lid (by simp [checkO, kk, fE, fC])
        clear fE hE kk
        go_enter Tryz.func67, Tryz.ntmps67
        go_wp2_with fail
        go_ret
        exact ⟨ret_int' HV.out.symm, hb0⟩
    have n4 := kk
    clear kk
    by_cases kk : o.kind = 2
    · have kq : (o.kind == 2) = true := by simpa using kk
      have m1 : (o.kind == 1) = false := by simpa using n1
      have m4 : (o.kind == 4) = false := by simpa using n4
      cases hD : emptyB o.data with
      | false =>
        have fD : hasD o = true := by unfold hasD; rw [hD]; rfl
        have uD := SD.out
        rw [hD] at uD
        have HV : Hid (checkO o = 1) := lid (by simp [checkO, kk, fD])
        clear fD hD kk
        go_enter Tryz.func67, Tryz.ntmps67
        go_wp2_with fail
        go_ret
        exact ⟨ret_int' HV.out.symm, hb0⟩
      | true =>
        have fD : hasD o = false := by unfold hasD; rw [hD]; rfl
        have uD := SD.out
        rw [hD] at uD
        have HV : Hid (checkO o = 1) := lid (by simp [checkO, kk, fD, fC])
        clear fD hD kk
        go_enter Tryz.func67, Tryz.ntmps67
        go_wp2_with fail
        go_ret
        exact ⟨ret_int' HV.out.symm, hb0⟩
    have n2 := kk
    clear kk
    by_cases kk : o.kind = 3
    · have kq : (o.kind == 3) = true := by simpa using kk
      have m1 : (o.kind == 1) = false := by simpa using n1
      have m4 : (o.kind == 4) = false := by simpa using n4
      have m2 : (o.kind == 2) = false := by simpa using n2
      cases hD : emptyB o.data with
      | false =>
        have fD : hasD o = true := by unfold hasD; rw [hD]; rfl
        have uD := SD.out
        rw [hD] at uD
        have HV : Hid (checkO o = 1) := lid (by simp [checkO, kk, fD])
        clear fD hD kk
        go_enter Tryz.func67, Tryz.ntmps67
        go_wp2_with fail
        go_ret
        exact ⟨ret_int' HV.out.symm, hb0⟩
      | true =>
        have fD : hasD o = false := by unfold hasD; rw [hD]; rfl
        have uD := SD.out
        rw [hD] at uD
        cases hE : decide (0 < ne) with
        | true =>
          have fE : hasE o = true := by unfold hasE; rw [HM.out]; exact hE
          have uE : decide ((0 : Int) < (ne : Int)) = true := by rw [← hE]; simp
          have uE' : decide (0 < ne) = true := hE
          have HV : Hid (checkO o = 1) := lid (by simp [checkO, kk, fD, fE])
          clear fE hE fD hD kk
          go_enter Tryz.func67, Tryz.ntmps67
          go_wp2_with fail
          go_ret
          exact ⟨ret_int' HV.out.symm, hb0⟩
        | false =>
          have fE : hasE o = false := by unfold hasE; rw [HM.out]; exact hE
          have uE : decide ((0 : Int) < (ne : Int)) = false := by rw [← hE]; simp
          have uE' : decide (0 < ne) = false := hE
          have HV : Hid (checkO o = commE o) := lid (by simp [checkO, kk, fD, fE])
          clear fE hE fD hD kk
          have CC := fun (w1 : World) (h1 : ObjA w1 ae ne ap np o) => checkCommit_any o ae ap ne ce np cp w1 h1 hc
          unfold ocells at CC
          have CL := lid CC
          clear CC
          go_enter Tryz.func67, Tryz.ntmps67
          go_wp2_with fail
          (with_reducible refine (CL.out _ HA.out).mono ?_); rintro e w2 ⟨rfl, hb2⟩
          go_wp2_with fail
          go_ret
          exact ⟨ret_int' HV.out.symm, hb0.trans (hb2.mono hb0.size)⟩
    have n3 := kk
    clear kk
    have m1 : (o.kind == 1) = false := by simpa using n1
    have m4 : (o.kind == 4) = false := by simpa using n4
    have m2 : (o.kind == 2) = false := by simpa using n2
    have m3 : (o.kind == 3) = false := by simpa using n3
    have HV : Hid (checkO o = 9) := lid (by simp [checkO, n1, n4, n2, n3])
    go_enter Tryz.func67, Tryz.ntmps67
    go_wp2_with fail
    go_ret
    exact ⟨ret_int' HV.out.symm, hb0⟩
  | true =>
  have uA := SA.out
  rw [hAu] at uA
  by_cases tz : o.time = 0
  case neg =>
    have fC : hasC o = true := by unfold hasC; rw [decide_eq_false tz]; simp
    have uT : (o.time == 0) = false := by simpa using tz
    clear hZ hAu
    by_cases kk : o.kind = 1
    · have kq : (o.kind == 1) = true := by simpa using kk
      cases hE : decide (0 < ne) with
      | true =>
        have fE : hasE o = true := by unfold hasE; rw [HM.out]; exact hE
        have uE : decide ((0 : Int) < (ne : Int)) = true := by rw [← hE]; simp
        have uE' : decide (0 < ne) = true := hE
        have HV : Hid (checkO o = 1) := lid (by simp [checkO, kk, fE])
        clear fE hE kk
        go_enter Tryz.func67, Tryz.ntmps67
        go_wp2_with fail
        go_ret
        exact ⟨ret_int' HV.out.symm, hb0⟩
      | false =>
        have fE : hasE o = false := by unfold hasE; rw [HM.out]; exact hE
        have uE : decide ((0 : Int) < (ne : Int)) = false := by rw [← hE]; simp
        have uE' : decide (0 < ne) = false := hE
        have HV : Hid (checkO o = 1) := lid (by simp [checkO, kk, fE, fC])
        clear fE hE kk
        go_enter Tryz.func67, Tryz.ntmps67
        go_wp2_with fail
        go_ret
        exact ⟨ret_int' HV.out.symm, hb0⟩
    have n1 := kk
    clear kk
    by_cases kk : o.kind = 4
    · have kq : (o.kind == 4) = true := by simpa using kk
      have m1 : (o.kind == 1) = false := by simpa using n1
      cases hE : decide (0 < ne) with
      | true =>
        have fE : hasE o = true := by unfold hasE; rw [HM.out]; exact hE
        have uE : decide ((0 : Int) < (ne : Int)) = true := by rw [← hE]; simp
        have uE' : decide (0 < ne) = true := hE
        have HV : Hid (checkO o = 1) := lid (by simp [checkO, kk, fE])
        clear fE hE kk
        go_enter Tryz.func67, Tryz.ntmps67
        go_wp2_with fail
        go_ret
        exact ⟨ret_int' HV.out.symm, hb0⟩
      | false =>
        have fE : hasE o = false := by unfold hasE; rw [HM.out]; exact hE
        have uE : decide ((0 : Int) < (ne : Int)) = false := by rw [← hE]; simp
        have uE' : decide (0 < ne) = false := hE
        have HV : Hid (checkO o = 1) := lid (by simp [checkO, kk, fE, fC])
        clear fE hE kk
        go_enter Tryz.func67, Tryz.ntmps67
        go_wp2_with fail
        go_ret
        exact ⟨ret_int' HV.out.symm, hb0⟩
    have n4 := kk
    clear kk
    by_cases kk : o.kind = 2
    · have kq : (o.kind == 2) = true := by simpa using kk
      have m1 : (o.kind == 1) = false := by simpa using n1
      have m4 : (o.kind == 4) = false := by simpa using n4
      cases hD : emptyB o.data with
      | false =>
        have fD : hasD o = true := by unfold hasD; rw [hD]; rfl
        have uD := SD.out
        rw [hD] at uD
        have HV : Hid (checkO o = 1) := lid (by simp [checkO, kk, fD])
        clear fD hD kk
        go_enter Tryz.func67, Tryz.ntmps67
        go_wp2_with fail
        go_ret
        exact ⟨ret_int' HV.out.symm, hb0⟩
      | true =>
        have fD : hasD o = false := by unfold hasD; rw [hD]; rfl
        have uD := SD.out
        rw [hD] at uD
        have HV : Hid (checkO o = 1) := lid (by simp [checkO, kk, fD, fC])
        clear fD hD kk
        go_enter Tryz.func67, Tryz.ntmps67
        go_wp2_with fail
        go_ret
        exact ⟨ret_int' HV.out.symm, hb0⟩
    have n2 := kk
    clear kk
    by_cases kk : o.kind = 3
    · have kq : (o.kind == 3) = true := by simpa using kk
      have m1 : (o.kind == 1) = false := by simpa using n1
      have m4 : (o.kind == 4) = false := by simpa using n4
      have m2 : (o.kind == 2) = false := by simpa using n2
      cases hD : emptyB o.data with
      | false =>
        have fD : hasD o = true := by unfold hasD; rw [hD]; rfl
        have uD := SD.out
        rw [hD] at uD
        have HV : Hid (checkO o = 1) := lid (by simp [checkO, kk, fD])
        clear fD hD kk
        go_enter Tryz.func67, Tryz.ntmps67
        go_wp2_with fail
        go_ret
        exact ⟨ret_int' HV.out.symm, hb0⟩
      | true =>
        have fD : hasD o = false := by unfold hasD; rw [hD]; rfl
        have uD := SD.out
        rw [hD] at uD
        cases hE : decide (0 < ne) with
        | true =>
          have fE : hasE o = true := by unfold hasE; rw [HM.out]; exact hE
          have uE : decide ((0 : Int) < (ne : Int)) = true := by rw [← hE]; simp
          have uE' : decide (0 < ne) = true := hE
          have HV : Hid (checkO o = 1) := lid (by simp [checkO, kk, fD, fE])
          clear fE hE fD hD kk
          go_enter Tryz.func67, Tryz.ntmps67
          go_wp2_with fail
          go_ret
          exact ⟨ret_int' HV.out.symm, hb0⟩
        | false =>
          have fE : hasE o = false := by unfold hasE; rw [HM.out]; exact hE
          have uE : decide ((0 : Int) < (ne : Int)) = false := by rw [← hE]; simp
          have uE' : decide (0 < ne) = false := hE
          have HV : Hid (checkO o = commE o) := lid (by simp [checkO, kk, fD, fE])
          clear fE hE fD hD kk
          have CC := fun (w1 : World) (h1 : ObjA w1 ae ne ap np o) => checkCommit_any o ae ap ne ce np cp w1 h1 hc
          unfold ocells at CC
          have CL := lid CC
          clear CC
          go_enter Tryz.func67, Tryz.ntmps67
          go_wp2_with fail
          (with_reducible refine (CL.out _ HA.out).mono ?_); rintro e w2 ⟨rfl, hb2⟩
          go_wp2_with fail
          go_ret
          exact ⟨ret_int' HV.out.symm, hb0.trans (hb2.mono hb0.size)⟩
    have n3 := kk
    clear kk
    have m1 : (o.kind == 1) = false := by simpa using n1
    have m4 : (o.kind == 4) = false := by simpa using n4
    have m2 : (o.kind == 2) = false := by simpa using n2
    have m3 : (o.kind == 3) = false := by simpa using n3
    have HV : Hid (checkO o = 9) := lid (by simp [checkO, n1, n4, n2, n3])
    go_enter Tryz.func67, Tryz.ntmps67
    go_wp2_with fail
    go_ret
    exact ⟨ret_int' HV.out.symm, hb0⟩
  cases hMs : emptyB o.msg with
  | false =>
    have fC : hasC o = true := by unfold hasC; rw [hMs]; simp
    have uM := SM.out
    rw [hMs] at uM
    clear hZ hAu hMs
    by_cases kk : o.kind = 1
    · have kq : (o.kind == 1) = true := by simpa using kk
      cases hE : decide (0 < ne) with
      | true =>
        have fE : hasE o = true := by unfold hasE; rw [HM.out]; exact hE
        have uE : decide ((0 : Int) < (ne : Int)) = true := by rw [← hE]; simp
        have uE' : decide (0 < ne) = true := hE
        have HV : Hid (checkO o = 1) := lid (by simp [checkO, kk, fE])
        clear fE hE kk
        go_enter Tryz.func67, Tryz.ntmps67
        go_wp2_with fail
        go_ret
        exact ⟨ret_int' HV.out.symm, hb0⟩
      | false =>
        have fE : hasE o = false := by unfold hasE; rw [HM.out]; exact hE
        have uE : decide ((0 : Int) < (ne : Int)) = false := by rw [← hE]; simp
        have uE' : decide (0 < ne) = false := hE
        have HV : Hid (checkO o = 1) := lid (by simp [checkO, kk, fE, fC])
        clear fE hE kk
        go_enter Tryz.func67, Tryz.ntmps67
        go_wp2_with fail
        go_ret
        exact ⟨ret_int' HV.out.symm, hb0⟩
    have n1 := kk
    clear kk
    by_cases kk : o.kind = 4
    · have kq : (o.kind == 4) = true := by simpa using kk
      have m1 : (o.kind == 1) = false := by simpa using n1
      cases hE : decide (0 < ne) with
      | true =>
        have fE : hasE o = true := by unfold hasE; rw [HM.out]; exact hE
        have uE : decide ((0 : Int) < (ne : Int)) = true := by rw [← hE]; simp
        have uE' : decide (0 < ne) = true := hE
        have HV : Hid (checkO o = 1) := lid (by simp [checkO, kk, fE])
        clear fE hE kk
        go_enter Tryz.func67, Tryz.ntmps67
        go_wp2_with fail
        go_ret
        exact ⟨ret_int' HV.out.symm, hb0⟩
      | false =>
        have fE : hasE o = false := by unfold hasE; rw [HM.out]; exact hE
        have uE : decide ((0 : Int) < (ne : Int)) = false := by rw [← hE]; simp
        have uE' : decide (0 < ne) = false := hE
        have HV : Hid (checkO o = 1) := lid (by simp [checkO, kk, fE, fC])
        clear fE hE kk
        go_enter Tryz.func67, Tryz.ntmps67
        go_wp2_with fail
        go_ret
        exact ⟨ret_int' HV.out.symm, hb0⟩
    have n4 := kk
    clear kk
    by_cases kk : o.kind = 2
    · have kq : (o.kind == 2) = true := by simpa using kk
      have m1 : (o.kind == 1) = false := by simpa using n1
      have m4 : (o.kind == 4) = false := by simpa using n4
      cases hD : emptyB o.data with
      | false =>
        have fD : hasD o = true := by unfold hasD; rw [hD]; rfl
        have uD := SD.out
        rw [hD] at uD
        have HV : Hid (checkO o = 1) := lid (by simp [checkO, kk, fD])
        clear fD hD kk
        go_enter Tryz.func67, Tryz.ntmps67
        go_wp2_with fail
        go_ret
        exact ⟨ret_int' HV.out.symm, hb0⟩
      | true =>
        have fD : hasD o = false := by unfold hasD; rw [hD]; rfl
        have uD := SD.out
        rw [hD] at uD
        have HV : Hid (checkO o = 1) := lid (by simp [checkO, kk, fD, fC])
        clear fD hD kk
        go_enter Tryz.func67, Tryz.ntmps67
        go_wp2_with fail
        go_ret
        exact ⟨ret_int' HV.out.symm, hb0⟩
    have n2 := kk
    clear kk
    by_cases kk : o.kind = 3
    · have kq : (o.kind == 3) = true := by simpa using kk
      have m1 : (o.kind == 1) = false := by simpa using n1
      have m4 : (o.kind == 4) = false := by simpa using n4
      have m2 : (o.kind == 2) = false := by simpa using n2
      cases hD : emptyB o.data with
      | false =>
        have fD : hasD o = true := by unfold hasD; rw [hD]; rfl
        have uD := SD.out
        rw [hD] at uD
        have HV : Hid (checkO o = 1) := lid (by simp [checkO, kk, fD])
        clear fD hD kk
        go_enter Tryz.func67, Tryz.ntmps67
        go_wp2_with fail
        go_ret
        exact ⟨ret_int' HV.out.symm, hb0⟩
      | true =>
        have fD : hasD o = false := by unfold hasD; rw [hD]; rfl
        have uD := SD.out
        rw [hD] at uD
        cases hE : decide (0 < ne) with
        | true =>
          have fE : hasE o = true := by unfold hasE; rw [HM.out]; exact hE
          have uE : decide ((0 : Int) < (ne : Int)) = true := by rw [← hE]; simp
          have uE' : decide (0 < ne) = true := hE
          have HV : Hid (checkO o = 1) := lid (by simp [checkO, kk, fD, fE])
          clear fE hE fD hD kk
          go_enter Tryz.func67, Tryz.ntmps67
          go_wp2_with fail
          go_ret
          exact ⟨ret_int' HV.out.symm, hb0⟩
        | false =>
          have fE : hasE o = false := by unfold hasE; rw [HM.out]; exact hE
          have uE : decide ((0 : Int) < (ne : Int)) = false := by rw [← hE]; simp
          have uE' : decide (0 < ne) = false := hE
          have HV : Hid (checkO o = commE o) := lid (by simp [checkO, kk, fD, fE])
          clear fE hE fD hD kk
          have CC := fun (w1 : World) (h1 : ObjA w1 ae ne ap np o) => checkCommit_any o ae ap ne ce np cp w1 h1 hc
          unfold ocells at CC
          rw [tz] at CC
          have CL := lid CC
          clear CC
          go_enter Tryz.func67, Tryz.ntmps67
          go_wp2_with fail
          (with_reducible refine (CL.out _ HA.out).mono ?_); rintro e w2 ⟨rfl, hb2⟩
          go_wp2_with fail
          go_ret
          exact ⟨ret_int' HV.out.symm, hb0.trans (hb2.mono hb0.size)⟩
    have n3 := kk
    clear kk
    have m1 : (o.kind == 1) = false := by simpa using n1
    have m4 : (o.kind == 4) = false := by simpa using n4
    have m2 : (o.kind == 2) = false := by simpa using n2
    have m3 : (o.kind == 3) = false := by simpa using n3
    have HV : Hid (checkO o = 9) := lid (by simp [checkO, n1, n4, n2, n3])
    go_enter Tryz.func67, Tryz.ntmps67
    go_wp2_with fail
    go_ret
    exact ⟨ret_int' HV.out.symm, hb0⟩
  | true =>
    have fC : hasC o = false := by unfold hasC; rw [hZ, HN.out, decide_eq_false hP, hAu, decide_eq_true tz, hMs]; rfl
    have uM := SM.out
    rw [hMs] at uM
    clear hZ hAu hMs
    by_cases kk : o.kind = 1
    · have kq : (o.kind == 1) = true := by simpa using kk
      cases hE : decide (0 < ne) with
      | true =>
        have fE : hasE o = true := by unfold hasE; rw [HM.out]; exact hE
        have uE : decide ((0 : Int) < (ne : Int)) = true := by rw [← hE]; simp
        have uE' : decide (0 < ne) = true := hE
        have HV : Hid (checkO o = 1) := lid (by simp [checkO, kk, fE])
        clear fE hE kk
        go_enter Tryz.func67, Tryz.ntmps67
        go_wp2_with fail
        go_ret
        exact ⟨ret_int' HV.out.symm, hb0⟩
      | false =>
        have fE : hasE o = false := by unfold hasE; rw [HM.out]; exact hE
        have uE : decide ((0 : Int) < (ne : Int)) = false := by rw [← hE]; simp
        have uE' : decide (0 < ne) = false := hE
        have HV : Hid (checkO o = 0) := lid (by simp [checkO, kk, fE, fC])
        clear fE hE kk
        go_enter Tryz.func67, Tryz.ntmps67
        go_wp2_with fail
        go_ret
        exact ⟨ret_int' HV.out.symm, hb0⟩
    have n1 := kk
    clear kk
    by_cases kk : o.kind = 4
    · have kq : (o.kind == 4) = true := by simpa using kk
      have m1 : (o.kind == 1) = false := by simpa using n1
      cases hE : decide (0 < ne) with
      | true =>
        have fE : hasE o = true := by unfold hasE; rw [HM.out]; exact hE
        have uE : decide ((0 : Int) < (ne : Int)) = true := by rw [← hE]; simp
        have uE' : decide (0 < ne) = true := hE
        have HV : Hid (checkO o = 1) := lid (by simp [checkO, kk, fE])
        clear fE hE kk
        go_enter Tryz.func67, Tryz.ntmps67
        go_wp2_with fail
        go_ret
        exact ⟨ret_int' HV.out.symm, hb0⟩
      | false =>
        have fE : hasE o = false := by unfold hasE; rw [HM.out]; exact hE
        have uE : decide ((0 : Int) < (ne : Int)) = false := by rw [← hE]; simp
        have uE' : decide (0 < ne) = false := hE
        have HV : Hid (checkO o = 0) := lid (by simp [checkO, kk, fE, fC])
        clear fE hE kk
        go_enter Tryz.func67, Tryz.ntmps67
        go_wp2_with fail
        go_ret
        exact ⟨ret_int' HV.out.symm, hb0⟩
    have n4 := kk
    clear kk
    by_cases kk : o.kind = 2
    · have kq : (o.kind == 2) = true := by simpa using kk
      have m1 : (o.kind == 1) = false := by simpa using n1
      have m4 : (o.kind == 4) = false := by simpa using n4
      cases hD : emptyB o.data with
      | false =>
        have fD : hasD o = true := by unfold hasD; rw [hD]; rfl
        have uD := SD.out
        rw [hD] at uD
        have HV : Hid (checkO o = 1) := lid (by simp [checkO, kk, fD])
        clear fD hD kk
        go_enter Tryz.func67, Tryz.ntmps67
        go_wp2_with fail
        go_ret
        exact ⟨ret_int' HV.out.symm, hb0⟩
      | true =>
        have fD : hasD o = false := by unfold hasD; rw [hD]; rfl
        have uD := SD.out
        rw [hD] at uD
        have HV : Hid (checkO o = entsE o.ents) := lid (by simp [checkO, kk, fD, fC])
        clear fD hD kk
        go_enter Tryz.func67, Tryz.ntmps67
        go_wp2_with fail
        (with_reducible refine (checkEntries_any o.ents ne ce ae _ HA.out.elen HA.out.es HA.out.esz HA.out.emax).mono ?_); rintro e w2 ⟨rfl, hb2⟩
        go_wp2_with fail
        go_ret
        exact ⟨ret_int' HV.out.symm, hb0.trans (hb2.mono hb0.size)⟩
    have n2 := kk
    clear kk
    by_cases kk : o.kind = 3
    · have kq : (o.kind == 3) = true := by simpa using kk
      have m1 : (o.kind == 1) = false := by simpa using n1
      have m4 : (o.kind == 4) = false := by simpa using n4
      have m2 : (o.kind == 2) = false := by simpa using n2
      cases hD : emptyB o.data with
      | false =>
        have fD : hasD o = true := by unfold hasD; rw [hD]; rfl
        have uD := SD.out
        rw [hD] at uD
        have HV : Hid (checkO o = 1) := lid (by simp [checkO, kk, fD])
        clear fD hD kk
        go_enter Tryz.func67, Tryz.ntmps67
        go_wp2_with fail
        go_ret
        exact ⟨ret_int' HV.out.symm, hb0⟩
      | true =>
        have fD : hasD o = false := by unfold hasD; rw [hD]; rfl
        have uD := SD.out
        rw [hD] at uD
        cases hE : decide (0 < ne) with
        | true =>
          have fE : hasE o = true := by unfold hasE; rw [HM.out]; exact hE
          have uE : decide ((0 : Int) < (ne : Int)) = true := by rw [← hE]; simp
          have uE' : decide (0 < ne) = true := hE
          have HV : Hid (checkO o = 1) := lid (by simp [checkO, kk, fD, fE])
          clear fE hE fD hD kk
          go_enter Tryz.func67, Tryz.ntmps67
          go_wp2_with fail
          go_ret
          exact ⟨ret_int' HV.out.symm, hb0⟩
        | false =>
          have fE : hasE o = false := by unfold hasE; rw [HM.out]; exact hE
          have uE : decide ((0 : Int) < (ne : Int)) = false := by rw [← hE]; simp
          have uE' : decide (0 < ne) = false := hE
          have HV : Hid (checkO o = commE o) := lid (by simp [checkO, kk, fD, fE])
          clear fE hE fD hD kk
          have CC := fun (w1 : World) (h1 : ObjA w1 ae ne ap np o) => checkCommit_any o ae ap ne ce np cp w1 h1 hc
          unfold ocells at CC
          rw [tz] at CC
          have CL := lid CC
          clear CC
          go_enter Tryz.func67, Tryz.ntmps67
          go_wp2_with fail
          (with_reducible refine (CL.out _ HA.out).mono ?_); rintro e w2 ⟨rfl, hb2⟩
          go_wp2_with fail
          go_ret
          exact ⟨ret_int' HV.out.symm, hb0.trans (hb2.mono hb0.size)⟩
    have n3 := kk
    clear kk
    have m1 : (o.kind == 1) = false := by simpa using n1
    have m4 : (o.kind == 4) = false := by simpa using n4
    have m2 : (o.kind == 2) = false := by simpa using n2
    have m3 : (o.kind == 3) = false := by simpa using n3
    have HV : Hid (checkO o = 9) := lid (by simp [checkO, n1, n4, n2, n3])
    go_enter Tryz.func67, Tryz.ntmps67
    go_wp2_with fail
    go_ret
    exact ⟨ret_int' HV.out.symm, hb0⟩
end Go.Proofs.YtphjillihapbfaaGreatDoor
