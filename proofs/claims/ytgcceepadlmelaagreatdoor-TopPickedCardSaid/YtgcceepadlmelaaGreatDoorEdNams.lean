import Derived.Test.YtgcceepadlmelaaGreatDoorQAF
namespace Go.Proofs.YtgcceepadlmelaaGreatDoor
set_option maxRecDepth 100000
set_option maxHeartbeats 16000000
open Go.RowKit
theorem Contains_fn (s:ByteArray) (c:UInt8) (w:World):Calls Tryz.prog 138 #[.string s,.string ⟨#[c]⟩] w fun e w'=>e=.returned (.bool (decide (0≤Lib.indexByte s.data.toList c)))∧w'=w:=by
 have C:=lid (strings_Index_one s c w)
 go_enter Tryz.func138,Tryz.ntmps138
 go_wp2_with fail
 (with_reducible refine (C.out).mono ?_);rintro e w1 ⟨rfl,rfl⟩
 go_wp2_with fail
 go_ret
 exact ⟨rfl,rfl⟩
def opB (nm:ByteArray):Bool:=match nm.data.toList with
 | [c]=>decide (0≤Lib.indexByte [43,45,42,61,60] c)
 | _=>false
def nm1 (k n:Int) (nm:ByteArray):Bool:=if k=5 then (nm.toList == []) || labB nm else if k=10 then opB nm else if 1≤n then nameW nm else true
def namC (k n:Int) (nm mo:ByteArray):Int:=if nm1 k n nm=false then 6 else if n=2∧nameW mo=false then 6 else if k=13∧(nm.toList == mo.toList)=true then 7 else 0
theorem opB_not {nm:ByteArray} (h:¬ nm.size=1):opB nm=false:=by
 unfold opB
 split
 ·rename_i c e
  exact absurd (show nm.data.toList.length=1 by rw [e];rfl) h
 ·rfl
theorem opB_one (c:UInt8):opB ⟨#[c]⟩=decide (0≤Lib.indexByte [43,45,42,61,60] c):=rfl
theorem one_byte {nm:ByteArray} (h:nm.size=1):∃ c,nm=⟨#[c]⟩:=by
 obtain ⟨⟨l⟩⟩:=nm
 match l,h with
 | [c],_=>exact ⟨c,rfl⟩
theorem checkNames_fn (k i d n:Int) (nm mo:ByteArray) (ao:Option Addr) (sn cap:Nat) (w:World) (hn:nm.size≤maxLen) (hm:mo.size≤maxLen):Calls Tryz.prog 132 #[.agg #[.int .i64 k,.string nm,.string mo,.int .i64 i,.int .i64 d,.slice ao sn cap],.int .i64 n] w fun e w'=>e=.returned (.int .i64 (namC k n nm mo))∧Below w.heap.size w w':=by
 have hn63:nm.size≤9223372036854775807:=hn
 obtain ⟨W1,hW1⟩:∃ y,w.alloc (Obj.cells #[.int .i64 k,.string nm,.string mo,.int .i64 i,.int .i64 d,.slice ao sn cap] 63)=y:=⟨_,rfl⟩
 have hb1:Below w.heap.size w W1:=by rw [← hW1];exact ba _ _
 have hR1:W1.heap[w.heap.size]?=some (.cells #[.int .i64 k,.string nm,.string mo,.int .i64 i,.int .i64 d,.slice ao sn cap] 63 (0,0)):=by rw [← hW1];exact h_new rfl _
 have HW1:=lid hW1
 have HB1:=lid hb1
 have HR1:=lid hR1
 have CL:=lid (fun W=>Label_fn nm W hn)
 have CN:=lid (fun W=>name_fn nm W hn)
 have CM:=lid (fun W=>name_fn mo W hm)
 clear hW1 hb1 hR1 hn hm
 by_cases h5:k=5
 ·subst h5
  cases ue0:(nm.toList == []) with
  | true =>
   have HRW:=HR1
   have HBW:=HB1
   have c0:W1.cell? ⟨w.heap.size,0,none⟩=some (.int .i64 5):=row_cell HRW.out 0
   have c1:W1.cell? ⟨w.heap.size,1,none⟩=some (.string nm):=row_cell HRW.out 1
   have c2:W1.cell? ⟨w.heap.size,2,none⟩=some (.string mo):=row_cell HRW.out 2
   have lc:=row_lt HRW.out
   have HOK0:Hid (nm1 5 n nm=true):=lid (by unfold nm1;rw [if_pos rfl,ue0];rfl)
   have hw:=HW1.out
   subst hw
   go_enter Tryz.func132,Tryz.ntmps132
   have HOK:Hid (nm1 5 n nm=true):=HOK0
   cases u2:(n == 2) with
   | false =>
    have h2:¬ n=2:=by simpa using u2
    have HV:Hid (namC 5 n nm mo=0):=lid (by unfold namC;rw [if_neg (by rw [HOK.out];simp),if_neg (by exact fun h=>h2 h.1)];simp [])
    go_wp2_with fail
    go_ret
    exact ⟨reti HV.out.symm,HBW.out⟩
   | true =>
    have H2:Hid (n=2):=lid (by simpa using u2)
    go_wp2_with fail
    (with_reducible refine (CM.out _).mono ?_);rintro e w3 ⟨rfl,hb3⟩
    have HRV:=lid ((hb3.block _ (row_lt HRW.out)).trans HRW.out)
    replace HBW:=lid (HBW.out.trans (hb3.mono HBW.out.size))
    clear c0 c1 c2 lc HRW
    have HRW:=HRV
    have c0:w3.cell? ⟨w.heap.size,0,none⟩=some (.int .i64 5):=row_cell HRW.out 0
    have c1:w3.cell? ⟨w.heap.size,1,none⟩=some (.string nm):=row_cell HRW.out 1
    have c2:w3.cell? ⟨w.heap.size,2,none⟩=some (.string mo):=row_cell HRW.out 2
    have lc:=row_lt HRW.out
    clear hb3
    cases um:nameW mo with
    | false =>
     have HV:Hid (namC 5 n nm mo=6):=lid (by unfold namC;rw [if_neg (by rw [HOK.out];simp),if_pos ⟨H2.out,um⟩])
     go_wp2_with fail
     go_ret
     exact ⟨reti HV.out.symm,HBW.out⟩
    | true =>
     have HV:Hid (namC 5 n nm mo=0):=lid (by unfold namC;rw [if_neg (by rw [HOK.out];simp),if_neg (by rw [um];simp)];simp [])
     go_wp2_with fail
     go_ret
     exact ⟨reti HV.out.symm,HBW.out⟩
  | false =>
   have HRW:=HR1
   have HBW:=HB1
   have c0:W1.cell? ⟨w.heap.size,0,none⟩=some (.int .i64 5):=row_cell HRW.out 0
   have c1:W1.cell? ⟨w.heap.size,1,none⟩=some (.string nm):=row_cell HRW.out 1
   have c2:W1.cell? ⟨w.heap.size,2,none⟩=some (.string mo):=row_cell HRW.out 2
   have lc:=row_lt HRW.out
   go_enter Tryz.func132,Tryz.ntmps132
   go_wp2_with fail
   rw [HW1.out]
   (with_reducible refine (CL.out _).mono ?_);rintro e w2 ⟨rfl,hb2⟩
   have HR2:=lid ((hb2.block _ (row_lt HR1.out)).trans HR1.out)
   replace HBW:=lid (HB1.out.trans (hb2.mono HB1.out.size))
   clear HRW c0 c1 c2 lc
   have HRW:=HR2
   have c0:w2.cell? ⟨w.heap.size,0,none⟩=some (.int .i64 5):=row_cell HRW.out 0
   have c1:w2.cell? ⟨w.heap.size,1,none⟩=some (.string nm):=row_cell HRW.out 1
   have c2:w2.cell? ⟨w.heap.size,2,none⟩=some (.string mo):=row_cell HRW.out 2
   have lc:=row_lt HRW.out
   obtain ⟨b,hb⟩:∃ b,labB nm=b:=⟨_,rfl⟩
   rw [hb]
   have HOK0:Hid (nm1 5 n nm=b):=lid (by rw [← hb];unfold nm1;rw [if_pos rfl,ue0];rfl)
   clear hb hb2
   cases b with
   | false =>
    have HV:Hid (namC 5 n nm mo=6):=lid (by unfold namC;rw [if_pos HOK0.out])
    go_wp2_with fail
    go_ret
    exact ⟨reti HV.out.symm,HBW.out⟩
   | true =>
    have HOK:Hid (nm1 5 n nm=true):=HOK0
    cases u2:(n == 2) with
    | false =>
     have h2:¬ n=2:=by simpa using u2
     have HV:Hid (namC 5 n nm mo=0):=lid (by unfold namC;rw [if_neg (by rw [HOK.out];simp),if_neg (by exact fun h=>h2 h.1)];simp [])
     go_wp2_with fail
     go_ret
     exact ⟨reti HV.out.symm,HBW.out⟩
    | true =>
     have H2:Hid (n=2):=lid (by simpa using u2)
     go_wp2_with fail
     (with_reducible refine (CM.out _).mono ?_);rintro e w3 ⟨rfl,hb3⟩
     have HRV:=lid ((hb3.block _ (row_lt HRW.out)).trans HRW.out)
     replace HBW:=lid (HBW.out.trans (hb3.mono HBW.out.size))
     clear c0 c1 c2 lc HRW
     have HRW:=HRV
     have c0:w3.cell? ⟨w.heap.size,0,none⟩=some (.int .i64 5):=row_cell HRW.out 0
     have c1:w3.cell? ⟨w.heap.size,1,none⟩=some (.string nm):=row_cell HRW.out 1
     have c2:w3.cell? ⟨w.heap.size,2,none⟩=some (.string mo):=row_cell HRW.out 2
     have lc:=row_lt HRW.out
     clear hb3
     cases um:nameW mo with
     | false =>
      have HV:Hid (namC 5 n nm mo=6):=lid (by unfold namC;rw [if_neg (by rw [HOK.out];simp),if_pos ⟨H2.out,um⟩])
      go_wp2_with fail
      go_ret
      exact ⟨reti HV.out.symm,HBW.out⟩
     | true =>
      have HV:Hid (namC 5 n nm mo=0):=lid (by unfold namC;rw [if_neg (by rw [HOK.out];simp),if_neg (by rw [um];simp)];simp [])
      go_wp2_with fail
      go_ret
      exact ⟨reti HV.out.symm,HBW.out⟩
 have u5:(k == 5)=false:=by simpa using h5
 by_cases h10:k=10
 ·subst h10
  by_cases hs1:nm.size=1
  ·obtain ⟨c,rfl⟩:=one_byte hs1
   have CC:=lid (fun W=>Contains_fn ⟨#[43,45,42,61,60]⟩ c W)
   have HRW:=HR1
   have HBW:=HB1
   have c0:W1.cell? ⟨w.heap.size,0,none⟩=some (.int .i64 10):=row_cell HRW.out 0
   have c1:W1.cell? ⟨w.heap.size,1,none⟩=some (.string ⟨#[c]⟩):=row_cell HRW.out 1
   have c2:W1.cell? ⟨w.heap.size,2,none⟩=some (.string mo):=row_cell HRW.out 2
   have lc:=row_lt HRW.out
   go_enter Tryz.func132,Tryz.ntmps132
   go_wp2_with fail
   rw [HW1.out]
   (with_reducible refine (CC.out _).mono ?_);rintro e w2 ⟨rfl,hw2⟩
   have hb2:Below W1.heap.size W1 w2:=by rw [hw2];exact Below.refl _ _
   clear hw2
   have HR2:=lid ((hb2.block _ (row_lt HR1.out)).trans HR1.out)
   replace HBW:=lid (HB1.out.trans (hb2.mono HB1.out.size))
   clear HRW c0 c1 c2 lc
   have HRW:=HR2
   have c0:w2.cell? ⟨w.heap.size,0,none⟩=some (.int .i64 10):=row_cell HRW.out 0
   have c1:w2.cell? ⟨w.heap.size,1,none⟩=some (.string ⟨#[c]⟩):=row_cell HRW.out 1
   have c2:w2.cell? ⟨w.heap.size,2,none⟩=some (.string mo):=row_cell HRW.out 2
   have lc:=row_lt HRW.out
   obtain ⟨b,hb⟩:∃ b,decide (0≤Lib.indexByte [43,45,42,61,60] c)=b:=⟨_,rfl⟩
   rw [hb]
   have HOK0:Hid (nm1 10 n ⟨#[c]⟩=b):=lid (by rw [← hb];unfold nm1;rw [if_neg (by decide),if_pos rfl];exact opB_one c)
   clear hb hb2
   cases b with
   | false =>
    have HV:Hid (namC 10 n ⟨#[c]⟩ mo=6):=lid (by unfold namC;rw [if_pos HOK0.out])
    go_wp2_with fail
    go_ret
    exact ⟨reti HV.out.symm,HBW.out⟩
   | true =>
    have HOK:Hid (nm1 10 n ⟨#[c]⟩=true):=HOK0
    cases u2:(n == 2) with
    | false =>
     have h2:¬ n=2:=by simpa using u2
     have HV:Hid (namC 10 n ⟨#[c]⟩ mo=0):=lid (by unfold namC;rw [if_neg (by rw [HOK.out];simp),if_neg (by exact fun h=>h2 h.1)];simp [])
     go_wp2_with fail
     go_ret
     exact ⟨reti HV.out.symm,HBW.out⟩
    | true =>
     have H2:Hid (n=2):=lid (by simpa using u2)
     go_wp2_with fail
     (with_reducible refine (CM.out _).mono ?_);rintro e w3 ⟨rfl,hb3⟩
     have HRV:=lid ((hb3.block _ (row_lt HRW.out)).trans HRW.out)
     replace HBW:=lid (HBW.out.trans (hb3.mono HBW.out.size))
     clear c0 c1 c2 lc HRW
     have HRW:=HRV
     have c0:w3.cell? ⟨w.heap.size,0,none⟩=some (.int .i64 10):=row_cell HRW.out 0
     have c1:w3.cell? ⟨w.heap.size,1,none⟩=some (.string ⟨#[c]⟩):=row_cell HRW.out 1
     have c2:w3.cell? ⟨w.heap.size,2,none⟩=some (.string mo):=row_cell HRW.out 2
     have lc:=row_lt HRW.out
     clear hb3
     cases um:nameW mo with
     | false =>
      have HV:Hid (namC 10 n ⟨#[c]⟩ mo=6):=lid (by unfold namC;rw [if_neg (by rw [HOK.out];simp),if_pos ⟨H2.out,um⟩])
      go_wp2_with fail
      go_ret
      exact ⟨reti HV.out.symm,HBW.out⟩
     | true =>
      have HV:Hid (namC 10 n ⟨#[c]⟩ mo=0):=lid (by unfold namC;rw [if_neg (by rw [HOK.out];simp),if_neg (by rw [um];simp)];simp [])
      go_wp2_with fail
      go_ret
      exact ⟨reti HV.out.symm,HBW.out⟩
  ·have us1:((nm.size:Int) == 1)=false:=by simp;omega
   have HRW:=HR1
   have HBW:=HB1
   have c0:W1.cell? ⟨w.heap.size,0,none⟩=some (.int .i64 10):=row_cell HRW.out 0
   have c1:W1.cell? ⟨w.heap.size,1,none⟩=some (.string nm):=row_cell HRW.out 1
   have c2:W1.cell? ⟨w.heap.size,2,none⟩=some (.string mo):=row_cell HRW.out 2
   have lc:=row_lt HRW.out
   have HOK0:Hid (nm1 10 n nm=false):=lid (by unfold nm1;rw [if_neg (by decide),if_pos rfl];exact opB_not hs1)
   have hw:=HW1.out
   subst hw
   go_enter Tryz.func132,Tryz.ntmps132
   have HV:Hid (namC 10 n nm mo=6):=lid (by unfold namC;rw [if_pos HOK0.out])
   go_wp2_with fail
   go_ret
   exact ⟨reti HV.out.symm,HBW.out⟩
 have u10:(k == 10)=false:=by simpa using h10
 by_cases h1:1≤n
 ·have d1:decide (1≤n)=true:=by simpa using h1
  have HRW:=HR1
  have HBW:=HB1
  have c0:W1.cell? ⟨w.heap.size,0,none⟩=some (.int .i64 k):=row_cell HRW.out 0
  have c1:W1.cell? ⟨w.heap.size,1,none⟩=some (.string nm):=row_cell HRW.out 1
  have c2:W1.cell? ⟨w.heap.size,2,none⟩=some (.string mo):=row_cell HRW.out 2
  have lc:=row_lt HRW.out
  go_enter Tryz.func132,Tryz.ntmps132
  go_wp2_with fail
  rw [HW1.out]
  (with_reducible refine (CN.out _).mono ?_);rintro e w2 ⟨rfl,hb2⟩
  have HR2:=lid ((hb2.block _ (row_lt HR1.out)).trans HR1.out)
  replace HBW:=lid (HB1.out.trans (hb2.mono HB1.out.size))
  clear HRW c0 c1 c2 lc
  have HRW:=HR2
  have c0:w2.cell? ⟨w.heap.size,0,none⟩=some (.int .i64 k):=row_cell HRW.out 0
  have c1:w2.cell? ⟨w.heap.size,1,none⟩=some (.string nm):=row_cell HRW.out 1
  have c2:w2.cell? ⟨w.heap.size,2,none⟩=some (.string mo):=row_cell HRW.out 2
  have lc:=row_lt HRW.out
  obtain ⟨b,hb⟩:∃ b,nameW nm=b:=⟨_,rfl⟩
  rw [hb]
  have HOK0:Hid (nm1 k n nm=b):=lid (by rw [← hb];unfold nm1;rw [if_neg h5,if_neg h10,if_pos h1])
  clear hb hb2
  cases b with
  | false =>
   have HV:Hid (namC k n nm mo=6):=lid (by unfold namC;rw [if_pos HOK0.out])
   go_wp2_with fail
   go_ret
   exact ⟨reti HV.out.symm,HBW.out⟩
  | true =>
   have HOK:Hid (nm1 k n nm=true):=HOK0
   cases u2:(n == 2) with
   | false =>
    have h2:¬ n=2:=by simpa using u2
    cases u13:(k == 13) with
    | false =>
     have h13:¬ k=13:=by simpa using u13
     have HV:Hid (namC k n nm mo=0):=lid (by unfold namC;rw [if_neg (by rw [HOK.out];simp),if_neg (by exact fun h=>h2 h.1)];simp [h13])
     go_wp2_with fail
     go_ret
     exact ⟨reti HV.out.symm,HBW.out⟩
    | true =>
     have h13:k=13:=by simpa using u13
     subst h13
     cases ue:(nm.toList == mo.toList) with
     | false =>
      have HV:Hid (namC 13 n nm mo=0):=lid (by unfold namC;rw [if_neg (by rw [HOK.out];simp),if_neg (by exact fun h=>h2 h.1)];simp [ue])
      go_wp2_with fail
      go_ret
      exact ⟨reti HV.out.symm,HBW.out⟩
     | true =>
      have HV:Hid (namC 13 n nm mo=7):=lid (by unfold namC;rw [if_neg (by rw [HOK.out];simp),if_neg (by exact fun h=>h2 h.1)];simp [ue])
      go_wp2_with fail
      go_ret
      exact ⟨reti HV.out.symm,HBW.out⟩
   | true =>
    have H2:Hid (n=2):=lid (by simpa using u2)
    go_wp2_with fail
    (with_reducible refine (CM.out _).mono ?_);rintro e w3 ⟨rfl,hb3⟩
    have HRV:=lid ((hb3.block _ (row_lt HRW.out)).trans HRW.out)
    replace HBW:=lid (HBW.out.trans (hb3.mono HBW.out.size))
    clear c0 c1 c2 lc HRW
    have HRW:=HRV
    have c0:w3.cell? ⟨w.heap.size,0,none⟩=some (.int .i64 k):=row_cell HRW.out 0
    have c1:w3.cell? ⟨w.heap.size,1,none⟩=some (.string nm):=row_cell HRW.out 1
    have c2:w3.cell? ⟨w.heap.size,2,none⟩=some (.string mo):=row_cell HRW.out 2
    have lc:=row_lt HRW.out
    clear hb3
    cases um:nameW mo with
    | false =>
     have HV:Hid (namC k n nm mo=6):=lid (by unfold namC;rw [if_neg (by rw [HOK.out];simp),if_pos ⟨H2.out,um⟩])
     go_wp2_with fail
     go_ret
     exact ⟨reti HV.out.symm,HBW.out⟩
    | true =>
     cases u13:(k == 13) with
     | false =>
      have h13:¬ k=13:=by simpa using u13
      have HV:Hid (namC k n nm mo=0):=lid (by unfold namC;rw [if_neg (by rw [HOK.out];simp),if_neg (by rw [um];simp)];simp [h13])
      go_wp2_with fail
      go_ret
      exact ⟨reti HV.out.symm,HBW.out⟩
     | true =>
      have h13:k=13:=by simpa using u13
      subst h13
      cases ue:(nm.toList == mo.toList) with
      | false =>
       have HV:Hid (namC 13 n nm mo=0):=lid (by unfold namC;rw [if_neg (by rw [HOK.out];simp),if_neg (by rw [um];simp)];simp [ue])
       go_wp2_with fail
       go_ret
       exact ⟨reti HV.out.symm,HBW.out⟩
      | true =>
       have HV:Hid (namC 13 n nm mo=7):=lid (by unfold namC;rw [if_neg (by rw [HOK.out];simp),if_neg (by rw [um];simp)];simp [ue])
       go_wp2_with fail
       go_ret
       exact ⟨reti HV.out.symm,HBW.out⟩
 ·have d1:decide (1≤n)=false:=by simpa using h1
  have HRW:=HR1
  have HBW:=HB1
  have c0:W1.cell? ⟨w.heap.size,0,none⟩=some (.int .i64 k):=row_cell HRW.out 0
  have c1:W1.cell? ⟨w.heap.size,1,none⟩=some (.string nm):=row_cell HRW.out 1
  have c2:W1.cell? ⟨w.heap.size,2,none⟩=some (.string mo):=row_cell HRW.out 2
  have lc:=row_lt HRW.out
  have HOK0:Hid (nm1 k n nm=true):=lid (by unfold nm1;rw [if_neg h5,if_neg h10,if_neg h1])
  have hw:=HW1.out
  subst hw
  go_enter Tryz.func132,Tryz.ntmps132
  have HOK:Hid (nm1 k n nm=true):=HOK0
  cases u2:(n == 2) with
  | false =>
   have h2:¬ n=2:=by simpa using u2
   cases u13:(k == 13) with
   | false =>
    have h13:¬ k=13:=by simpa using u13
    have HV:Hid (namC k n nm mo=0):=lid (by unfold namC;rw [if_neg (by rw [HOK.out];simp),if_neg (by exact fun h=>h2 h.1)];simp [h13])
    go_wp2_with fail
    go_ret
    exact ⟨reti HV.out.symm,HBW.out⟩
   | true =>
    have h13:k=13:=by simpa using u13
    subst h13
    cases ue:(nm.toList == mo.toList) with
    | false =>
     have HV:Hid (namC 13 n nm mo=0):=lid (by unfold namC;rw [if_neg (by rw [HOK.out];simp),if_neg (by exact fun h=>h2 h.1)];simp [ue])
     go_wp2_with fail
     go_ret
     exact ⟨reti HV.out.symm,HBW.out⟩
    | true =>
     have HV:Hid (namC 13 n nm mo=7):=lid (by unfold namC;rw [if_neg (by rw [HOK.out];simp),if_neg (by exact fun h=>h2 h.1)];simp [ue])
     go_wp2_with fail
     go_ret
     exact ⟨reti HV.out.symm,HBW.out⟩
  | true =>
   have h2:n=2:=by simpa using u2
   exfalso
   omega
end Go.Proofs.YtgcceepadlmelaaGreatDoor
