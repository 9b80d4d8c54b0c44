import Derived.Test.YtgcceepadlmelaaGreatDoorEdNams
namespace Go.Proofs.YtgcceepadlmelaaGreatDoor
set_option maxRecDepth 100000
set_option maxHeartbeats 16000000
open Go.RowKit
def badN (a b c i d:Int) (nm mo:ByteArray) (sn:Nat):Bool:=((((decide (a<1) && !(nm.toList == [])) || (decide (a<2) && !(mo.toList == []))) || (decide (b<1) && !(i == 0))) || (decide (b<2) && !(d == 0))) || !((sn:Int) == c)
def nodeC (k i d:Int) (nm mo:ByteArray) (sn:Nat):Int:=match shW k with
 | none=>9
 | some (a,b,c)=>if badN a b c i d nm mo sn=true then 1 else if namC k a nm mo=0 then numC k i d else namC k a nm mo
theorem nodeC_none {k i d:Int} {nm mo:ByteArray} {sn:Nat} (h:shW k=none):nodeC k i d nm mo sn=9:=by unfold nodeC;rw [h]
theorem nodeC_bad {k i d a b c:Int} {nm mo:ByteArray} {sn:Nat} (h:shW k=some (a,b,c)) (hb:badN a b c i d nm mo sn=true):nodeC k i d nm mo sn=1:=by unfold nodeC;rw [h];exact if_pos hb
theorem nodeC_nam {k i d a b c:Int} {nm mo:ByteArray} {sn:Nat} (h:shW k=some (a,b,c)) (hb:badN a b c i d nm mo sn=false) (hn:¬ namC k a nm mo=0):nodeC k i d nm mo sn=namC k a nm mo:=by unfold nodeC;rw [h];show (if _ then _ else _)=_;rw [hb,if_neg (by simp),if_neg hn]
theorem nodeC_num {k i d a b c:Int} {nm mo:ByteArray} {sn:Nat} (h:shW k=some (a,b,c)) (hb:badN a b c i d nm mo sn=false) (hn:namC k a nm mo=0):nodeC k i d nm mo sn=numC k i d:=by unfold nodeC;rw [h];show (if _ then _ else _)=_;rw [hb,if_neg (by simp),if_pos hn]
theorem checkNode_fn (k i d:Int) (nm mo:ByteArray) (ao:Option Addr) (sn cap:Nat) (w:World) (hn:nm.size≤maxLen) (hm:mo.size≤maxLen):Calls Tryz.prog 118 #[.agg #[.int .i64 k,.string nm,.string mo,.int .i64 i,.int .i64 d,.slice ao sn cap]] w fun e w'=>e=.returned (.int .i64 (nodeC k i d nm mo sn))∧Below w.heap.size w w':=by
 obtain ⟨W1,hW1⟩:∃ y,w.alloc (Obj.cells #[.int .i64 k,.string nm,.string mo,.int .i64 i,.int .i64 d,.slice ao sn cap] 63)=y:=⟨_,rfl⟩
 have hb1:Below w.heap.size w W1:=by rw [← hW1];exact ba _ _
 have hR1:W1.heap[w.heap.size]?=some (.cells #[.int .i64 k,.string nm,.string mo,.int .i64 i,.int .i64 d,.slice ao sn cap] 63 (0,0)):=by rw [← hW1];exact h_new rfl _
 have c0:W1.cell? ⟨w.heap.size,0,none⟩=some (.int .i64 k):=row_cell hR1 0
 have lc:=row_lt hR1
 have HW1:=lid hW1
 have HB1:=lid hb1
 have HR1:=lid hR1
 have CS:=lid (fun W=>shapeOf_fn k W)
 have CN:=lid (fun (a:Int) W=>checkNames_fn k i d a nm mo ao sn cap W hn hm)
 have CU:=lid (fun W=>checkNumbers_fn k i d nm mo ao sn cap W)
 clear hW1 hb1 hR1 hn hm
 go_enter Tryz.func118,Tryz.ntmps118
 go_wp2_with fail
 rw [HW1.out]
 (with_reducible refine (CS.out _).mono ?_);rintro e w2 ⟨rfl,hb2⟩
 have HR2:=lid ((hb2.block _ lc).trans HR1.out)
 have HB2:=lid (HB1.out.trans (hb2.mono HB1.out.size))
 have lw2:=row_lt HR2.out
 clear c0 lc hb2
 cases hsh:shW k with
 | none =>
  have HV:Hid (nodeC k i d nm mo sn=9):=lid (nodeC_none hsh)
  have HBA:=lid (HB2.out.alloc HB2.out.size (.cells #[.int .i64 0,.int .i64 0,.int .i64 0] 160))
  rw [show shV none=.tuple #[.agg #[.int .i64 0,.int .i64 0,.int .i64 0],.bool false] from rfl]
  clear hsh
  go_wp2_with fail
  go_ret
  exact ⟨reti HV.out.symm,HBA.out⟩
 | some x =>
  obtain ⟨a,b,c⟩:=x
  rw [show shV (some (a,b,c))=.tuple #[.agg #[.int .i64 a,.int .i64 b,.int .i64 c],.bool true] from rfl]
  have HSH:=lid hsh
  obtain ⟨W3,hW3⟩:∃ y,w2.alloc (Obj.cells #[.int .i64 a,.int .i64 b,.int .i64 c] 160)=y:=⟨_,rfl⟩
  have hb3:Below w2.heap.size w2 W3:=by rw [← hW3];exact ba _ _
  have hS3:W3.heap[w2.heap.size]?=some (.cells #[.int .i64 a,.int .i64 b,.int .i64 c] 160 (0,0)):=by rw [← hW3];exact h_new rfl _
  have hR3:=(hb3.block _ lw2).trans HR2.out
  have HW3:=lid hW3
  have HB3:=lid (HB2.out.trans (hb3.mono HB2.out.size))
  have HR3:=lid hR3
  have HBL:Hid (Below w.heap.size w (w2.alloc (Obj.cells #[.int .i64 a,.int .i64 b,.int .i64 c] 160))):=lid (by rw [hW3];exact HB3.out)
  have HRL:Hid ((w2.alloc (Obj.cells #[.int .i64 a,.int .i64 b,.int .i64 c] 160)).heap[w.heap.size]?=some (.cells #[.int .i64 k,.string nm,.string mo,.int .i64 i,.int .i64 d,.slice ao sn cap] 63 (0,0))):=lid (by rw [hW3];exact hR3)
  have hR2:=HR2.out
  have e0:w2.cell? ⟨w.heap.size,0,none⟩=some (.int .i64 k):=row_cell hR2 0
  have e1:w2.cell? ⟨w.heap.size,1,none⟩=some (.string nm):=row_cell hR2 1
  have e2:w2.cell? ⟨w.heap.size,2,none⟩=some (.string mo):=row_cell hR2 2
  have e3:w2.cell? ⟨w.heap.size,3,none⟩=some (.int .i64 i):=row_cell hR2 3
  have e4:w2.cell? ⟨w.heap.size,4,none⟩=some (.int .i64 d):=row_cell hR2 4
  have e5:w2.cell? ⟨w.heap.size,5,none⟩=some (.slice ao sn cap):=row_cell hR2 5
  have le:=row_lt hR2
  have le3:=row_lt hR3
  clear hsh hW3 hb3 hS3 hR3 lw2 HR2 HR1 HB1 HW1 hR2
  cases u0:decide (a<1) with
  | false =>
   cases u1:decide (a<2) with
   | false =>
    cases u2:decide (b<1) with
    | false =>
     cases u3:decide (b<2) with
     | false =>
      cases z:((sn:Int) == c) with
      | false =>
       have HV:Hid (nodeC k i d nm mo sn=1):=lid (nodeC_bad HSH.out (by simp [badN,u0,u1,u2,u3,z]))
       go_wp2_with fail
       go_ret
       exact ⟨reti HV.out.symm,HBL.out⟩
      | true =>
       have HBD:Hid (badN a b c i d nm mo sn=false):=lid (by simp [badN,u0,u1,u2,u3,z])
       go_wp2_with fail
       (with_reducible refine (CN.out a _).mono ?_);rintro e w4 ⟨rfl,hb4⟩
       have HB4:=lid (HBL.out.trans (hb4.mono HBL.out.size))
       have hR4:=(hb4.block _ (row_lt HRL.out)).trans HRL.out
       have f0:w4.cell? ⟨w.heap.size,0,none⟩=some (.int .i64 k):=row_cell hR4 0
       have f1:w4.cell? ⟨w.heap.size,1,none⟩=some (.string nm):=row_cell hR4 1
       have f2:w4.cell? ⟨w.heap.size,2,none⟩=some (.string mo):=row_cell hR4 2
       have f3:w4.cell? ⟨w.heap.size,3,none⟩=some (.int .i64 i):=row_cell hR4 3
       have f4:w4.cell? ⟨w.heap.size,4,none⟩=some (.int .i64 d):=row_cell hR4 4
       have f5:w4.cell? ⟨w.heap.size,5,none⟩=some (.slice ao sn cap):=row_cell hR4 5
       have lf:=row_lt hR4
       obtain ⟨q,hq⟩:∃ q,namC k a nm mo=q:=⟨_,rfl⟩
       have HQ:=lid hq
       rw [hq]
       clear hb4 hR4 hq e0 e1 e2 e3 e4 e5 le le3
       cases uq:(q == 0) with
       | false =>
        have HV:Hid (nodeC k i d nm mo sn=q):=lid (by rw [nodeC_nam HSH.out HBD.out (by rw [HQ.out];simpa using uq),HQ.out])
        go_wp2_with fail
        go_ret
        exact ⟨reti HV.out.symm,HB4.out⟩
       | true =>
        have HV:Hid (nodeC k i d nm mo sn=numC k i d):=lid (nodeC_num HSH.out HBD.out (by rw [HQ.out];simpa using uq))
        go_wp2_with fail
        (with_reducible refine (CU.out _).mono ?_);rintro e w5 ⟨rfl,hb5⟩
        go_wp2_with fail
        go_ret
        exact ⟨reti HV.out.symm,HB4.out.trans (hb5.mono HB4.out.size)⟩
     | true =>
      by_cases v3:d=0
      ·subst v3
       cases z:((sn:Int) == c) with
       | false =>
        have HV:Hid (nodeC k i 0 nm mo sn=1):=lid (nodeC_bad HSH.out (by simp [badN,u0,u1,u2,u3,z]))
        go_wp2_with fail
        go_ret
        exact ⟨reti HV.out.symm,HBL.out⟩
       | true =>
        have HBD:Hid (badN a b c i 0 nm mo sn=false):=lid (by simp [badN,u0,u1,u2,u3,z])
        go_wp2_with fail
        (with_reducible refine (CN.out a _).mono ?_);rintro e w4 ⟨rfl,hb4⟩
        have HB4:=lid (HBL.out.trans (hb4.mono HBL.out.size))
        have hR4:=(hb4.block _ (row_lt HRL.out)).trans HRL.out
        have f0:w4.cell? ⟨w.heap.size,0,none⟩=some (.int .i64 k):=row_cell hR4 0
        have f1:w4.cell? ⟨w.heap.size,1,none⟩=some (.string nm):=row_cell hR4 1
        have f2:w4.cell? ⟨w.heap.size,2,none⟩=some (.string mo):=row_cell hR4 2
        have f3:w4.cell? ⟨w.heap.size,3,none⟩=some (.int .i64 i):=row_cell hR4 3
        have f4:w4.cell? ⟨w.heap.size,4,none⟩=some (.int .i64 0):=row_cell hR4 4
        have f5:w4.cell? ⟨w.heap.size,5,none⟩=some (.slice ao sn cap):=row_cell hR4 5
        have lf:=row_lt hR4
        obtain ⟨q,hq⟩:∃ q,namC k a nm mo=q:=⟨_,rfl⟩
        have HQ:=lid hq
        rw [hq]
        clear hb4 hR4 hq e0 e1 e2 e3 e4 e5 le le3
        cases uq:(q == 0) with
        | false =>
         have HV:Hid (nodeC k i 0 nm mo sn=q):=lid (by rw [nodeC_nam HSH.out HBD.out (by rw [HQ.out];simpa using uq),HQ.out])
         go_wp2_with fail
         go_ret
         exact ⟨reti HV.out.symm,HB4.out⟩
        | true =>
         have HV:Hid (nodeC k i 0 nm mo sn=numC k i 0):=lid (nodeC_num HSH.out HBD.out (by rw [HQ.out];simpa using uq))
         go_wp2_with fail
         (with_reducible refine (CU.out _).mono ?_);rintro e w5 ⟨rfl,hb5⟩
         go_wp2_with fail
         go_ret
         exact ⟨reti HV.out.symm,HB4.out.trans (hb5.mono HB4.out.size)⟩
      ·have v3':(d == 0)=false:=by simpa using v3
       have HV:Hid (nodeC k i d nm mo sn=1):=lid (nodeC_bad HSH.out (by simp [badN,u0,u1,u2,u3,v3']))
       go_wp2_with fail
       go_ret
       exact ⟨reti HV.out.symm,HBL.out⟩
    | true =>
     by_cases v2:i=0
     ·subst v2
      cases u3:decide (b<2) with
      | false =>
       cases z:((sn:Int) == c) with
       | false =>
        have HV:Hid (nodeC k 0 d nm mo sn=1):=lid (nodeC_bad HSH.out (by simp [badN,u0,u1,u2,u3,z]))
        go_wp2_with fail
        go_ret
        exact ⟨reti HV.out.symm,HBL.out⟩
       | true =>
        have HBD:Hid (badN a b c 0 d nm mo sn=false):=lid (by simp [badN,u0,u1,u2,u3,z])
        go_wp2_with fail
        (with_reducible refine (CN.out a _).mono ?_);rintro e w4 ⟨rfl,hb4⟩
        have HB4:=lid (HBL.out.trans (hb4.mono HBL.out.size))
        have hR4:=(hb4.block _ (row_lt HRL.out)).trans HRL.out
        have f0:w4.cell? ⟨w.heap.size,0,none⟩=some (.int .i64 k):=row_cell hR4 0
        have f1:w4.cell? ⟨w.heap.size,1,none⟩=some (.string nm):=row_cell hR4 1
        have f2:w4.cell? ⟨w.heap.size,2,none⟩=some (.string mo):=row_cell hR4 2
        have f3:w4.cell? ⟨w.heap.size,3,none⟩=some (.int .i64 0):=row_cell hR4 3
        have f4:w4.cell? ⟨w.heap.size,4,none⟩=some (.int .i64 d):=row_cell hR4 4
        have f5:w4.cell? ⟨w.heap.size,5,none⟩=some (.slice ao sn cap):=row_cell hR4 5
        have lf:=row_lt hR4
        obtain ⟨q,hq⟩:∃ q,namC k a nm mo=q:=⟨_,rfl⟩
        have HQ:=lid hq
        rw [hq]
        clear hb4 hR4 hq e0 e1 e2 e3 e4 e5 le le3
        cases uq:(q == 0) with
        | false =>
         have HV:Hid (nodeC k 0 d nm mo sn=q):=lid (by rw [nodeC_nam HSH.out HBD.out (by rw [HQ.out];simpa using uq),HQ.out])
         go_wp2_with fail
         go_ret
         exact ⟨reti HV.out.symm,HB4.out⟩
        | true =>
         have HV:Hid (nodeC k 0 d nm mo sn=numC k 0 d):=lid (nodeC_num HSH.out HBD.out (by rw [HQ.out];simpa using uq))
         go_wp2_with fail
         (with_reducible refine (CU.out _).mono ?_);rintro e w5 ⟨rfl,hb5⟩
         go_wp2_with fail
         go_ret
         exact ⟨reti HV.out.symm,HB4.out.trans (hb5.mono HB4.out.size)⟩
      | true =>
       by_cases v3:d=0
       ·subst v3
        cases z:((sn:Int) == c) with
        | false =>
         have HV:Hid (nodeC k 0 0 nm mo sn=1):=lid (nodeC_bad HSH.out (by simp [badN,u0,u1,u2,u3,z]))
         go_wp2_with fail
         go_ret
         exact ⟨reti HV.out.symm,HBL.out⟩
        | true =>
         have HBD:Hid (badN a b c 0 0 nm mo sn=false):=lid (by simp [badN,u0,u1,u2,u3,z])
         go_wp2_with fail
         (with_reducible refine (CN.out a _).mono ?_);rintro e w4 ⟨rfl,hb4⟩
         have HB4:=lid (HBL.out.trans (hb4.mono HBL.out.size))
         have hR4:=(hb4.block _ (row_lt HRL.out)).trans HRL.out
         have f0:w4.cell? ⟨w.heap.size,0,none⟩=some (.int .i64 k):=row_cell hR4 0
         have f1:w4.cell? ⟨w.heap.size,1,none⟩=some (.string nm):=row_cell hR4 1
         have f2:w4.cell? ⟨w.heap.size,2,none⟩=some (.string mo):=row_cell hR4 2
         have f3:w4.cell? ⟨w.heap.size,3,none⟩=some (.int .i64 0):=row_cell hR4 3
         have f4:w4.cell? ⟨w.heap.size,4,none⟩=some (.int .i64 0):=row_cell hR4 4
         have f5:w4.cell? ⟨w.heap.size,5,none⟩=some (.slice ao sn cap):=row_cell hR4 5
         have lf:=row_lt hR4
         obtain ⟨q,hq⟩:∃ q,namC k a nm mo=q:=⟨_,rfl⟩
         have HQ:=lid hq
         rw [hq]
         clear hb4 hR4 hq e0 e1 e2 e3 e4 e5 le le3
         cases uq:(q == 0) with
         | false =>
          have HV:Hid (nodeC k 0 0 nm mo sn=q):=lid (by rw [nodeC_nam HSH.out HBD.out (by rw [HQ.out];simpa using uq),HQ.out])
          go_wp2_with fail
          go_ret
          exact ⟨reti HV.out.symm,HB4.out⟩
         | true =>
          have HV:Hid (nodeC k 0 0 nm mo sn=numC k 0 0):=lid (nodeC_num HSH.out HBD.out (by rw [HQ.out];simpa using uq))
          go_wp2_with fail
          (with_reducible refine (CU.out _).mono ?_);rintro e w5 ⟨rfl,hb5⟩
          go_wp2_with fail
          go_ret
          exact ⟨reti HV.out.symm,HB4.out.trans (hb5.mono HB4.out.size)⟩
       ·have v3':(d == 0)=false:=by simpa using v3
        have HV:Hid (nodeC k 0 d nm mo sn=1):=lid (nodeC_bad HSH.out (by simp [badN,u0,u1,u2,u3,v3']))
        go_wp2_with fail
        go_ret
        exact ⟨reti HV.out.symm,HBL.out⟩
     ·have v2':(i == 0)=false:=by simpa using v2
      have HV:Hid (nodeC k i d nm mo sn=1):=lid (nodeC_bad HSH.out (by simp [badN,u0,u1,u2,v2']))
      go_wp2_with fail
      go_ret
      exact ⟨reti HV.out.symm,HBL.out⟩
   | true =>
    cases v1:(mo.toList == []) with
    | false =>
     have HV:Hid (nodeC k i d nm mo sn=1):=lid (nodeC_bad HSH.out (by simp [badN,u0,u1,v1]))
     go_wp2_with fail
     go_ret
     exact ⟨reti HV.out.symm,HBL.out⟩
    | true =>
     cases u2:decide (b<1) with
     | false =>
      cases u3:decide (b<2) with
      | false =>
       cases z:((sn:Int) == c) with
       | false =>
        have HV:Hid (nodeC k i d nm mo sn=1):=lid (nodeC_bad HSH.out (by simp [badN,u0,u1,v1,u2,u3,z]))
        go_wp2_with fail
        go_ret
        exact ⟨reti HV.out.symm,HBL.out⟩
       | true =>
        have HBD:Hid (badN a b c i d nm mo sn=false):=lid (by simp [badN,u0,u1,v1,u2,u3,z])
        go_wp2_with fail
        (with_reducible refine (CN.out a _).mono ?_);rintro e w4 ⟨rfl,hb4⟩
        have HB4:=lid (HBL.out.trans (hb4.mono HBL.out.size))
        have hR4:=(hb4.block _ (row_lt HRL.out)).trans HRL.out
        have f0:w4.cell? ⟨w.heap.size,0,none⟩=some (.int .i64 k):=row_cell hR4 0
        have f1:w4.cell? ⟨w.heap.size,1,none⟩=some (.string nm):=row_cell hR4 1
        have f2:w4.cell? ⟨w.heap.size,2,none⟩=some (.string mo):=row_cell hR4 2
        have f3:w4.cell? ⟨w.heap.size,3,none⟩=some (.int .i64 i):=row_cell hR4 3
        have f4:w4.cell? ⟨w.heap.size,4,none⟩=some (.int .i64 d):=row_cell hR4 4
        have f5:w4.cell? ⟨w.heap.size,5,none⟩=some (.slice ao sn cap):=row_cell hR4 5
        have lf:=row_lt hR4
        obtain ⟨q,hq⟩:∃ q,namC k a nm mo=q:=⟨_,rfl⟩
        have HQ:=lid hq
        rw [hq]
        clear hb4 hR4 hq e0 e1 e2 e3 e4 e5 le le3
        cases uq:(q == 0) with
        | false =>
         have HV:Hid (nodeC k i d nm mo sn=q):=lid (by rw [nodeC_nam HSH.out HBD.out (by rw [HQ.out];simpa using uq),HQ.out])
         go_wp2_with fail
         go_ret
         exact ⟨reti HV.out.symm,HB4.out⟩
        | true =>
         have HV:Hid (nodeC k i d nm mo sn=numC k i d):=lid (nodeC_num HSH.out HBD.out (by rw [HQ.out];simpa using uq))
         go_wp2_with fail
         (with_reducible refine (CU.out _).mono ?_);rintro e w5 ⟨rfl,hb5⟩
         go_wp2_with fail
         go_ret
         exact ⟨reti HV.out.symm,HB4.out.trans (hb5.mono HB4.out.size)⟩
      | true =>
       by_cases v3:d=0
       ·subst v3
        cases z:((sn:Int) == c) with
        | false =>
         have HV:Hid (nodeC k i 0 nm mo sn=1):=lid (nodeC_bad HSH.out (by simp [badN,u0,u1,v1,u2,u3,z]))
         go_wp2_with fail
         go_ret
         exact ⟨reti HV.out.symm,HBL.out⟩
        | true =>
         have HBD:Hid (badN a b c i 0 nm mo sn=false):=lid (by simp [badN,u0,u1,v1,u2,u3,z])
         go_wp2_with fail
         (with_reducible refine (CN.out a _).mono ?_);rintro e w4 ⟨rfl,hb4⟩
         have HB4:=lid (HBL.out.trans (hb4.mono HBL.out.size))
         have hR4:=(hb4.block _ (row_lt HRL.out)).trans HRL.out
         have f0:w4.cell? ⟨w.heap.size,0,none⟩=some (.int .i64 k):=row_cell hR4 0
         have f1:w4.cell? ⟨w.heap.size,1,none⟩=some (.string nm):=row_cell hR4 1
         have f2:w4.cell? ⟨w.heap.size,2,none⟩=some (.string mo):=row_cell hR4 2
         have f3:w4.cell? ⟨w.heap.size,3,none⟩=some (.int .i64 i):=row_cell hR4 3
         have f4:w4.cell? ⟨w.heap.size,4,none⟩=some (.int .i64 0):=row_cell hR4 4
         have f5:w4.cell? ⟨w.heap.size,5,none⟩=some (.slice ao sn cap):=row_cell hR4 5
         have lf:=row_lt hR4
         obtain ⟨q,hq⟩:∃ q,namC k a nm mo=q:=⟨_,rfl⟩
         have HQ:=lid hq
         rw [hq]
         clear hb4 hR4 hq e0 e1 e2 e3 e4 e5 le le3
         cases uq:(q == 0) with
         | false =>
          have HV:Hid (nodeC k i 0 nm mo sn=q):=lid (by rw [nodeC_nam HSH.out HBD.out (by rw [HQ.out];simpa using uq),HQ.out])
          go_wp2_with fail
          go_ret
          exact ⟨reti HV.out.symm,HB4.out⟩
         | true =>
          have HV:Hid (nodeC k i 0 nm mo sn=numC k i 0):=lid (nodeC_num HSH.out HBD.out (by rw [HQ.out];simpa using uq))
          go_wp2_with fail
          (with_reducible refine (CU.out _).mono ?_);rintro e w5 ⟨rfl,hb5⟩
          go_wp2_with fail
          go_ret
          exact ⟨reti HV.out.symm,HB4.out.trans (hb5.mono HB4.out.size)⟩
       ·have v3':(d == 0)=false:=by simpa using v3
        have HV:Hid (nodeC k i d nm mo sn=1):=lid (nodeC_bad HSH.out (by simp [badN,u0,u1,v1,u2,u3,v3']))
        go_wp2_with fail
        go_ret
        exact ⟨reti HV.out.symm,HBL.out⟩
     | true =>
      by_cases v2:i=0
      ·subst v2
       cases u3:decide (b<2) with
       | false =>
        cases z:((sn:Int) == c) with
        | false =>
         have HV:Hid (nodeC k 0 d nm mo sn=1):=lid (nodeC_bad HSH.out (by simp [badN,u0,u1,v1,u2,u3,z]))
         go_wp2_with fail
         go_ret
         exact ⟨reti HV.out.symm,HBL.out⟩
        | true =>
         have HBD:Hid (badN a b c 0 d nm mo sn=false):=lid (by simp [badN,u0,u1,v1,u2,u3,z])
         go_wp2_with fail
         (with_reducible refine (CN.out a _).mono ?_);rintro e w4 ⟨rfl,hb4⟩
         have HB4:=lid (HBL.out.trans (hb4.mono HBL.out.size))
         have hR4:=(hb4.block _ (row_lt HRL.out)).trans HRL.out
         have f0:w4.cell? ⟨w.heap.size,0,none⟩=some (.int .i64 k):=row_cell hR4 0
         have f1:w4.cell? ⟨w.heap.size,1,none⟩=some (.string nm):=row_cell hR4 1
         have f2:w4.cell? ⟨w.heap.size,2,none⟩=some (.string mo):=row_cell hR4 2
         have f3:w4.cell? ⟨w.heap.size,3,none⟩=some (.int .i64 0):=row_cell hR4 3
         have f4:w4.cell? ⟨w.heap.size,4,none⟩=some (.int .i64 d):=row_cell hR4 4
         have f5:w4.cell? ⟨w.heap.size,5,none⟩=some (.slice ao sn cap):=row_cell hR4 5
         have lf:=row_lt hR4
         obtain ⟨q,hq⟩:∃ q,namC k a nm mo=q:=⟨_,rfl⟩
         have HQ:=lid hq
         rw [hq]
         clear hb4 hR4 hq e0 e1 e2 e3 e4 e5 le le3
         cases uq:(q == 0) with
         | false =>
          have HV:Hid (nodeC k 0 d nm mo sn=q):=lid (by rw [nodeC_nam HSH.out HBD.out (by rw [HQ.out];simpa using uq),HQ.out])
          go_wp2_with fail
          go_ret
          exact ⟨reti HV.out.symm,HB4.out⟩
         | true =>
          have HV:Hid (nodeC k 0 d nm mo sn=numC k 0 d):=lid (nodeC_num HSH.out HBD.out (by rw [HQ.out];simpa using uq))
          go_wp2_with fail
          (with_reducible refine (CU.out _).mono ?_);rintro e w5 ⟨rfl,hb5⟩
          go_wp2_with fail
          go_ret
          exact ⟨reti HV.out.symm,HB4.out.trans (hb5.mono HB4.out.size)⟩
       | true =>
        by_cases v3:d=0
        ·subst v3
         cases z:((sn:Int) == c) with
         | false =>
          have HV:Hid (nodeC k 0 0 nm mo sn=1):=lid (nodeC_bad HSH.out (by simp [badN,u0,u1,v1,u2,u3,z]))
          go_wp2_with fail
          go_ret
          exact ⟨reti HV.out.symm,HBL.out⟩
         | true =>
          have HBD:Hid (badN a b c 0 0 nm mo sn=false):=lid (by simp [badN,u0,u1,v1,u2,u3,z])
          go_wp2_with fail
          (with_reducible refine (CN.out a _).mono ?_);rintro e w4 ⟨rfl,hb4⟩
          have HB4:=lid (HBL.out.trans (hb4.mono HBL.out.size))
          have hR4:=(hb4.block _ (row_lt HRL.out)).trans HRL.out
          have f0:w4.cell? ⟨w.heap.size,0,none⟩=some (.int .i64 k):=row_cell hR4 0
          have f1:w4.cell? ⟨w.heap.size,1,none⟩=some (.string nm):=row_cell hR4 1
          have f2:w4.cell? ⟨w.heap.size,2,none⟩=some (.string mo):=row_cell hR4 2
          have f3:w4.cell? ⟨w.heap.size,3,none⟩=some (.int .i64 0):=row_cell hR4 3
          have f4:w4.cell? ⟨w.heap.size,4,none⟩=some (.int .i64 0):=row_cell hR4 4
          have f5:w4.cell? ⟨w.heap.size,5,none⟩=some (.slice ao sn cap):=row_cell hR4 5
          have lf:=row_lt hR4
          obtain ⟨q,hq⟩:∃ q,namC k a nm mo=q:=⟨_,rfl⟩
          have HQ:=lid hq
          rw [hq]
          clear hb4 hR4 hq e0 e1 e2 e3 e4 e5 le le3
          cases uq:(q == 0) with
          | false =>
           have HV:Hid (nodeC k 0 0 nm mo sn=q):=lid (by rw [nodeC_nam HSH.out HBD.out (by rw [HQ.out];simpa using uq),HQ.out])
           go_wp2_with fail
           go_ret
           exact ⟨reti HV.out.symm,HB4.out⟩
          | true =>
           have HV:Hid (nodeC k 0 0 nm mo sn=numC k 0 0):=lid (nodeC_num HSH.out HBD.out (by rw [HQ.out];simpa using uq))
           go_wp2_with fail
           (with_reducible refine (CU.out _).mono ?_);rintro e w5 ⟨rfl,hb5⟩
           go_wp2_with fail
           go_ret
           exact ⟨reti HV.out.symm,HB4.out.trans (hb5.mono HB4.out.size)⟩
        ·have v3':(d == 0)=false:=by simpa using v3
         have HV:Hid (nodeC k 0 d nm mo sn=1):=lid (nodeC_bad HSH.out (by simp [badN,u0,u1,v1,u2,u3,v3']))
         go_wp2_with fail
         go_ret
         exact ⟨reti HV.out.symm,HBL.out⟩
      ·have v2':(i == 0)=false:=by simpa using v2
       have HV:Hid (nodeC k i d nm mo sn=1):=lid (nodeC_bad HSH.out (by simp [badN,u0,u1,v1,u2,v2']))
       go_wp2_with fail
       go_ret
       exact ⟨reti HV.out.symm,HBL.out⟩
  | true =>
   cases v0:(nm.toList == []) with
   | false =>
    have HV:Hid (nodeC k i d nm mo sn=1):=lid (nodeC_bad HSH.out (by simp [badN,u0,v0]))
    go_wp2_with fail
    go_ret
    exact ⟨reti HV.out.symm,HBL.out⟩
   | true =>
    cases u1:decide (a<2) with
    | false =>
     cases u2:decide (b<1) with
     | false =>
      cases u3:decide (b<2) with
      | false =>
       cases z:((sn:Int) == c) with
       | false =>
        have HV:Hid (nodeC k i d nm mo sn=1):=lid (nodeC_bad HSH.out (by simp [badN,u0,v0,u1,u2,u3,z]))
        go_wp2_with fail
        go_ret
        exact ⟨reti HV.out.symm,HBL.out⟩
       | true =>
        have HBD:Hid (badN a b c i d nm mo sn=false):=lid (by simp [badN,u0,v0,u1,u2,u3,z])
        go_wp2_with fail
        (with_reducible refine (CN.out a _).mono ?_);rintro e w4 ⟨rfl,hb4⟩
        have HB4:=lid (HBL.out.trans (hb4.mono HBL.out.size))
        have hR4:=(hb4.block _ (row_lt HRL.out)).trans HRL.out
        have f0:w4.cell? ⟨w.heap.size,0,none⟩=some (.int .i64 k):=row_cell hR4 0
        have f1:w4.cell? ⟨w.heap.size,1,none⟩=some (.string nm):=row_cell hR4 1
        have f2:w4.cell? ⟨w.heap.size,2,none⟩=some (.string mo):=row_cell hR4 2
        have f3:w4.cell? ⟨w.heap.size,3,none⟩=some (.int .i64 i):=row_cell hR4 3
        have f4:w4.cell? ⟨w.heap.size,4,none⟩=some (.int .i64 d):=row_cell hR4 4
        have f5:w4.cell? ⟨w.heap.size,5,none⟩=some (.slice ao sn cap):=row_cell hR4 5
        have lf:=row_lt hR4
        obtain ⟨q,hq⟩:∃ q,namC k a nm mo=q:=⟨_,rfl⟩
        have HQ:=lid hq
        rw [hq]
        clear hb4 hR4 hq e0 e1 e2 e3 e4 e5 le le3
        cases uq:(q == 0) with
        | false =>
         have HV:Hid (nodeC k i d nm mo sn=q):=lid (by rw [nodeC_nam HSH.out HBD.out (by rw [HQ.out];simpa using uq),HQ.out])
         go_wp2_with fail
         go_ret
         exact ⟨reti HV.out.symm,HB4.out⟩
        | true =>
         have HV:Hid (nodeC k i d nm mo sn=numC k i d):=lid (nodeC_num HSH.out HBD.out (by rw [HQ.out];simpa using uq))
         go_wp2_with fail
         (with_reducible refine (CU.out _).mono ?_);rintro e w5 ⟨rfl,hb5⟩
         go_wp2_with fail
         go_ret
         exact ⟨reti HV.out.symm,HB4.out.trans (hb5.mono HB4.out.size)⟩
      | true =>
       by_cases v3:d=0
       ·subst v3
        cases z:((sn:Int) == c) with
        | false =>
         have HV:Hid (nodeC k i 0 nm mo sn=1):=lid (nodeC_bad HSH.out (by simp [badN,u0,v0,u1,u2,u3,z]))
         go_wp2_with fail
         go_ret
         exact ⟨reti HV.out.symm,HBL.out⟩
        | true =>
         have HBD:Hid (badN a b c i 0 nm mo sn=false):=lid (by simp [badN,u0,v0,u1,u2,u3,z])
         go_wp2_with fail
         (with_reducible refine (CN.out a _).mono ?_);rintro e w4 ⟨rfl,hb4⟩
         have HB4:=lid (HBL.out.trans (hb4.mono HBL.out.size))
         have hR4:=(hb4.block _ (row_lt HRL.out)).trans HRL.out
         have f0:w4.cell? ⟨w.heap.size,0,none⟩=some (.int .i64 k):=row_cell hR4 0
         have f1:w4.cell? ⟨w.heap.size,1,none⟩=some (.string nm):=row_cell hR4 1
         have f2:w4.cell? ⟨w.heap.size,2,none⟩=some (.string mo):=row_cell hR4 2
         have f3:w4.cell? ⟨w.heap.size,3,none⟩=some (.int .i64 i):=row_cell hR4 3
         have f4:w4.cell? ⟨w.heap.size,4,none⟩=some (.int .i64 0):=row_cell hR4 4
         have f5:w4.cell? ⟨w.heap.size,5,none⟩=some (.slice ao sn cap):=row_cell hR4 5
         have lf:=row_lt hR4
         obtain ⟨q,hq⟩:∃ q,namC k a nm mo=q:=⟨_,rfl⟩
         have HQ:=lid hq
         rw [hq]
         clear hb4 hR4 hq e0 e1 e2 e3 e4 e5 le le3
         cases uq:(q == 0) with
         | false =>
          have HV:Hid (nodeC k i 0 nm mo sn=q):=lid (by rw [nodeC_nam HSH.out HBD.out (by rw [HQ.out];simpa using uq),HQ.out])
          go_wp2_with fail
          go_ret
          exact ⟨reti HV.out.symm,HB4.out⟩
         | true =>
          have HV:Hid (nodeC k i 0 nm mo sn=numC k i 0):=lid (nodeC_num HSH.out HBD.out (by rw [HQ.out];simpa using uq))
          go_wp2_with fail
          (with_reducible refine (CU.out _).mono ?_);rintro e w5 ⟨rfl,hb5⟩
          go_wp2_with fail
          go_ret
          exact ⟨reti HV.out.symm,HB4.out.trans (hb5.mono HB4.out.size)⟩
       ·have v3':(d == 0)=false:=by simpa using v3
        have HV:Hid (nodeC k i d nm mo sn=1):=lid (nodeC_bad HSH.out (by simp [badN,u0,v0,u1,u2,u3,v3']))
        go_wp2_with fail
        go_ret
        exact ⟨reti HV.out.symm,HBL.out⟩
     | true =>
      by_cases v2:i=0
      ·subst v2
       cases u3:decide (b<2) with
       | false =>
        cases z:((sn:Int) == c) with
        | false =>
         have HV:Hid (nodeC k 0 d nm mo sn=1):=lid (nodeC_bad HSH.out (by simp [badN,u0,v0,u1,u2,u3,z]))
         go_wp2_with fail
         go_ret
         exact ⟨reti HV.out.symm,HBL.out⟩
        | true =>
         have HBD:Hid (badN a b c 0 d nm mo sn=false):=lid (by simp [badN,u0,v0,u1,u2,u3,z])
         go_wp2_with fail
         (with_reducible refine (CN.out a _).mono ?_);rintro e w4 ⟨rfl,hb4⟩
         have HB4:=lid (HBL.out.trans (hb4.mono HBL.out.size))
         have hR4:=(hb4.block _ (row_lt HRL.out)).trans HRL.out
         have f0:w4.cell? ⟨w.heap.size,0,none⟩=some (.int .i64 k):=row_cell hR4 0
         have f1:w4.cell? ⟨w.heap.size,1,none⟩=some (.string nm):=row_cell hR4 1
         have f2:w4.cell? ⟨w.heap.size,2,none⟩=some (.string mo):=row_cell hR4 2
         have f3:w4.cell? ⟨w.heap.size,3,none⟩=some (.int .i64 0):=row_cell hR4 3
         have f4:w4.cell? ⟨w.heap.size,4,none⟩=some (.int .i64 d):=row_cell hR4 4
         have f5:w4.cell? ⟨w.heap.size,5,none⟩=some (.slice ao sn cap):=row_cell hR4 5
         have lf:=row_lt hR4
         obtain ⟨q,hq⟩:∃ q,namC k a nm mo=q:=⟨_,rfl⟩
         have HQ:=lid hq
         rw [hq]
         clear hb4 hR4 hq e0 e1 e2 e3 e4 e5 le le3
         cases uq:(q == 0) with
         | false =>
          have HV:Hid (nodeC k 0 d nm mo sn=q):=lid (by rw [nodeC_nam HSH.out HBD.out (by rw [HQ.out];simpa using uq),HQ.out])
          go_wp2_with fail
          go_ret
          exact ⟨reti HV.out.symm,HB4.out⟩
         | true =>
          have HV:Hid (nodeC k 0 d nm mo sn=numC k 0 d):=lid (nodeC_num HSH.out HBD.out (by rw [HQ.out];simpa using uq))
          go_wp2_with fail
          (with_reducible refine (CU.out _).mono ?_);rintro e w5 ⟨rfl,hb5⟩
          go_wp2_with fail
          go_ret
          exact ⟨reti HV.out.symm,HB4.out.trans (hb5.mono HB4.out.size)⟩
       | true =>
        by_cases v3:d=0
        ·subst v3
         cases z:((sn:Int) == c) with
         | false =>
          have HV:Hid (nodeC k 0 0 nm mo sn=1):=lid (nodeC_bad HSH.out (by simp [badN,u0,v0,u1,u2,u3,z]))
          go_wp2_with fail
          go_ret
          exact ⟨reti HV.out.symm,HBL.out⟩
         | true =>
          have HBD:Hid (badN a b c 0 0 nm mo sn=false):=lid (by simp [badN,u0,v0,u1,u2,u3,z])
          go_wp2_with fail
          (with_reducible refine (CN.out a _).mono ?_);rintro e w4 ⟨rfl,hb4⟩
          have HB4:=lid (HBL.out.trans (hb4.mono HBL.out.size))
          have hR4:=(hb4.block _ (row_lt HRL.out)).trans HRL.out
          have f0:w4.cell? ⟨w.heap.size,0,none⟩=some (.int .i64 k):=row_cell hR4 0
          have f1:w4.cell? ⟨w.heap.size,1,none⟩=some (.string nm):=row_cell hR4 1
          have f2:w4.cell? ⟨w.heap.size,2,none⟩=some (.string mo):=row_cell hR4 2
          have f3:w4.cell? ⟨w.heap.size,3,none⟩=some (.int .i64 0):=row_cell hR4 3
          have f4:w4.cell? ⟨w.heap.size,4,none⟩=some (.int .i64 0):=row_cell hR4 4
          have f5:w4.cell? ⟨w.heap.size,5,none⟩=some (.slice ao sn cap):=row_cell hR4 5
          have lf:=row_lt hR4
          obtain ⟨q,hq⟩:∃ q,namC k a nm mo=q:=⟨_,rfl⟩
          have HQ:=lid hq
          rw [hq]
          clear hb4 hR4 hq e0 e1 e2 e3 e4 e5 le le3
          cases uq:(q == 0) with
          | false =>
           have HV:Hid (nodeC k 0 0 nm mo sn=q):=lid (by rw [nodeC_nam HSH.out HBD.out (by rw [HQ.out];simpa using uq),HQ.out])
           go_wp2_with fail
           go_ret
           exact ⟨reti HV.out.symm,HB4.out⟩
          | true =>
           have HV:Hid (nodeC k 0 0 nm mo sn=numC k 0 0):=lid (nodeC_num HSH.out HBD.out (by rw [HQ.out];simpa using uq))
           go_wp2_with fail
           (with_reducible refine (CU.out _).mono ?_);rintro e w5 ⟨rfl,hb5⟩
           go_wp2_with fail
           go_ret
           exact ⟨reti HV.out.symm,HB4.out.trans (hb5.mono HB4.out.size)⟩
        ·have v3':(d == 0)=false:=by simpa using v3
         have HV:Hid (nodeC k 0 d nm mo sn=1):=lid (nodeC_bad HSH.out (by simp [badN,u0,v0,u1,u2,u3,v3']))
         go_wp2_with fail
         go_ret
         exact ⟨reti HV.out.symm,HBL.out⟩
      ·have v2':(i == 0)=false:=by simpa using v2
       have HV:Hid (nodeC k i d nm mo sn=1):=lid (nodeC_bad HSH.out (by simp [badN,u0,v0,u1,u2,v2']))
       go_wp2_with fail
       go_ret
       exact ⟨reti HV.out.symm,HBL.out⟩
    | true =>
     cases v1:(mo.toList == []) with
     | false =>
      have HV:Hid (nodeC k i d nm mo sn=1):=lid (nodeC_bad HSH.out (by simp [badN,u0,v0,u1,v1]))
      go_wp2_with fail
      go_ret
      exact ⟨reti HV.out.symm,HBL.out⟩
     | true =>
      cases u2:decide (b<1) with
      | false =>
       cases u3:decide (b<2) with
       | false =>
        cases z:((sn:Int) == c) with
        | false =>
         have HV:Hid (nodeC k i d nm mo sn=1):=lid (nodeC_bad HSH.out (by simp [badN,u0,v0,u1,v1,u2,u3,z]))
         go_wp2_with fail
         go_ret
         exact ⟨reti HV.out.symm,HBL.out⟩
        | true =>
         have HBD:Hid (badN a b c i d nm mo sn=false):=lid (by simp [badN,u0,v0,u1,v1,u2,u3,z])
         go_wp2_with fail
         (with_reducible refine (CN.out a _).mono ?_);rintro e w4 ⟨rfl,hb4⟩
         have HB4:=lid (HBL.out.trans (hb4.mono HBL.out.size))
         have hR4:=(hb4.block _ (row_lt HRL.out)).trans HRL.out
         have f0:w4.cell? ⟨w.heap.size,0,none⟩=some (.int .i64 k):=row_cell hR4 0
         have f1:w4.cell? ⟨w.heap.size,1,none⟩=some (.string nm):=row_cell hR4 1
         have f2:w4.cell? ⟨w.heap.size,2,none⟩=some (.string mo):=row_cell hR4 2
         have f3:w4.cell? ⟨w.heap.size,3,none⟩=some (.int .i64 i):=row_cell hR4 3
         have f4:w4.cell? ⟨w.heap.size,4,none⟩=some (.int .i64 d):=row_cell hR4 4
         have f5:w4.cell? ⟨w.heap.size,5,none⟩=some (.slice ao sn cap):=row_cell hR4 5
         have lf:=row_lt hR4
         obtain ⟨q,hq⟩:∃ q,namC k a nm mo=q:=⟨_,rfl⟩
         have HQ:=lid hq
         rw [hq]
         clear hb4 hR4 hq e0 e1 e2 e3 e4 e5 le le3
         cases uq:(q == 0) with
         | false =>
          have HV:Hid (nodeC k i d nm mo sn=q):=lid (by rw [nodeC_nam HSH.out HBD.out (by rw [HQ.out];simpa using uq),HQ.out])
          go_wp2_with fail
          go_ret
          exact ⟨reti HV.out.symm,HB4.out⟩
         | true =>
          have HV:Hid (nodeC k i d nm mo sn=numC k i d):=lid (nodeC_num HSH.out HBD.out (by rw [HQ.out];simpa using uq))
          go_wp2_with fail
          (with_reducible refine (CU.out _).mono ?_);rintro e w5 ⟨rfl,hb5⟩
          go_wp2_with fail
          go_ret
          exact ⟨reti HV.out.symm,HB4.out.trans (hb5.mono HB4.out.size)⟩
       | true =>
        by_cases v3:d=0
        ·subst v3
         cases z:((sn:Int) == c) with
         | false =>
          have HV:Hid (nodeC k i 0 nm mo sn=1):=lid (nodeC_bad HSH.out (by simp [badN,u0,v0,u1,v1,u2,u3,z]))
          go_wp2_with fail
          go_ret
          exact ⟨reti HV.out.symm,HBL.out⟩
         | true =>
          have HBD:Hid (badN a b c i 0 nm mo sn=false):=lid (by simp [badN,u0,v0,u1,v1,u2,u3,z])
          go_wp2_with fail
          (with_reducible refine (CN.out a _).mono ?_);rintro e w4 ⟨rfl,hb4⟩
          have HB4:=lid (HBL.out.trans (hb4.mono HBL.out.size))
          have hR4:=(hb4.block _ (row_lt HRL.out)).trans HRL.out
          have f0:w4.cell? ⟨w.heap.size,0,none⟩=some (.int .i64 k):=row_cell hR4 0
          have f1:w4.cell? ⟨w.heap.size,1,none⟩=some (.string nm):=row_cell hR4 1
          have f2:w4.cell? ⟨w.heap.size,2,none⟩=some (.string mo):=row_cell hR4 2
          have f3:w4.cell? ⟨w.heap.size,3,none⟩=some (.int .i64 i):=row_cell hR4 3
          have f4:w4.cell? ⟨w.heap.size,4,none⟩=some (.int .i64 0):=row_cell hR4 4
          have f5:w4.cell? ⟨w.heap.size,5,none⟩=some (.slice ao sn cap):=row_cell hR4 5
          have lf:=row_lt hR4
          obtain ⟨q,hq⟩:∃ q,namC k a nm mo=q:=⟨_,rfl⟩
          have HQ:=lid hq
          rw [hq]
          clear hb4 hR4 hq e0 e1 e2 e3 e4 e5 le le3
          cases uq:(q == 0) with
          | false =>
           have HV:Hid (nodeC k i 0 nm mo sn=q):=lid (by rw [nodeC_nam HSH.out HBD.out (by rw [HQ.out];simpa using uq),HQ.out])
           go_wp2_with fail
           go_ret
           exact ⟨reti HV.out.symm,HB4.out⟩
          | true =>
           have HV:Hid (nodeC k i 0 nm mo sn=numC k i 0):=lid (nodeC_num HSH.out HBD.out (by rw [HQ.out];simpa using uq))
           go_wp2_with fail
           (with_reducible refine (CU.out _).mono ?_);rintro e w5 ⟨rfl,hb5⟩
           go_wp2_with fail
           go_ret
           exact ⟨reti HV.out.symm,HB4.out.trans (hb5.mono HB4.out.size)⟩
        ·have v3':(d == 0)=false:=by simpa using v3
         have HV:Hid (nodeC k i d nm mo sn=1):=lid (nodeC_bad HSH.out (by simp [badN,u0,v0,u1,v1,u2,u3,v3']))
         go_wp2_with fail
         go_ret
         exact ⟨reti HV.out.symm,HBL.out⟩
      | true =>
       by_cases v2:i=0
       ·subst v2
        cases u3:decide (b<2) with
        | false =>
         cases z:((sn:Int) == c) with
         | false =>
          have HV:Hid (nodeC k 0 d nm mo sn=1):=lid (nodeC_bad HSH.out (by simp [badN,u0,v0,u1,v1,u2,u3,z]))
          go_wp2_with fail
          go_ret
          exact ⟨reti HV.out.symm,HBL.out⟩
         | true =>
          have HBD:Hid (badN a b c 0 d nm mo sn=false):=lid (by simp [badN,u0,v0,u1,v1,u2,u3,z])
          go_wp2_with fail
          (with_reducible refine (CN.out a _).mono ?_);rintro e w4 ⟨rfl,hb4⟩
          have HB4:=lid (HBL.out.trans (hb4.mono HBL.out.size))
          have hR4:=(hb4.block _ (row_lt HRL.out)).trans HRL.out
          have f0:w4.cell? ⟨w.heap.size,0,none⟩=some (.int .i64 k):=row_cell hR4 0
          have f1:w4.cell? ⟨w.heap.size,1,none⟩=some (.string nm):=row_cell hR4 1
          have f2:w4.cell? ⟨w.heap.size,2,none⟩=some (.string mo):=row_cell hR4 2
          have f3:w4.cell? ⟨w.heap.size,3,none⟩=some (.int .i64 0):=row_cell hR4 3
          have f4:w4.cell? ⟨w.heap.size,4,none⟩=some (.int .i64 d):=row_cell hR4 4
          have f5:w4.cell? ⟨w.heap.size,5,none⟩=some (.slice ao sn cap):=row_cell hR4 5
          have lf:=row_lt hR4
          obtain ⟨q,hq⟩:∃ q,namC k a nm mo=q:=⟨_,rfl⟩
          have HQ:=lid hq
          rw [hq]
          clear hb4 hR4 hq e0 e1 e2 e3 e4 e5 le le3
          cases uq:(q == 0) with
          | false =>
           have HV:Hid (nodeC k 0 d nm mo sn=q):=lid (by rw [nodeC_nam HSH.out HBD.out (by rw [HQ.out];simpa using uq),HQ.out])
           go_wp2_with fail
           go_ret
           exact ⟨reti HV.out.symm,HB4.out⟩
          | true =>
           have HV:Hid (nodeC k 0 d nm mo sn=numC k 0 d):=lid (nodeC_num HSH.out HBD.out (by rw [HQ.out];simpa using uq))
           go_wp2_with fail
           (with_reducible refine (CU.out _).mono ?_);rintro e w5 ⟨rfl,hb5⟩
           go_wp2_with fail
           go_ret
           exact ⟨reti HV.out.symm,HB4.out.trans (hb5.mono HB4.out.size)⟩
        | true =>
         by_cases v3:d=0
         ·subst v3
          cases z:((sn:Int) == c) with
          | false =>
           have HV:Hid (nodeC k 0 0 nm mo sn=1):=lid (nodeC_bad HSH.out (by simp [badN,u0,v0,u1,v1,u2,u3,z]))
           go_wp2_with fail
           go_ret
           exact ⟨reti HV.out.symm,HBL.out⟩
          | true =>
           have HBD:Hid (badN a b c 0 0 nm mo sn=false):=lid (by simp [badN,u0,v0,u1,v1,u2,u3,z])
           go_wp2_with fail
           (with_reducible refine (CN.out a _).mono ?_);rintro e w4 ⟨rfl,hb4⟩
           have HB4:=lid (HBL.out.trans (hb4.mono HBL.out.size))
           have hR4:=(hb4.block _ (row_lt HRL.out)).trans HRL.out
           have f0:w4.cell? ⟨w.heap.size,0,none⟩=some (.int .i64 k):=row_cell hR4 0
           have f1:w4.cell? ⟨w.heap.size,1,none⟩=some (.string nm):=row_cell hR4 1
           have f2:w4.cell? ⟨w.heap.size,2,none⟩=some (.string mo):=row_cell hR4 2
           have f3:w4.cell? ⟨w.heap.size,3,none⟩=some (.int .i64 0):=row_cell hR4 3
           have f4:w4.cell? ⟨w.heap.size,4,none⟩=some (.int .i64 0):=row_cell hR4 4
           have f5:w4.cell? ⟨w.heap.size,5,none⟩=some (.slice ao sn cap):=row_cell hR4 5
           have lf:=row_lt hR4
           obtain ⟨q,hq⟩:∃ q,namC k a nm mo=q:=⟨_,rfl⟩
           have HQ:=lid hq
           rw [hq]
           clear hb4 hR4 hq e0 e1 e2 e3 e4 e5 le le3
           cases uq:(q == 0) with
           | false =>
            have HV:Hid (nodeC k 0 0 nm mo sn=q):=lid (by rw [nodeC_nam HSH.out HBD.out (by rw [HQ.out];simpa using uq),HQ.out])
            go_wp2_with fail
            go_ret
            exact ⟨reti HV.out.symm,HB4.out⟩
           | true =>
            have HV:Hid (nodeC k 0 0 nm mo sn=numC k 0 0):=lid (nodeC_num HSH.out HBD.out (by rw [HQ.out];simpa using uq))
            go_wp2_with fail
            (with_reducible refine (CU.out _).mono ?_);rintro e w5 ⟨rfl,hb5⟩
            go_wp2_with fail
            go_ret
            exact ⟨reti HV.out.symm,HB4.out.trans (hb5.mono HB4.out.size)⟩
         ·have v3':(d == 0)=false:=by simpa using v3
          have HV:Hid (nodeC k 0 d nm mo sn=1):=lid (nodeC_bad HSH.out (by simp [badN,u0,v0,u1,v1,u2,u3,v3']))
          go_wp2_with fail
          go_ret
          exact ⟨reti HV.out.symm,HBL.out⟩
       ·have v2':(i == 0)=false:=by simpa using v2
        have HV:Hid (nodeC k i d nm mo sn=1):=lid (nodeC_bad HSH.out (by simp [badN,u0,v0,u1,v1,u2,v2']))
        go_wp2_with fail
        go_ret
        exact ⟨reti HV.out.symm,HBL.out⟩
end Go.Proofs.YtgcceepadlmelaaGreatDoor
