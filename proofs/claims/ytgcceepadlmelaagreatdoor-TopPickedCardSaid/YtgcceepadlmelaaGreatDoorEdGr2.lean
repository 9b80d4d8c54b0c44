import Derived.Test.YtgcceepadlmelaaGreatDoorQAS
import Derived.Test.YtgcceepadlmelaaGreatDoorEdPairs
namespace Go.Proofs.YtgcceepadlmelaaGreatDoor
set_option maxRecDepth 100000
set_option maxHeartbeats 8000000
open Go.RowKit
theorem SomeB.of {w w1 w2:World} {r:Ending} (h:SomeB w1 r w2) (hb:Below w.heap.size w w1):SomeB w r w2:=⟨h.1,hb.trans (h.2.mono hb.size)⟩
theorem GreatE_any (e:Ew) (w:World) (he:EA w e):Calls Tryz.prog 63 #[.agg (eca e)] w (SomeB w):=by
 obtain ⟨W0,hW0⟩:∃ y,w.alloc (.cells (eca e) 63)=y:=⟨_,rfl⟩
 have hb0:Below w.heap.size w W0:=by rw [← hW0];exact ba _ _
 have hR:W0.heap[w.heap.size]?=some (.cells (eca e) 63 (0,0)):=by rw [← hW0];exact h_new rfl _
 have CN:=lid (Nodes_upto (cntE e) e (Nat.le_refl _) W0 (he.lift hb0))
 have CL:=lid (fun W (hb:Below W0.heap.size W0 W)=>long_upto (cntE e) e (Nat.le_refl _) W ((he.lift hb0).lift hb))
 have hall:∀ W,Below W0.heap.size W0 W→W.cell? ⟨w.heap.size,0,none⟩=some (.int .i64 e.kind)∧W.cell? ⟨w.heap.size,1,none⟩=some (.string e.name)∧W.cell? ⟨w.heap.size,2,none⟩=some (.string e.more)∧W.cell? ⟨w.heap.size,3,none⟩=some (.int .i64 e.int)∧W.cell? ⟨w.heap.size,4,none⟩=some (.int .i64 e.den)∧W.cell? ⟨w.heap.size,5,none⟩=some (.slice e.ao e.sub.length e.cap)∧w.heap.size<W.heap.size:=fun W hb=>by
  have hR':=(hb.block _ (row_lt hR)).trans hR
  exact ⟨row_cell hR' 0,row_cell hR' 1,row_cell hR' 2,row_cell hR' 3,row_cell hR' 4,row_cell hR' 5,row_lt hR'⟩
 obtain ⟨x0,x1,x2,x3,x4,x5,lx⟩:=hall W0 (Below.refl _ _)
 have HALL:=lid hall
 have HW0:=lid hW0
 have HB0:=lid hb0
 clear hall hW0 hb0 hR he
 go_enter Tryz.func63,Tryz.ntmps63
 go_wp2_with fail
 rw [HW0.out]
 go_wp2_with fail
 (with_reducible refine (CN.out).mono ?_);rintro e w1 ⟨⟨q,rfl⟩,hb1⟩
 have HB1:=lid hb1
 clear hb1 CN x0 x1 x2 x3 x4 x5 lx
 obtain ⟨x0,x1,x2,x3,x4,x5,lx⟩:=HALL.out w1 HB1.out
 by_cases hq:40<q
 ·have d1:decide (q>40)=true:=decide_eq_true hq
  have d2:decide (40<q)=true:=decide_eq_true hq
  go_wp2_with fail
  go_ret
  exact ⟨⟨_,rfl⟩,HB0.out.trans (HB1.out.mono HB0.out.size)⟩
 ·have d1:decide (q>40)=false:=decide_eq_false hq
  have d2:decide (40<q)=false:=decide_eq_false hq
  go_wp2_with fail
  (with_reducible refine (CL.out _ HB1.out).mono ?_);rintro e w2 ⟨⟨q2,rfl⟩,hb2⟩
  have HB2:=lid (HB1.out.trans (hb2.mono HB1.out.size))
  clear hb2
  go_wp2_with fail
  go_ret
  exact ⟨⟨_,rfl⟩,HB0.out.trans (HB2.out.mono HB0.out.size)⟩
theorem GreatUses_any (ao:Option Addr) (n cap:Nat) (l:List ByteArray) (w:World) (h:SA w ao n cap l):Calls Tryz.prog 35 #[.slice ao n cap] w (SomeB w):=by
 have HS:=lid h
 have hcap:n≤cap:=h.le
 have hmax:cap≤9223372036854775807:=h.max
 clear h
 by_cases hn:10<n
 ·have d1:decide ((n:Int)>10)=true:=by simp;omega
  go_enter Tryz.func35,Tryz.ntmps35
  go_wp2_with fail
  go_ret
  exact ⟨⟨_,rfl⟩,Below.refl _ _⟩
 ·have d1:decide ((n:Int)>10)=false:=by simp;omega
  go_enter Tryz.func35,Tryz.ntmps35
  go_wp2_with fail
  go_loopw [3] (fun u3 wr=>∃ k:Nat,k≤n∧u3=.int .i64 k∧Hid (Below w.heap.size w wr)) (fun u3 _=>n-(intOf u3).toNat)
  case atStart=>exact ⟨0,Nat.zero_le _,rfl,lid (Below.refl _ _)⟩
  case round =>
   obtain ⟨k,hk,rfl,HB⟩:=hrel
   by_cases hkn:k<n
   ·have hkl:k<l.length:=by rw [HS.out.len];exact hkn
    obtain ⟨b,o,rfl,hbz,hc⟩:=HS.out.sl.at_ (k:=k) hkn
    obtain ⟨x,hx⟩:∃ x,l[k]=x:=⟨_,rfl⟩
    have hxs:x.size≤9223372036854775807:=by rw [← hx];exact HS.out.sz _ (List.getElem_mem hkl)
    have y0:wr.cell? ⟨b,o+k,none⟩=some (.string x):=by
     rw [bc HB.out hbz _]
     exact hc k _ (by rw [← hx];simp [svals,hkl])
    have hlb:b<wr.heap.size:=Nat.lt_of_lt_of_le hbz HB.out.size
    clear hc hx hkl
    by_cases hb:120<x.size
    ·have d2:decide ((x.size:Int)>120)=true:=by simp;omega
     go_wp2_with fail
     go_ret
     exact ⟨⟨_,rfl⟩,HB.out⟩
    ·have d2:decide ((x.size:Int)>120)=false:=by simp;omega
     go_wp2_with fail
     go_roundw
     case rel=>exact ⟨k+1,by omega,by go_num,HB⟩
     case measure=>simp [intOf];omega
   ·obtain rfl:k=n:=by omega
    clear hkn
    go_wp2_with fail
    go_ret
    exact ⟨⟨_,rfl⟩,HB.out⟩
theorem GreatDecls_any (ao:Option Addr) (n cap:Nat) (l:List Dw) (w:World) (h:DLA w ao n cap l):Calls Tryz.prog 36 #[.slice ao n cap] w (SomeB w):=by
 have HS:=lid h
 have hcap:n≤cap:=h.le
 have hmax:cap≤9223372036854775807:=h.max
 clear h
 by_cases hn:8<n
 ·have d1:decide ((n:Int)>8)=true:=by simp;omega
  go_enter Tryz.func36,Tryz.ntmps36
  go_wp2_with fail
  go_ret
  exact ⟨⟨_,rfl⟩,Below.refl _ _⟩
 ·have d1:decide ((n:Int)>8)=false:=by simp;omega
  go_enter Tryz.func36,Tryz.ntmps36
  go_wp2_with fail
  go_loopw [3] (fun u3 wr=>∃ k:Nat,k≤n∧u3=.int .i64 k∧Hid (Below w.heap.size w wr)) (fun u3 _=>n-(intOf u3).toNat)
  case atStart=>exact ⟨0,Nat.zero_le _,rfl,lid (Below.refl _ _)⟩
  case round =>
   obtain ⟨k,hk,rfl,HB⟩:=hrel
   by_cases hkn:k<n
   ·have hkl:k<l.length:=by rw [HS.out.len];exact hkn
    obtain ⟨b,o,rfl,hlb,hc⟩:=dla_row HS.out HB.out hkn hkl
    have hb00:b<w.heap.size:=by
     obtain ⟨b',o',e',h',_⟩:=HS.out.sl.at_ (k:=k) hkn
     cases e'
     exact h'
    have HX:Hid (DwA w l[k]):=lid (HS.out.el _ (List.getElem_mem hkl))
    obtain ⟨x,hx⟩:∃ x,l[k]=x:=⟨_,rfl⟩
    rw [hx] at HX hc
    have hnc:x.names.length≤x.ncap:=HX.out.names.le
    have hnm:x.ncap≤9223372036854775807:=HX.out.names.max
    have y0:wr.cell? ⟨b,o+k*11,none⟩=some (.int .i64 x.id):=by have:=hc 0 _ rfl (by omega);exact this
    have y1:wr.cell? ⟨b,o+k*11+1,none⟩=some (.int .i64 x.kind):=by have:=hc 1 _ rfl (by omega);rwa [← Nat.add_assoc] at this
    have y2:wr.cell? ⟨b,o+k*11+2,none⟩=some (.bool x.pub):=by have:=hc 2 _ rfl (by omega);rwa [← Nat.add_assoc] at this
    have y3:wr.cell? ⟨b,o+k*11+3,none⟩=some (.slice x.na x.names.length x.ncap):=by have:=hc 3 _ rfl (by omega);rwa [← Nat.add_assoc] at this
    have y4:wr.cell? ⟨b,o+k*11+4,none⟩=some (.bool x.doubt):=by have:=hc 4 _ rfl (by omega);rwa [← Nat.add_assoc] at this
    have y5:wr.cell? ⟨b,o+k*11+5,none⟩=some (.int .i64 x.body.kind):=by have:=hc 5 _ rfl (by omega);rwa [← Nat.add_assoc] at this
    have y6:wr.cell? ⟨b,o+k*11+6,none⟩=some (.string x.body.name):=by have:=hc 6 _ rfl (by omega);rwa [← Nat.add_assoc] at this
    have y7:wr.cell? ⟨b,o+k*11+7,none⟩=some (.string x.body.more):=by have:=hc 7 _ rfl (by omega);rwa [← Nat.add_assoc] at this
    have y8:wr.cell? ⟨b,o+k*11+8,none⟩=some (.int .i64 x.body.int):=by have:=hc 8 _ rfl (by omega);rwa [← Nat.add_assoc] at this
    have y9:wr.cell? ⟨b,o+k*11+9,none⟩=some (.int .i64 x.body.den):=by have:=hc 9 _ rfl (by omega);rwa [← Nat.add_assoc] at this
    have y10:wr.cell? ⟨b,o+k*11+10,none⟩=some (.slice x.body.ao x.body.sub.length x.body.cap):=by have:=hc 10 _ rfl (by omega);rwa [← Nat.add_assoc] at this
    have HC:Hid (∀ W,Below w.heap.size w W→W.cell? ⟨b,o+k*11+3,none⟩=some (.slice x.na x.names.length x.ncap)):=lid (fun W hW=>by rw [bc hW hb00 _,← bc HB.out hb00 _];exact y3)
    have CG:=lid (fun W (hW:Below w.heap.size w W)=>GreatE_any x.body W (HX.out.body.lift hW))
    clear hc hx hkl
    by_cases hb:5<x.names.length
    ·have d2:decide ((x.names.length:Int)>5)=true:=by simp;omega
     go_wp2_with fail
     go_ret
     exact ⟨⟨_,rfl⟩,HB.out⟩
    ·have d2:decide ((x.names.length:Int)>5)=false:=by simp;omega
     go_wp2_with fail
     (with_reducible refine (CG.out _ HB.out).mono ?_);rintro e w2 ⟨⟨q,rfl⟩,hb2⟩
     have HB2:=lid (HB.out.trans (hb2.mono HB.out.size))
     clear hb2 CG y0 y1 y2 y3 y4 y5 y6 y7 y8 y9 y10
     cases q with
     | true =>
      go_wp2_with fail
      go_ret
      exact ⟨⟨_,rfl⟩,HB2.out⟩
     | false =>
      obtain ⟨wq,rfl⟩:∃ y,y=wr:=⟨_,rfl⟩
      clear hlb
      go_wp2_with fail
      obtain ⟨nn,hnn⟩:∃ nn,x.names.length=nn:=⟨_,rfl⟩
      rw [hnn] at HC hnc
      have HNS:=lid HX.out.names
      rw [hnn] at HNS
      clear hnn
      go_loopw [4] (fun u4 wr=>∃ j:Nat,j≤nn∧u4=.int .i64 j∧Hid (Below w.heap.size w wr)) (fun u4 _=>nn-(intOf u4).toNat)
      case atStart=>exact ⟨0,Nat.zero_le _,rfl,HB2⟩
      case round =>
       clear HB2
       obtain ⟨j,hj,rfl,HB2⟩:=hrel
       have hlb:b<wr.heap.size:=Nat.lt_of_lt_of_le hb00 HB2.out.size
       by_cases hjn:j<nn
       ·have hjl:j<x.names.length:=by have:=HNS.out.len;omega
        obtain ⟨b',o',hna,hbz,hc⟩:=HNS.out.sl.at_ (k:=j) hjn
        have z3:wr.cell? ⟨b,o+k*11+3,none⟩=some (.slice (some ⟨b',o',none⟩) nn x.ncap):=by rw [← hna];exact HC.out wr HB2.out
        obtain ⟨s,hs⟩:∃ s,x.names[j]=s:=⟨_,rfl⟩
        have hss:s.size≤9223372036854775807:=by rw [← hs];exact HNS.out.sz _ (List.getElem_mem hjl)
        have v0:wr.cell? ⟨b',o'+j,none⟩=some (.string s):=by
         rw [bc HB2.out hbz _]
         exact hc j _ (by rw [← hs];simp [svals,hjl])
        have hlb':b'<wr.heap.size:=Nat.lt_of_lt_of_le hbz HB2.out.size
        clear hc hs hjl hna
        by_cases hb:100<s.size
        ·have d3:decide ((s.size:Int)>100)=true:=by simp;omega
         go_wp2_with fail
         go_ret
         exact ⟨⟨_,rfl⟩,HB2.out⟩
        ·have d3:decide ((s.size:Int)>100)=false:=by simp;omega
         go_wp2_with fail
         go_roundw
         case rel=>exact ⟨j+1,by omega,by go_num,HB2⟩
         case measure=>simp [intOf];omega
       ·obtain rfl:j=nn:=by omega
        have z3:wr.cell? ⟨b,o+k*11+3,none⟩=some (.slice x.na j x.ncap):=HC.out wr HB2.out
        clear hjn
        go_wp2_with fail
        go_roundw
        case rel=>exact ⟨k+1,by omega,by go_num,HB2⟩
        case measure=>simp [intOf];omega
   ·obtain rfl:k=n:=by omega
    clear hkn
    go_wp2_with fail
    go_ret
    exact ⟨⟨_,rfl⟩,HB.out⟩
theorem GreatM_any (m:Mw) (w:World) (h:MwA w m):Calls Tryz.prog 15 #[.agg (mca m)] w (SomeB w):=by
 obtain ⟨W0,hW0⟩:∃ y,w.alloc (.cells (mca m) 45)=y:=⟨_,rfl⟩
 have hb0:Below w.heap.size w W0:=by rw [← hW0];exact ba _ _
 have hR:W0.heap[w.heap.size]?=some (.cells (mca m) 45 (0,0)):=by rw [← hW0];exact h_new rfl _
 have CU:=lid (GreatUses_any m.ua m.uses.length m.ucap m.uses W0 (h.uses.below hb0))
 have CD:=lid (fun W (hb:Below W0.heap.size W0 W)=>GreatDecls_any m.da m.decls.length m.dcap m.decls W ((h.decls.below hb0).below hb))
 have hall:∀ W,Below W0.heap.size W0 W→W.cell? ⟨w.heap.size,0,none⟩=some (.string m.label)∧W.cell? ⟨w.heap.size,1,none⟩=some (.slice m.ua m.uses.length m.ucap)∧W.cell? ⟨w.heap.size,2,none⟩=some (.slice m.da m.decls.length m.dcap)∧w.heap.size<W.heap.size:=fun W hb=>by
  have hR':=(hb.block _ (row_lt hR)).trans hR
  exact ⟨row_cell hR' 0,row_cell hR' 1,row_cell hR' 2,row_lt hR'⟩
 obtain ⟨x0,x1,x2,lx⟩:=hall W0 (Below.refl _ _)
 have hsz:m.label.size≤9223372036854775807:=h.sz
 have HALL:=lid hall
 have HW0:=lid hW0
 have HB0:=lid hb0
 clear hall hW0 hb0 hR h
 by_cases hb:120<m.label.size
 ·have d1:decide ((m.label.size:Int)>120)=true:=by simp;omega
  go_enter Tryz.func15,Tryz.ntmps15
  go_wp2_with fail
  rw [HW0.out]
  go_wp2_with fail
  go_ret
  exact ⟨⟨_,rfl⟩,HB0.out⟩
 ·have d1:decide ((m.label.size:Int)>120)=false:=by simp;omega
  go_enter Tryz.func15,Tryz.ntmps15
  go_wp2_with fail
  rw [HW0.out]
  go_wp2_with fail
  (with_reducible refine (CU.out).mono ?_);rintro e w1 ⟨⟨q,rfl⟩,hb1⟩
  have HB1:=lid hb1
  clear hb1 CU x0 x1 x2 lx
  obtain ⟨x0,x1,x2,lx⟩:=HALL.out w1 HB1.out
  cases q with
  | true =>
   go_wp2_with fail
   go_ret
   exact ⟨⟨_,rfl⟩,HB0.out.trans (HB1.out.mono HB0.out.size)⟩
  | false =>
   go_wp2_with fail
   (with_reducible refine (CD.out _ HB1.out).mono ?_);rintro e w2 ⟨⟨q2,rfl⟩,hb2⟩
   have HB2:=lid (HB1.out.trans (hb2.mono HB1.out.size))
   clear hb2
   go_wp2_with fail
   go_ret
   exact ⟨⟨_,rfl⟩,HB0.out.trans (HB2.out.mono HB0.out.size)⟩
theorem GreatL_any (ao:Option Addr) (n cap:Nat) (l:List Mw) (w:World) (h:MLA w ao n cap l):Calls Tryz.prog 5 #[.slice ao n cap] w fun r w'=>∃ q:Bool,r=.returned (.bool q)∧(q=false→n≤4)∧Below w.heap.size w w':=by
 have HS:=lid h
 have hcap:n≤cap:=h.le
 have hmax:cap≤9223372036854775807:=h.max
 clear h
 obtain ⟨q4,hq4⟩:∃ q,decide ((n:Int)>4)=q:=⟨_,rfl⟩
 have HQ4:Hid (q4=false→n≤4):=lid (fun e=>by rw [e] at hq4;simp at hq4;omega)
 go_enter Tryz.func5,Tryz.ntmps5
 go_wp2_with fail
 go_loopw [3] (fun u3 wr=>∃ k:Nat,k≤n∧u3=.int .i64 k∧Hid (Below w.heap.size w wr)) (fun u3 _=>n-(intOf u3).toNat)
 case atStart=>exact ⟨0,Nat.zero_le _,rfl,lid (Below.refl _ _)⟩
 case round =>
  obtain ⟨k,hk,rfl,HB⟩:=hrel
  by_cases hkn:k<n
  ·have hkl:k<l.length:=by rw [HS.out.len];exact hkn
   obtain ⟨b,o,rfl,hbz,hc⟩:=HS.out.sl.at_ (k:=k) hkn
   obtain ⟨x,hx⟩:∃ x,l[k]=x:=⟨_,rfl⟩
   have CG:=lid (fun W (hW:Below w.heap.size w W)=>GreatM_any x W ((show MwA w x by rw [← hx];exact HS.out.el _ (List.getElem_mem hkl)).below hW))
   have hcm:∀ i u,(mce x)[i]?=some u→i<3→wr.cell? ⟨b,o+(k*3+i),none⟩=some u:=fun i u hu hi=>by rw [bc HB.out hbz _];exact hc _ u (by rw [show (mcs l)[k*3+i]?=(mce l[k])[i]? from flat_at mce_length hkl hi,hx];exact hu)
   have y0:wr.cell? ⟨b,o+k*3,none⟩=some (.string x.label):=by have:=hcm 0 _ rfl (by omega);exact this
   have y1:wr.cell? ⟨b,o+k*3+1,none⟩=some (.slice x.ua x.uses.length x.ucap):=by have:=hcm 1 _ rfl (by omega);rwa [← Nat.add_assoc] at this
   have y2:wr.cell? ⟨b,o+k*3+2,none⟩=some (.slice x.da x.decls.length x.dcap):=by have:=hcm 2 _ rfl (by omega);rwa [← Nat.add_assoc] at this
   have hlb:b<wr.heap.size:=Nat.lt_of_lt_of_le hbz HB.out.size
   clear hc hcm hx hkl
   go_wp2_with fail
   (with_reducible refine (CG.out _ HB.out).mono ?_);rintro e w2 ⟨⟨q,rfl⟩,hb2⟩
   have HB2:=lid (HB.out.trans (hb2.mono HB.out.size))
   clear hb2 CG
   cases q with
   | true =>
    go_wp2_with fail
    go_ret
    exact ⟨_,rfl,(fun h=>by cases h),HB2.out⟩
   | false =>
    go_wp2_with fail
    go_roundw
    case rel=>exact ⟨k+1,by omega,by go_num,HB2⟩
    case measure=>simp [intOf];omega
  ·obtain rfl:k=n:=by omega
   clear hkn
   go_wp2_with fail
   go_ret
   exact ⟨_,rfl,HQ4.out,HB.out⟩
end Go.Proofs.YtgcceepadlmelaaGreatDoor
