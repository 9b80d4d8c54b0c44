import Derived.Test.YtgcceepadlmelaaGreatDoorQAH
import Derived.Test.YtgcceepadlmelaaGreatDoorQAI
namespace Go.Proofs.YtgcceepadlmelaaGreatDoor
set_option maxRecDepth 100000
set_option maxHeartbeats 16000000
open Go.RowKit
structure modW (m:Mw):Prop where
 lab:labB m.label=true
 src:srcV m.uses
 use:∀ i (h:i<m.uses.length),useE1 m.label m.uses i m.uses[i]=0
 few:m.decls.length≤100
 dec:∀ d∈m.decls,declW m.label d
 asc:m.decls.Pairwise fun x y=>x.id<y.id
theorem asc_snocD {l:List Dw} {x y:Dw} (h:(l++[x]).Pairwise fun x y=>x.id<y.id) (hy:x.id<y.id):(l++[x]++[y]).Pairwise fun x y=>x.id<y.id:=by
 rw [List.pairwise_append] at h ⊢
 rw [List.pairwise_append]
 refine ⟨⟨h.1,h.2.1,h.2.2⟩,List.pairwise_singleton _ _,fun a ha b hb=>?_⟩
 rw [List.mem_singleton.1 hb]
 rcases List.mem_append.1 ha with ha | ha
 ·have:=h.2.2 a ha x (List.mem_singleton.2 rfl)
  omega
 ·rw [List.mem_singleton.1 ha]
  exact hy
theorem Check_any (m:Mw) (w:World) (h:MwA w m) :
  Calls Tryz.prog 57 #[.agg (mca m)] w fun r w'=>∃ q:Int,r=.returned (.int .i64 q)∧(q=0↔modW m)∧Below w.heap.size w w':=by
 obtain ⟨P,hP⟩:∃ P,modW m=P:=⟨_,rfl⟩
 rw [hP]
 have HP:=lid hP
 clear hP
 obtain ⟨lb,ua,us,ucap,da,ds,dcap⟩:=m
 obtain ⟨n,hn⟩:∃ n,us.length=n:=⟨_,rfl⟩
 obtain ⟨dn,hdn⟩:∃ n,ds.length=n:=⟨_,rfl⟩
 rw [show mca ⟨lb,ua,us,ucap,da,ds,dcap⟩=#[.string lb,.slice ua us.length ucap,.slice da ds.length dcap] from rfl,hn,hdn]
 have hu:=h.uses
 have hd:=h.decls
 simp only [hn,hdn] at hu hd
 obtain ⟨W1,hW1⟩:∃ y,w.alloc (.cells #[.string lb,.slice ua n ucap,.slice da dn dcap] 45)=y:=⟨_,rfl⟩
 have hb1:Below w.heap.size w W1:=by rw [← hW1];exact ba _ _
 have hR1:W1.heap[w.heap.size]?=some (.cells #[.string lb,.slice ua n ucap,.slice da dn dcap] 45 (0,0)):=by rw [← hW1];exact h_new rfl _
 have HU:=lid hu
 have HD:=lid hd
 have HN:=lid hn
 have HDN:=lid hdn
 have HW1:=lid hW1
 have HB1:=lid hb1
 have HR1:=lid hR1
 have hcm:ucap≤9223372036854775807:=hu.max
 have hnc:n≤ucap:=hu.le
 have hdm:dcap≤9223372036854775807:=hd.max
 have hdc:dn≤dcap:=hd.le
 have CL:=lid (Label_fn lb W1 h.sz)
 clear h hn hdn hu hd hW1 hb1 hR1
 cases hl:labB lb with
 | false =>
  have HV:Hid (¬ P):=lid (fun h=>by rw [← HP.out] at h;have:=h.lab;rw [hl] at this;cases this)
  go_enter Tryz.func57,Tryz.ntmps57
  go_wp2_with fail
  rw [HW1.out]
  (with_reducible refine (CL.out).mono ?_);rintro e w2 ⟨rfl,hb2⟩
  have HB2:=lid (HB1.out.trans (hb2.mono HB1.out.size))
  rw [hl]
  clear hb2
  go_wp2_with fail
  go_ret
  exact ⟨_,rfl,⟨fun h=>by simp at h,fun h=>absurd h HV.out⟩,HB2.out⟩
 | true =>
  have HLB:=lid hl
  rw [hl] at CL
  clear hl
  go_enter Tryz.func57,Tryz.ntmps57
  go_wp2_with fail
  rw [HW1.out]
  (with_reducible refine (CL.out).mono ?_);rintro e w2 ⟨rfl,hb2⟩
  have HB2:=lid (HB1.out.trans (hb2.mono HB1.out.size))
  have HR2:=lid ((hb2.block _ (row_lt HR1.out)).trans HR1.out)
  have r0:w2.cell? ⟨w.heap.size,0,none⟩=some (.string lb):=row_cell HR2.out 0
  have r1:w2.cell? ⟨w.heap.size,1,none⟩=some (.slice ua n ucap):=row_cell HR2.out 1
  have r2:w2.cell? ⟨w.heap.size,2,none⟩=some (.slice da dn dcap):=row_cell HR2.out 2
  have lr:=row_lt HR2.out
  have CS:Hid (Calls Tryz.prog 81 #[.agg #[.slice ua n ucap,.slice none 0 0]] w2 fun r w'=>∃ q:Int,r=.returned (.int .i64 q)∧(q=0↔srcV us)∧Below w2.heap.size w2 w'):=lid (by
   have:=CheckSource_any us ua ucap w2 (by have:=(HU.out.below HB1.out).below hb2;rw [HN.out];exact this)
   rw [HN.out] at this
   exact this)
  clear hb2
  go_wp2_with fail
  (with_reducible refine (CS.out).mono ?_);rintro e w3 ⟨q,rfl,hq,hb3⟩
  have HB3:=lid (HB2.out.trans (hb3.mono HB2.out.size))
  have HR3:=lid ((hb3.block _ lr).trans HR2.out)
  have HQ:=lid hq
  clear hb3 hq CS r0 r1 r2 lr
  cases uq:(q == 0) with
  | false =>
   have hq0:q≠0:=by simpa using uq
   have HV:Hid (¬ P):=lid (fun h=>by rw [← HP.out] at h;exact hq0 (HQ.out.2 h.src))
   have HQ0:=lid hq0
   clear hq0
   go_wp2_with fail
   go_ret
   exact ⟨q,rfl,⟨fun h=>absurd h HQ0.out,fun h=>absurd h HV.out⟩,HB3.out⟩
  | true =>
   obtain rfl:q=0:=by simpa using uq
   have HSRC:=lid (HQ.out.1 rfl)
   have r0:w3.cell? ⟨w.heap.size,0,none⟩=some (.string lb):=row_cell HR3.out 0
   have r1:w3.cell? ⟨w.heap.size,1,none⟩=some (.slice ua n ucap):=row_cell HR3.out 1
   have lr:=row_lt HR3.out
   clear uq
   go_wp2_with fail
   have CU:Hid (∀ k (hk:k<us.length) (W:World),Below w.heap.size w W→Calls Tryz.prog 82 #[.string lb,.slice ua n ucap,.int .i64 k] W fun e w'=>e=.returned (.int .i64 (useE1 lb us k us[k]))∧Below W.heap.size W w'):=lid (fun k hk W hb=>by
    have:=checkUse_fn lb ua ucap us k hk W (by rw [HN.out];exact HU.out.below hb)
    rw [HN.out] at this
    exact this)
   go_loopw [23] (fun u23 wr=>∃ k:Nat,k≤n∧u23=.int .i64 k∧Hid (∀ i (h:i<us.length),i<k→useE1 lb us i us[i]=0)∧Hid (Below w.heap.size w wr)∧Hid (wr.heap[w.heap.size]?=some (.cells #[.string lb,.slice ua n ucap,.slice da dn dcap] 45 (0,0)))) (fun u23 _=>n-(intOf u23).toNat)
   case atStart=>exact ⟨0,Nat.zero_le _,rfl,lid (fun i _ h=>by omega),HB3,HR3⟩
   case round =>
    clear HB3 HR3 HB2 HR2 HB1 HR1 HW1 r0 r1 lr CL HQ
    obtain ⟨k,hk,rfl,HA,HB,HR⟩:=hrel
    have r0:wr.cell? ⟨w.heap.size,0,none⟩=some (.string lb):=row_cell HR.out 0
    have r1:wr.cell? ⟨w.heap.size,1,none⟩=some (.slice ua n ucap):=row_cell HR.out 1
    have r2:wr.cell? ⟨w.heap.size,2,none⟩=some (.slice da dn dcap):=row_cell HR.out 2
    have lr:=row_lt HR.out
    by_cases hkn:k<n
    ·have hkl:k<us.length:=by have:=HN.out;omega
     have CK:=lid (CU.out k hkl wr HB.out)
     obtain ⟨q,hq⟩:∃ q,useE1 lb us k us[k]=q:=⟨_,rfl⟩
     rw [hq] at CK
     have HQ:=lid hq
     cases uq:(q == 0) with
     | false =>
      have hq0:q≠0:=by simpa using uq
      have HV:Hid (¬ P):=lid (fun h=>by rw [← HP.out] at h;exact hq0 (HQ.out.symm.trans (h.use k hkl)))
      have HQ0:=lid hq0
      clear hq0 hq
      go_wp2_with fail
      (with_reducible refine (CK.out).mono ?_);rintro e w4 ⟨rfl,hb4⟩
      have HB4:=lid (HB.out.trans (hb4.mono HB.out.size))
      clear hb4 r0 r1 r2 lr
      go_wp2_with fail
      go_ret
      exact ⟨q,rfl,⟨fun h=>absurd h HQ0.out,fun h=>absurd h HV.out⟩,HB4.out⟩
     | true =>
      obtain rfl:q=0:=by simpa using uq
      have HA2:Hid (∀ i (h:i<us.length),i<k+1→useE1 lb us i us[i]=0):=lid (fun i h hi=>by
       by_cases e:i=k
       ·subst e;exact HQ.out
       ·exact HA.out i h (by omega))
      clear hq uq
      go_wp2_with fail
      (with_reducible refine (CK.out).mono ?_);rintro e w4 ⟨rfl,hb4⟩
      have HB4:=lid (HB.out.trans (hb4.mono HB.out.size))
      have HR4:=lid ((hb4.block _ lr).trans HR.out)
      clear hb4 r0 r1 r2 lr
      go_wp2_with fail
      go_roundw
      case measure=>simp only [intOf];omega
      case rel=>exact ⟨k+1,by omega,by simp,HA2,HB4,HR4⟩
    ·obtain rfl:k=n:=by omega
     have HUSE:Hid (∀ i (h:i<us.length),useE1 lb us i us[i]=0):=lid (fun i h=>HA.out i h (by have:=HN.out;omega))
     clear hkn CU
     by_cases h100:dn≤100
     case neg =>
      have d1:decide ((100:Int)<(dn:Int))=true:=by simp;omega
      have HV:Hid (¬ P):=lid (fun h=>by rw [← HP.out] at h;exact h100 (by have:=h.few;simp only [HDN.out] at this;exact this))
      clear h100
      go_wp2_with fail
      go_ret
      exact ⟨_,rfl,⟨fun h=>by simp at h,fun h=>absurd h HV.out⟩,HB.out⟩
     have d1:decide ((100:Int)<(dn:Int))=false:=by simp;omega
     go_wp2_with fail
     go_loopw [43] (fun u43 wr=>∃ j:Nat,j≤dn∧u43=.int .i64 j∧Hid (∀ d∈ds.take j,declW lb d)∧Hid ((ds.take j).Pairwise fun x y=>x.id<y.id)∧Hid (Below w.heap.size w wr)∧Hid (wr.heap[w.heap.size]?=some (.cells #[.string lb,.slice ua k ucap,.slice da dn dcap] 45 (0,0)))) (fun u43 _=>dn-(intOf u43).toNat)
     case atStart=>exact ⟨0,Nat.zero_le _,rfl,lid (fun _ h=>by simp at h),lid (by simp),HB,HR⟩
     case round =>
      clear HB HR r0 r1 r2 lr HA
      obtain ⟨j,hj,rfl,HA,HAS,HB,HR⟩:=hrel
      have r0:wr.cell? ⟨w.heap.size,0,none⟩=some (.string lb):=row_cell HR.out 0
      have r2:wr.cell? ⟨w.heap.size,2,none⟩=some (.slice da dn dcap):=row_cell HR.out 2
      have lr:=row_lt HR.out
      by_cases hjn:j<dn
      ·have hjl:j<ds.length:=by have:=HDN.out;omega
       obtain ⟨d,hd⟩:∃ d,ds[j]=d:=⟨_,rfl⟩
       obtain ⟨b,o,rfl,hbz,hc⟩:=HD.out.sl.at_ (k:=j) hjn
       have hcd:∀ i u,(dce d)[i]?=some u→i<11→wr.cell? ⟨b,o+(j*11+i),none⟩=some u:=fun i u hu hi=>by rw [bc HB.out hbz _];exact hc _ u (by rw [dcs_cell hjl hi,hd];exact hu)
       have y0:wr.cell? ⟨b,o+j*11,none⟩=some (.int .i64 d.id):=by have:=hcd 0 _ rfl (by omega);exact this
       have y1:wr.cell? ⟨b,o+j*11+1,none⟩=some (.int .i64 d.kind):=by have:=hcd 1 _ rfl (by omega);rwa [← Nat.add_assoc] at this
       have y2:wr.cell? ⟨b,o+j*11+2,none⟩=some (.bool d.pub):=by have:=hcd 2 _ rfl (by omega);rwa [← Nat.add_assoc] at this
       have y3:wr.cell? ⟨b,o+j*11+3,none⟩=some (.slice d.na d.names.length d.ncap):=by have:=hcd 3 _ rfl (by omega);rwa [← Nat.add_assoc] at this
       have y4:wr.cell? ⟨b,o+j*11+4,none⟩=some (.bool d.doubt):=by have:=hcd 4 _ rfl (by omega);rwa [← Nat.add_assoc] at this
       have y5:wr.cell? ⟨b,o+j*11+5,none⟩=some (.int .i64 d.body.kind):=by have:=hcd 5 _ rfl (by omega);rwa [← Nat.add_assoc] at this
       have y6:wr.cell? ⟨b,o+j*11+6,none⟩=some (.string d.body.name):=by have:=hcd 6 _ rfl (by omega);rwa [← Nat.add_assoc] at this
       have y7:wr.cell? ⟨b,o+j*11+7,none⟩=some (.string d.body.more):=by have:=hcd 7 _ rfl (by omega);rwa [← Nat.add_assoc] at this
       have y8:wr.cell? ⟨b,o+j*11+8,none⟩=some (.int .i64 d.body.int):=by have:=hcd 8 _ rfl (by omega);rwa [← Nat.add_assoc] at this
       have y9:wr.cell? ⟨b,o+j*11+9,none⟩=some (.int .i64 d.body.den):=by have:=hcd 9 _ rfl (by omega);rwa [← Nat.add_assoc] at this
       have y10:wr.cell? ⟨b,o+j*11+10,none⟩=some (.slice d.body.ao d.body.sub.length d.body.cap):=by have:=hcd 10 _ rfl (by omega);rwa [← Nat.add_assoc] at this
       have hbz2:b<wr.heap.size:=Nat.lt_of_lt_of_le hbz HB.out.size
       have HDW:Hid (DwA w d):=lid (HD.out.el d (by rw [← hd];exact List.getElem_mem hjl))
       have HT:Hid (ds.take (j+1)=ds.take j++[d]):=lid (by rw [List.take_succ_eq_append_getElem hjl,hd])
       have HMEM:Hid (d∈ds):=lid (by rw [← hd];exact List.getElem_mem hjl)
       have HHD:=lid hd
       have HJL:=lid hjl
       have HCC:Hid (∀ i (hi:i<ds.length),w.cell? ⟨b,o+i*11,none⟩=some (.int .i64 ds[i].id)):=lid (fun i hi=>by have:=hc (i*11+0) _ (dcs_cell hi (by omega));exact this)
       obtain ⟨W4,hW4⟩:∃ y,wr.alloc (.cells (dca d) 65)=y:=⟨_,rfl⟩
       have hb4:Below wr.heap.size wr W4:=by rw [← hW4];exact ba _ _
       have HR4:=lid ((hb4.block _ lr).trans HR.out)
       have HB4:=lid (HB.out.trans (hb4.mono HB.out.size))
       have HX4:Hid (W4.heap[wr.heap.size]?=some (.cells (dca d) 65 (0,0))):=lid (by rw [← hW4];exact h_new rfl _)
       have CD:=lid (checkDecl_any lb d W4 (HDW.out.below HB4.out))
       have HW4:Hid (wr.alloc (.cells #[.int .i64 d.id,.int .i64 d.kind,.bool d.pub,.slice d.na d.names.length d.ncap,.bool d.doubt,.int .i64 d.body.kind,.string d.body.name,.string d.body.more,.int .i64 d.body.int,.int .i64 d.body.den,.slice d.body.ao d.body.sub.length d.body.cap] 65)=W4):=lid hW4
       clear hc hcd hd hW4 hb4
       go_wp2_with fail
       rw [HW4.out]
       (with_reducible refine (CD.out).mono ?_);rintro e w5 ⟨q,rfl,hq,hb5⟩
       have HB5:=lid (HB4.out.trans (hb5.mono HB4.out.size))
       have HR5:=lid ((hb5.block _ (row_lt HR4.out)).trans HR4.out)
       have HX5:=lid ((hb5.block _ (row_lt HX4.out)).trans HX4.out)
       have HQ:=lid hq
       clear hb5 hq CD r0 r2 lr y0 y1 y2 y3 y4 y5 y6 y7 y8 y9 y10
       cases uq:(q == 0) with
       | false =>
        have hq0:q≠0:=by simpa using uq
        have HV:Hid (¬ P):=lid (fun h=>by rw [← HP.out] at h;exact hq0 (HQ.out.2 (h.dec d HMEM.out)))
        have HQ0:=lid hq0
        clear hq0
        go_wp2_with fail
        go_ret
        exact ⟨q,rfl,⟨fun h=>absurd h HQ0.out,fun h=>absurd h HV.out⟩,HB5.out⟩
       | true =>
        obtain rfl:q=0:=by simpa using uq
        have HDV:=lid (HQ.out.1 rfl)
        have HA2:Hid (∀ x∈ds.take (j+1),declW lb x):=lid (fun x hx=>by
         rw [HT.out] at hx
         rcases List.mem_append.1 hx with hx | hx
         ·exact HA.out x hx
         ·rw [List.mem_singleton.1 hx];exact HDV.out)
        have r2:w5.cell? ⟨w.heap.size,2,none⟩=some (.slice (some ⟨b,o,none⟩) dn dcap):=row_cell HR5.out 2
        have lr:=row_lt HR5.out
        have x0:w5.cell? ⟨wr.heap.size,0,none⟩=some (.int .i64 d.id):=row_cell HX5.out 0
        have lx:=row_lt HX5.out
        have lb5:b<w5.heap.size:=Nat.lt_of_lt_of_le hbz HB5.out.size
        clear uq
        by_cases hj0:j=0
        ·subst hj0
         have HAS2:Hid ((ds.take (0+1)).Pairwise fun x y=>x.id<y.id):=lid (by rw [HT.out];simp)
         go_wp2_with fail
         refine qd (fun w'=>∃ s:Since w5.heap.size w5,w'=s.world) [(0,true),(1,true),(2,true),(3,true),(4,true),(5,true),(6,true),(7,true),(8,true),(9,true),(10,true),(11,true),(12,true),(13,true)] ?_
         repeat (first | (refine qk ?_;simp only [Act.put,q1,q2,q3]) | (refine qf ?_;intro K hK;go_big_quiet_op;go_big_quiet_on))
         refine seq_nil ?_
         go_wp2_with fail
         go_roundw
         case measure=>simp only [intOf];omega
         case rel=>exact ⟨1,by omega,rfl,HA2,HAS2,lid HB5.out.drew,lid HR5.out⟩
        ·obtain ⟨i,hi⟩:∃ i,i+1=j:=⟨j-1,by omega⟩
         have hil:i<ds.length:=by have:=HJL.out;omega
         obtain ⟨x,hx⟩:∃ x,ds[i]=x:=⟨_,rfl⟩
         have HTI:Hid (ds.take j=ds.take i++[x]):=lid (by rw [← hi,List.take_succ_eq_append_getElem hil,hx])
         have HXV:Hid (P→x.id<d.id):=lid (fun h=>by
          rw [← HP.out] at h
          have:=List.pairwise_iff_getElem.1 h.asc i j hil HJL.out (by omega)
          simp only [hx,HHD.out] at this
          exact this)
         have p0:w5.cell? ⟨b,o+i*11,none⟩=some (.int .i64 x.id):=by rw [bc HB5.out hbz _,HCC.out i hil,hx]
         have e1:(j:Int)-1=(i:Int):=by omega
         have e2:decide ((0:Int)<(j:Int))=true:=by simp;omega
         have e3:decide (0<j)=true:=by simp;omega
         have hin:i<dn:=by omega
         clear hx hil hi hj0
         cases hlt:decide (d.id≤x.id) with
         | true =>
          have HV:Hid (¬ P):=lid (fun h=>by have:=HXV.out h;have:=of_decide_eq_true hlt;omega)
          go_wp2_with fail
          refine qd (fun w'=>∃ s:Since w5.heap.size w5,w'=s.world) [(0,true),(1,true),(2,true),(3,true),(4,true),(5,true),(6,true),(7,true),(8,true),(9,true),(10,true),(11,true),(12,true),(13,true)] ?_
          repeat (first | (refine qk ?_;simp only [Act.put,q1,q2,q3]) | (refine qf ?_;intro K hK;go_big_quiet_op;go_big_quiet_on))
          refine seq_nil ?_
          go_wp2_with fail
          go_ret
          exact ⟨_,rfl,⟨fun h=>by simp at h,fun h=>absurd h HV.out⟩,HB5.out.drew⟩
         | false =>
          have HAS2:Hid ((ds.take (j+1)).Pairwise fun x y=>x.id<y.id):=lid (by
           rw [HT.out,HTI.out]
           exact asc_snocD (by rw [← HTI.out];exact HAS.out) (by have:=of_decide_eq_false hlt;omega))
          go_wp2_with fail
          refine qd (fun w'=>∃ s:Since w5.heap.size w5,w'=s.world) [(0,true),(1,true),(2,true),(3,true),(4,true),(5,true),(6,true),(7,true),(8,true),(9,true),(10,true),(11,true),(12,true),(13,true)] ?_
          repeat (first | (refine qk ?_;simp only [Act.put,q1,q2,q3]) | (refine qf ?_;intro K hK;go_big_quiet_op;go_big_quiet_on))
          refine seq_nil ?_
          go_wp2_with fail
          go_roundw
          case measure=>simp only [intOf];omega
          case rel=>exact ⟨j+1,by omega,by simp,HA2,HAS2,lid HB5.out.drew,lid HR5.out⟩
      ·obtain rfl:j=dn:=by omega
       have HE:Hid (ds.take j=ds):=lid (List.take_of_length_le (by rw [HDN.out];exact Nat.le_refl _))
       have HV:Hid P:=lid (by
        rw [← HP.out]
        exact ⟨HLB.out,HSRC.out,HUSE.out,by simp only [HDN.out];exact h100,by rw [← HE.out];exact HA.out,by rw [← HE.out];exact HAS.out⟩)
       clear hjn
       go_wp2_with fail
       go_ret
       exact ⟨_,rfl,⟨fun _=>HV.out,fun _=>rfl⟩,HB.out⟩
end Go.Proofs.YtgcceepadlmelaaGreatDoor
