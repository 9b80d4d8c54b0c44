import Derived.Test.YtgcceepadlmelaaGreatDoorQAL
import Derived.Test.YtgcceepadlmelaaGreatDoorEdCat
namespace Go.Proofs.YtgcceepadlmelaaGreatDoor
set_option maxRecDepth 100000
set_option maxHeartbeats 32000000
open Go.RowKit
theorem own_nil {w:World} {base:Nat} {e:TypeId} {size:Nat} {ao:Option Addr} {k n cap:Nat} {xs:List Value} (h:w.ownsRow base e size (.slice ao k cap) n xs):ao=none→cap=0:=fun e=>by
 subst e
 rcases h.2 with ⟨e3,_⟩ | ⟨g,c,cur,e3,_⟩
 ·injection e3
 ·cases e3
theorem useK_at {w0 V:World} {bad:Nat→Prop} {k:Int} {lab:ByteArray} {us os:List ByteArray} (hl:lab.size≤maxLen) (hu:∀ u∈us,u.size≤maxLen):∀ x∈useKs k lab us os,KAt w0 V bad x:=fun x hx=>by
 obtain ⟨u,hm,rfl⟩:=List.mem_map.1 hx
 exact ⟨hl,hu u (List.mem_filter.1 hm).1,.inl ⟨rfl,rfl,rfl⟩,.inl ⟨rfl,rfl,rfl⟩⟩
theorem useK_at1 {w0 V:World} {bad:Nat→Prop} {k:Int} {lab:ByteArray} (hl:lab.size≤maxLen):∀ x∈[useK k lab ⟨#[]⟩],KAt w0 V bad x:=fun x hx=>by
 rw [List.mem_singleton.1 hx]
 exact ⟨hl,Nat.zero_le _,.inl ⟨rfl,rfl,rfl⟩,.inl ⟨rfl,rfl,rfl⟩⟩
structure BoLim (p:BoW):Prop where
 ua:p.a.uses.length≤20
 ub:p.b.uses.length≤20
 da:p.a.decls.length≤100
 db:p.b.decls.length≤100
 cnt:∀ d∈p.a.decls,cntE d.body≤1000
theorem lim_m {m:Mw} (h:modW m):m.uses.length≤20∧m.decls.length≤100∧∀ d∈m.decls,cntE d.body≤1000 :=
 ⟨h.src.1,h.few,fun d hd=>Nat.le_trans (okW_cnt (h.dec d hd).2.2.2.1) (by omega)⟩
theorem bo_lim {w:World} {A B:List Mw} {p:BoW} (h:BoOk w A B p) (hA:∀ m∈A,modW m) (hB:∀ m∈B,modW m):BoLim p:=by
 have ha:p.a.uses.length≤20∧p.a.decls.length≤100∧∀ d∈p.a.decls,cntE d.body≤1000:=by
  have h1:=h.1
  split at h1
  ·exact lim_m (hA _ h1)
  ·rw [h1];exact ⟨by simp [zMw],by simp [zMw],fun d hd=>by cases hd⟩
 have hb:p.b.uses.length≤20∧p.b.decls.length≤100∧∀ d∈p.b.decls,cntE d.body≤1000:=by
  have h1:=h.2.1
  split at h1
  ·exact lim_m (hB _ h1)
  ·rw [h1];exact ⟨by simp [zMw],by simp [zMw],fun d hd=>by cases hd⟩
 exact ⟨ha.1,hb.1,ha.2.1,hb.2.1,ha.2.2⟩
structure DfC (P:List BoW) (j:Nat) (n1 n2 n3 n4 n5:Nat) (K1 K2 K3 K4 K5:List Kw):Prop where
 c1:K1=(P.take j).flatMap k1
 c2:K2=(P.take j).flatMap k2
 c3:K3.map Kw.x=(P.take j).flatMap k3
 c4:K4=(P.take j).flatMap k4
 c5:K5=(P.take j).flatMap k5
 n1:n1≤600*j
 n2:n2≤600*j
 n3:n3≤600*j
 n4:n4≤600*j
 n5:n5≤600*j
theorem DfC.next {P:List BoW} {j n1 n2 n3 n4 n5 m1 m2 m3 m4 m5:Nat} {K1 K2 K3 K4 K5 L3:List Kw} {p:BoW} (h:DfC P j n1 n2 n3 n4 n5 K1 K2 K3 K4 K5) (hp:P[j]?=some p) (h3:L3.map Kw.x=k3 p)
  (e1:m1≤n1+600) (e2:m2≤n2+600) (e3:m3≤n3+600) (e4:m4≤n4+600) (e5:m5≤n5+600):DfC P (j+1) m1 m2 m3 m4 m5 (K1++k1 p) (K2++k2 p) (K3++L3) (K4++k4 p) (K5++k5 p):=by
 have hs:∀ {β:Type} (f:BoW→List β),[p].flatMap f=f p:=fun f=>by simp
 have:=h.n1;have:=h.n2;have:=h.n3;have:=h.n4;have:=h.n5
 refine ⟨?_,?_,?_,?_,?_,by omega,by omega,by omega,by omega,by omega⟩
 ·rw [take_next hp,List.flatMap_append,← h.c1,hs]
 ·rw [take_next hp,List.flatMap_append,← h.c2,hs]
 ·rw [take_next hp,List.flatMap_append,List.map_append,h.c3,h3,hs]
 ·rw [take_next hp,List.flatMap_append,← h.c4,hs]
 ·rw [take_next hp,List.flatMap_append,← h.c5,hs]
def DiffP (w:World) (A B:List Mw) (r:Ending) (w':World):Prop :=
 ∃ (v:Value) (q:Int),r=.returned (.tuple #[v,.int .i64 q])∧Below w.heap.size w w' ∧
  ((q≠0∧¬ ((OrdM A∧∀ m∈A,modW m)∧(OrdM B∧∀ m∈B,modW m))) ∨
   (q=0∧(OrdM A∧∀ m∈A,modW m)∧(OrdM B∧∀ m∈B,modW m)∧∃ K:List Kw,w'.ownsRow w.heap.size 52 5 v K.length (kcs K)∧(∀ x∈K,KwA w' x)∧K.map Kw.x=(diffE (A.map Mw.x) (B.map Mw.x)).map Ed.k∧K.length≤60000))
theorem Diff_any (ao bo:Option Addr) (n ca m cb:Nat) (A B:List Mw) (w:World) (ha:MLA w ao n ca A) (hb:MLA w bo m cb B) (hn:n≤10) (hm:m≤10) :
  Calls Tryz.prog 7 #[.slice ao n ca,.slice bo m cb] w (DiffP w A B):=by
 have HA:=lid ha
 have HB:=lid hb
 have CA:=lid (checkList_any ao n ca A w ha)
 obtain ⟨PA,hPA⟩:∃ PA,(OrdM A∧∀ m∈A,modW m)=PA:=⟨_,rfl⟩
 obtain ⟨PB,hPB⟩:∃ PB,(OrdM B∧∀ m∈B,modW m)=PB:=⟨_,rfl⟩
 have HPA:=lid hPA
 have HPB:=lid hPB
 unfold DiffP
 rw [hPA,hPB]
 rw [hPA] at CA
 clear ha hb hPA hPB
 go_enter Tryz.func7,Tryz.ntmps7
 go_wp2_with fail
 (with_reducible refine (CA.out).mono ?_);rintro e w1 ⟨q,rfl,hq,hb1⟩
 have HQ:=lid hq
 have HB1:=lid hb1
 have CB:=lid (checkList_any bo m cb B w1 (HB.out.below hb1))
 rw [HPB.out] at CB
 clear hq hb1 CA
 cases uq:(q == 0) with
 | false =>
  have hq0:q≠0:=by simpa using uq
  have HV:Hid (q≠0∧¬ (PA∧PB)):=lid ⟨hq0,fun h=>hq0 (HQ.out.2 h.1)⟩
  clear hq0
  go_wp2_with fail
  go_ret2
  exact ⟨_,q,rfl,HB1.out,.inl HV.out⟩
 | true =>
  obtain rfl:q=0:=by simpa using uq
  have HVA:=lid (HQ.out.1 rfl)
  clear uq HQ
  go_wp2_with fail
  (with_reducible refine (CB.out).mono ?_);rintro e w2 ⟨q,rfl,hq,hb2⟩
  have HQ:=lid hq
  have HB2:=lid (HB1.out.trans (hb2.mono HB1.out.size))
  clear hq hb2 CB
  cases uq:(q == 0) with
  | false =>
   have hq0:q≠0:=by simpa using uq
   have HV:Hid (q≠0∧¬ (PA∧PB)):=lid ⟨hq0,fun h=>hq0 (HQ.out.2 h.2)⟩
   clear hq0
   go_wp2_with fail
   go_ret2
   exact ⟨_,q,rfl,HB2.out,.inl HV.out⟩
  | true =>
   obtain rfl:q=0:=by simpa using uq
   have HVB:=lid (HQ.out.1 rfl)
   have CP:=lid (pairs_any ao bo n ca m cb A B w2 (HA.out.below HB2.out) (HB.out.below HB2.out) (by omega) (by omega))
   clear uq HQ
   go_wp2_with fail
   (with_reducible refine (CP.out).mono ?_);rintro e w4 ⟨v4,P,rfl,hpx,hown,hpo,hpl,hb4⟩
   have HB4:=lid (HB2.out.trans (hb4.mono HB2.out.size))
   have HPX:=lid hpx
   obtain ⟨a4,cap4,rfl,hc41,hc42,hsl4⟩:=Sl.of_own hown
   have HSL:=lid hsl4
   obtain ⟨N,hN⟩:∃ N,P.length=N:=⟨_,rfl⟩
   have HN:=lid hN
   have HMA:Hid (∀ m∈A,modW m):=lid (by have:=HVA.out;rw [← HPA.out] at this;exact this.2)
   have HMB:Hid (∀ m∈B,modW m):=lid (by have:=HVB.out;rw [← HPB.out] at this;exact this.2)
   have HPO:Hid (∀ p∈P,BoOk w2 A B p∧BoLim p):=lid (fun p hp=>⟨hpo p hp,bo_lim (hpo p hp) HMA.out HMB.out⟩)
   rw [hN] at HSL hc41 hpl ⊢
   have hN20:N≤20:=by omega
   have hc463:cap4≤9223372036854775807:=hc42
   have HB24:=lid hb4
   clear hpx hown hpo hpl hb4 hsl4 hN CP hc42
   go_wp2_with fail
   go_loopw [8,9,10,11,12,29] (fun v8 v9 v10 v11 v12 u29 wr=>∃ (j n1 n2 n3 n4 n5:Nat) (K1 K2 K3 K4 K5:List Kw),j≤N∧u29=.int .i64 j∧Hid (Own5 w2 w4.heap.size wr (f5 v8 v9 v10 v11 v12) (f5 n1 n2 n3 n4 n5) (f5 K1 K2 K3 K4 K5))∧Hid (DfC P j n1 n2 n3 n4 n5 K1 K2 K3 K4 K5)∧Hid (Below w4.heap.size w4 wr)) (fun _ _ _ _ _ u29 _=>N-(intOf u29).toNat)
   case atStart =>
    refine ⟨0,0,0,0,0,0,[],[],[],[],[],Nat.zero_le _,rfl,lid ⟨fun i=>?_,fun i=>?_,fun i l _ g e=>?_,fun i x hx=>?_⟩,lid ⟨rfl,rfl,rfl,rfl,rfl,by omega,by omega,by omega,by omega,by omega⟩,lid (Below.refl _ _)⟩
    ·match i with
     | 0 | 1 | 2 | 3 | 4=>exact World.ownsRow_nil _ _ _ _
    ·match i with
     | 0 | 1 | 2 | 3 | 4=>rfl
    ·match i,e with
     | 0,e | 1,e | 2,e | 3,e | 4,e=>cases e
    ·match i,hx with
     | 0,hx | 1,hx | 2,hx | 3,hx | 4,hx=>cases hx
   case round =>
    obtain ⟨j,n1,n2,n3,n4,n5,K1,K2,K3,K4,K5,hj,rfl,HO,HC,HBR⟩:=hrel
    have hb1:=HC.out.n1
    have hb2:=HC.out.n2
    have hb3:=HC.out.n3
    have hb4:=HC.out.n4
    have hb5:=HC.out.n5
    have hz4:w4.heap.size≤wr.heap.size:=HBR.out.size
    by_cases hjn:j<N
    ·have hjl:j<P.length:=by rw [HN.out];exact hjn
     obtain ⟨⟨L,iA,iB,ma,mb⟩,hp⟩:∃ p,P[j]=p:=⟨_,rfl⟩
     obtain ⟨b,o,rfl,hbz,hc⟩:=HSL.out.at_ (k:=j) hjn
     have hcm:∀ i u,(boe (BoW.mk L iA iB ma mb))[i]?=some u→i<9→wr.cell? ⟨b,o+(j*9+i),none⟩=some u:=fun i u hu hi=>by rw [bc HBR.out hbz _];exact hc _ u (by rw [bos_cell hjl hi,hp];exact hu)
     have y0:wr.cell? ⟨b,o+j*9,none⟩=some (.string L):=by have:=hcm 0 _ rfl (by omega);exact this
     have y1:wr.cell? ⟨b,o+j*9+1,none⟩=some (.bool iA):=by have:=hcm 1 _ rfl (by omega);rwa [← Nat.add_assoc] at this
     have y2:wr.cell? ⟨b,o+j*9+2,none⟩=some (.bool iB):=by have:=hcm 2 _ rfl (by omega);rwa [← Nat.add_assoc] at this
     have y3:wr.cell? ⟨b,o+j*9+3,none⟩=some (.string ma.label):=by have:=hcm 3 _ rfl (by omega);rwa [← Nat.add_assoc] at this
     have y4:wr.cell? ⟨b,o+j*9+4,none⟩=some (.slice ma.ua ma.uses.length ma.ucap):=by have:=hcm 4 _ rfl (by omega);rwa [← Nat.add_assoc] at this
     have y5:wr.cell? ⟨b,o+j*9+5,none⟩=some (.slice ma.da ma.decls.length ma.dcap):=by have:=hcm 5 _ rfl (by omega);rwa [← Nat.add_assoc] at this
     have y6:wr.cell? ⟨b,o+j*9+6,none⟩=some (.string mb.label):=by have:=hcm 6 _ rfl (by omega);rwa [← Nat.add_assoc] at this
     have y7:wr.cell? ⟨b,o+j*9+7,none⟩=some (.slice mb.ua mb.uses.length mb.ucap):=by have:=hcm 7 _ rfl (by omega);rwa [← Nat.add_assoc] at this
     have y8:wr.cell? ⟨b,o+j*9+8,none⟩=some (.slice mb.da mb.decls.length mb.dcap):=by have:=hcm 8 _ rfl (by omega);rwa [← Nat.add_assoc] at this
     have hbz2:b<wr.heap.size:=Nat.lt_of_lt_of_le hbz HBR.out.size
     have HPP:=lid (HPO.out (BoW.mk L iA iB ma mb) (by rw [← hp];exact List.getElem_mem hjl))
     have HAT:Hid (P[j]?=some (BoW.mk L iA iB ma mb)):=lid (by rw [← hp];exact List.getElem?_eq_getElem hjl)
     obtain ⟨W1,hW1⟩:∃ W,wr.alloc (.cells #[.string L,.bool iA,.bool iB,.string ma.label,.slice ma.ua ma.uses.length ma.ucap,.slice ma.da ma.decls.length ma.dcap,.string mb.label,.slice mb.ua mb.uses.length mb.ucap,.slice mb.da mb.decls.length mb.dcap] 50)=W:=⟨_,rfl⟩
     have hbW1:Below wr.heap.size wr W1:=by rw [← hW1];exact ba _ _
     have HW1:=lid hW1
     obtain ⟨z,hz⟩:∃ z,wr.heap.size=z:=⟨_,rfl⟩
     have HR1:Hid (W1.heap[z]?=some (.cells #[.string L,.bool iA,.bool iB,.string ma.label,.slice ma.ua ma.uses.length ma.ucap,.slice ma.da ma.decls.length ma.dcap,.string mb.label,.slice mb.ua mb.uses.length mb.ucap,.slice mb.da mb.decls.length mb.dcap] 50 (0,0))∧∀ l,(f5 u8 u9 u10 u11 u12 l).ownBlock≠some z):=lid ⟨by rw [← hW1,← hz];exact h_new rfl _,fun l e=>by have:=((HO.out.own l).lt _ e).2;omega⟩
     have HO1:=lid (HO.out.below hbW1)
     have HB1w:Hid (Below w4.heap.size w4 W1):=lid (HBR.out.trans (hbW1.mono HBR.out.size))
     clear hcm hc hp hjl hW1 hbW1 HO HBR
     cases iA with
     | true =>
      cases iB with
      | true =>
       have c0:W1.cell? ⟨z,0,none⟩=some (.string L):=row_cell HR1.out.1 0
       have c1:W1.cell? ⟨z,1,none⟩=some (.bool true):=row_cell HR1.out.1 1
       have c2:W1.cell? ⟨z,2,none⟩=some (.bool true):=row_cell HR1.out.1 2
       have c4:W1.cell? ⟨z,4,none⟩=some (.slice ma.ua ma.uses.length ma.ucap):=row_cell HR1.out.1 4
       have c5:W1.cell? ⟨z,5,none⟩=some (.slice ma.da ma.decls.length ma.dcap):=row_cell HR1.out.1 5
       have c7:W1.cell? ⟨z,7,none⟩=some (.slice mb.ua mb.uses.length mb.ucap):=row_cell HR1.out.1 7
       have c8:W1.cell? ⟨z,8,none⟩=some (.slice mb.da mb.decls.length mb.dcap):=row_cell HR1.out.1 8
       have lz:z<W1.heap.size:=row_lt HR1.out.1
       have hw2p:Below w2.heap.size w2 W1:=HB24.out.trans (HB1w.out.mono HB24.out.size)
       have HW2p:=lid hw2p
       clear hw2p
       have CUp:=lid (useEdits_any 3 L mb.ua ma.ua _ _ _ _ mb.uses ma.uses W1 (HPP.out.1.2.2.2.1.uses.below HW2p.out) (HPP.out.1.2.2.1.uses.below HW2p.out) (Nat.le_trans HPP.out.2.ub (by omega)) (Nat.le_trans HPP.out.2.ua (by omega)))
       have HLNp:Hid ((useKs 3 L mb.uses ma.uses).length≤20):=lid (Nat.le_trans (useKs_len _ _ _ _) HPP.out.2.ub)
       go_wp2_with fail
       rw [HW1.out]
       go_wp2_with fail
       (with_reducible refine (CUp.out).mono ?_);rintro e wcp ⟨vv,rfl,hown,hbc⟩
       obtain ⟨aop,capp,rfl,hx1,hx2,hslp⟩:=Sl.of_own hown
       have HNILp:=lid (own_nil hown)
       have HSLp:=lid hslp
       obtain ⟨mp,hmp⟩:∃ y,(useKs 3 L mb.uses ma.uses).length=y:=⟨_,rfl⟩
       have hmlp:mp≤600:=by have:=HLNp.out;omega
       have HMp:=lid hmp
       rw [hmp] at HSLp ⊢
       have HOcp:=lid (HO1.out.below hbc)
       have HBcp:=lid (HB1w.out.trans (hbc.mono HB1w.out.size))
       have HRcp:Hid (wcp.heap[z]?=_∧_):=lid ⟨(hbc.block _ lz).trans HR1.out.1,HR1.out.2⟩
       have hzcp:w4.heap.size≤wcp.heap.size:=HBcp.out.size
       clear hown hbc hx1 hx2 hslp hmp CUp
       clear c0 c1 c2 c4 c5 c7 c8 lz
       go_wp2_with (at_builtin;go_must (refine wpList_append_slo rfl _ _ 26 rfl w4.heap.size 52 (.agg #[.int .i64 0,.string ⟨#[]⟩,.string ⟨#[]⟩,.slice none 0 0,.slice none 0 0]) 5 88 info_edit Tryz.underlying26 rfl (by decide) u9 n2 (kcs K2) (HOcp.out.own 1) rfl aop mp capp (kcs (useKs 3 L mb.uses ma.uses)) rfl HSLp.out HNILp.out (kcs_one _) (by simp only [maxLen];omega) (by omega) hzcp ?_))
       intro v92 w92 own9 hb9 hg9 hat9
       obtain ⟨ho9,hr9⟩:=HOcp.out.add (v':=(f5 u8 v92 u10 u11 u12)) (n':=(f5 n1 (n2+mp) n3 n4 n5)) (K':=(f5 K1 (K2++(useKs 3 L mb.uses ma.uses)) K3 K4 K5)) 1 (KN:=(useKs 3 L mb.uses ma.uses)) (m:=mp) (HMp.out) (useK_at HPP.out.1.2.2.2.2 HPP.out.1.2.2.2.1.uses.sz) own9 hg9 hat9 (fun l hl=>ne5 hl (fun h=>rfl) (fun h=>absurd rfl h) (fun h=>rfl) (fun h=>rfl) (fun h=>rfl)) rfl (fun l hl=>ne5 hl (fun h=>rfl) (fun h=>absurd rfl h) (fun h=>rfl) (fun h=>rfl) (fun h=>rfl)) rfl (fun l hl=>ne5 hl (fun h=>rfl) (fun h=>absurd rfl h) (fun h=>rfl) (fun h=>rfl) (fun h=>rfl)) rfl
       have HO2:=lid ho9
       have HR2:Hid (w92.heap[z]?=some (.cells #[.string L,.bool true,.bool true,.string ma.label,.slice ma.ua ma.uses.length ma.ucap,.slice ma.da ma.decls.length ma.dcap,.string mb.label,.slice mb.ua mb.uses.length mb.ucap,.slice mb.da mb.decls.length mb.dcap] 50 (0,0))∧∀ l,((f5 u8 v92 u10 u11 u12) l).ownBlock≠some z):=lid ⟨(hr9 z (row_lt HRcp.out.1) HRcp.out.2).1.trans HRcp.out.1,(hr9 z (row_lt HRcp.out.1) HRcp.out.2).2⟩
       have HB2w:=lid (HBcp.out.trans hb9)
       clear own9 hb9 hg9 hat9 ho9 hr9
       try simp only [Act.put,q1,q2,q3]
       have c0:w92.cell? ⟨z,0,none⟩=some (.string L):=row_cell HR2.out.1 0
       have c1:w92.cell? ⟨z,1,none⟩=some (.bool true):=row_cell HR2.out.1 1
       have c2:w92.cell? ⟨z,2,none⟩=some (.bool true):=row_cell HR2.out.1 2
       have c4:w92.cell? ⟨z,4,none⟩=some (.slice ma.ua ma.uses.length ma.ucap):=row_cell HR2.out.1 4
       have c5:w92.cell? ⟨z,5,none⟩=some (.slice ma.da ma.decls.length ma.dcap):=row_cell HR2.out.1 5
       have c7:w92.cell? ⟨z,7,none⟩=some (.slice mb.ua mb.uses.length mb.ucap):=row_cell HR2.out.1 7
       have c8:w92.cell? ⟨z,8,none⟩=some (.slice mb.da mb.decls.length mb.dcap):=row_cell HR2.out.1 8
       have lz:z<w92.heap.size:=row_lt HR2.out.1
       have hw2q:Below w2.heap.size w2 w92:=HB24.out.trans (HB2w.out.mono HB24.out.size)
       have HW2q:=lid hw2q
       clear hw2q
       have CUq:=lid (declEdits_any L HPP.out.1.2.2.2.2 ma.da mb.da _ _ _ _ ma.decls mb.decls w2 w92 HW2q.out HPP.out.1.2.2.1.decls HPP.out.1.2.2.2.1.decls (Nat.le_trans HPP.out.2.da (by omega)) (Nat.le_trans HPP.out.2.db (by omega)) HPP.out.2.cnt)
       go_wp2_with fail
       (with_reducible refine (CUq.out).mono ?_);rintro e wcq ⟨vv,KD,rfl,hkx,hown,hke,hkl,hbc⟩
       have HKX:Hid (KD.map Kw.x=k3 ⟨L,true,true,ma,mb⟩):=lid hkx
       have HKE:=lid hke
       have HLNq:Hid (KD.length≤600):=lid (by have:=HPP.out.2.da;have:=HPP.out.2.db;simp only at *;omega)
       clear hkx hke hkl
       obtain ⟨aoq,capq,rfl,hx1,hx2,hslq⟩:=Sl.of_own hown
       have HNILq:=lid (own_nil hown)
       have HSLq:=lid hslq
       obtain ⟨mq,hmq⟩:∃ y,(KD).length=y:=⟨_,rfl⟩
       have hmlq:mq≤600:=by have:=HLNq.out;omega
       have HMq:=lid hmq
       rw [hmq] at HSLq ⊢
       have HOcq:=lid (HO2.out.below hbc)
       have HBcq:=lid (HB2w.out.trans (hbc.mono HB2w.out.size))
       have HRcq:Hid (wcq.heap[z]?=_∧_):=lid ⟨(hbc.block _ lz).trans HR2.out.1,HR2.out.2⟩
       have hzcq:w4.heap.size≤wcq.heap.size:=HBcq.out.size
       clear hown hbc hx1 hx2 hslq hmq CUq
       clear c0 c1 c2 c4 c5 c7 c8 lz
       go_wp2_with (at_builtin;go_must (refine wpList_append_slo rfl _ _ 26 rfl w4.heap.size 52 (.agg #[.int .i64 0,.string ⟨#[]⟩,.string ⟨#[]⟩,.slice none 0 0,.slice none 0 0]) 5 88 info_edit Tryz.underlying26 rfl (by decide) u10 n3 (kcs K3) (HOcq.out.own 2) rfl aoq mq capq (kcs (KD)) rfl HSLq.out HNILq.out (kcs_one _) (by simp only [maxLen];omega) (by omega) hzcq ?_))
       intro v93 w93 own9 hb9 hg9 hat9
       obtain ⟨ho9,hr9⟩:=HOcq.out.add (v':=(f5 u8 v92 v93 u11 u12)) (n':=(f5 n1 (n2+mp) (n3+mq) n4 n5)) (K':=(f5 K1 (K2++(useKs 3 L mb.uses ma.uses)) (K3++KD) K4 K5)) 2 (KN:=KD) (m:=mq) (HMq.out) (fun x hx=>(HKE.out x hx).keep (fun g _ hg=>⟨fun ⟨l,e⟩=>by have:=((HO2.out.own l).lt g e).2;exact hg (.inl this),rfl⟩)) own9 hg9 hat9 (fun l hl=>ne5 hl (fun h=>rfl) (fun h=>rfl) (fun h=>absurd rfl h) (fun h=>rfl) (fun h=>rfl)) rfl (fun l hl=>ne5 hl (fun h=>rfl) (fun h=>rfl) (fun h=>absurd rfl h) (fun h=>rfl) (fun h=>rfl)) rfl (fun l hl=>ne5 hl (fun h=>rfl) (fun h=>rfl) (fun h=>absurd rfl h) (fun h=>rfl) (fun h=>rfl)) rfl
       have HO3:=lid ho9
       have HR3:Hid (w93.heap[z]?=some (.cells #[.string L,.bool true,.bool true,.string ma.label,.slice ma.ua ma.uses.length ma.ucap,.slice ma.da ma.decls.length ma.dcap,.string mb.label,.slice mb.ua mb.uses.length mb.ucap,.slice mb.da mb.decls.length mb.dcap] 50 (0,0))∧∀ l,((f5 u8 v92 v93 u11 u12) l).ownBlock≠some z):=lid ⟨(hr9 z (row_lt HRcq.out.1) HRcq.out.2).1.trans HRcq.out.1,(hr9 z (row_lt HRcq.out.1) HRcq.out.2).2⟩
       have HB3w:=lid (HBcq.out.trans hb9)
       clear own9 hb9 hg9 hat9 ho9 hr9
       try simp only [Act.put,q1,q2,q3]
       have c0:w93.cell? ⟨z,0,none⟩=some (.string L):=row_cell HR3.out.1 0
       have c1:w93.cell? ⟨z,1,none⟩=some (.bool true):=row_cell HR3.out.1 1
       have c2:w93.cell? ⟨z,2,none⟩=some (.bool true):=row_cell HR3.out.1 2
       have c4:w93.cell? ⟨z,4,none⟩=some (.slice ma.ua ma.uses.length ma.ucap):=row_cell HR3.out.1 4
       have c5:w93.cell? ⟨z,5,none⟩=some (.slice ma.da ma.decls.length ma.dcap):=row_cell HR3.out.1 5
       have c7:w93.cell? ⟨z,7,none⟩=some (.slice mb.ua mb.uses.length mb.ucap):=row_cell HR3.out.1 7
       have c8:w93.cell? ⟨z,8,none⟩=some (.slice mb.da mb.decls.length mb.dcap):=row_cell HR3.out.1 8
       have lz:z<w93.heap.size:=row_lt HR3.out.1
       have hw2r:Below w2.heap.size w2 w93:=HB24.out.trans (HB3w.out.mono HB24.out.size)
       have HW2r:=lid hw2r
       clear hw2r
       have CUr:=lid (useEdits_any 4 L ma.ua mb.ua _ _ _ _ ma.uses mb.uses w93 (HPP.out.1.2.2.1.uses.below HW2r.out) (HPP.out.1.2.2.2.1.uses.below HW2r.out) (Nat.le_trans HPP.out.2.ua (by omega)) (Nat.le_trans HPP.out.2.ub (by omega)))
       have HLNr:Hid ((useKs 4 L ma.uses mb.uses).length≤20):=lid (Nat.le_trans (useKs_len _ _ _ _) HPP.out.2.ua)
       go_wp2_with fail
       (with_reducible refine (CUr.out).mono ?_);rintro e wcr ⟨vv,rfl,hown,hbc⟩
       obtain ⟨aor,capr,rfl,hx1,hx2,hslr⟩:=Sl.of_own hown
       have HNILr:=lid (own_nil hown)
       have HSLr:=lid hslr
       obtain ⟨mr,hmr⟩:∃ y,(useKs 4 L ma.uses mb.uses).length=y:=⟨_,rfl⟩
       have hmlr:mr≤600:=by have:=HLNr.out;omega
       have HMr:=lid hmr
       rw [hmr] at HSLr ⊢
       have HOcr:=lid (HO3.out.below hbc)
       have HBcr:=lid (HB3w.out.trans (hbc.mono HB3w.out.size))
       have HRcr:Hid (wcr.heap[z]?=_∧_):=lid ⟨(hbc.block _ lz).trans HR3.out.1,HR3.out.2⟩
       have hzcr:w4.heap.size≤wcr.heap.size:=HBcr.out.size
       clear hown hbc hx1 hx2 hslr hmr CUr
       clear c0 c1 c2 c4 c5 c7 c8 lz
       go_wp2_with (at_builtin;go_must (refine wpList_append_slo rfl _ _ 26 rfl w4.heap.size 52 (.agg #[.int .i64 0,.string ⟨#[]⟩,.string ⟨#[]⟩,.slice none 0 0,.slice none 0 0]) 5 88 info_edit Tryz.underlying26 rfl (by decide) u11 n4 (kcs K4) (HOcr.out.own 3) rfl aor mr capr (kcs (useKs 4 L ma.uses mb.uses)) rfl HSLr.out HNILr.out (kcs_one _) (by simp only [maxLen];omega) (by omega) hzcr ?_))
       intro v94 w94 own9 hb9 hg9 hat9
       obtain ⟨ho9,hr9⟩:=HOcr.out.add (v':=(f5 u8 v92 v93 v94 u12)) (n':=(f5 n1 (n2+mp) (n3+mq) (n4+mr) n5)) (K':=(f5 K1 (K2++(useKs 3 L mb.uses ma.uses)) (K3++KD) (K4++(useKs 4 L ma.uses mb.uses)) K5)) 3 (KN:=(useKs 4 L ma.uses mb.uses)) (m:=mr) (HMr.out) (useK_at HPP.out.1.2.2.2.2 HPP.out.1.2.2.1.uses.sz) own9 hg9 hat9 (fun l hl=>ne5 hl (fun h=>rfl) (fun h=>rfl) (fun h=>rfl) (fun h=>absurd rfl h) (fun h=>rfl)) rfl (fun l hl=>ne5 hl (fun h=>rfl) (fun h=>rfl) (fun h=>rfl) (fun h=>absurd rfl h) (fun h=>rfl)) rfl (fun l hl=>ne5 hl (fun h=>rfl) (fun h=>rfl) (fun h=>rfl) (fun h=>absurd rfl h) (fun h=>rfl)) rfl
       have HO4:=lid ho9
       have HR4:Hid (w94.heap[z]?=some (.cells #[.string L,.bool true,.bool true,.string ma.label,.slice ma.ua ma.uses.length ma.ucap,.slice ma.da ma.decls.length ma.dcap,.string mb.label,.slice mb.ua mb.uses.length mb.ucap,.slice mb.da mb.decls.length mb.dcap] 50 (0,0))∧∀ l,((f5 u8 v92 v93 v94 u12) l).ownBlock≠some z):=lid ⟨(hr9 z (row_lt HRcr.out.1) HRcr.out.2).1.trans HRcr.out.1,(hr9 z (row_lt HRcr.out.1) HRcr.out.2).2⟩
       have HB4w:=lid (HBcr.out.trans hb9)
       clear own9 hb9 hg9 hat9 ho9 hr9
       try simp only [Act.put,q1,q2,q3]
       have HO9:Hid (Own5 w2 w4.heap.size w94 (f5 u8 v92 v93 v94 u12) (f5 n1 (n2+mp) (n3+mq) (n4+mr) n5) (f5 (K1++k1 ⟨L,true,true,ma,mb⟩) (K2++k2 ⟨L,true,true,ma,mb⟩) (K3++KD) (K4++k4 ⟨L,true,true,ma,mb⟩) (K5++k5 ⟨L,true,true,ma,mb⟩))):=lid (by have:=HO4.out;simpa [k1,k2,k4,k5] using this)
       have c0:w94.cell? ⟨z,0,none⟩=some (.string L):=row_cell HR4.out.1 0
       have c1:w94.cell? ⟨z,1,none⟩=some (.bool true):=row_cell HR4.out.1 1
       have c2:w94.cell? ⟨z,2,none⟩=some (.bool true):=row_cell HR4.out.1 2
       have c4:w94.cell? ⟨z,4,none⟩=some (.slice ma.ua ma.uses.length ma.ucap):=row_cell HR4.out.1 4
       have c5:w94.cell? ⟨z,5,none⟩=some (.slice ma.da ma.decls.length ma.dcap):=row_cell HR4.out.1 5
       have c7:w94.cell? ⟨z,7,none⟩=some (.slice mb.ua mb.uses.length mb.ucap):=row_cell HR4.out.1 7
       have c8:w94.cell? ⟨z,8,none⟩=some (.slice mb.da mb.decls.length mb.dcap):=row_cell HR4.out.1 8
       have lz:z<w94.heap.size:=row_lt HR4.out.1
       go_wp2_with fail
       go_roundw
       case measure=>simp only [intOf];omega
       case rel=>exact ⟨j+1,_,_,_,_,_,_,_,_,_,_,by omega,by simp,HO9,lid (HC.out.next HAT.out HKX.out (by omega) (by omega) (by omega) (by omega) (by omega)),HB4w⟩
      | false =>
       have c0:W1.cell? ⟨z,0,none⟩=some (.string L):=row_cell HR1.out.1 0
       have c1:W1.cell? ⟨z,1,none⟩=some (.bool true):=row_cell HR1.out.1 1
       have c2:W1.cell? ⟨z,2,none⟩=some (.bool false):=row_cell HR1.out.1 2
       have c4:W1.cell? ⟨z,4,none⟩=some (.slice ma.ua ma.uses.length ma.ucap):=row_cell HR1.out.1 4
       have c5:W1.cell? ⟨z,5,none⟩=some (.slice ma.da ma.decls.length ma.dcap):=row_cell HR1.out.1 5
       have c7:W1.cell? ⟨z,7,none⟩=some (.slice mb.ua mb.uses.length mb.ucap):=row_cell HR1.out.1 7
       have c8:W1.cell? ⟨z,8,none⟩=some (.slice mb.da mb.decls.length mb.dcap):=row_cell HR1.out.1 8
       have lz:z<W1.heap.size:=row_lt HR1.out.1
       have hw2p:Below w2.heap.size w2 W1:=HB24.out.trans (HB1w.out.mono HB24.out.size)
       have HW2p:=lid hw2p
       clear hw2p
       have CUp:=lid (useEdits_any 3 L mb.ua ma.ua _ _ _ _ mb.uses ma.uses W1 (HPP.out.1.2.2.2.1.uses.below HW2p.out) (HPP.out.1.2.2.1.uses.below HW2p.out) (Nat.le_trans HPP.out.2.ub (by omega)) (Nat.le_trans HPP.out.2.ua (by omega)))
       have HLNp:Hid ((useKs 3 L mb.uses ma.uses).length≤20):=lid (Nat.le_trans (useKs_len _ _ _ _) HPP.out.2.ub)
       go_wp2_with fail
       rw [HW1.out]
       go_wp2_with fail
       (with_reducible refine (CUp.out).mono ?_);rintro e wcp ⟨vv,rfl,hown,hbc⟩
       obtain ⟨aop,capp,rfl,hx1,hx2,hslp⟩:=Sl.of_own hown
       have HNILp:=lid (own_nil hown)
       have HSLp:=lid hslp
       obtain ⟨mp,hmp⟩:∃ y,(useKs 3 L mb.uses ma.uses).length=y:=⟨_,rfl⟩
       have hmlp:mp≤600:=by have:=HLNp.out;omega
       have HMp:=lid hmp
       rw [hmp] at HSLp ⊢
       have HOcp:=lid (HO1.out.below hbc)
       have HBcp:=lid (HB1w.out.trans (hbc.mono HB1w.out.size))
       have HRcp:Hid (wcp.heap[z]?=_∧_):=lid ⟨(hbc.block _ lz).trans HR1.out.1,HR1.out.2⟩
       have hzcp:w4.heap.size≤wcp.heap.size:=HBcp.out.size
       clear hown hbc hx1 hx2 hslp hmp CUp
       clear c0 c1 c2 c4 c5 c7 c8 lz
       go_wp2_with (at_builtin;go_must (refine wpList_append_slo rfl _ _ 26 rfl w4.heap.size 52 (.agg #[.int .i64 0,.string ⟨#[]⟩,.string ⟨#[]⟩,.slice none 0 0,.slice none 0 0]) 5 88 info_edit Tryz.underlying26 rfl (by decide) u9 n2 (kcs K2) (HOcp.out.own 1) rfl aop mp capp (kcs (useKs 3 L mb.uses ma.uses)) rfl HSLp.out HNILp.out (kcs_one _) (by simp only [maxLen];omega) (by omega) hzcp ?_))
       intro v92 w92 own9 hb9 hg9 hat9
       obtain ⟨ho9,hr9⟩:=HOcp.out.add (v':=(f5 u8 v92 u10 u11 u12)) (n':=(f5 n1 (n2+mp) n3 n4 n5)) (K':=(f5 K1 (K2++(useKs 3 L mb.uses ma.uses)) K3 K4 K5)) 1 (KN:=(useKs 3 L mb.uses ma.uses)) (m:=mp) (HMp.out) (useK_at HPP.out.1.2.2.2.2 HPP.out.1.2.2.2.1.uses.sz) own9 hg9 hat9 (fun l hl=>ne5 hl (fun h=>rfl) (fun h=>absurd rfl h) (fun h=>rfl) (fun h=>rfl) (fun h=>rfl)) rfl (fun l hl=>ne5 hl (fun h=>rfl) (fun h=>absurd rfl h) (fun h=>rfl) (fun h=>rfl) (fun h=>rfl)) rfl (fun l hl=>ne5 hl (fun h=>rfl) (fun h=>absurd rfl h) (fun h=>rfl) (fun h=>rfl) (fun h=>rfl)) rfl
       have HO2:=lid ho9
       have HR2:Hid (w92.heap[z]?=some (.cells #[.string L,.bool true,.bool false,.string ma.label,.slice ma.ua ma.uses.length ma.ucap,.slice ma.da ma.decls.length ma.dcap,.string mb.label,.slice mb.ua mb.uses.length mb.ucap,.slice mb.da mb.decls.length mb.dcap] 50 (0,0))∧∀ l,((f5 u8 v92 u10 u11 u12) l).ownBlock≠some z):=lid ⟨(hr9 z (row_lt HRcp.out.1) HRcp.out.2).1.trans HRcp.out.1,(hr9 z (row_lt HRcp.out.1) HRcp.out.2).2⟩
       have HB2w:=lid (HBcp.out.trans hb9)
       clear own9 hb9 hg9 hat9 ho9 hr9
       try simp only [Act.put,q1,q2,q3]
       have c0:w92.cell? ⟨z,0,none⟩=some (.string L):=row_cell HR2.out.1 0
       have c1:w92.cell? ⟨z,1,none⟩=some (.bool true):=row_cell HR2.out.1 1
       have c2:w92.cell? ⟨z,2,none⟩=some (.bool false):=row_cell HR2.out.1 2
       have c4:w92.cell? ⟨z,4,none⟩=some (.slice ma.ua ma.uses.length ma.ucap):=row_cell HR2.out.1 4
       have c5:w92.cell? ⟨z,5,none⟩=some (.slice ma.da ma.decls.length ma.dcap):=row_cell HR2.out.1 5
       have c7:w92.cell? ⟨z,7,none⟩=some (.slice mb.ua mb.uses.length mb.ucap):=row_cell HR2.out.1 7
       have c8:w92.cell? ⟨z,8,none⟩=some (.slice mb.da mb.decls.length mb.dcap):=row_cell HR2.out.1 8
       have lz:z<w92.heap.size:=row_lt HR2.out.1
       have hw2q:Below w2.heap.size w2 w92:=HB24.out.trans (HB2w.out.mono HB24.out.size)
       have HW2q:=lid hw2q
       clear hw2q
       have CUq:=lid (declEdits_any L HPP.out.1.2.2.2.2 ma.da mb.da _ _ _ _ ma.decls mb.decls w2 w92 HW2q.out HPP.out.1.2.2.1.decls HPP.out.1.2.2.2.1.decls (Nat.le_trans HPP.out.2.da (by omega)) (Nat.le_trans HPP.out.2.db (by omega)) HPP.out.2.cnt)
       go_wp2_with fail
       (with_reducible refine (CUq.out).mono ?_);rintro e wcq ⟨vv,KD,rfl,hkx,hown,hke,hkl,hbc⟩
       have HKX:Hid (KD.map Kw.x=k3 ⟨L,true,false,ma,mb⟩):=lid hkx
       have HKE:=lid hke
       have HLNq:Hid (KD.length≤600):=lid (by have:=HPP.out.2.da;have:=HPP.out.2.db;simp only at *;omega)
       clear hkx hke hkl
       obtain ⟨aoq,capq,rfl,hx1,hx2,hslq⟩:=Sl.of_own hown
       have HNILq:=lid (own_nil hown)
       have HSLq:=lid hslq
       obtain ⟨mq,hmq⟩:∃ y,(KD).length=y:=⟨_,rfl⟩
       have hmlq:mq≤600:=by have:=HLNq.out;omega
       have HMq:=lid hmq
       rw [hmq] at HSLq ⊢
       have HOcq:=lid (HO2.out.below hbc)
       have HBcq:=lid (HB2w.out.trans (hbc.mono HB2w.out.size))
       have HRcq:Hid (wcq.heap[z]?=_∧_):=lid ⟨(hbc.block _ lz).trans HR2.out.1,HR2.out.2⟩
       have hzcq:w4.heap.size≤wcq.heap.size:=HBcq.out.size
       clear hown hbc hx1 hx2 hslq hmq CUq
       clear c0 c1 c2 c4 c5 c7 c8 lz
       go_wp2_with (at_builtin;go_must (refine wpList_append_slo rfl _ _ 26 rfl w4.heap.size 52 (.agg #[.int .i64 0,.string ⟨#[]⟩,.string ⟨#[]⟩,.slice none 0 0,.slice none 0 0]) 5 88 info_edit Tryz.underlying26 rfl (by decide) u10 n3 (kcs K3) (HOcq.out.own 2) rfl aoq mq capq (kcs (KD)) rfl HSLq.out HNILq.out (kcs_one _) (by simp only [maxLen];omega) (by omega) hzcq ?_))
       intro v93 w93 own9 hb9 hg9 hat9
       obtain ⟨ho9,hr9⟩:=HOcq.out.add (v':=(f5 u8 v92 v93 u11 u12)) (n':=(f5 n1 (n2+mp) (n3+mq) n4 n5)) (K':=(f5 K1 (K2++(useKs 3 L mb.uses ma.uses)) (K3++KD) K4 K5)) 2 (KN:=KD) (m:=mq) (HMq.out) (fun x hx=>(HKE.out x hx).keep (fun g _ hg=>⟨fun ⟨l,e⟩=>by have:=((HO2.out.own l).lt g e).2;exact hg (.inl this),rfl⟩)) own9 hg9 hat9 (fun l hl=>ne5 hl (fun h=>rfl) (fun h=>rfl) (fun h=>absurd rfl h) (fun h=>rfl) (fun h=>rfl)) rfl (fun l hl=>ne5 hl (fun h=>rfl) (fun h=>rfl) (fun h=>absurd rfl h) (fun h=>rfl) (fun h=>rfl)) rfl (fun l hl=>ne5 hl (fun h=>rfl) (fun h=>rfl) (fun h=>absurd rfl h) (fun h=>rfl) (fun h=>rfl)) rfl
       have HO3:=lid ho9
       have HR3:Hid (w93.heap[z]?=some (.cells #[.string L,.bool true,.bool false,.string ma.label,.slice ma.ua ma.uses.length ma.ucap,.slice ma.da ma.decls.length ma.dcap,.string mb.label,.slice mb.ua mb.uses.length mb.ucap,.slice mb.da mb.decls.length mb.dcap] 50 (0,0))∧∀ l,((f5 u8 v92 v93 u11 u12) l).ownBlock≠some z):=lid ⟨(hr9 z (row_lt HRcq.out.1) HRcq.out.2).1.trans HRcq.out.1,(hr9 z (row_lt HRcq.out.1) HRcq.out.2).2⟩
       have HB3w:=lid (HBcq.out.trans hb9)
       clear own9 hb9 hg9 hat9 ho9 hr9
       try simp only [Act.put,q1,q2,q3]
       have c0:w93.cell? ⟨z,0,none⟩=some (.string L):=row_cell HR3.out.1 0
       have c1:w93.cell? ⟨z,1,none⟩=some (.bool true):=row_cell HR3.out.1 1
       have c2:w93.cell? ⟨z,2,none⟩=some (.bool false):=row_cell HR3.out.1 2
       have c4:w93.cell? ⟨z,4,none⟩=some (.slice ma.ua ma.uses.length ma.ucap):=row_cell HR3.out.1 4
       have c5:w93.cell? ⟨z,5,none⟩=some (.slice ma.da ma.decls.length ma.dcap):=row_cell HR3.out.1 5
       have c7:w93.cell? ⟨z,7,none⟩=some (.slice mb.ua mb.uses.length mb.ucap):=row_cell HR3.out.1 7
       have c8:w93.cell? ⟨z,8,none⟩=some (.slice mb.da mb.decls.length mb.dcap):=row_cell HR3.out.1 8
       have lz:z<w93.heap.size:=row_lt HR3.out.1
       have hw2r:Below w2.heap.size w2 w93:=HB24.out.trans (HB3w.out.mono HB24.out.size)
       have HW2r:=lid hw2r
       clear hw2r
       have CUr:=lid (useEdits_any 4 L ma.ua mb.ua _ _ _ _ ma.uses mb.uses w93 (HPP.out.1.2.2.1.uses.below HW2r.out) (HPP.out.1.2.2.2.1.uses.below HW2r.out) (Nat.le_trans HPP.out.2.ua (by omega)) (Nat.le_trans HPP.out.2.ub (by omega)))
       have HLNr:Hid ((useKs 4 L ma.uses mb.uses).length≤20):=lid (Nat.le_trans (useKs_len _ _ _ _) HPP.out.2.ua)
       go_wp2_with fail
       (with_reducible refine (CUr.out).mono ?_);rintro e wcr ⟨vv,rfl,hown,hbc⟩
       obtain ⟨aor,capr,rfl,hx1,hx2,hslr⟩:=Sl.of_own hown
       have HNILr:=lid (own_nil hown)
       have HSLr:=lid hslr
       obtain ⟨mr,hmr⟩:∃ y,(useKs 4 L ma.uses mb.uses).length=y:=⟨_,rfl⟩
       have hmlr:mr≤600:=by have:=HLNr.out;omega
       have HMr:=lid hmr
       rw [hmr] at HSLr ⊢
       have HOcr:=lid (HO3.out.below hbc)
       have HBcr:=lid (HB3w.out.trans (hbc.mono HB3w.out.size))
       have HRcr:Hid (wcr.heap[z]?=_∧_):=lid ⟨(hbc.block _ lz).trans HR3.out.1,HR3.out.2⟩
       have hzcr:w4.heap.size≤wcr.heap.size:=HBcr.out.size
       clear hown hbc hx1 hx2 hslr hmr CUr
       clear c0 c1 c2 c4 c5 c7 c8 lz
       go_wp2_with (at_builtin;go_must (refine wpList_append_slo rfl _ _ 26 rfl w4.heap.size 52 (.agg #[.int .i64 0,.string ⟨#[]⟩,.string ⟨#[]⟩,.slice none 0 0,.slice none 0 0]) 5 88 info_edit Tryz.underlying26 rfl (by decide) u11 n4 (kcs K4) (HOcr.out.own 3) rfl aor mr capr (kcs (useKs 4 L ma.uses mb.uses)) rfl HSLr.out HNILr.out (kcs_one _) (by simp only [maxLen];omega) (by omega) hzcr ?_))
       intro v94 w94 own9 hb9 hg9 hat9
       obtain ⟨ho9,hr9⟩:=HOcr.out.add (v':=(f5 u8 v92 v93 v94 u12)) (n':=(f5 n1 (n2+mp) (n3+mq) (n4+mr) n5)) (K':=(f5 K1 (K2++(useKs 3 L mb.uses ma.uses)) (K3++KD) (K4++(useKs 4 L ma.uses mb.uses)) K5)) 3 (KN:=(useKs 4 L ma.uses mb.uses)) (m:=mr) (HMr.out) (useK_at HPP.out.1.2.2.2.2 HPP.out.1.2.2.1.uses.sz) own9 hg9 hat9 (fun l hl=>ne5 hl (fun h=>rfl) (fun h=>rfl) (fun h=>rfl) (fun h=>absurd rfl h) (fun h=>rfl)) rfl (fun l hl=>ne5 hl (fun h=>rfl) (fun h=>rfl) (fun h=>rfl) (fun h=>absurd rfl h) (fun h=>rfl)) rfl (fun l hl=>ne5 hl (fun h=>rfl) (fun h=>rfl) (fun h=>rfl) (fun h=>absurd rfl h) (fun h=>rfl)) rfl
       have HO4:=lid ho9
       have HR4:Hid (w94.heap[z]?=some (.cells #[.string L,.bool true,.bool false,.string ma.label,.slice ma.ua ma.uses.length ma.ucap,.slice ma.da ma.decls.length ma.dcap,.string mb.label,.slice mb.ua mb.uses.length mb.ucap,.slice mb.da mb.decls.length mb.dcap] 50 (0,0))∧∀ l,((f5 u8 v92 v93 v94 u12) l).ownBlock≠some z):=lid ⟨(hr9 z (row_lt HRcr.out.1) HRcr.out.2).1.trans HRcr.out.1,(hr9 z (row_lt HRcr.out.1) HRcr.out.2).2⟩
       have HB4w:=lid (HBcr.out.trans hb9)
       clear own9 hb9 hg9 hat9 ho9 hr9
       try simp only [Act.put,q1,q2,q3]
       have c0:w94.cell? ⟨z,0,none⟩=some (.string L):=row_cell HR4.out.1 0
       have c1:w94.cell? ⟨z,1,none⟩=some (.bool true):=row_cell HR4.out.1 1
       have c2:w94.cell? ⟨z,2,none⟩=some (.bool false):=row_cell HR4.out.1 2
       have c4:w94.cell? ⟨z,4,none⟩=some (.slice ma.ua ma.uses.length ma.ucap):=row_cell HR4.out.1 4
       have c5:w94.cell? ⟨z,5,none⟩=some (.slice ma.da ma.decls.length ma.dcap):=row_cell HR4.out.1 5
       have c7:w94.cell? ⟨z,7,none⟩=some (.slice mb.ua mb.uses.length mb.ucap):=row_cell HR4.out.1 7
       have c8:w94.cell? ⟨z,8,none⟩=some (.slice mb.da mb.decls.length mb.dcap):=row_cell HR4.out.1 8
       have lz:z<w94.heap.size:=row_lt HR4.out.1
       obtain ⟨X4,hX4⟩:∃ X4,w94.alloc (Obj.cells #[Value.int .i64 2,Value.string L,Value.string ⟨#[]⟩,Value.slice none 0 0,Value.slice none 0 0] 52)=X4:=⟨_,rfl⟩
       have hbX4:Below w94.heap.size w94 X4:=by rw [← hX4];exact ba _ _
       have HHX4:=lid hX4
       have HEX4:Hid (X4.heap[w94.heap.size]?=some (.cells #[Value.int .i64 2,Value.string L,Value.string ⟨#[]⟩,Value.slice none 0 0,Value.slice none 0 0] 52 (0,0))):=lid (by rw [← hX4];exact h_new rfl _)
       have HOX4:=lid (HO4.out.below hbX4)
       have HBX4:=lid (HB4w.out.trans (hbX4.mono HB4w.out.size))
       have HRX4:Hid (X4.heap[z]?=_∧_):=lid ⟨(hbX4.block _ lz).trans HR4.out.1,HR4.out.2⟩
       have hzX4:w4.heap.size≤X4.heap.size:=HBX4.out.size
       clear hX4 hbX4
       go_wp2_with (at_builtin;rw [HHX4.out];go_must (refine wpList_append_sla rfl _ _ 26 rfl w4.heap.size 52 (.agg #[.int .i64 0,.string ⟨#[]⟩,.string ⟨#[]⟩,.slice none 0 0,.slice none 0 0]) 5 88 info_edit Tryz.underlying26 rfl (by decide) u12 n5 (kcs K5) (HOX4.out.own 4) rfl ⟨w94.heap.size,0,none⟩ 1 1 (kca (useK 2 L ⟨#[]⟩)).toList rfl (sl_row HEX4.out rfl) (by simp [Value.oneCell']) (by simp only [maxLen];omega) (by omega) hzX4 ?_))
       intro v95 w95 own9 hb9 hg9 hat9
       obtain ⟨ho9,hr9⟩:=HOX4.out.add (v':=(f5 u8 v92 v93 v94 v95)) (n':=(f5 n1 (n2+mp) (n3+mq) (n4+mr) (n5+1))) (K':=(f5 K1 (K2++(useKs 3 L mb.uses ma.uses)) (K3++KD) (K4++(useKs 4 L ma.uses mb.uses)) (K5++[useK 2 L ⟨#[]⟩]))) 4 (KN:=[useK 2 L ⟨#[]⟩]) (m:=1) (by exact rfl) (useK_at1 HPP.out.1.2.2.2.2) (by rw [show kcs [useK 2 L ⟨#[]⟩]=kce (useK 2 L ⟨#[]⟩) from List.append_nil _];exact own9) hg9 hat9 (fun l hl=>ne5 hl (fun h=>rfl) (fun h=>rfl) (fun h=>rfl) (fun h=>rfl) (fun h=>absurd rfl h)) rfl (fun l hl=>ne5 hl (fun h=>rfl) (fun h=>rfl) (fun h=>rfl) (fun h=>rfl) (fun h=>absurd rfl h)) rfl (fun l hl=>ne5 hl (fun h=>rfl) (fun h=>rfl) (fun h=>rfl) (fun h=>rfl) (fun h=>absurd rfl h)) rfl
       have HO5:=lid ho9
       have HR5:Hid (w95.heap[z]?=some (.cells #[.string L,.bool true,.bool false,.string ma.label,.slice ma.ua ma.uses.length ma.ucap,.slice ma.da ma.decls.length ma.dcap,.string mb.label,.slice mb.ua mb.uses.length mb.ucap,.slice mb.da mb.decls.length mb.dcap] 50 (0,0))∧∀ l,((f5 u8 v92 v93 v94 v95) l).ownBlock≠some z):=lid ⟨(hr9 z (row_lt HRX4.out.1) HRX4.out.2).1.trans HRX4.out.1,(hr9 z (row_lt HRX4.out.1) HRX4.out.2).2⟩
       have HB5w:=lid (HBX4.out.trans hb9)
       clear own9 hb9 hg9 hat9 ho9 hr9
       try simp only [Act.put,q1,q2,q3]
       clear c0 c1 c2 c4 c5 c7 c8 lz
       have HO9:Hid (Own5 w2 w4.heap.size w95 (f5 u8 v92 v93 v94 v95) (f5 n1 (n2+mp) (n3+mq) (n4+mr) (n5+1)) (f5 (K1++k1 ⟨L,true,false,ma,mb⟩) (K2++k2 ⟨L,true,false,ma,mb⟩) (K3++KD) (K4++k4 ⟨L,true,false,ma,mb⟩) (K5++k5 ⟨L,true,false,ma,mb⟩))):=lid (by have:=HO5.out;simpa [k1,k2,k4,k5] using this)
       go_wp2_with fail
       go_roundw
       case measure=>simp only [intOf];omega
       case rel=>exact ⟨j+1,_,_,_,_,_,_,_,_,_,_,by omega,by simp,HO9,lid (HC.out.next HAT.out HKX.out (by omega) (by omega) (by omega) (by omega) (by omega)),HB5w⟩
     | false =>
      cases iB with
      | true =>
       have c0:W1.cell? ⟨z,0,none⟩=some (.string L):=row_cell HR1.out.1 0
       have c1:W1.cell? ⟨z,1,none⟩=some (.bool false):=row_cell HR1.out.1 1
       have c2:W1.cell? ⟨z,2,none⟩=some (.bool true):=row_cell HR1.out.1 2
       have c4:W1.cell? ⟨z,4,none⟩=some (.slice ma.ua ma.uses.length ma.ucap):=row_cell HR1.out.1 4
       have c5:W1.cell? ⟨z,5,none⟩=some (.slice ma.da ma.decls.length ma.dcap):=row_cell HR1.out.1 5
       have c7:W1.cell? ⟨z,7,none⟩=some (.slice mb.ua mb.uses.length mb.ucap):=row_cell HR1.out.1 7
       have c8:W1.cell? ⟨z,8,none⟩=some (.slice mb.da mb.decls.length mb.dcap):=row_cell HR1.out.1 8
       have lz:z<W1.heap.size:=row_lt HR1.out.1
       obtain ⟨X0,hX0⟩:∃ X0,W1.alloc (Obj.cells #[Value.int .i64 1,Value.string L,Value.string ⟨#[]⟩,Value.slice none 0 0,Value.slice none 0 0] 52)=X0:=⟨_,rfl⟩
       have hbX0:Below W1.heap.size W1 X0:=by rw [← hX0];exact ba _ _
       have HHX0:=lid hX0
       have HEX0:Hid (X0.heap[z+1]?=some (.cells #[Value.int .i64 1,Value.string L,Value.string ⟨#[]⟩,Value.slice none 0 0,Value.slice none 0 0] 52 (0,0))):=lid (by rw [← hX0];exact h_new (by rw [← HW1.out,← hz];simp) _)
       have HOX0:=lid (HO1.out.below hbX0)
       have HBX0:=lid (HB1w.out.trans (hbX0.mono HB1w.out.size))
       have HRX0:Hid (X0.heap[z]?=_∧_):=lid ⟨(hbX0.block _ lz).trans HR1.out.1,HR1.out.2⟩
       have hzX0:w4.heap.size≤X0.heap.size:=HBX0.out.size
       clear hX0 hbX0
       go_wp2_with (at_builtin;rw [HW1.out,HHX0.out];go_must (refine wpList_append_sla rfl _ _ 26 rfl w4.heap.size 52 (.agg #[.int .i64 0,.string ⟨#[]⟩,.string ⟨#[]⟩,.slice none 0 0,.slice none 0 0]) 5 88 info_edit Tryz.underlying26 rfl (by decide) u8 n1 (kcs K1) (HOX0.out.own 0) rfl ⟨z+1,0,none⟩ 1 1 (kca (useK 1 L ⟨#[]⟩)).toList rfl (sl_row HEX0.out rfl) (by simp [Value.oneCell']) (by simp only [maxLen];omega) (by omega) hzX0 ?_))
       intro v92 w92 own9 hb9 hg9 hat9
       obtain ⟨ho9,hr9⟩:=HOX0.out.add (v':=(f5 v92 u9 u10 u11 u12)) (n':=(f5 (n1+1) n2 n3 n4 n5)) (K':=(f5 (K1++[useK 1 L ⟨#[]⟩]) K2 K3 K4 K5)) 0 (KN:=[useK 1 L ⟨#[]⟩]) (m:=1) (by exact rfl) (useK_at1 HPP.out.1.2.2.2.2) (by rw [show kcs [useK 1 L ⟨#[]⟩]=kce (useK 1 L ⟨#[]⟩) from List.append_nil _];exact own9) hg9 hat9 (fun l hl=>ne5 hl (fun h=>absurd rfl h) (fun h=>rfl) (fun h=>rfl) (fun h=>rfl) (fun h=>rfl)) rfl (fun l hl=>ne5 hl (fun h=>absurd rfl h) (fun h=>rfl) (fun h=>rfl) (fun h=>rfl) (fun h=>rfl)) rfl (fun l hl=>ne5 hl (fun h=>absurd rfl h) (fun h=>rfl) (fun h=>rfl) (fun h=>rfl) (fun h=>rfl)) rfl
       have HO2:=lid ho9
       have HR2:Hid (w92.heap[z]?=some (.cells #[.string L,.bool false,.bool true,.string ma.label,.slice ma.ua ma.uses.length ma.ucap,.slice ma.da ma.decls.length ma.dcap,.string mb.label,.slice mb.ua mb.uses.length mb.ucap,.slice mb.da mb.decls.length mb.dcap] 50 (0,0))∧∀ l,((f5 v92 u9 u10 u11 u12) l).ownBlock≠some z):=lid ⟨(hr9 z (row_lt HRX0.out.1) HRX0.out.2).1.trans HRX0.out.1,(hr9 z (row_lt HRX0.out.1) HRX0.out.2).2⟩
       have HB2w:=lid (HBX0.out.trans hb9)
       clear own9 hb9 hg9 hat9 ho9 hr9
       try simp only [Act.put,q1,q2,q3]
       clear c0 c1 c2 c4 c5 c7 c8 lz
       have c0:w92.cell? ⟨z,0,none⟩=some (.string L):=row_cell HR2.out.1 0
       have c1:w92.cell? ⟨z,1,none⟩=some (.bool false):=row_cell HR2.out.1 1
       have c2:w92.cell? ⟨z,2,none⟩=some (.bool true):=row_cell HR2.out.1 2
       have c4:w92.cell? ⟨z,4,none⟩=some (.slice ma.ua ma.uses.length ma.ucap):=row_cell HR2.out.1 4
       have c5:w92.cell? ⟨z,5,none⟩=some (.slice ma.da ma.decls.length ma.dcap):=row_cell HR2.out.1 5
       have c7:w92.cell? ⟨z,7,none⟩=some (.slice mb.ua mb.uses.length mb.ucap):=row_cell HR2.out.1 7
       have c8:w92.cell? ⟨z,8,none⟩=some (.slice mb.da mb.decls.length mb.dcap):=row_cell HR2.out.1 8
       have lz:z<w92.heap.size:=row_lt HR2.out.1
       have hw2p:Below w2.heap.size w2 w92:=HB24.out.trans (HB2w.out.mono HB24.out.size)
       have HW2p:=lid hw2p
       clear hw2p
       have CUp:=lid (useEdits_any 3 L mb.ua ma.ua _ _ _ _ mb.uses ma.uses w92 (HPP.out.1.2.2.2.1.uses.below HW2p.out) (HPP.out.1.2.2.1.uses.below HW2p.out) (Nat.le_trans HPP.out.2.ub (by omega)) (Nat.le_trans HPP.out.2.ua (by omega)))
       have HLNp:Hid ((useKs 3 L mb.uses ma.uses).length≤20):=lid (Nat.le_trans (useKs_len _ _ _ _) HPP.out.2.ub)
       go_wp2_with fail
       (with_reducible refine (CUp.out).mono ?_);rintro e wcp ⟨vv,rfl,hown,hbc⟩
       obtain ⟨aop,capp,rfl,hx1,hx2,hslp⟩:=Sl.of_own hown
       have HNILp:=lid (own_nil hown)
       have HSLp:=lid hslp
       obtain ⟨mp,hmp⟩:∃ y,(useKs 3 L mb.uses ma.uses).length=y:=⟨_,rfl⟩
       have hmlp:mp≤600:=by have:=HLNp.out;omega
       have HMp:=lid hmp
       rw [hmp] at HSLp ⊢
       have HOcp:=lid (HO2.out.below hbc)
       have HBcp:=lid (HB2w.out.trans (hbc.mono HB2w.out.size))
       have HRcp:Hid (wcp.heap[z]?=_∧_):=lid ⟨(hbc.block _ lz).trans HR2.out.1,HR2.out.2⟩
       have hzcp:w4.heap.size≤wcp.heap.size:=HBcp.out.size
       clear hown hbc hx1 hx2 hslp hmp CUp
       clear c0 c1 c2 c4 c5 c7 c8 lz
       go_wp2_with (at_builtin;go_must (refine wpList_append_slo rfl _ _ 26 rfl w4.heap.size 52 (.agg #[.int .i64 0,.string ⟨#[]⟩,.string ⟨#[]⟩,.slice none 0 0,.slice none 0 0]) 5 88 info_edit Tryz.underlying26 rfl (by decide) u9 n2 (kcs K2) (HOcp.out.own 1) rfl aop mp capp (kcs (useKs 3 L mb.uses ma.uses)) rfl HSLp.out HNILp.out (kcs_one _) (by simp only [maxLen];omega) (by omega) hzcp ?_))
       intro v93 w93 own9 hb9 hg9 hat9
       obtain ⟨ho9,hr9⟩:=HOcp.out.add (v':=(f5 v92 v93 u10 u11 u12)) (n':=(f5 (n1+1) (n2+mp) n3 n4 n5)) (K':=(f5 (K1++[useK 1 L ⟨#[]⟩]) (K2++(useKs 3 L mb.uses ma.uses)) K3 K4 K5)) 1 (KN:=(useKs 3 L mb.uses ma.uses)) (m:=mp) (HMp.out) (useK_at HPP.out.1.2.2.2.2 HPP.out.1.2.2.2.1.uses.sz) own9 hg9 hat9 (fun l hl=>ne5 hl (fun h=>rfl) (fun h=>absurd rfl h) (fun h=>rfl) (fun h=>rfl) (fun h=>rfl)) rfl (fun l hl=>ne5 hl (fun h=>rfl) (fun h=>absurd rfl h) (fun h=>rfl) (fun h=>rfl) (fun h=>rfl)) rfl (fun l hl=>ne5 hl (fun h=>rfl) (fun h=>absurd rfl h) (fun h=>rfl) (fun h=>rfl) (fun h=>rfl)) rfl
       have HO3:=lid ho9
       have HR3:Hid (w93.heap[z]?=some (.cells #[.string L,.bool false,.bool true,.string ma.label,.slice ma.ua ma.uses.length ma.ucap,.slice ma.da ma.decls.length ma.dcap,.string mb.label,.slice mb.ua mb.uses.length mb.ucap,.slice mb.da mb.decls.length mb.dcap] 50 (0,0))∧∀ l,((f5 v92 v93 u10 u11 u12) l).ownBlock≠some z):=lid ⟨(hr9 z (row_lt HRcp.out.1) HRcp.out.2).1.trans HRcp.out.1,(hr9 z (row_lt HRcp.out.1) HRcp.out.2).2⟩
       have HB3w:=lid (HBcp.out.trans hb9)
       clear own9 hb9 hg9 hat9 ho9 hr9
       try simp only [Act.put,q1,q2,q3]
       have c0:w93.cell? ⟨z,0,none⟩=some (.string L):=row_cell HR3.out.1 0
       have c1:w93.cell? ⟨z,1,none⟩=some (.bool false):=row_cell HR3.out.1 1
       have c2:w93.cell? ⟨z,2,none⟩=some (.bool true):=row_cell HR3.out.1 2
       have c4:w93.cell? ⟨z,4,none⟩=some (.slice ma.ua ma.uses.length ma.ucap):=row_cell HR3.out.1 4
       have c5:w93.cell? ⟨z,5,none⟩=some (.slice ma.da ma.decls.length ma.dcap):=row_cell HR3.out.1 5
       have c7:w93.cell? ⟨z,7,none⟩=some (.slice mb.ua mb.uses.length mb.ucap):=row_cell HR3.out.1 7
       have c8:w93.cell? ⟨z,8,none⟩=some (.slice mb.da mb.decls.length mb.dcap):=row_cell HR3.out.1 8
       have lz:z<w93.heap.size:=row_lt HR3.out.1
       have hw2q:Below w2.heap.size w2 w93:=HB24.out.trans (HB3w.out.mono HB24.out.size)
       have HW2q:=lid hw2q
       clear hw2q
       have CUq:=lid (declEdits_any L HPP.out.1.2.2.2.2 ma.da mb.da _ _ _ _ ma.decls mb.decls w2 w93 HW2q.out HPP.out.1.2.2.1.decls HPP.out.1.2.2.2.1.decls (Nat.le_trans HPP.out.2.da (by omega)) (Nat.le_trans HPP.out.2.db (by omega)) HPP.out.2.cnt)
       go_wp2_with fail
       (with_reducible refine (CUq.out).mono ?_);rintro e wcq ⟨vv,KD,rfl,hkx,hown,hke,hkl,hbc⟩
       have HKX:Hid (KD.map Kw.x=k3 ⟨L,false,true,ma,mb⟩):=lid hkx
       have HKE:=lid hke
       have HLNq:Hid (KD.length≤600):=lid (by have:=HPP.out.2.da;have:=HPP.out.2.db;simp only at *;omega)
       clear hkx hke hkl
       obtain ⟨aoq,capq,rfl,hx1,hx2,hslq⟩:=Sl.of_own hown
       have HNILq:=lid (own_nil hown)
       have HSLq:=lid hslq
       obtain ⟨mq,hmq⟩:∃ y,(KD).length=y:=⟨_,rfl⟩
       have hmlq:mq≤600:=by have:=HLNq.out;omega
       have HMq:=lid hmq
       rw [hmq] at HSLq ⊢
       have HOcq:=lid (HO3.out.below hbc)
       have HBcq:=lid (HB3w.out.trans (hbc.mono HB3w.out.size))
       have HRcq:Hid (wcq.heap[z]?=_∧_):=lid ⟨(hbc.block _ lz).trans HR3.out.1,HR3.out.2⟩
       have hzcq:w4.heap.size≤wcq.heap.size:=HBcq.out.size
       clear hown hbc hx1 hx2 hslq hmq CUq
       clear c0 c1 c2 c4 c5 c7 c8 lz
       go_wp2_with (at_builtin;go_must (refine wpList_append_slo rfl _ _ 26 rfl w4.heap.size 52 (.agg #[.int .i64 0,.string ⟨#[]⟩,.string ⟨#[]⟩,.slice none 0 0,.slice none 0 0]) 5 88 info_edit Tryz.underlying26 rfl (by decide) u10 n3 (kcs K3) (HOcq.out.own 2) rfl aoq mq capq (kcs (KD)) rfl HSLq.out HNILq.out (kcs_one _) (by simp only [maxLen];omega) (by omega) hzcq ?_))
       intro v94 w94 own9 hb9 hg9 hat9
       obtain ⟨ho9,hr9⟩:=HOcq.out.add (v':=(f5 v92 v93 v94 u11 u12)) (n':=(f5 (n1+1) (n2+mp) (n3+mq) n4 n5)) (K':=(f5 (K1++[useK 1 L ⟨#[]⟩]) (K2++(useKs 3 L mb.uses ma.uses)) (K3++KD) K4 K5)) 2 (KN:=KD) (m:=mq) (HMq.out) (fun x hx=>(HKE.out x hx).keep (fun g _ hg=>⟨fun ⟨l,e⟩=>by have:=((HO3.out.own l).lt g e).2;exact hg (.inl this),rfl⟩)) own9 hg9 hat9 (fun l hl=>ne5 hl (fun h=>rfl) (fun h=>rfl) (fun h=>absurd rfl h) (fun h=>rfl) (fun h=>rfl)) rfl (fun l hl=>ne5 hl (fun h=>rfl) (fun h=>rfl) (fun h=>absurd rfl h) (fun h=>rfl) (fun h=>rfl)) rfl (fun l hl=>ne5 hl (fun h=>rfl) (fun h=>rfl) (fun h=>absurd rfl h) (fun h=>rfl) (fun h=>rfl)) rfl
       have HO4:=lid ho9
       have HR4:Hid (w94.heap[z]?=some (.cells #[.string L,.bool false,.bool true,.string ma.label,.slice ma.ua ma.uses.length ma.ucap,.slice ma.da ma.decls.length ma.dcap,.string mb.label,.slice mb.ua mb.uses.length mb.ucap,.slice mb.da mb.decls.length mb.dcap] 50 (0,0))∧∀ l,((f5 v92 v93 v94 u11 u12) l).ownBlock≠some z):=lid ⟨(hr9 z (row_lt HRcq.out.1) HRcq.out.2).1.trans HRcq.out.1,(hr9 z (row_lt HRcq.out.1) HRcq.out.2).2⟩
       have HB4w:=lid (HBcq.out.trans hb9)
       clear own9 hb9 hg9 hat9 ho9 hr9
       try simp only [Act.put,q1,q2,q3]
       have c0:w94.cell? ⟨z,0,none⟩=some (.string L):=row_cell HR4.out.1 0
       have c1:w94.cell? ⟨z,1,none⟩=some (.bool false):=row_cell HR4.out.1 1
       have c2:w94.cell? ⟨z,2,none⟩=some (.bool true):=row_cell HR4.out.1 2
       have c4:w94.cell? ⟨z,4,none⟩=some (.slice ma.ua ma.uses.length ma.ucap):=row_cell HR4.out.1 4
       have c5:w94.cell? ⟨z,5,none⟩=some (.slice ma.da ma.decls.length ma.dcap):=row_cell HR4.out.1 5
       have c7:w94.cell? ⟨z,7,none⟩=some (.slice mb.ua mb.uses.length mb.ucap):=row_cell HR4.out.1 7
       have c8:w94.cell? ⟨z,8,none⟩=some (.slice mb.da mb.decls.length mb.dcap):=row_cell HR4.out.1 8
       have lz:z<w94.heap.size:=row_lt HR4.out.1
       have hw2r:Below w2.heap.size w2 w94:=HB24.out.trans (HB4w.out.mono HB24.out.size)
       have HW2r:=lid hw2r
       clear hw2r
       have CUr:=lid (useEdits_any 4 L ma.ua mb.ua _ _ _ _ ma.uses mb.uses w94 (HPP.out.1.2.2.1.uses.below HW2r.out) (HPP.out.1.2.2.2.1.uses.below HW2r.out) (Nat.le_trans HPP.out.2.ua (by omega)) (Nat.le_trans HPP.out.2.ub (by omega)))
       have HLNr:Hid ((useKs 4 L ma.uses mb.uses).length≤20):=lid (Nat.le_trans (useKs_len _ _ _ _) HPP.out.2.ua)
       go_wp2_with fail
       (with_reducible refine (CUr.out).mono ?_);rintro e wcr ⟨vv,rfl,hown,hbc⟩
       obtain ⟨aor,capr,rfl,hx1,hx2,hslr⟩:=Sl.of_own hown
       have HNILr:=lid (own_nil hown)
       have HSLr:=lid hslr
       obtain ⟨mr,hmr⟩:∃ y,(useKs 4 L ma.uses mb.uses).length=y:=⟨_,rfl⟩
       have hmlr:mr≤600:=by have:=HLNr.out;omega
       have HMr:=lid hmr
       rw [hmr] at HSLr ⊢
       have HOcr:=lid (HO4.out.below hbc)
       have HBcr:=lid (HB4w.out.trans (hbc.mono HB4w.out.size))
       have HRcr:Hid (wcr.heap[z]?=_∧_):=lid ⟨(hbc.block _ lz).trans HR4.out.1,HR4.out.2⟩
       have hzcr:w4.heap.size≤wcr.heap.size:=HBcr.out.size
       clear hown hbc hx1 hx2 hslr hmr CUr
       clear c0 c1 c2 c4 c5 c7 c8 lz
       go_wp2_with (at_builtin;go_must (refine wpList_append_slo rfl _ _ 26 rfl w4.heap.size 52 (.agg #[.int .i64 0,.string ⟨#[]⟩,.string ⟨#[]⟩,.slice none 0 0,.slice none 0 0]) 5 88 info_edit Tryz.underlying26 rfl (by decide) u11 n4 (kcs K4) (HOcr.out.own 3) rfl aor mr capr (kcs (useKs 4 L ma.uses mb.uses)) rfl HSLr.out HNILr.out (kcs_one _) (by simp only [maxLen];omega) (by omega) hzcr ?_))
       intro v95 w95 own9 hb9 hg9 hat9
       obtain ⟨ho9,hr9⟩:=HOcr.out.add (v':=(f5 v92 v93 v94 v95 u12)) (n':=(f5 (n1+1) (n2+mp) (n3+mq) (n4+mr) n5)) (K':=(f5 (K1++[useK 1 L ⟨#[]⟩]) (K2++(useKs 3 L mb.uses ma.uses)) (K3++KD) (K4++(useKs 4 L ma.uses mb.uses)) K5)) 3 (KN:=(useKs 4 L ma.uses mb.uses)) (m:=mr) (HMr.out) (useK_at HPP.out.1.2.2.2.2 HPP.out.1.2.2.1.uses.sz) own9 hg9 hat9 (fun l hl=>ne5 hl (fun h=>rfl) (fun h=>rfl) (fun h=>rfl) (fun h=>absurd rfl h) (fun h=>rfl)) rfl (fun l hl=>ne5 hl (fun h=>rfl) (fun h=>rfl) (fun h=>rfl) (fun h=>absurd rfl h) (fun h=>rfl)) rfl (fun l hl=>ne5 hl (fun h=>rfl) (fun h=>rfl) (fun h=>rfl) (fun h=>absurd rfl h) (fun h=>rfl)) rfl
       have HO5:=lid ho9
       have HR5:Hid (w95.heap[z]?=some (.cells #[.string L,.bool false,.bool true,.string ma.label,.slice ma.ua ma.uses.length ma.ucap,.slice ma.da ma.decls.length ma.dcap,.string mb.label,.slice mb.ua mb.uses.length mb.ucap,.slice mb.da mb.decls.length mb.dcap] 50 (0,0))∧∀ l,((f5 v92 v93 v94 v95 u12) l).ownBlock≠some z):=lid ⟨(hr9 z (row_lt HRcr.out.1) HRcr.out.2).1.trans HRcr.out.1,(hr9 z (row_lt HRcr.out.1) HRcr.out.2).2⟩
       have HB5w:=lid (HBcr.out.trans hb9)
       clear own9 hb9 hg9 hat9 ho9 hr9
       try simp only [Act.put,q1,q2,q3]
       have HO9:Hid (Own5 w2 w4.heap.size w95 (f5 v92 v93 v94 v95 u12) (f5 (n1+1) (n2+mp) (n3+mq) (n4+mr) n5) (f5 (K1++k1 ⟨L,false,true,ma,mb⟩) (K2++k2 ⟨L,false,true,ma,mb⟩) (K3++KD) (K4++k4 ⟨L,false,true,ma,mb⟩) (K5++k5 ⟨L,false,true,ma,mb⟩))):=lid (by have:=HO5.out;simpa [k1,k2,k4,k5] using this)
       have c0:w95.cell? ⟨z,0,none⟩=some (.string L):=row_cell HR5.out.1 0
       have c1:w95.cell? ⟨z,1,none⟩=some (.bool false):=row_cell HR5.out.1 1
       have c2:w95.cell? ⟨z,2,none⟩=some (.bool true):=row_cell HR5.out.1 2
       have c4:w95.cell? ⟨z,4,none⟩=some (.slice ma.ua ma.uses.length ma.ucap):=row_cell HR5.out.1 4
       have c5:w95.cell? ⟨z,5,none⟩=some (.slice ma.da ma.decls.length ma.dcap):=row_cell HR5.out.1 5
       have c7:w95.cell? ⟨z,7,none⟩=some (.slice mb.ua mb.uses.length mb.ucap):=row_cell HR5.out.1 7
       have c8:w95.cell? ⟨z,8,none⟩=some (.slice mb.da mb.decls.length mb.dcap):=row_cell HR5.out.1 8
       have lz:z<w95.heap.size:=row_lt HR5.out.1
       go_wp2_with fail
       go_roundw
       case measure=>simp only [intOf];omega
       case rel=>exact ⟨j+1,_,_,_,_,_,_,_,_,_,_,by omega,by simp,HO9,lid (HC.out.next HAT.out HKX.out (by omega) (by omega) (by omega) (by omega) (by omega)),HB5w⟩
      | false =>
       have c0:W1.cell? ⟨z,0,none⟩=some (.string L):=row_cell HR1.out.1 0
       have c1:W1.cell? ⟨z,1,none⟩=some (.bool false):=row_cell HR1.out.1 1
       have c2:W1.cell? ⟨z,2,none⟩=some (.bool false):=row_cell HR1.out.1 2
       have c4:W1.cell? ⟨z,4,none⟩=some (.slice ma.ua ma.uses.length ma.ucap):=row_cell HR1.out.1 4
       have c5:W1.cell? ⟨z,5,none⟩=some (.slice ma.da ma.decls.length ma.dcap):=row_cell HR1.out.1 5
       have c7:W1.cell? ⟨z,7,none⟩=some (.slice mb.ua mb.uses.length mb.ucap):=row_cell HR1.out.1 7
       have c8:W1.cell? ⟨z,8,none⟩=some (.slice mb.da mb.decls.length mb.dcap):=row_cell HR1.out.1 8
       have lz:z<W1.heap.size:=row_lt HR1.out.1
       obtain ⟨X0,hX0⟩:∃ X0,W1.alloc (Obj.cells #[Value.int .i64 1,Value.string L,Value.string ⟨#[]⟩,Value.slice none 0 0,Value.slice none 0 0] 52)=X0:=⟨_,rfl⟩
       have hbX0:Below W1.heap.size W1 X0:=by rw [← hX0];exact ba _ _
       have HHX0:=lid hX0
       have HEX0:Hid (X0.heap[z+1]?=some (.cells #[Value.int .i64 1,Value.string L,Value.string ⟨#[]⟩,Value.slice none 0 0,Value.slice none 0 0] 52 (0,0))):=lid (by rw [← hX0];exact h_new (by rw [← HW1.out,← hz];simp) _)
       have HOX0:=lid (HO1.out.below hbX0)
       have HBX0:=lid (HB1w.out.trans (hbX0.mono HB1w.out.size))
       have HRX0:Hid (X0.heap[z]?=_∧_):=lid ⟨(hbX0.block _ lz).trans HR1.out.1,HR1.out.2⟩
       have hzX0:w4.heap.size≤X0.heap.size:=HBX0.out.size
       clear hX0 hbX0
       go_wp2_with (at_builtin;rw [HW1.out,HHX0.out];go_must (refine wpList_append_sla rfl _ _ 26 rfl w4.heap.size 52 (.agg #[.int .i64 0,.string ⟨#[]⟩,.string ⟨#[]⟩,.slice none 0 0,.slice none 0 0]) 5 88 info_edit Tryz.underlying26 rfl (by decide) u8 n1 (kcs K1) (HOX0.out.own 0) rfl ⟨z+1,0,none⟩ 1 1 (kca (useK 1 L ⟨#[]⟩)).toList rfl (sl_row HEX0.out rfl) (by simp [Value.oneCell']) (by simp only [maxLen];omega) (by omega) hzX0 ?_))
       intro v92 w92 own9 hb9 hg9 hat9
       obtain ⟨ho9,hr9⟩:=HOX0.out.add (v':=(f5 v92 u9 u10 u11 u12)) (n':=(f5 (n1+1) n2 n3 n4 n5)) (K':=(f5 (K1++[useK 1 L ⟨#[]⟩]) K2 K3 K4 K5)) 0 (KN:=[useK 1 L ⟨#[]⟩]) (m:=1) (by exact rfl) (useK_at1 HPP.out.1.2.2.2.2) (by rw [show kcs [useK 1 L ⟨#[]⟩]=kce (useK 1 L ⟨#[]⟩) from List.append_nil _];exact own9) hg9 hat9 (fun l hl=>ne5 hl (fun h=>absurd rfl h) (fun h=>rfl) (fun h=>rfl) (fun h=>rfl) (fun h=>rfl)) rfl (fun l hl=>ne5 hl (fun h=>absurd rfl h) (fun h=>rfl) (fun h=>rfl) (fun h=>rfl) (fun h=>rfl)) rfl (fun l hl=>ne5 hl (fun h=>absurd rfl h) (fun h=>rfl) (fun h=>rfl) (fun h=>rfl) (fun h=>rfl)) rfl
       have HO2:=lid ho9
       have HR2:Hid (w92.heap[z]?=some (.cells #[.string L,.bool false,.bool false,.string ma.label,.slice ma.ua ma.uses.length ma.ucap,.slice ma.da ma.decls.length ma.dcap,.string mb.label,.slice mb.ua mb.uses.length mb.ucap,.slice mb.da mb.decls.length mb.dcap] 50 (0,0))∧∀ l,((f5 v92 u9 u10 u11 u12) l).ownBlock≠some z):=lid ⟨(hr9 z (row_lt HRX0.out.1) HRX0.out.2).1.trans HRX0.out.1,(hr9 z (row_lt HRX0.out.1) HRX0.out.2).2⟩
       have HB2w:=lid (HBX0.out.trans hb9)
       clear own9 hb9 hg9 hat9 ho9 hr9
       try simp only [Act.put,q1,q2,q3]
       clear c0 c1 c2 c4 c5 c7 c8 lz
       have c0:w92.cell? ⟨z,0,none⟩=some (.string L):=row_cell HR2.out.1 0
       have c1:w92.cell? ⟨z,1,none⟩=some (.bool false):=row_cell HR2.out.1 1
       have c2:w92.cell? ⟨z,2,none⟩=some (.bool false):=row_cell HR2.out.1 2
       have c4:w92.cell? ⟨z,4,none⟩=some (.slice ma.ua ma.uses.length ma.ucap):=row_cell HR2.out.1 4
       have c5:w92.cell? ⟨z,5,none⟩=some (.slice ma.da ma.decls.length ma.dcap):=row_cell HR2.out.1 5
       have c7:w92.cell? ⟨z,7,none⟩=some (.slice mb.ua mb.uses.length mb.ucap):=row_cell HR2.out.1 7
       have c8:w92.cell? ⟨z,8,none⟩=some (.slice mb.da mb.decls.length mb.dcap):=row_cell HR2.out.1 8
       have lz:z<w92.heap.size:=row_lt HR2.out.1
       have hw2p:Below w2.heap.size w2 w92:=HB24.out.trans (HB2w.out.mono HB24.out.size)
       have HW2p:=lid hw2p
       clear hw2p
       have CUp:=lid (useEdits_any 3 L mb.ua ma.ua _ _ _ _ mb.uses ma.uses w92 (HPP.out.1.2.2.2.1.uses.below HW2p.out) (HPP.out.1.2.2.1.uses.below HW2p.out) (Nat.le_trans HPP.out.2.ub (by omega)) (Nat.le_trans HPP.out.2.ua (by omega)))
       have HLNp:Hid ((useKs 3 L mb.uses ma.uses).length≤20):=lid (Nat.le_trans (useKs_len _ _ _ _) HPP.out.2.ub)
       go_wp2_with fail
       (with_reducible refine (CUp.out).mono ?_);rintro e wcp ⟨vv,rfl,hown,hbc⟩
       obtain ⟨aop,capp,rfl,hx1,hx2,hslp⟩:=Sl.of_own hown
       have HNILp:=lid (own_nil hown)
       have HSLp:=lid hslp
       obtain ⟨mp,hmp⟩:∃ y,(useKs 3 L mb.uses ma.uses).length=y:=⟨_,rfl⟩
       have hmlp:mp≤600:=by have:=HLNp.out;omega
       have HMp:=lid hmp
       rw [hmp] at HSLp ⊢
       have HOcp:=lid (HO2.out.below hbc)
       have HBcp:=lid (HB2w.out.trans (hbc.mono HB2w.out.size))
       have HRcp:Hid (wcp.heap[z]?=_∧_):=lid ⟨(hbc.block _ lz).trans HR2.out.1,HR2.out.2⟩
       have hzcp:w4.heap.size≤wcp.heap.size:=HBcp.out.size
       clear hown hbc hx1 hx2 hslp hmp CUp
       clear c0 c1 c2 c4 c5 c7 c8 lz
       go_wp2_with (at_builtin;go_must (refine wpList_append_slo rfl _ _ 26 rfl w4.heap.size 52 (.agg #[.int .i64 0,.string ⟨#[]⟩,.string ⟨#[]⟩,.slice none 0 0,.slice none 0 0]) 5 88 info_edit Tryz.underlying26 rfl (by decide) u9 n2 (kcs K2) (HOcp.out.own 1) rfl aop mp capp (kcs (useKs 3 L mb.uses ma.uses)) rfl HSLp.out HNILp.out (kcs_one _) (by simp only [maxLen];omega) (by omega) hzcp ?_))
       intro v93 w93 own9 hb9 hg9 hat9
       obtain ⟨ho9,hr9⟩:=HOcp.out.add (v':=(f5 v92 v93 u10 u11 u12)) (n':=(f5 (n1+1) (n2+mp) n3 n4 n5)) (K':=(f5 (K1++[useK 1 L ⟨#[]⟩]) (K2++(useKs 3 L mb.uses ma.uses)) K3 K4 K5)) 1 (KN:=(useKs 3 L mb.uses ma.uses)) (m:=mp) (HMp.out) (useK_at HPP.out.1.2.2.2.2 HPP.out.1.2.2.2.1.uses.sz) own9 hg9 hat9 (fun l hl=>ne5 hl (fun h=>rfl) (fun h=>absurd rfl h) (fun h=>rfl) (fun h=>rfl) (fun h=>rfl)) rfl (fun l hl=>ne5 hl (fun h=>rfl) (fun h=>absurd rfl h) (fun h=>rfl) (fun h=>rfl) (fun h=>rfl)) rfl (fun l hl=>ne5 hl (fun h=>rfl) (fun h=>absurd rfl h) (fun h=>rfl) (fun h=>rfl) (fun h=>rfl)) rfl
       have HO3:=lid ho9
       have HR3:Hid (w93.heap[z]?=some (.cells #[.string L,.bool false,.bool false,.string ma.label,.slice ma.ua ma.uses.length ma.ucap,.slice ma.da ma.decls.length ma.dcap,.string mb.label,.slice mb.ua mb.uses.length mb.ucap,.slice mb.da mb.decls.length mb.dcap] 50 (0,0))∧∀ l,((f5 v92 v93 u10 u11 u12) l).ownBlock≠some z):=lid ⟨(hr9 z (row_lt HRcp.out.1) HRcp.out.2).1.trans HRcp.out.1,(hr9 z (row_lt HRcp.out.1) HRcp.out.2).2⟩
       have HB3w:=lid (HBcp.out.trans hb9)
       clear own9 hb9 hg9 hat9 ho9 hr9
       try simp only [Act.put,q1,q2,q3]
       have c0:w93.cell? ⟨z,0,none⟩=some (.string L):=row_cell HR3.out.1 0
       have c1:w93.cell? ⟨z,1,none⟩=some (.bool false):=row_cell HR3.out.1 1
       have c2:w93.cell? ⟨z,2,none⟩=some (.bool false):=row_cell HR3.out.1 2
       have c4:w93.cell? ⟨z,4,none⟩=some (.slice ma.ua ma.uses.length ma.ucap):=row_cell HR3.out.1 4
       have c5:w93.cell? ⟨z,5,none⟩=some (.slice ma.da ma.decls.length ma.dcap):=row_cell HR3.out.1 5
       have c7:w93.cell? ⟨z,7,none⟩=some (.slice mb.ua mb.uses.length mb.ucap):=row_cell HR3.out.1 7
       have c8:w93.cell? ⟨z,8,none⟩=some (.slice mb.da mb.decls.length mb.dcap):=row_cell HR3.out.1 8
       have lz:z<w93.heap.size:=row_lt HR3.out.1
       have hw2q:Below w2.heap.size w2 w93:=HB24.out.trans (HB3w.out.mono HB24.out.size)
       have HW2q:=lid hw2q
       clear hw2q
       have CUq:=lid (declEdits_any L HPP.out.1.2.2.2.2 ma.da mb.da _ _ _ _ ma.decls mb.decls w2 w93 HW2q.out HPP.out.1.2.2.1.decls HPP.out.1.2.2.2.1.decls (Nat.le_trans HPP.out.2.da (by omega)) (Nat.le_trans HPP.out.2.db (by omega)) HPP.out.2.cnt)
       go_wp2_with fail
       (with_reducible refine (CUq.out).mono ?_);rintro e wcq ⟨vv,KD,rfl,hkx,hown,hke,hkl,hbc⟩
       have HKX:Hid (KD.map Kw.x=k3 ⟨L,false,false,ma,mb⟩):=lid hkx
       have HKE:=lid hke
       have HLNq:Hid (KD.length≤600):=lid (by have:=HPP.out.2.da;have:=HPP.out.2.db;simp only at *;omega)
       clear hkx hke hkl
       obtain ⟨aoq,capq,rfl,hx1,hx2,hslq⟩:=Sl.of_own hown
       have HNILq:=lid (own_nil hown)
       have HSLq:=lid hslq
       obtain ⟨mq,hmq⟩:∃ y,(KD).length=y:=⟨_,rfl⟩
       have hmlq:mq≤600:=by have:=HLNq.out;omega
       have HMq:=lid hmq
       rw [hmq] at HSLq ⊢
       have HOcq:=lid (HO3.out.below hbc)
       have HBcq:=lid (HB3w.out.trans (hbc.mono HB3w.out.size))
       have HRcq:Hid (wcq.heap[z]?=_∧_):=lid ⟨(hbc.block _ lz).trans HR3.out.1,HR3.out.2⟩
       have hzcq:w4.heap.size≤wcq.heap.size:=HBcq.out.size
       clear hown hbc hx1 hx2 hslq hmq CUq
       clear c0 c1 c2 c4 c5 c7 c8 lz
       go_wp2_with (at_builtin;go_must (refine wpList_append_slo rfl _ _ 26 rfl w4.heap.size 52 (.agg #[.int .i64 0,.string ⟨#[]⟩,.string ⟨#[]⟩,.slice none 0 0,.slice none 0 0]) 5 88 info_edit Tryz.underlying26 rfl (by decide) u10 n3 (kcs K3) (HOcq.out.own 2) rfl aoq mq capq (kcs (KD)) rfl HSLq.out HNILq.out (kcs_one _) (by simp only [maxLen];omega) (by omega) hzcq ?_))
       intro v94 w94 own9 hb9 hg9 hat9
       obtain ⟨ho9,hr9⟩:=HOcq.out.add (v':=(f5 v92 v93 v94 u11 u12)) (n':=(f5 (n1+1) (n2+mp) (n3+mq) n4 n5)) (K':=(f5 (K1++[useK 1 L ⟨#[]⟩]) (K2++(useKs 3 L mb.uses ma.uses)) (K3++KD) K4 K5)) 2 (KN:=KD) (m:=mq) (HMq.out) (fun x hx=>(HKE.out x hx).keep (fun g _ hg=>⟨fun ⟨l,e⟩=>by have:=((HO3.out.own l).lt g e).2;exact hg (.inl this),rfl⟩)) own9 hg9 hat9 (fun l hl=>ne5 hl (fun h=>rfl) (fun h=>rfl) (fun h=>absurd rfl h) (fun h=>rfl) (fun h=>rfl)) rfl (fun l hl=>ne5 hl (fun h=>rfl) (fun h=>rfl) (fun h=>absurd rfl h) (fun h=>rfl) (fun h=>rfl)) rfl (fun l hl=>ne5 hl (fun h=>rfl) (fun h=>rfl) (fun h=>absurd rfl h) (fun h=>rfl) (fun h=>rfl)) rfl
       have HO4:=lid ho9
       have HR4:Hid (w94.heap[z]?=some (.cells #[.string L,.bool false,.bool false,.string ma.label,.slice ma.ua ma.uses.length ma.ucap,.slice ma.da ma.decls.length ma.dcap,.string mb.label,.slice mb.ua mb.uses.length mb.ucap,.slice mb.da mb.decls.length mb.dcap] 50 (0,0))∧∀ l,((f5 v92 v93 v94 u11 u12) l).ownBlock≠some z):=lid ⟨(hr9 z (row_lt HRcq.out.1) HRcq.out.2).1.trans HRcq.out.1,(hr9 z (row_lt HRcq.out.1) HRcq.out.2).2⟩
       have HB4w:=lid (HBcq.out.trans hb9)
       clear own9 hb9 hg9 hat9 ho9 hr9
       try simp only [Act.put,q1,q2,q3]
       have c0:w94.cell? ⟨z,0,none⟩=some (.string L):=row_cell HR4.out.1 0
       have c1:w94.cell? ⟨z,1,none⟩=some (.bool false):=row_cell HR4.out.1 1
       have c2:w94.cell? ⟨z,2,none⟩=some (.bool false):=row_cell HR4.out.1 2
       have c4:w94.cell? ⟨z,4,none⟩=some (.slice ma.ua ma.uses.length ma.ucap):=row_cell HR4.out.1 4
       have c5:w94.cell? ⟨z,5,none⟩=some (.slice ma.da ma.decls.length ma.dcap):=row_cell HR4.out.1 5
       have c7:w94.cell? ⟨z,7,none⟩=some (.slice mb.ua mb.uses.length mb.ucap):=row_cell HR4.out.1 7
       have c8:w94.cell? ⟨z,8,none⟩=some (.slice mb.da mb.decls.length mb.dcap):=row_cell HR4.out.1 8
       have lz:z<w94.heap.size:=row_lt HR4.out.1
       have hw2r:Below w2.heap.size w2 w94:=HB24.out.trans (HB4w.out.mono HB24.out.size)
       have HW2r:=lid hw2r
       clear hw2r
       have CUr:=lid (useEdits_any 4 L ma.ua mb.ua _ _ _ _ ma.uses mb.uses w94 (HPP.out.1.2.2.1.uses.below HW2r.out) (HPP.out.1.2.2.2.1.uses.below HW2r.out) (Nat.le_trans HPP.out.2.ua (by omega)) (Nat.le_trans HPP.out.2.ub (by omega)))
       have HLNr:Hid ((useKs 4 L ma.uses mb.uses).length≤20):=lid (Nat.le_trans (useKs_len _ _ _ _) HPP.out.2.ua)
       go_wp2_with fail
       (with_reducible refine (CUr.out).mono ?_);rintro e wcr ⟨vv,rfl,hown,hbc⟩
       obtain ⟨aor,capr,rfl,hx1,hx2,hslr⟩:=Sl.of_own hown
       have HNILr:=lid (own_nil hown)
       have HSLr:=lid hslr
       obtain ⟨mr,hmr⟩:∃ y,(useKs 4 L ma.uses mb.uses).length=y:=⟨_,rfl⟩
       have hmlr:mr≤600:=by have:=HLNr.out;omega
       have HMr:=lid hmr
       rw [hmr] at HSLr ⊢
       have HOcr:=lid (HO4.out.below hbc)
       have HBcr:=lid (HB4w.out.trans (hbc.mono HB4w.out.size))
       have HRcr:Hid (wcr.heap[z]?=_∧_):=lid ⟨(hbc.block _ lz).trans HR4.out.1,HR4.out.2⟩
       have hzcr:w4.heap.size≤wcr.heap.size:=HBcr.out.size
       clear hown hbc hx1 hx2 hslr hmr CUr
       clear c0 c1 c2 c4 c5 c7 c8 lz
       go_wp2_with (at_builtin;go_must (refine wpList_append_slo rfl _ _ 26 rfl w4.heap.size 52 (.agg #[.int .i64 0,.string ⟨#[]⟩,.string ⟨#[]⟩,.slice none 0 0,.slice none 0 0]) 5 88 info_edit Tryz.underlying26 rfl (by decide) u11 n4 (kcs K4) (HOcr.out.own 3) rfl aor mr capr (kcs (useKs 4 L ma.uses mb.uses)) rfl HSLr.out HNILr.out (kcs_one _) (by simp only [maxLen];omega) (by omega) hzcr ?_))
       intro v95 w95 own9 hb9 hg9 hat9
       obtain ⟨ho9,hr9⟩:=HOcr.out.add (v':=(f5 v92 v93 v94 v95 u12)) (n':=(f5 (n1+1) (n2+mp) (n3+mq) (n4+mr) n5)) (K':=(f5 (K1++[useK 1 L ⟨#[]⟩]) (K2++(useKs 3 L mb.uses ma.uses)) (K3++KD) (K4++(useKs 4 L ma.uses mb.uses)) K5)) 3 (KN:=(useKs 4 L ma.uses mb.uses)) (m:=mr) (HMr.out) (useK_at HPP.out.1.2.2.2.2 HPP.out.1.2.2.1.uses.sz) own9 hg9 hat9 (fun l hl=>ne5 hl (fun h=>rfl) (fun h=>rfl) (fun h=>rfl) (fun h=>absurd rfl h) (fun h=>rfl)) rfl (fun l hl=>ne5 hl (fun h=>rfl) (fun h=>rfl) (fun h=>rfl) (fun h=>absurd rfl h) (fun h=>rfl)) rfl (fun l hl=>ne5 hl (fun h=>rfl) (fun h=>rfl) (fun h=>rfl) (fun h=>absurd rfl h) (fun h=>rfl)) rfl
       have HO5:=lid ho9
       have HR5:Hid (w95.heap[z]?=some (.cells #[.string L,.bool false,.bool false,.string ma.label,.slice ma.ua ma.uses.length ma.ucap,.slice ma.da ma.decls.length ma.dcap,.string mb.label,.slice mb.ua mb.uses.length mb.ucap,.slice mb.da mb.decls.length mb.dcap] 50 (0,0))∧∀ l,((f5 v92 v93 v94 v95 u12) l).ownBlock≠some z):=lid ⟨(hr9 z (row_lt HRcr.out.1) HRcr.out.2).1.trans HRcr.out.1,(hr9 z (row_lt HRcr.out.1) HRcr.out.2).2⟩
       have HB5w:=lid (HBcr.out.trans hb9)
       clear own9 hb9 hg9 hat9 ho9 hr9
       try simp only [Act.put,q1,q2,q3]
       have c0:w95.cell? ⟨z,0,none⟩=some (.string L):=row_cell HR5.out.1 0
       have c1:w95.cell? ⟨z,1,none⟩=some (.bool false):=row_cell HR5.out.1 1
       have c2:w95.cell? ⟨z,2,none⟩=some (.bool false):=row_cell HR5.out.1 2
       have c4:w95.cell? ⟨z,4,none⟩=some (.slice ma.ua ma.uses.length ma.ucap):=row_cell HR5.out.1 4
       have c5:w95.cell? ⟨z,5,none⟩=some (.slice ma.da ma.decls.length ma.dcap):=row_cell HR5.out.1 5
       have c7:w95.cell? ⟨z,7,none⟩=some (.slice mb.ua mb.uses.length mb.ucap):=row_cell HR5.out.1 7
       have c8:w95.cell? ⟨z,8,none⟩=some (.slice mb.da mb.decls.length mb.dcap):=row_cell HR5.out.1 8
       have lz:z<w95.heap.size:=row_lt HR5.out.1
       obtain ⟨X4,hX4⟩:∃ X4,w95.alloc (Obj.cells #[Value.int .i64 2,Value.string L,Value.string ⟨#[]⟩,Value.slice none 0 0,Value.slice none 0 0] 52)=X4:=⟨_,rfl⟩
       have hbX4:Below w95.heap.size w95 X4:=by rw [← hX4];exact ba _ _
       have HHX4:=lid hX4
       have HEX4:Hid (X4.heap[w95.heap.size]?=some (.cells #[Value.int .i64 2,Value.string L,Value.string ⟨#[]⟩,Value.slice none 0 0,Value.slice none 0 0] 52 (0,0))):=lid (by rw [← hX4];exact h_new rfl _)
       have HOX4:=lid (HO5.out.below hbX4)
       have HBX4:=lid (HB5w.out.trans (hbX4.mono HB5w.out.size))
       have HRX4:Hid (X4.heap[z]?=_∧_):=lid ⟨(hbX4.block _ lz).trans HR5.out.1,HR5.out.2⟩
       have hzX4:w4.heap.size≤X4.heap.size:=HBX4.out.size
       clear hX4 hbX4
       go_wp2_with (at_builtin;rw [HHX4.out];go_must (refine wpList_append_sla rfl _ _ 26 rfl w4.heap.size 52 (.agg #[.int .i64 0,.string ⟨#[]⟩,.string ⟨#[]⟩,.slice none 0 0,.slice none 0 0]) 5 88 info_edit Tryz.underlying26 rfl (by decide) u12 n5 (kcs K5) (HOX4.out.own 4) rfl ⟨w95.heap.size,0,none⟩ 1 1 (kca (useK 2 L ⟨#[]⟩)).toList rfl (sl_row HEX4.out rfl) (by simp [Value.oneCell']) (by simp only [maxLen];omega) (by omega) hzX4 ?_))
       intro v96 w96 own9 hb9 hg9 hat9
       obtain ⟨ho9,hr9⟩:=HOX4.out.add (v':=(f5 v92 v93 v94 v95 v96)) (n':=(f5 (n1+1) (n2+mp) (n3+mq) (n4+mr) (n5+1))) (K':=(f5 (K1++[useK 1 L ⟨#[]⟩]) (K2++(useKs 3 L mb.uses ma.uses)) (K3++KD) (K4++(useKs 4 L ma.uses mb.uses)) (K5++[useK 2 L ⟨#[]⟩]))) 4 (KN:=[useK 2 L ⟨#[]⟩]) (m:=1) (by exact rfl) (useK_at1 HPP.out.1.2.2.2.2) (by rw [show kcs [useK 2 L ⟨#[]⟩]=kce (useK 2 L ⟨#[]⟩) from List.append_nil _];exact own9) hg9 hat9 (fun l hl=>ne5 hl (fun h=>rfl) (fun h=>rfl) (fun h=>rfl) (fun h=>rfl) (fun h=>absurd rfl h)) rfl (fun l hl=>ne5 hl (fun h=>rfl) (fun h=>rfl) (fun h=>rfl) (fun h=>rfl) (fun h=>absurd rfl h)) rfl (fun l hl=>ne5 hl (fun h=>rfl) (fun h=>rfl) (fun h=>rfl) (fun h=>rfl) (fun h=>absurd rfl h)) rfl
       have HO6:=lid ho9
       have HR6:Hid (w96.heap[z]?=some (.cells #[.string L,.bool false,.bool false,.string ma.label,.slice ma.ua ma.uses.length ma.ucap,.slice ma.da ma.decls.length ma.dcap,.string mb.label,.slice mb.ua mb.uses.length mb.ucap,.slice mb.da mb.decls.length mb.dcap] 50 (0,0))∧∀ l,((f5 v92 v93 v94 v95 v96) l).ownBlock≠some z):=lid ⟨(hr9 z (row_lt HRX4.out.1) HRX4.out.2).1.trans HRX4.out.1,(hr9 z (row_lt HRX4.out.1) HRX4.out.2).2⟩
       have HB6w:=lid (HBX4.out.trans hb9)
       clear own9 hb9 hg9 hat9 ho9 hr9
       try simp only [Act.put,q1,q2,q3]
       clear c0 c1 c2 c4 c5 c7 c8 lz
       have HO9:Hid (Own5 w2 w4.heap.size w96 (f5 v92 v93 v94 v95 v96) (f5 (n1+1) (n2+mp) (n3+mq) (n4+mr) (n5+1)) (f5 (K1++k1 ⟨L,false,false,ma,mb⟩) (K2++k2 ⟨L,false,false,ma,mb⟩) (K3++KD) (K4++k4 ⟨L,false,false,ma,mb⟩) (K5++k5 ⟨L,false,false,ma,mb⟩))):=lid (by have:=HO6.out;simpa [k1,k2,k4,k5] using this)
       go_wp2_with fail
       go_roundw
       case measure=>simp only [intOf];omega
       case rel=>exact ⟨j+1,_,_,_,_,_,_,_,_,_,_,by omega,by simp,HO9,lid (HC.out.next HAT.out HKX.out (by omega) (by omega) (by omega) (by omega) (by omega)),HB6w⟩
    ·obtain rfl:j=N:=by omega
     have hj12:j≤20:=hN20
     obtain ⟨a1,c1,e1,hx1,hy1,hs1⟩:=Sl.of_own (HO.out.own 0)
     obtain ⟨a2,c2,e2,hx2,hy2,hs2⟩:=Sl.of_own (HO.out.own 1)
     obtain ⟨a3,c3,e3,hx3,hy3,hs3⟩:=Sl.of_own (HO.out.own 2)
     obtain ⟨a4',c4,e4,hx4,hy4,hs4⟩:=Sl.of_own (HO.out.own 3)
     obtain ⟨a5,c5,e5,hx5,hy5,hs5⟩:=Sl.of_own (HO.out.own 4)
     obtain rfl:u8=.slice a1 n1 c1:=e1
     obtain rfl:u9=.slice a2 n2 c2:=e2
     obtain rfl:u10=.slice a3 n3 c3:=e3
     obtain rfl:u11=.slice a4' n4 c4:=e4
     obtain rfl:u12=.slice a5 n5 c5:=e5
     have z1:=own_nil (HO.out.own 0)
     have z2:=own_nil (HO.out.own 1)
     have z3:=own_nil (HO.out.own 2)
     have z4:=own_nil (HO.out.own 3)
     have z5:=own_nil (HO.out.own 4)
     obtain ⟨W5,hW5⟩:∃ W,wr.alloc (.cells #[.slice a1 n1 c1,.slice a2 n2 c2,.slice a3 n3 c3,.slice a4' n4 c4,.slice a5 n5 c5] 26)=W:=⟨_,rfl⟩
     have hbW5:Below wr.heap.size wr W5:=by rw [← hW5];exact ba _ _
     have hR5:W5.heap[wr.heap.size]?=some (.cells #[.slice a1 n1 c1,.slice a2 n2 c2,.slice a3 n3 c3,.slice a4' n4 c4,.slice a5 n5 c5] 26 (0,0)):=by rw [← hW5];exact h_new rfl _
     have CC:=lid (ConcatK_any [⟨a1,c1,n1,kcs K1⟩,⟨a2,c2,n2,kcs K2⟩,⟨a3,c3,n3,kcs K3⟩,⟨a4',c4,n4,kcs K4⟩,⟨a5,c5,n5,kcs K5⟩] wr.heap.size 5 W5 rfl (row_lt hR5) (fun j hj=>by
       rw [row_cell hR5]
       match j,hj with
       | 0,_=>rfl
       | 1,_=>rfl
       | 2,_=>rfl
       | 3,_=>rfl
       | 4,_=>rfl) (fun x hx=>by
       simp only [List.mem_cons,List.not_mem_nil,or_false] at hx
       rcases hx with rfl | rfl | rfl | rfl | rfl
       ·exact ⟨hs1.below hbW5,z1,kcs_one _⟩
       ·exact ⟨hs2.below hbW5,z2,kcs_one _⟩
       ·exact ⟨hs3.below hbW5,z3,kcs_one _⟩
       ·exact ⟨hs4.below hbW5,z4,kcs_one _⟩
       ·exact ⟨hs5.below hbW5,z5,kcs_one _⟩) (by simp) (by simp [joinN];omega))
     have HW5:=lid hW5
     have HBW5:=lid hbW5
     have HB2r:Hid (Below w2.heap.size w2 wr):=lid (HB24.out.trans (HBR.out.mono HB24.out.size))
     clear hW5 hbW5 hR5 z1 z2 z3 z4 z5 hs1 hs2 hs3 hs4 hs5 hy1 hy2 hy3 hy4 hy5 hx1 hx2 hx3 hx4 hx5 hjn
     go_wp2_with fail
     rw [HW5.out]
     (with_reducible refine (CC.out).mono ?_);rintro e w6 ⟨v6,rfl,hown,hb6⟩
     have HO6:=lid hown
     have HB6:=lid hb6
     clear hown hb6 CC
     go_wp2_with fail
     go_ret2
     have hw5:Below w.heap.size w W5:=(HB4.out.trans (HBR.out.mono HB4.out.size)).trans (HBW5.out.mono (Nat.le_trans HB4.out.size HBR.out.size))
     have hL:(K1++(K2++(K3++(K4++K5)))).length=joinN [⟨a1,c1,n1,kcs K1⟩,⟨a2,c2,n2,kcs K2⟩,⟨a3,c3,n3,kcs K3⟩,⟨a4',c4,n4,kcs K4⟩,⟨a5,c5,n5,kcs K5⟩]:=by
      have l1:K1.length=n1:=HO.out.len 0
      have l2:K2.length=n2:=HO.out.len 1
      have l3:K3.length=n3:=HO.out.len 2
      have l4:K4.length=n4:=HO.out.len 3
      have l5:K5.length=n5:=HO.out.len 4
      simp [joinN,l1,l2,l3,l4,l5]
     have hT:P.take j=P:=List.take_of_length_le (Nat.le_of_eq HN.out)
     have hC:=HC.out
     refine ⟨v6,0,rfl,hw5.trans (HB6.out.mono hw5.size),.inr ⟨rfl,HVA.out,HVB.out,K1++(K2++(K3++(K4++K5))),?_,fun x hx=>?_,?_,?_⟩⟩
     ·rw [hL,show kcs (K1++(K2++(K3++(K4++K5))))=joinU [⟨a1,c1,n1,kcs K1⟩,⟨a2,c2,n2,kcs K2⟩,⟨a3,c3,n3,kcs K3⟩,⟨a4',c4,n4,kcs K4⟩,⟨a5,c5,n5,kcs K5⟩] by simp [kcs_append,joinU]]
      exact own_low HO6.out hw5.size
     ·have hk:KwA wr x:=by
       rcases List.mem_append.1 hx with hx | hx
       ·exact (HO.out.el 0 x hx).kwa HB2r.out
       rcases List.mem_append.1 hx with hx | hx
       ·exact (HO.out.el 1 x hx).kwa HB2r.out
       rcases List.mem_append.1 hx with hx | hx
       ·exact (HO.out.el 2 x hx).kwa HB2r.out
       rcases List.mem_append.1 hx with hx | hx
       ·exact (HO.out.el 3 x hx).kwa HB2r.out
       ·exact (HO.out.el 4 x hx).kwa HB2r.out
      exact (hk.below HBW5.out).below HB6.out
     ·rw [← diff_k (fun p hp=>(HPO.out p hp).1) HPX.out,List.map_append,List.map_append,List.map_append,List.map_append,hC.c1,hC.c2,hC.c3,hC.c4,hC.c5,hT]
     ·have l1:K1.length=n1:=HO.out.len 0
      have l2:K2.length=n2:=HO.out.len 1
      have l3:K3.length=n3:=HO.out.len 2
      have l4:K4.length=n4:=HO.out.len 3
      have l5:K5.length=n5:=HO.out.len 4
      simp only [List.length_append]
      omega
end Go.Proofs.YtgcceepadlmelaaGreatDoor
