import Derived.Test.YtgcceepadlmelaaGreatDoorQAS
import Derived.Test.YtgcceepadlmelaaGreatDoorRegionL
namespace Go.Proofs.YtgcceepadlmelaaGreatDoor
set_option maxRecDepth 100000
set_option maxHeartbeats 16000000
open Go.RowKit
def CloN (w wr:World) (g n:Nat) (A:List Mw) (k:Nat):Prop:=∃ M:List Mw,M.length=k∧M.map Mw.x=(A.take k).map Mw.x∧MO w wr (.slice (some ⟨g,0,none⟩) n n) (M++List.replicate (n-k) zMw)
def AppN (w wr:World) (v:Value) (mb s6 s7 s8 s9:Nat) (E:List Ed) (t:St) (c k:Nat):Prop:=∃ L T,MO w wr v L∧EffO wr v L mb s6 s7 s8 s9∧L.map Mw.x=T∧OkL T∧VdX T∧LenX T (c+k)∧apL (E.drop k) (absM T) t
theorem ordM_ok {A:List Mw} (h1:OrdM A) (h2:∀ m∈A,modW m):OkL (A.map Mw.x):=by
 refine ⟨(asc_mapK mx_lab).2 h1,fun m hm=>?_⟩
 obtain ⟨y,hy,rfl⟩:=List.mem_map.1 hm
 have h3:=h2 y hy
 refine ⟨h3.src.2.2,(asc_mapK dx_id).2 ?_⟩
 exact h3.asc.imp (fun h=>by unfold ltI;simpa using h)
theorem modW_vd {A:List Mw} (h2:∀ m∈A,modW m):VdX (A.map Mw.x)∧∀ m∈A.map Mw.x,MxV m:=by
 constructor
 ·intro m hm d hd
  obtain ⟨y,hy,rfl⟩:=List.mem_map.1 hm
  obtain ⟨z,hz,rfl⟩:=List.mem_map.1 (show d∈y.decls.map Dw.x from hd)
  exact ⟨z,rfl,(h2 y hy).dec z hz⟩
 ·intro m hm
  obtain ⟨y,hy,rfl⟩:=List.mem_map.1 hm
  exact ⟨y,rfl,h2 y hy⟩
theorem modW_len {A:List Mw} {n:Nat} (hl:A.length≤n) (hn:100≤n) (h2:∀ m∈A,modW m):LenX (A.map Mw.x) n:=by
 refine ⟨by rw [List.length_map];exact hl,fun m hm=>?_⟩
 obtain ⟨y,hy,rfl⟩:=List.mem_map.1 hm
 have h3:=h2 y hy
 refine ⟨Nat.le_trans h3.src.1 (by omega),?_⟩
 show (y.decls.map Dw.x).length≤n
 rw [List.length_map]
 exact Nat.le_trans h3.few (by omega)
theorem Apply_any (ao bo:Option Addr) (n ca m cb:Nat) (A:List Mw) (K:List Kw) (E:List Ed) (w:World) (hA:MLA w ao n ca A) (hK:KLA w bo m cb K) (hn:n≤100) (hm:m≤60000) (hKE:K.map Kw.x=E.map Ed.k) (hE:∀ e∈E,e.vld) (hO:OrdM A) (hV:∀ m∈A,modW m) (T:List Mx) (hT:OkL T) (hTv:∀ m∈T,MxV m) (hap:apL E (absM (A.map Mw.x)) (absM T)) :
  Calls Tryz.prog 10 #[.slice ao n ca,.slice bo m cb] w fun r w'=>∃ v L,r=.returned (.tuple #[v,.int .i64 0])∧MO w w' v L∧L.map Mw.x=T:=by
 have CC:=lid (checkList_any ao n ca A w hA)
 have HA:=lid hA
 have HK:=lid hK
 have HOV:=lid (And.intro hO hV)
 have hnc:n≤ca:=hA.le
 have hc63:ca≤9223372036854775807:=hA.max
 have hmc:m≤cb:=hK.le
 have hcb63:cb≤9223372036854775807:=hK.max
 have HKE:=lid hKE
 have HE:=lid hE
 have HT:=lid (And.intro hT hTv)
 have HAP:=lid hap
 clear hA hK hO hV hKE hE hT hTv hap
 go_enter Tryz.func10,Tryz.ntmps10
 obtain ⟨ii,hi,hz0,hz1,hz2⟩:=info_parts info_mod
 have HII:=lid (And.intro hi (And.intro hz0 (And.intro hz1 hz2)))
 clear hi hz0 hz1 hz2
 go_wp2_with fail
 (with_reducible refine (CC.out).mono ?_);rintro e w1 ⟨q,rfl,hq,hb1⟩
 obtain rfl:=hq.2 HOV.out
 have HB1:=lid hb1
 clear hq hb1 CC
 go_wp2_with (at_make;go_must (refine wpList_make_full w1 rfl _ _ 22 rfl w.heap.size 45 ii (.agg #[.string ⟨#[]⟩,.slice none 0 0,.slice none 0 0]) 3 Tryz.underlying22 HII.out.1 HII.out.2.1 HII.out.2.2.1 _ _ n n n rfl rfl rfl rfl (by rw [HII.out.2.2.2];omega) (by simp only [maxLen];omega) HB1.out.size ?_))
 intro w2 own2 hg2
 obtain ⟨g,hg⟩:∃ g,w1.heap.size=g:=⟨_,rfl⟩
 have hb2:Below w.heap.size w w2:=HB1.out.grown hg2 HB1.out.size (fun k hk=>by cases hk)
 have HCL:Hid (CloN w w2 g n A 0):=lid ⟨[],rfl,by simp,by
  rw [made_mcs,hg] at own2
  refine ⟨by rw [List.nil_append,List.length_replicate];exact own2,fun x hx=>?_,?_,hb2⟩
  ·rw [List.nil_append] at hx
   rw [List.eq_of_mem_replicate hx]
   exact bare_E (Nat.zero_le _)
  ·rw [List.nil_append,show (List.replicate (n-0) zMw).flatMap blkM=[] by rw [List.flatMap_eq_nil_iff];intro x hx;rw [List.eq_of_mem_replicate hx];rfl,List.append_nil]
   exact obs_nodup _⟩
 rw [hg]
 clear own2 hg2 hb2 hg HII ii
 go_wp2_with fail
 go_loopw [25] (fun u25 wr=>∃ k:Nat,k≤n∧u25=.int .i64 k∧Hid (CloN w wr g n A k)) (fun u25 _=>n-(intOf u25).toNat)
 case atStart=>exact ⟨0,Nat.zero_le _,rfl,HCL⟩
 case round =>
  clear HCL
  obtain ⟨k,hk,rfl,HI⟩:=hrel
  by_cases hkn:k<n
  ·obtain ⟨M,hM1,hM2,hM3⟩:=HI.out
   have hkA:k<A.length:=by rw [HA.out.len];exact hkn
   obtain ⟨x,hx⟩:∃ x,A[k]=x:=⟨_,rfl⟩
   have hxA:MwA w x:=by rw [← hx];exact HA.out.el _ (List.getElem_mem hkA)
   obtain ⟨b,o,rfl,hbz,hc⟩:=HA.out.sl.at_ (k:=k) hkn
   have hcm:∀ W,Below w.heap.size w W→∀ i u,(mce x)[i]?=some u→i<3→W.cell? ⟨b,o+(k*3+i),none⟩=some u:=fun W hW i u hu hi=>by rw [bc hW hbz _];exact hc _ u (by rw [mcs_cell hkA hi,hx];exact hu)
   have y0:wr.cell? ⟨b,o+k*3,none⟩=some (.string x.label):=by have:=hcm wr hM3.bel 0 _ rfl (by omega);exact this
   have y1:wr.cell? ⟨b,o+k*3+1,none⟩=some (.slice x.ua x.uses.length x.ucap):=by have:=hcm wr hM3.bel 1 _ rfl (by omega);rwa [← Nat.add_assoc] at this
   have y2:wr.cell? ⟨b,o+k*3+2,none⟩=some (.slice x.da x.decls.length x.dcap):=by have:=hcm wr hM3.bel 2 _ rfl (by omega);rwa [← Nat.add_assoc] at this
   have hlb:b<wr.heap.size:=Nat.lt_of_lt_of_le hbz hM3.bel.size
   obtain ⟨W0,hW0⟩:∃ y,wr.alloc (.cells #[.string x.label,.slice x.ua x.uses.length x.ucap,.slice x.da x.decls.length x.dcap] 45)=y:=⟨_,rfl⟩
   have hb0:Below wr.heap.size wr W0:=by rw [← hW0];exact ba _ _
   have hR:W0.heap[wr.heap.size]?=some (.cells #[.string x.label,.slice x.ua x.uses.length x.ucap,.slice x.da x.decls.length x.dcap] 45 (0,0)):=by rw [← hW0];exact h_new rfl _
   have z0:W0.cell? ⟨wr.heap.size,0,none⟩=some (.string x.label):=row_cell hR 0
   have z1:W0.cell? ⟨wr.heap.size,1,none⟩=some (.slice x.ua x.uses.length x.ucap):=row_cell hR 1
   have z2:W0.cell? ⟨wr.heap.size,2,none⟩=some (.slice x.da x.decls.length x.dcap):=row_cell hR 2
   have lz:=row_lt hR
   have hLl:(M++List.replicate (n-k) zMw).length=n:=by rw [List.length_append,List.length_replicate,hM1];omega
   have hxW:∀ V,Below W0.heap.size W0 V→MwA V x:=fun V hb=>hxA.below (hM3.bel.trans ((hb0.trans (hb.mono hb0.size)).mono hM3.bel.size))
   have huz:x.uses.length≤1000000∧x.decls.length≤1000000:=by
    have h3:=HOV.out.2 x (by rw [← hx];exact List.getElem_mem hkA)
    have:=h3.src.1
    have:=h3.few
    omega
   have CS:=lid (fun V (hb:Below W0.heap.size W0 V)=>CloneS_any x.uses.length x.ucap x.ua (svals x.uses) V (hxW V hb).uses.sl (svals_one _) (hxW V hb).uses.nil huz.1)
   have CD:=lid (fun V (hb:Below W0.heap.size W0 V)=>CloneD_any x.decls.length x.dcap x.da (dcs x.decls) V (hxW V hb).decls.sl (dcs_one _) (hxW V hb).decls.nil huz.2)
   have hkL:k<(M++List.replicate (n-k) zMw).length:=by omega
   rw [show (Value.slice (some ⟨g,0,none⟩) n n)=.slice (some ⟨g,0,none⟩) (M++List.replicate (n-k) zMw).length n by rw [hLl]] at hM3
   have HST:Hid (∀ V a1 a2 c1 c2 B1 B2,Below W0.heap.size W0 V→V.ownsRow B1 9 1 (.slice a1 x.uses.length c1) x.uses.length (svals x.uses)→V.ownsRow B2 65 11 (.slice a2 x.decls.length c2) x.decls.length (dcs x.decls)→wr.heap.size≤B1→wr.heap.size≤B2→(∀ k,(Value.slice a1 x.uses.length c1).ownBlock=some k→k<B2) →
     V.there g (k*3) 3∧CloN w (V.setCells g (k*3) [.string x.label,.slice a1 x.uses.length c1,.slice a2 x.decls.length c2]) g n A (k+1)):=lid (fun V a1 a2 c1 c2 B1 B2 hb h1 h2 h3 h4 h5=>by
    obtain ⟨p1,p2⟩:=hM3.clone hkL hxA (hb0.trans (hb.mono hb0.size)) h1 h2 h3 h4 h5
    refine ⟨p1,M++[⟨x.label,a1,x.uses,c1,a2,x.decls,c2⟩],by simp [hM1],?_,?_⟩
    ·rw [take_next (show A[k]?=some x by rw [← hx];exact List.getElem?_eq_getElem hkA),List.map_append,List.map_append,hM2]
     rfl
    ·have e1:(M++List.replicate (n-k) zMw).set k ⟨x.label,a1,x.uses,c1,a2,x.decls,c2⟩=M++[⟨x.label,a1,x.uses,c1,a2,x.decls,c2⟩]++List.replicate (n-(k+1)) zMw:=by
      rw [show n-k=(n-(k+1))+1 by omega,List.replicate_succ,List.set_append_right _ _ (by omega),hM1,Nat.sub_self]
      simp
     rw [e1,hLl] at p2
     exact p2)
   have HW0:=lid hW0
   have HB0:=lid hb0
   clear hM1 hM2 hM3 hkA hx hxA hc hcm hW0 hb0 hR hLl hxW huz hkL M
   go_wp2_with fail
   rw [HW0.out]
   refine wp_region_seqL 12 (fun w'=>∃ s:Since W0.heap.size W0,w'=s.world) [(0,true),(1,true),(2,true),(3,true),(4,true),(5,true),(7,true),(8,true),(6,false),(9,false),(10,true),(11,true),(12,false)] (by kernel_rfl) (by kernel_rfl) (by intro c d v a w h;first | (cases d <;> exact h) | cases h.1) (since (Below.refl _ _).drew) ?_
   repeat (first | (refine seqL_skip (by rfl) (by rfl) (by rfl) ?_;simp only [Act.put,q1,q2,q3]) | (refine seqL_float (by rfl) (by rfl) (by rfl) (by rfl) ?_;intro K hK;go_big_quiet_op;go_big_quiet_on))
   refine seqL_chain (by rfl) ?_
   intro K hK
   go_wp2_with fail
   (with_reducible refine (CS.out _ (Below.refl _ _).drew).mono ?_);rintro e V1 ⟨v1,rfl,ho1,hb1⟩
   obtain ⟨a1,c1,rfl⟩:=own_slice ho1
   have HO1:=lid ho1
   have HV1:=lid ((Below.refl W0.heap.size W0).drew.trans hb1)
   clear ho1 hb1 CS
   go_wp2_with fail
   refine hK.out _ _ (since HV1.out) ?_
   clear hK K
   repeat (first | (refine seqL_skip (by rfl) (by rfl) (by rfl) ?_;simp only [Act.put,q1,q2,q3]) | (refine seqL_float (by rfl) (by rfl) (by rfl) (by rfl) ?_;intro K hK;go_big_quiet_op;go_big_quiet_on))
   refine seqL_chain (by rfl) ?_
   intro K hK
   go_wp2_with fail
   (with_reducible refine (CD.out _ HV1.out).mono ?_);rintro e V2 ⟨v2,rfl,ho2,hb2⟩
   obtain ⟨a2,c2,rfl⟩:=own_slice ho2
   have HO2:=lid ho2
   have HV12:=lid hb2
   have HV2:=lid (HV1.out.trans (hb2.mono HV1.out.size))
   clear ho2 hb2 CD
   go_wp2_with fail
   refine hK.out _ _ (since HV2.out) ?_
   clear hK K
   repeat (first | (refine seqL_skip (by rfl) (by rfl) (by rfl) ?_;simp only [Act.put,q1,q2,q3]) | (refine seqL_float (by rfl) (by rfl) (by rfl) (by rfl) ?_;intro K hK;go_big_quiet_op;go_big_quiet_on))
   have hst:=HST.out V2 a1 a2 c1 c2 W0.drew.heap.size V1.heap.size HV2.out (own_keep HO1.out (fun k hk=>HV12.out.block _ (own_blk HO1.out hk).2)) HO2.out (show wr.heap.size≤W0.heap.size from HB0.out.size) (Nat.le_trans HB0.out.size HV1.out.size) (fun k hk=>(own_blk HO1.out hk).2)
   have HTH:=lid hst.1
   have HNX:=lid hst.2
   clear hst HST HO1 HO2
   refine seqL_last (by rfl) (by rfl) ?_
   intro K' hK'
   go_wp2_with (refine wpList_store_to rfl 45 (.tmp 41) (.tmp 40) rfl g (k*3) #[.string x.label,.slice a1 x.uses.length c1,.slice a2 x.decls.length c2] rfl rfl HTH.out (by kernel_rfl) (by simp [Value.oneCell']) ?_)
   intro w9 hw9
   have HNX9:Hid (CloN w w9 g n A (k+1)):=lid (by rw [← hw9.out];exact HNX.out)
   clear hw9 HNX HTH
   try simp only [Act.put,q1,q2,q3]
   go_wp2_with fail
   refine hK'.out _ _ ?_
   clear hK' K'
   go_wp2_with fail
   go_roundw
   case measure=>simp only [intOf];omega
   case rel=>exact ⟨k+1,by omega,by simp,HNX9⟩
  ·obtain rfl:k=n:=by omega
   obtain ⟨wq,rfl⟩:∃ y,y=wr:=⟨_,rfl⟩
   obtain ⟨M,hM1,hM2,hM3⟩:=HI.out
   rw [Nat.sub_self,List.replicate_zero,List.append_nil] at hM3
   have hMA:M.map Mw.x=A.map Mw.x:=by rw [hM2,List.take_of_length_le (Nat.le_of_eq HA.out.len)]
   have HM3:=lid hM3
   have HMA:=lid hMA
   have CF:=lid (effects_any wq)
   clear hM1 hM2 hM3 hMA HI hkn
   go_wp2_with fail
   (with_reducible refine (CF.out).mono ?_);rintro e w3 ⟨mb,s6,s7,s8,s9,rfl,heff,hb3⟩
   have hN0:AppN w w3 (.slice (some ⟨g,0,none⟩) k k) mb s6 s7 s8 s9 E (absM T) 100 0:=by
    have h5:=HM3.out
    have h6:=h5.below hb3
    have hap:∀ b,wq.heap.size≤b→b∉obs (.slice (some ⟨g,0,none⟩) k k)∧b∉M.flatMap blkM:=fun b hb=>⟨fun h=>by have:=(h5.lt (.inl h)).2;omega,fun h=>by have:=(h5.lt (.inr h)).2;omega⟩
    have hlo:=heff.lo
    refine ⟨M,A.map Mw.x,h6,⟨⟨heff.map,heff.c6,heff.c7,heff.c8,heff.c9,by omega⟩,fun b hb=>hap b (by rcases hb with rfl | rfl | rfl | rfl | rfl <;> omega)⟩,HMA.out,ordM_ok HOV.out.1 HOV.out.2,(modW_vd HOV.out.2).1,modW_len (by rw [HA.out.len];omega) (Nat.le_refl _) HOV.out.2,by rw [List.drop_zero];exact HAP.out⟩
   have HN0:=lid hN0
   clear heff hb3 hN0 CF HM3 HMA
   go_wp2_with fail
   go_loopw [7,46] (fun u7 u46 wr=>∃ j:Nat,j≤m∧u46=.int .i64 j∧Hid (AppN w wr u7 mb s6 s7 s8 s9 E (absM T) 100 j)) (fun _ u46 _=>m-(intOf u46).toNat)
   case atStart=>exact ⟨0,Nat.zero_le _,rfl,HN0⟩
   case round =>
    clear HN0
    obtain ⟨j,hj,rfl,HI⟩:=hrel
    by_cases hjm:j<m
    ·have hjK:j<K.length:=by rw [HK.out.len];exact hjm
     have hjE:j<E.length:=by have:=congrArg List.length HKE.out;rw [List.length_map,List.length_map] at this;omega
     obtain ⟨x,hx⟩:∃ x,K[j]=x:=⟨_,rfl⟩
     have hxA:KwA w x:=by rw [← hx];exact HK.out.el _ (List.getElem_mem hjK)
     have hxk:x.x=E[j].k:=by
      have h1:=congrArg (fun l:List Kc=>l[j]?) HKE.out
      simp only [List.getElem?_map,List.getElem?_eq_getElem hjK,List.getElem?_eq_getElem hjE,Option.map_some,Option.some.injEq] at h1
      rw [← hx]
      exact h1
     have hvE:=HE.out _ (List.getElem_mem hjE)
     obtain ⟨b,o,rfl,hbz,hc⟩:=HK.out.sl.at_ (k:=j) hjm
     have hbl:Below w.heap.size w wr:=by obtain ⟨_,_,h1,_⟩:=HI.out;exact h1.bel
     have hcm:∀ W,Below w.heap.size w W→∀ i u,(kce x)[i]?=some u→i<5→W.cell? ⟨b,o+(j*5+i),none⟩=some u:=fun W hW i u hu hi=>by rw [bc hW hbz _];exact hc _ u (by rw [kcs_cell hjK hi,hx];exact hu)
     have y0:wr.cell? ⟨b,o+j*5,none⟩=some (.int .i64 x.kind):=by have:=hcm wr hbl 0 _ rfl (by omega);exact this
     have y1:wr.cell? ⟨b,o+j*5+1,none⟩=some (.string x.pack):=by have:=hcm wr hbl 1 _ rfl (by omega);rwa [← Nat.add_assoc] at this
     have y2:wr.cell? ⟨b,o+j*5+2,none⟩=some (.string x.text):=by have:=hcm wr hbl 2 _ rfl (by omega);rwa [← Nat.add_assoc] at this
     have y3:wr.cell? ⟨b,o+j*5+3,none⟩=some (.slice x.oa x.old.length x.ocap):=by have:=hcm wr hbl 3 _ rfl (by omega);rwa [← Nat.add_assoc] at this
     have y4:wr.cell? ⟨b,o+j*5+4,none⟩=some (.slice x.na x.new.length x.ncap):=by have:=hcm wr hbl 4 _ rfl (by omega);rwa [← Nat.add_assoc] at this
     have hlb:b<wr.heap.size:=Nat.lt_of_lt_of_le hbz hbl.size
     obtain ⟨W0,hW0⟩:∃ y,wr.alloc (.cells #[.int .i64 x.kind,.string x.pack,.string x.text,.slice x.oa x.old.length x.ocap,.slice x.na x.new.length x.ncap] 52)=y:=⟨_,rfl⟩
     have hb0:Below wr.heap.size wr W0:=by rw [← hW0];exact ba _ _
     have hR:W0.heap[wr.heap.size]?=some (.cells #[.int .i64 x.kind,.string x.pack,.string x.text,.slice x.oa x.old.length x.ocap,.slice x.na x.new.length x.ncap] 52 (0,0)):=by rw [← hW0];exact h_new rfl _
     have hall:∀ V,Below W0.heap.size W0 V→V.cell? ⟨wr.heap.size,0,none⟩=some (.int .i64 x.kind)∧V.cell? ⟨wr.heap.size,1,none⟩=some (.string x.pack)∧V.cell? ⟨wr.heap.size,2,none⟩=some (.string x.text)∧V.cell? ⟨wr.heap.size,3,none⟩=some (.slice x.oa x.old.length x.ocap)∧V.cell? ⟨wr.heap.size,4,none⟩=some (.slice x.na x.new.length x.ncap)∧wr.heap.size<V.heap.size:=fun V hb=>by
      have hR':=(hb.block _ (row_lt hR)).trans hR
      exact ⟨row_cell hR' 0,row_cell hR' 1,row_cell hR' 2,row_cell hR' 3,row_cell hR' 4,row_lt hR'⟩
     have hbw:∀ V,Below W0.heap.size W0 V→Below w.heap.size w V:=fun V hb=>hbl.trans ((hb0.trans (hb.mono hb0.size)).mono hbl.size)
     obtain ⟨fk1,fk2⟩:=Ed.vld_k hvE hxk
     have CE:=lid (fun V (hb:Below W0.heap.size W0 V)=>EdCheck_any x V (hxA.below (hbw V hb)) fk1 fk2)
     have CO:Hid (∀ V,Below W0.heap.size W0 V→Calls Tryz.prog 28 #[u7,.agg (kca x),.map (some mb)] V fun r w'=>∃ v',r=.returned (.tuple #[v',.int .i64 0])∧AppN w w' v' mb s6 s7 s8 s9 E (absM T) 100 (j+1)):=lid (fun V hb=>by
      have hV:Below wr.heap.size wr V:=hb0.trans (hb.mono hb0.size)
      have hap2:AppN w V u7 mb s6 s7 s8 s9 E (absM T) 100 j:=by
       obtain ⟨L,T',h1,h2,h3⟩:=HI.out
       exact ⟨L,T',h1.below hV,h2.step (Stp.below hV),h3⟩
      obtain ⟨L,T',h1,h2,h3⟩:=hap2
      have h7:=h3.2.2.2.2
      rw [List.drop_eq_getElem_cons hjE] at h7
      obtain ⟨u,h8,_⟩:=h7
      refine (one_any w V u7 L x E[j] T' mb s6 s7 s8 s9 h3.1 hxk hvE h1 hxA h3.2.1 h3.2.2.1 ⟨by have:=h3.2.2.2.1.1;omega,fun m hm=>by have:=h3.2.2.2.1.2 m hm;omega⟩ u h8 h2).mono ?_
      rintro r w' ⟨v',L',rfl,q1,q2,q3⟩
      refine ⟨v',rfl,?_⟩
      obtain ⟨p1,p2⟩:=oneE_ap h3.2.1 (Ed.vld_fit hvE) h8
      have h9:=h3.2.2.2.2
      rw [List.drop_eq_getElem_cons hjE] at h9
      obtain ⟨u',h8',h9⟩:=h9
      obtain ⟨p1',p2'⟩:=oneE_ap h3.2.1 (Ed.vld_fit hvE) h8'
      exact ⟨L',oneE T' E[j],q1,h2.step q2,q3,p1,oneE_vd h3.2.2.1 hvE,oneE_len h3.2.2.2.1 _,by rw [p2'];exact h9⟩)
     obtain ⟨z0,z1,z2,z3,z4,lz⟩:=hall W0 (Below.refl _ _)
     have HALL:=lid hall
     have HW0:=lid hW0
     clear hjK hjE hx hxA hxk hvE hc hcm hbl hW0 hb0 hR hall hbw fk1 fk2 HI
     go_wp2_with fail
     rw [HW0.out]
     go_wp2_with fail
     (with_reducible refine (CE.out _ (Below.refl _ _)).mono ?_);rintro e V1 ⟨rfl,hb1⟩
     have HV1:=lid hb1
     clear hb1 CE z0 z1 z2 z3 z4 lz
     obtain ⟨z0,z1,z2,z3,z4,lz⟩:=HALL.out V1 HV1.out
     go_wp2_with fail
     (with_reducible refine (CO.out V1 HV1.out).mono ?_);rintro e V2 ⟨v',rfl,hnx⟩
     have HNX:=lid hnx
     clear hnx CO z0 z1 z2 z3 z4 lz HALL
     go_wp2_with fail
     go_roundw
     case measure=>simp only [intOf];omega
     case rel=>exact ⟨j+1,by omega,by simp,HNX⟩
    ·obtain rfl:j=m:=by omega
     have hfin:∃ L,MO w wr u7 L∧L.map Mw.x=T∧∀ x∈L,modW x:=by
      obtain ⟨L,T',h1,_,h3,h4,_,_,h7⟩:=HI.out
      have hl:E.length≤j:=by have:=congrArg List.length HKE.out;rw [List.length_map,List.length_map,HK.out.len] at this;omega
      rw [List.drop_of_length_le hl] at h7
      have h8:T'=T:=absM_inj h4 HT.out.1 h7
      refine ⟨L,h1,by rw [h3,h8],fun x hx=>?_⟩
      exact (HT.out.2 x.x (by rw [← h8,← h3];exact List.mem_map.2 ⟨x,hx,rfl⟩)).all rfl
     obtain ⟨L,hL1,hL2,hL3⟩:=hfin
     obtain ⟨ao',cap',rfl,hmla⟩:=hL1.mla
     have CE:=lid (checkEach_any ao' L.length cap' L wr hmla)
     have HL1:=lid hL1
     have HL2:=lid hL2
     have HL3:=lid hL3
     clear hL1 hL2 hL3 hmla HI hjm
     go_wp2_with fail
     (with_reducible refine (CE.out).mono ?_);rintro e w5 ⟨q,rfl,hq,hb5⟩
     obtain rfl:=hq.2 HL3.out
     have HB5:=lid hb5
     clear hq hb5 CE
     go_wp2_with fail
     go_ret2
     exact ⟨_,L,rfl,HL1.out.below HB5.out,HL2.out⟩
end Go.Proofs.YtgcceepadlmelaaGreatDoor
