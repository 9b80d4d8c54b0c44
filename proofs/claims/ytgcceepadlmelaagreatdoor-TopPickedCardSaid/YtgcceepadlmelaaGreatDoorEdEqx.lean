import Derived.Test.YtgcceepadlmelaaGreatDoorEdVisit
import Derived.Test.YtgcceepadlmelaaGreatDoorEdBindA
import Derived.Test.YtgcceepadlmelaaGreatDoorQAE
namespace Go.Proofs.YtgcceepadlmelaaGreatDoor
set_option maxRecDepth 100000
set_option maxHeartbeats 16000000
open Go.RowKit
abbrev Pw:=Tw × Tw
abbrev pwe (p:Pw):List Value:=[.slice p.1.ao p.1.l.length p.1.cap,.slice p.2.ao p.2.l.length p.2.cap]
def pcs (S:List Pw):List Value:=S.flatMap pwe
theorem pcs_length (S:List Pw):(pcs S).length=S.length*2:=flat_length (enc:=pwe) (sz:=2) (fun _=>rfl) S
theorem pcs_append (S T:List Pw):pcs (S++T)=pcs S++pcs T:=by simp [pcs]
def phi (S:List Pw):Nat:=(S.map fun p=>2*cntL p.1.l+1).sum
theorem phi_append (S T:List Pw):phi (S++T)=phi S+phi T:=by simp [phi,List.sum_append]
theorem phi_len:∀ S:List Pw,S.length≤phi S
 | []=>Nat.zero_le _
 | p::S=>by
  have:=phi_len S
  unfold phi at *
  simp
  omega
abbrev eqP (p:Pw):Prop:=p.1.l.map Ew.x=p.2.l.map Ew.x
theorem x_iff (a b:Ew):a.x=b.x↔(a.kind=b.kind∧a.name=b.name∧a.more=b.more∧a.int=b.int∧a.den=b.den)∧a.sub.map Ew.x=b.sub.map Ew.x:=by
 rw [Ew.x_eq a,Ew.x_eq b]
 constructor
 ·intro h
  injection h with h1 h2 h3 h4 h5 h6
  exact ⟨⟨h1,h2,h3,h4,h5⟩,h6⟩
 ·rintro ⟨⟨h1,h2,h3,h4,h5⟩,h6⟩
  rw [h1,h2,h3,h4,h5,h6]
theorem info_pair:(Tryz.prog.info? 129).map (fun i=>(i.zero,i.size,i.bytes))=some (some (.agg #[.slice none 0 0,.slice none 0 0]),2,48):=by kernel_rfl
theorem ba' (w:World) (o:Obj):Below w.heap.size w (w.alloc o):=ba w o
theorem pB_f {p:Prop} (h:¬ p):pB p=false:=by cases e:pB p with | false=>rfl | true=>exact absurd (pB_iff.1 e) h
theorem pB_t {p:Prop} (h:p):pB p=true:=pB_iff.2 h
theorem equalExpr_any (e1 e2:Ew) (w:World) (h1:EA w e1) (h2:EA w e2) (hc:cntE e1≤1000) :
  Calls Tryz.prog 67 #[.agg (eca e1),.agg (eca e2)] w fun r w'=>r=.returned (.bool (pB (e1.x=e2.x)))∧Below w.heap.size w w':=by
 have HE1:=lid h1
 have HE2:=lid h2
 clear h1 h2
 go_enter Tryz.func67,Tryz.ntmps67
 go_wp2_with fail
 obtain ⟨W0,hW0⟩:∃ y,(((w.alloc (.cells (eca e1) 63)).alloc (.cells (eca e2) 63)).alloc (.cells #[.int .i64 e1.kind,.string e1.name,.string e1.more,.int .i64 e1.int,.int .i64 e1.den,.slice e1.ao e1.sub.length e1.cap] 63)).alloc (.cells #[.int .i64 e2.kind,.string e2.name,.string e2.more,.int .i64 e2.int,.int .i64 e2.den,.slice e2.ao e2.sub.length e2.cap] 63)=y:=⟨_,rfl⟩
 have hb0:Below w.heap.size w W0:=by rw [← hW0];exact (((ba _ _).alloc (by simp) _).alloc (by simp <;> omega) _).alloc (by simp <;> omega) _
 have hz0:W0.heap.size=w.heap.size+4:=by rw [← hW0];simp
 have ha0:W0.heap[w.heap.size+2]?=some (.cells #[.int .i64 e1.kind,.string e1.name,.string e1.more,.int .i64 e1.int,.int .i64 e1.den,.slice e1.ao e1.sub.length e1.cap] 63 (0,0)):=by rw [← hW0];exact (h_old (by simp) _).trans (h_new (by simp) _)
 have hq0:W0.heap[w.heap.size+3]?=some (.cells #[.int .i64 e2.kind,.string e2.name,.string e2.more,.int .i64 e2.int,.int .i64 e2.den,.slice e2.ao e2.sub.length e2.cap] 63 (0,0)):=by rw [← hW0];exact h_new (by simp) _
 obtain ⟨W1,hW1⟩:∃ y,W0.alloc (.cells #[.slice (some ⟨w.heap.size+1+1,0,none⟩) 1 1,.slice (some ⟨w.heap.size+1+1+1,0,none⟩) 1 1] 129)=y:=⟨_,rfl⟩
 have HB0:=lid hb0
 have HT0:Hid (EL W0 (some ⟨w.heap.size+2,0,none⟩) 1 1 [e1]):=lid ⟨rfl,by have:=sl_row (n:=1) (size:=6) ha0 rfl;exact this,Nat.le_refl _,by simp [maxLen],fun s hs=>(by rw [List.mem_singleton.1 hs];exact HE1.out.lift hb0),fun h=>by cases h⟩
 have HT1:Hid (EL W0 (some ⟨w.heap.size+3,0,none⟩) 1 1 [e2]):=lid ⟨rfl,by have:=sl_row (n:=1) (size:=6) hq0 rfl;exact this,Nat.le_refl _,by simp [maxLen],fun s hs=>(by rw [List.mem_singleton.1 hs];exact HE2.out.lift hb0),fun h=>by cases h⟩
 obtain ⟨p0,hp0⟩:∃ p0:Pw,p0=(⟨some ⟨w.heap.size+2,0,none⟩,[e1],1⟩,⟨some ⟨w.heap.size+3,0,none⟩,[e2],1⟩):=⟨_,rfl⟩
 have HO1:Hid (W1.ownsRow W0.heap.size 129 2 (.slice (some ⟨w.heap.size+1+1+1+1,0,none⟩) 1 1) [p0].length (pcs [p0])):=lid (by
  rw [← hW1,hp0,show w.heap.size+1+1+1+1=W0.heap.size by omega]
  have:=World.ownsRow_lit (e:=129) (base:=W0.heap.size) (size:=2) W0 #[.slice (some ⟨w.heap.size+1+1,0,none⟩) 1 1,.slice (some ⟨w.heap.size+1+1+1,0,none⟩) 1 1] 1 (Nat.le_refl _) (by simp [maxLen]) rfl
  exact this)
 have HB1:Hid (Below W0.heap.size W0 W1):=lid (by rw [← hW1];exact ba _ _)
 have HP0:Hid (∀ p∈[p0],TwA W0 p.1∧TwA W0 p.2):=lid (fun p hp=>by
  rw [List.mem_singleton.1 hp,hp0]
  exact ⟨HT0.out,HT1.out⟩)
 have HQ0:Hid (e1.x=e2.x↔∀ p∈[p0],eqP p):=lid (by
  constructor
  ·intro h p hp
   rw [List.mem_singleton.1 hp,hp0]
   show [e1].map Ew.x=[e2].map Ew.x
   simp [h]
  ·intro h
   have:=h p0 (List.mem_singleton.2 rfl)
   rw [hp0] at this
   have:[e1].map Ew.x=[e2].map Ew.x:=this
   simpa using this)
 have HPH:Hid (phi [p0]≤3000):=lid (by rw [hp0];simp [phi,cntL];omega)
 rw [hW0,hW1]
 clear hW0 hb0 hz0 ha0 hq0 hW1
 go_loopg [5] (phi [p0]) (fun N u5 wr=>∃ S:List Pw,N=phi S∧Hid (phi S≤3000)∧Hid (wr.ownsRow W0.heap.size 129 2 u5 S.length (pcs S))∧Hid (Below W0.heap.size W0 wr)∧Hid (∀ p∈S,TwA W0 p.1∧TwA W0 p.2)∧Hid (e1.x=e2.x↔∀ p∈S,eqP p))
 case atStart=>exact ⟨[p0],rfl,HPH,HO1,HB1,HP0,HQ0⟩
 case round =>
  clear HO1 HB1 HP0 HQ0 HPH HE1 HE2 HT0 HT1 hp0
  obtain ⟨S,hN,HPH,HO,HB,HS,HQ⟩:=hrel
  rcases List.eq_nil_or_concat S with rfl | ⟨S0,t,rfl⟩
  ·obtain ⟨a9,c9,rfl,-,-,-⟩:=Sl.of_own HO.out
   have HV:Hid (pB (e1.x=e2.x)=true):=lid (pB_t (HQ.out.2 (fun p hp=>by cases hp)))
   clear HO HS
   go_wp2_with fail
   go_ret
   exact ⟨retb HV.out.symm,HB0.out.trans (HB.out.mono HB0.out.size)⟩
  ·rw [List.concat_eq_append] at HO HS HQ hN HPH
   obtain ⟨n,hn⟩:∃ n,S0.length=n:=⟨_,rfl⟩
   have hlen:(S0++[t]).length=n+1:=by simp [hn]
   rw [hlen,pcs_append] at HO
   obtain ⟨g,cap,rfl⟩:=ownsRow_succ HO.out
   obtain ⟨cur,hgb,hgg,hnc,hcm,-,-⟩:=own_formK HO.out
   have hl2:(pcs S0).length=n*2:=by rw [pcs_length,hn]
   obtain ⟨⟨aa,la,ac⟩,⟨ab,lb,bcp⟩⟩:=t
   have y0:wr.cell? ⟨g,n*2,none⟩=some (.slice aa la.length ac):=own_cellK HO.out _ (by rw [List.getElem?_append_right (by omega),hl2,Nat.sub_self];rfl)
   have y1:wr.cell? ⟨g,n*2+1,none⟩=some (.slice ab lb.length bcp):=own_cellK HO.out _ (by rw [List.getElem?_append_right (by omega),hl2,show n*2+1-n*2=1 by omega];rfl)
   have lg:=row_lt hgg
   have hncm:(n:Int)+1≤9223372036854775807:=by simp only [maxLen] at hcm;omega
   have hcm2:cap≤9223372036854775807:=hcm
   have HNN:=lid hn
   obtain ⟨HA1,HA2⟩:Hid (EL W0 aa la.length ac la)∧Hid (EL W0 ab lb.length bcp lb):=⟨lid (HS.out (⟨aa,la,ac⟩,⟨ab,lb,bcp⟩) (by simp)).1,lid (HS.out (⟨aa,la,ac⟩,⟨ab,lb,bcp⟩) (by simp)).2⟩
   have HS0:Hid (∀ p∈S0,TwA W0 p.1∧TwA W0 p.2):=lid (fun p hp=>HS.out p (List.mem_append.2 (.inl hp)))
   have HPN:Hid (gk=phi S0+(2*cntL la+1)):=lid (by rw [hN,phi_append];simp [phi])
   have HPM:Hid (phi S0+(2*cntL la+1)≤3000):=lid (by rw [← HPN.out,hN];exact HPH.out)
   have HQQ:Hid (e1.x=e2.x↔(∀ p∈S0,eqP p)∧la.map Ew.x=lb.map Ew.x):=lid (by
    rw [HQ.out]
    constructor
    ·intro h
     exact ⟨fun p hp=>h p (List.mem_append.2 (.inl hp)),h _ (List.mem_append.2 (.inr (List.mem_singleton.2 rfl)))⟩
    ·rintro ⟨h1,h2⟩ p hp
     rcases List.mem_append.1 hp with hp | hp
     ·exact h1 p hp
     ·rw [List.mem_singleton.1 hp];exact h2)
   have HOP:Hid (wr.ownsRow W0.heap.size 129 2 (.slice (some ⟨g,0,none⟩) n cap) n (pcs S0)):=lid (own_popK HO.out rfl)
   obtain ⟨W2,hW2⟩:∃ y,wr.alloc (.cells #[.slice aa la.length ac,.slice ab lb.length bcp] 129)=y:=⟨_,rfl⟩
   have hb2:Below wr.heap.size wr W2:=by rw [← hW2];exact ba _ _
   have HX2:Hid (W2.heap[wr.heap.size]?=some (.cells #[.slice aa la.length ac,.slice ab lb.length bcp] 129 (0,0))):=lid (by rw [← hW2];exact h_new rfl _)
   have HO2:Hid (W2.ownsRow W0.heap.size 129 2 (.slice (some ⟨g,0,none⟩) n cap) n (pcs S0)):=lid (own_keep HOP.out (fun k e=>by cases e;exact hb2.block g lg))
   have hz2:W0.heap.size≤wr.heap.size:=HB.out.size
   have HB2:=lid (HB.out.trans (hb2.mono hz2))
   have HW2:=lid hW2
   have HNE:Hid (∀ k,(Value.slice (some ⟨g,0,none⟩) n cap).ownBlock=some k→k≠wr.heap.size):=lid (fun k e=>by obtain rfl:g=k:=Option.some.inj e;omega)
   obtain ⟨ka,hka⟩:∃ ka,la.length=ka:=⟨_,rfl⟩
   obtain ⟨kb,hkb⟩:∃ kb,lb.length=kb:=⟨_,rfl⟩
   have HKA:=lid hka
   have HKB:=lid hkb
   rw [hka] at y0 HX2 HW2 HA1
   rw [hkb] at y1 HX2 HW2 HA2
   have hacm:ac≤9223372036854775807:=HA1.out.max
   have hbcm:bcp≤9223372036854775807:=HA2.out.max
   have hkac:ka≤ac:=HA1.out.le
   have hkbc:kb≤bcp:=HA2.out.le
   clear hN HPH HO HB HS HQ hlen hl2 hgg HOP hb2 hW2 hka hkb hn
   by_cases hab:ka=kb
   case neg =>
    have d:((ka:Int) != (kb:Int))=true:=by simp;omega
    have HV:Hid (pB (e1.x=e2.x)=false):=lid (pB_f (fun h=>hab (by
     have h1:=congrArg List.length (HQQ.out.1 h).2
     rw [List.length_map,List.length_map,HKA.out,HKB.out] at h1
     exact h1)))
    clear hab
    go_wp2_with fail
    rw [HW2.out]
    go_ret
    exact ⟨retb HV.out.symm,HB0.out.trans (HB2.out.mono HB0.out.size)⟩
   subst hab
   obtain ⟨sv,hsv⟩:∃ sv,Value.slice (some ⟨g,0,none⟩) n cap=sv:=⟨_,rfl⟩
   rw [hsv] at HO2 HNE
   go_wp2_with fail
   rw [HW2.out]
   obtain ⟨wq,rfl⟩:∃ y,y=wr:=⟨_,rfl⟩
   go_loopw [5,40] (fun v5 u40 wr=>∃ (i:Nat) (T:List Pw),i≤ka∧u40=.int .i64 i∧Hid (wr.ownsRow W0.heap.size 129 2 v5 (S0++T).length (pcs (S0++T)))∧Hid (∀ k,v5.ownBlock=some k→k≠wq.heap.size)∧Hid (Below W0.heap.size W0 wr)∧Hid (∀ p∈S0++T,TwA W0 p.1∧TwA W0 p.2)∧Hid (phi (S0++T)+2*cntL (la.drop i)+1≤phi S0+(2*cntL la+1))∧Hid (e1.x=e2.x↔(∀ p∈S0++T,eqP p)∧(la.drop i).map Ew.x=(lb.drop i).map Ew.x)∧Hid (wr.heap[wq.heap.size]?=some (.cells #[.slice aa ka ac,.slice ab ka bcp] 129 (0,0)))) (fun _ u40 _=>ka-(intOf u40).toNat)
   case atStart=>exact ⟨0,[],Nat.zero_le _,rfl,lid (by rw [List.append_nil,HNN.out];exact HO2.out),HNE,HB2,lid (by rw [List.append_nil];exact HS0.out),lid (by rw [List.append_nil];simp;omega),lid (by rw [List.append_nil];simpa using HQQ.out),HX2⟩
   case round =>
    clear HO2 HNE HB2 HX2 HS0 HQQ HW2 y0 y1
    obtain ⟨i,T,hi,rfl,HO,HNE,HB,HS,HPH,HQ,HX⟩:=hrel
    have x0:wr.cell? ⟨wq.heap.size,0,none⟩=some (.slice aa ka ac):=row_cell HX.out 0
    have x1:wr.cell? ⟨wq.heap.size,1,none⟩=some (.slice ab ka bcp):=row_cell HX.out 1
    have lx:=row_lt HX.out
    by_cases hik:i<ka
    ·have hil:i<la.length:=by rw [HKA.out];exact hik
     have hil2:i<lb.length:=by rw [HKB.out];exact hik
     obtain ⟨x,hx⟩:∃ x,la[i]=x:=⟨_,rfl⟩
     obtain ⟨y,hy⟩:∃ y,lb[i]=y:=⟨_,rfl⟩
     obtain ⟨ba,oa,rfl,hba,hca⟩:=HA1.out.sl.at_ (k:=i) hik
     obtain ⟨bb,ob,rfl,hbb,hcb⟩:=HA2.out.sl.at_ (k:=i) hik
     obtain ⟨p0,p1,p2,p3,p4,p5⟩:=ecs_at hil
     obtain ⟨q0,q1,q2,q3,q4,q5⟩:=ecs_at hil2
     rw [hx] at p0 p1 p2 p3 p4 p5
     rw [hy] at q0 q1 q2 q3 q4 q5
     have a0:wr.cell? ⟨ba,oa+i*6,none⟩=some (.int .i64 x.kind):=by have:=(bc HB.out hba _).trans (hca _ _ p0);exact this
     have a1:wr.cell? ⟨ba,oa+i*6+1,none⟩=some (.string x.name):=by have:=(bc HB.out hba _).trans (hca _ _ p1);rwa [← Nat.add_assoc] at this
     have a2:wr.cell? ⟨ba,oa+i*6+2,none⟩=some (.string x.more):=by have:=(bc HB.out hba _).trans (hca _ _ p2);rwa [← Nat.add_assoc] at this
     have a3:wr.cell? ⟨ba,oa+i*6+3,none⟩=some (.int .i64 x.int):=by have:=(bc HB.out hba _).trans (hca _ _ p3);rwa [← Nat.add_assoc] at this
     have a4:wr.cell? ⟨ba,oa+i*6+4,none⟩=some (.int .i64 x.den):=by have:=(bc HB.out hba _).trans (hca _ _ p4);rwa [← Nat.add_assoc] at this
     have a5:wr.cell? ⟨ba,oa+i*6+5,none⟩=some (.slice x.ao x.sub.length x.cap):=by have:=(bc HB.out hba _).trans (hca _ _ p5);rwa [← Nat.add_assoc] at this
     have b0:wr.cell? ⟨bb,ob+i*6,none⟩=some (.int .i64 y.kind):=by have:=(bc HB.out hbb _).trans (hcb _ _ q0);exact this
     have b1:wr.cell? ⟨bb,ob+i*6+1,none⟩=some (.string y.name):=by have:=(bc HB.out hbb _).trans (hcb _ _ q1);rwa [← Nat.add_assoc] at this
     have b2:wr.cell? ⟨bb,ob+i*6+2,none⟩=some (.string y.more):=by have:=(bc HB.out hbb _).trans (hcb _ _ q2);rwa [← Nat.add_assoc] at this
     have b3:wr.cell? ⟨bb,ob+i*6+3,none⟩=some (.int .i64 y.int):=by have:=(bc HB.out hbb _).trans (hcb _ _ q3);rwa [← Nat.add_assoc] at this
     have b4:wr.cell? ⟨bb,ob+i*6+4,none⟩=some (.int .i64 y.den):=by have:=(bc HB.out hbb _).trans (hcb _ _ q4);rwa [← Nat.add_assoc] at this
     have b5:wr.cell? ⟨bb,ob+i*6+5,none⟩=some (.slice y.ao y.sub.length y.cap):=by have:=(bc HB.out hbb _).trans (hcb _ _ q5);rwa [← Nat.add_assoc] at this
     have lba:ba<wr.heap.size:=Nat.lt_of_lt_of_le hba HB.out.size
     have lbb:bb<wr.heap.size:=Nat.lt_of_lt_of_le hbb HB.out.size
     have HDA:Hid (la.drop i=x::la.drop (i+1)):=lid (by rw [List.drop_eq_getElem_cons hil,hx])
     have HDB:Hid (lb.drop i=y::lb.drop (i+1)):=lid (by rw [List.drop_eq_getElem_cons hil2,hy])
     have HXA:Hid (EA W0 x):=lid (HA1.out.el x (by rw [← hx];exact List.getElem_mem hil))
     have HYA:Hid (EA W0 y):=lid (HA2.out.el y (by rw [← hy];exact List.getElem_mem hil2))
     have HNO:Hid (¬ (x.kind=y.kind∧x.name=y.name∧x.more=y.more∧x.int=y.int∧x.den=y.den)→pB (e1.x=e2.x)=false):=lid (fun hne=>pB_f (fun h=>hne (by
      have h1:=(HQ.out.1 h).2
      rw [HDA.out,HDB.out,List.map_cons,List.map_cons] at h1
      injection h1 with h1 _
      exact ((x_iff x y).1 h1).1)))
     have hn400:(S0++T).length≤3000:=by have:=phi_len (S0++T);have:=HPH.out;have:=HPM.out;omega
     have HN4:=lid hn400
     clear hx hy hca hcb p0 p1 p2 p3 p4 p5 q0 q1 q2 q3 q4 q5 hil hil2 hn400
     go_wp2_with fail
     refine qd (fun w'=>∃ s:Since wr.heap.size wr,w'=s.world) [(0,true),(1,true),(2,true),(3,true),(4,true),(5,true),(6,true),(7,true),(8,false),(9,false)] ?_
     repeat (first | (refine qk ?_;simp only [Act.put,q1,q2,q3]) | (refine qf ?_;intro K hK;go_big_quiet_op;go_big_quiet_on))
     refine qc ?_
     intro K hK
     go_wp2_with fail
     refine hK.out _ _ (since (Below.refl _ _).drew) ?_
     clear hK K
     repeat (first | (refine qk ?_;simp only [Act.put,q1,q2,q3]) | (refine qf ?_;intro K hK;go_big_quiet_op;go_big_quiet_on))
     refine qc ?_
     intro K hK
     go_wp2_with fail
     refine hK.out _ _ (since (Below.refl _ _).drew) ?_
     clear hK K
     refine seq_nil ?_
     go_wp2_with fail
     by_cases hne:x.kind=y.kind
     case neg =>
      have hk0:(x.kind != y.kind)=true:=by simpa using hne
      have HV:=lid (HNO.out (fun h=>hne h.1))
      clear hne
      go_wp2_with fail
      refine qd (fun w'=>∃ s:Since wr.heap.size wr,w'=s.world) [(0,true),(1,true),(2,true),(3,true),(4,true),(5,true),(6,true),(7,true),(8,true),(9,true),(10,true),(11,true),(12,true),(13,true),(14,true),(15,true),(16,true),(17,true),(18,true),(19,true),(20,true),(21,true),(22,true),(23,true),(24,true),(25,true),(26,true),(27,true),(28,true),(29,true),(30,true),(31,true),(32,true),(33,true),(34,true),(35,true),(36,true),(37,true),(38,true),(39,true),(40,true),(41,true),(42,true),(43,true),(44,true),(45,true),(46,true),(47,true),(48,true),(49,true),(50,true),(51,true),(52,true)] ?_
      repeat (first | (refine qk ?_;simp only [Act.put,q1,q2,q3]) | (refine qf ?_;intro K hK;go_big_quiet_op;go_big_quiet_on))
      refine seq_nil ?_
      go_wp2_with fail
      go_ret
      exact ⟨retb HV.out.symm,HB0.out.trans (HB.out.drew.drew.mono HB0.out.size)⟩
     have hk0:(x.kind != y.kind)=false:=by simp [hne]
     have He0:=lid hne
     clear hne
     by_cases hne:x.name=y.name
     case neg =>
      have hk1:(x.name.toList == y.name.toList)=false:=str_ne hne
      have HV:=lid (HNO.out (fun h=>hne h.2.1))
      clear hne
      go_wp2_with fail
      refine qd (fun w'=>∃ s:Since wr.heap.size wr,w'=s.world) [(0,true),(1,true),(2,true),(3,true),(4,true),(5,true),(6,true),(7,true),(8,true),(9,true),(10,true),(11,true),(12,true),(13,true),(14,true),(15,true),(16,true),(17,true),(18,true),(19,true),(20,true),(21,true),(22,true),(23,true),(24,true),(25,true),(26,true),(27,true),(28,true),(29,true),(30,true),(31,true),(32,true),(33,true),(34,true),(35,true),(36,true),(37,true),(38,true),(39,true),(40,true),(41,true),(42,true),(43,true),(44,true),(45,true),(46,true),(47,true),(48,true),(49,true),(50,true),(51,true),(52,true)] ?_
      repeat (first | (refine qk ?_;simp only [Act.put,q1,q2,q3]) | (refine qf ?_;intro K hK;go_big_quiet_op;go_big_quiet_on))
      refine seq_nil ?_
      go_wp2_with fail
      go_ret
      exact ⟨retb HV.out.symm,HB0.out.trans (HB.out.drew.drew.mono HB0.out.size)⟩
     have hk1:(x.name.toList == y.name.toList)=true:=str_eq hne
     have He1p:=lid hne
     clear hne
     by_cases hne:x.more=y.more
     case neg =>
      have hk2:(x.more.toList == y.more.toList)=false:=str_ne hne
      have HV:=lid (HNO.out (fun h=>hne h.2.2.1))
      clear hne
      go_wp2_with fail
      refine qd (fun w'=>∃ s:Since wr.heap.size wr,w'=s.world) [(0,true),(1,true),(2,true),(3,true),(4,true),(5,true),(6,true),(7,true),(8,true),(9,true),(10,true),(11,true),(12,true),(13,true),(14,true),(15,true),(16,true),(17,true),(18,true),(19,true),(20,true),(21,true),(22,true),(23,true),(24,true),(25,true),(26,true),(27,true),(28,true),(29,true),(30,true),(31,true),(32,true),(33,true),(34,true),(35,true),(36,true),(37,true),(38,true),(39,true),(40,true),(41,true),(42,true),(43,true),(44,true),(45,true),(46,true),(47,true),(48,true),(49,true),(50,true),(51,true),(52,true)] ?_
      repeat (first | (refine qk ?_;simp only [Act.put,q1,q2,q3]) | (refine qf ?_;intro K hK;go_big_quiet_op;go_big_quiet_on))
      refine seq_nil ?_
      go_wp2_with fail
      go_ret
      exact ⟨retb HV.out.symm,HB0.out.trans (HB.out.drew.drew.mono HB0.out.size)⟩
     have hk2:(x.more.toList == y.more.toList)=true:=str_eq hne
     have He2p:=lid hne
     clear hne
     by_cases hne:x.int=y.int
     case neg =>
      have hk3:(x.int != y.int)=true:=by simpa using hne
      have HV:=lid (HNO.out (fun h=>hne h.2.2.2.1))
      clear hne
      go_wp2_with fail
      refine qd (fun w'=>∃ s:Since wr.heap.size wr,w'=s.world) [(0,true),(1,true),(2,true),(3,true),(4,true),(5,true),(6,true),(7,true),(8,true),(9,true),(10,true),(11,true),(12,true),(13,true),(14,true),(15,true),(16,true),(17,true),(18,true),(19,true),(20,true),(21,true),(22,true),(23,true),(24,true),(25,true),(26,true),(27,true),(28,true),(29,true),(30,true),(31,true),(32,true),(33,true),(34,true),(35,true),(36,true),(37,true),(38,true),(39,true),(40,true),(41,true),(42,true),(43,true),(44,true),(45,true),(46,true),(47,true),(48,true),(49,true),(50,true),(51,true),(52,true)] ?_
      repeat (first | (refine qk ?_;simp only [Act.put,q1,q2,q3]) | (refine qf ?_;intro K hK;go_big_quiet_op;go_big_quiet_on))
      refine seq_nil ?_
      go_wp2_with fail
      go_ret
      exact ⟨retb HV.out.symm,HB0.out.trans (HB.out.drew.drew.mono HB0.out.size)⟩
     have hk3:(x.int != y.int)=false:=by simp [hne]
     have He3:=lid hne
     clear hne
     by_cases hne:x.den=y.den
     case neg =>
      have hk4:(x.den != y.den)=true:=by simpa using hne
      have HV:=lid (HNO.out (fun h=>hne h.2.2.2.2))
      clear hne
      go_wp2_with fail
      refine qd (fun w'=>∃ s:Since wr.heap.size wr,w'=s.world) [(0,true),(1,true),(2,true),(3,true),(4,true),(5,true),(6,true),(7,true),(8,true),(9,true),(10,true),(11,true),(12,true),(13,true),(14,true),(15,true),(16,true),(17,true),(18,true),(19,true),(20,true),(21,true),(22,true),(23,true),(24,true),(25,true),(26,true),(27,true),(28,true),(29,true),(30,true),(31,true),(32,true),(33,true),(34,true),(35,true),(36,true),(37,true),(38,true),(39,true),(40,true),(41,true),(42,true),(43,true),(44,true),(45,true),(46,true),(47,true),(48,true),(49,true),(50,true),(51,true),(52,true)] ?_
      repeat (first | (refine qk ?_;simp only [Act.put,q1,q2,q3]) | (refine qf ?_;intro K hK;go_big_quiet_op;go_big_quiet_on))
      refine seq_nil ?_
      go_wp2_with fail
      go_ret
      exact ⟨retb HV.out.symm,HB0.out.trans (HB.out.drew.drew.mono HB0.out.size)⟩
     have hk4:(x.den != y.den)=false:=by simp [hne]
     have He4:=lid hne
     clear hne
     have e0:=He0.out
     have e1':=He1p.out
     have e2':=He2p.out
     have e3:=He3.out
     have e4:=He4.out
     obtain ⟨nxt,hnxt⟩:∃ p:Pw,p=(⟨x.ao,x.sub,x.cap⟩,⟨y.ao,y.sub,y.cap⟩):=⟨_,rfl⟩
     have HNXQ:Hid (eqP nxt↔x.sub.map Ew.x=y.sub.map Ew.x):=lid (by rw [hnxt])
     have HNXA:Hid (TwA W0 nxt.1∧TwA W0 nxt.2):=lid (by rw [hnxt];exact ⟨HXA.out.subs,HYA.out.subs⟩)
     have HNXP:Hid (phi [nxt]=2*cntL x.sub+1):=lid (by rw [hnxt];simp [phi])
     have HNXC:Hid (pcs [nxt]=#[.slice x.ao x.sub.length x.cap,.slice y.ao y.sub.length y.cap].toList):=lid (by rw [hnxt];rfl)
     clear hnxt
     have HHD:Hid (x.kind=y.kind∧x.name=y.name∧x.more=y.more∧x.int=y.int∧x.den=y.den):=lid ⟨e0,e1',e2',e3,e4⟩
     have HPH2:Hid (phi (S0++(T++[nxt]))+2*cntL (la.drop (i+1))+1≤phi S0+(2*cntL la+1)):=lid (by
      have h1:=HPH.out
      rw [HDA.out,cntL,cntE_eq] at h1
      rw [← List.append_assoc,phi_append,HNXP.out]
      omega)
     have HQ2:Hid (e1.x=e2.x↔(∀ p∈S0++(T++[nxt]),eqP p)∧(la.drop (i+1)).map Ew.x=(lb.drop (i+1)).map Ew.x):=lid (by
      rw [HQ.out,HDA.out,HDB.out,List.map_cons,List.map_cons,List.cons.injEq,x_iff]
      constructor
      ·rintro ⟨h1,⟨h2,h3⟩,h4⟩
       refine ⟨fun p hp=>?_,h4⟩
       rw [← List.append_assoc] at hp
       rcases List.mem_append.1 hp with hp | hp
       ·exact h1 p hp
       ·rw [List.mem_singleton.1 hp];exact HNXQ.out.2 h3
      ·rintro ⟨h1,h4⟩
       refine ⟨fun p hp=>h1 p (by rw [← List.append_assoc];exact List.mem_append.2 (.inl hp)),⟨HHD.out,?_⟩,h4⟩
       exact HNXQ.out.1 (h1 nxt (by simp)))
     have HS2:Hid (∀ p∈S0++(T++[nxt]),TwA W0 p.1∧TwA W0 p.2):=lid (fun p hp=>by
      rw [← List.append_assoc] at hp
      rcases List.mem_append.1 hp with hp | hp
      ·exact HS.out p hp
      ·rw [List.mem_singleton.1 hp];exact HNXA.out)
     clear e0 e1' e2' e3 e4
     go_wp2_with fail
     refine qd (fun w'=>∃ s:Since wr.heap.size wr,w'=s.world) [(0,true),(1,true),(2,true),(3,true),(4,true),(5,true),(6,true),(7,true),(8,true),(9,true),(10,true),(11,true),(12,true),(13,true),(14,true),(15,true),(16,true),(17,true),(18,true),(19,true),(20,true),(21,true),(22,true),(23,true),(24,true),(25,true),(26,true),(27,true),(28,true),(29,true),(30,true),(31,true),(32,true),(33,true),(34,true),(35,true),(36,true),(37,true),(38,true),(39,true),(40,true),(41,true),(42,true),(43,true),(44,true),(45,true),(46,true),(47,true),(48,true),(49,true),(50,true),(51,true),(52,true)] ?_
     repeat (first | (refine qk ?_;simp only [Act.put,q1,q2,q3]) | (refine qf ?_;intro K hK;go_big_quiet_op;go_big_quiet_on))
     refine seq_nil ?_
     go_wp2_with fail
     obtain ⟨svn,hsvn⟩:∃ n,(S0++T).length=n:=⟨_,rfl⟩
     have HOS:Hid (wr.ownsRow W0.heap.size 129 2 u5 svn (pcs (S0++T))):=lid (by rw [← hsvn];exact HO.out)
     have HSN:=lid hsvn
     have hsn:svn≤3000:=by rw [← hsvn];exact HN4.out
     clear hsvn
     refine qd (fun w'=>∃ s:Since W0.heap.size wr,w'=s.world) [(0,true),(1,true),(2,true),(3,true),(4,true),(5,true),(6,true),(7,true),(8,true),(9,true),(10,false),(11,false),(12,false)] ?_
     repeat (first | (refine qk ?_;simp only [Act.put,q1,q2,q3]) | (refine qf ?_;intro K hK;go_big_quiet_op;go_big_quiet_on))
     refine qc ?_
     intro K hK
     go_wp2_with fail
     obtain ⟨w7,hw7⟩:∃ w7,(wr.alloc (.cells #[.slice x.ao x.sub.length x.cap,.slice y.ao y.sub.length y.cap] 129)).drew.drew.drew=w7:=⟨_,rfl⟩
     have h7:Below wr.heap.size wr w7:=by rw [← hw7];exact (ba' wr _).drew.drew.drew
     have hlay:w7.heap[wr.heap.size]?=some (.cells #[.slice x.ao x.sub.length x.cap,.slice y.ao y.sub.length y.cap] 129 (0,0)):=by
      rw [← hw7]
      show (wr.alloc _).heap[_]?=_
      exact h_new rfl _
     rw [hw7]
     have HLAY:=lid hlay
     have HOW:Hid (w7.ownsRow W0.heap.size 129 2 u5 svn (pcs (S0++T))):=lid (own_keep HOS.out (fun k e=>h7.block k (HOS.out.lt k e).2))
     have hz7:W0.heap.size≤wr.heap.size:=HB.out.size
     have HG7:=lid (h7.mono hz7)
     have hz77:W0.heap.size≤w7.heap.size:=Nat.le_trans hz7 h7.size
     have HX7:=lid ((h7.block _ lx).trans HX.out)
     have hwl:wq.heap.size<w7.heap.size:=Nat.lt_of_lt_of_le lx h7.size
     clear hw7 h7 hlay
     refine hK.out _ _ (since HG7.out) ?_
     clear hK K
     repeat (first | (refine qk ?_;simp only [Act.put,q1,q2,q3]) | (refine qf ?_;intro K hK;go_big_quiet_op;go_big_quiet_on))
     refine qc ?_
     intro K hK
     go_wp2_with (at_builtin;go_must (refine wpList_append_sla rfl _ _ 130 rfl W0.heap.size 129 (.agg #[.slice none 0 0,.slice none 0 0]) 2 48 info_pair Tryz.underlying130 rfl (by decide) u5 svn (pcs (S0++T)) HOW.out rfl _ 1 1 #[.slice x.ao x.sub.length x.cap,.slice y.ao y.sub.length y.cap].toList rfl (sl_row HLAY.out rfl) (by simp [Value.oneCell']) (by simp only [maxLen];omega) (by omega) hz77 ?_))
     intro v9 w9 own9 hb9 hg9 hat9
     have HG9:=lid (HG7.out.trans hb9)
     have HX9:Hid (w9.heap[wq.heap.size]?=some (.cells #[.slice (some ⟨ba,oa,none⟩) ka ac,.slice (some ⟨bb,ob,none⟩) ka bcp] 129 (0,0))):=lid ((hg9.block _ hwl (fun e=>HNE.out _ e.symm rfl)).trans HX7.out)
     have HO9:Hid (w9.ownsRow W0.heap.size 129 2 v9 (S0++(T++[nxt])).length (pcs (S0++(T++[nxt])))):=lid (by
      rw [← List.append_assoc,List.length_append,pcs_append,HSN.out,HNXC.out]
      exact own9)
     have HN9:Hid (∀ k,v9.ownBlock=some k→k≠wq.heap.size):=lid (fun k e=>by
      rcases hat9 with h | h
      ·exact HNE.out k (by rw [← h];exact e)
      ·rw [h] at e
       have:=Option.some.inj e
       omega)
     clear own9 hb9 hg9 hat9
     try simp only [Act.put,q1,q2,q3]
     go_wp2_with fail
     refine hK.out _ _ (since HG9.out) ?_
     clear hK K
     repeat (first | (refine qk ?_;simp only [Act.put,q1,q2,q3]) | (refine qf ?_;intro K hK;go_big_quiet_op;go_big_quiet_on))
     refine qc ?_
     intro K hK
     go_wp2_with fail
     refine hK.out _ _ (since HG9.out) ?_
     clear hK K
     refine seq_nil ?_
     go_wp2_with fail
     go_roundw
     case measure=>simp only [intOf];omega
     case rel=>exact ⟨i+1,T++[nxt],by omega,by simp,HO9,HN9,lid (HB.out.trans HG9.out),HS2,HPH2,HQ2,HX9⟩
    ·obtain rfl:i=ka:=by omega
     have HD1:Hid (la.drop i=[]):=lid (List.drop_of_length_le (by rw [HKA.out];exact Nat.le_refl _))
     have HD2:Hid (lb.drop i=[]):=lid (List.drop_of_length_le (by rw [HKB.out];exact Nat.le_refl _))
     have HPH2:Hid (phi (S0++T)+1≤gk):=lid (by have:=HPH.out;have:=HPN.out;rw [HD1.out] at *;simp only [cntL] at *;omega)
     have HQ2:Hid (e1.x=e2.x↔∀ p∈S0++T,eqP p):=lid (by
      rw [HQ.out,HD1.out,HD2.out]
      exact ⟨fun h=>h.1,fun h=>⟨h,rfl⟩⟩)
     have HPH3:Hid (phi (S0++T)≤3000):=lid (by have:=HPH2.out;have:=HPN.out;have:=HPM.out;omega)
     clear hik
     go_wp2_with fail
     go_roundg (phi (S0++T))
     case measure=>have:=HPH2.out;omega
     case rel=>exact ⟨S0++T,rfl,HPH3,HO,HB,HS,HQ2⟩
end Go.Proofs.YtgcceepadlmelaaGreatDoor
