import Derived.Test.YtgcceepadlmelaaGreatDoorQAO
import Derived.Test.YtgcceepadlmelaaGreatDoorQAP
import Derived.Test.YtgcceepadlmelaaGreatDoorQAN
import Derived.Test.YtgcceepadlmelaaGreatDoorQAK
import Derived.Test.YtgcceepadlmelaaGreatDoorQAJ
namespace Go.Proofs.YtgcceepadlmelaaGreatDoor
set_option maxRecDepth 100000
set_option maxHeartbeats 16000000
open Go.RowKit
theorem chg6_any (w0 w:World) (L:List Mw) (g cap j:Nat) (p t:ByteArray) (ob oo oc:Nat) (o:Dw) (na:Option Addr) (new:List Dw) (nc:Nat) (x:Dw) (s:Nat) (hj:j<L.length) (h:MO w0 w (.slice (some ⟨g,0,none⟩) L.length cap) L) (he:KwA w0 ⟨6,p,t,some ⟨ob,oo,none⟩,[o],oc,na,new,nc⟩)
  (hs:w.heap[s]?=some (.cells #[.nilFunc] 95 (0,0))) (hA:AscK Dw.id ltI L[j].decls) (hf:fnd Dw.id L[j].decls o.id=some x) (hmx:(menW 6 x).x=o.x) (hcx:cntE x.body≤1000) (hn:L[j].decls.length≤100000) (hid:∀ d∈L[j].decls,1≤d.id∧d.id≤999999) (hdi:1≤o.id∧o.id≤999999) :
  Calls Tryz.prog 77 #[.pointer (some ⟨g,j*3,none⟩),.agg #[.int .i64 6,.string p,.string t,.slice (some ⟨ob,oo,none⟩) 1 oc,.slice na new.length nc],.pointer (some ⟨s,0,none⟩)] w (EfP w0 w g cap L j ⟨L[j].label,L[j].uses,(L[j].decls.take (idxK Dw.id ltI L[j].decls o.id)++L[j].decls.drop (idxK Dw.id ltI L[j].decls o.id+1)).map Dw.x⟩):=by
 obtain ⟨a,ha⟩:∃ i,idxK Dw.id ltI L[j].decls o.id=i:=⟨_,rfl⟩
 obtain ⟨hal,hax,hxi⟩:=at_some ltI_k hA hf
 simp only [ha] at hal hax
 have hsl:=row_lt hs
 have hold:DLA w0 (some ⟨ob,oo,none⟩) 1 oc [o]:=he.old
 have how:DwA w0 o:=hold.el o (List.mem_singleton.2 rfl)
 have hob:ob<w0.heap.size∧∀ i u,(dce o)[i]?=some u→i<11→w.cell? ⟨ob,oo+i,none⟩=some u:=by
  obtain ⟨b,o',e1,h1,_⟩:=hold.sl.at_ (k:=0) (by simp)
  cases e1
  obtain ⟨b,o',e1,_,h2⟩:=dla_row (j:=0) hold h.bel (by simp) (by simp)
  cases e1
  exact ⟨h1,fun i u hu hi=>by have:=h2 i u hu hi;simpa using this⟩
 have hbs:=h.bel.size
 have lob:ob<w.heap.size:=by omega
 obtain ⟨dg,dc,hdv,hda,hdcap⟩:∃ dg dc,dV L[j]=.slice (some ⟨dg,0,none⟩) L[j].decls.length dc∧L[j].da=some ⟨dg,0,none⟩∧L[j].dcap=dc:=by
  rcases (h.el _ (List.getElem_mem hj)).ds.2 with ⟨_,h0⟩ | ⟨g',c',cur,e1,_⟩
  ·omega
  ·injection e1 with e1 _ e3
   exact ⟨g',c',by show Value.slice L[j].da _ L[j].dcap=_;rw [e1,e3],e1,e3⟩
 obtain ⟨W1,hW1⟩:∃ y,(w.alloc (.cells #[.int .i64 6,.string p,.string t,.slice (some ⟨ob,oo,none⟩) 1 oc,.slice na new.length nc] 52)).alloc (.cells (dca o) 65)=y:=⟨_,rfl⟩
 have hb1:Below w.heap.size w W1:=by rw [← hW1];exact (ba _ _).alloc (by simp) _
 have hR:W1.heap[w.heap.size]?=some (.cells #[.int .i64 6,.string p,.string t,.slice (some ⟨ob,oo,none⟩) 1 oc,.slice na new.length nc] 52 (0,0)):=by rw [← hW1];exact (h_old (by simp) _).trans (h_new rfl _)
 have hR2:W1.heap[w.heap.size+1]?=some (.cells (dca o) 65 (0,0)):=by rw [← hW1];exact h_new (by simp) _
 have h1:=h.below hb1
 have hall:∀ V,Below W1.heap.size W1 V→(V.cell? ⟨g,j*3+2,none⟩=some (.slice (some ⟨dg,0,none⟩) L[j].decls.length dc)∧V.cell? ⟨w.heap.size,0,none⟩=some (.int .i64 6)∧V.cell? ⟨w.heap.size,4,none⟩=some (.slice na new.length nc)∧V.cell? ⟨s,0,none⟩=some (.nilFunc)∧g<V.heap.size∧w.heap.size<V.heap.size∧w.heap.size+1<V.heap.size∧dg<V.heap.size∧s<V.heap.size)∧(V.cell? ⟨dg,a*11,none⟩=some (.int .i64 x.id)∧V.cell? ⟨dg,a*11+1,none⟩=some (.int .i64 x.kind)∧V.cell? ⟨dg,a*11+2,none⟩=some (.bool x.pub)∧V.cell? ⟨dg,a*11+3,none⟩=some (.slice x.na x.names.length x.ncap)∧V.cell? ⟨dg,a*11+4,none⟩=some (.bool x.doubt)∧V.cell? ⟨dg,a*11+5,none⟩=some (.int .i64 x.body.kind)∧V.cell? ⟨dg,a*11+6,none⟩=some (.string x.body.name)∧V.cell? ⟨dg,a*11+7,none⟩=some (.string x.body.more)∧V.cell? ⟨dg,a*11+8,none⟩=some (.int .i64 x.body.int)∧V.cell? ⟨dg,a*11+9,none⟩=some (.int .i64 x.body.den)∧V.cell? ⟨dg,a*11+10,none⟩=some (.slice x.body.ao x.body.sub.length x.body.cap))∧(V.cell? ⟨w.heap.size+1,0,none⟩=some (.int .i64 o.id)∧V.cell? ⟨w.heap.size+1,1,none⟩=some (.int .i64 o.kind)∧V.cell? ⟨w.heap.size+1,2,none⟩=some (.bool o.pub)∧V.cell? ⟨w.heap.size+1,3,none⟩=some (.slice o.na o.names.length o.ncap)∧V.cell? ⟨w.heap.size+1,4,none⟩=some (.bool o.doubt)∧V.cell? ⟨w.heap.size+1,5,none⟩=some (.int .i64 o.body.kind)∧V.cell? ⟨w.heap.size+1,6,none⟩=some (.string o.body.name)∧V.cell? ⟨w.heap.size+1,7,none⟩=some (.string o.body.more)∧V.cell? ⟨w.heap.size+1,8,none⟩=some (.int .i64 o.body.int)∧V.cell? ⟨w.heap.size+1,9,none⟩=some (.int .i64 o.body.den)∧V.cell? ⟨w.heap.size+1,10,none⟩=some (.slice o.body.ao o.body.sub.length o.body.cap)):=fun V hb=>by
  have hR':=(hb.block _ (row_lt hR)).trans hR
  have hR2':=(hb.block _ (row_lt hR2)).trans hR2
  have hv:=h1.below hb
  have hc:=hv.cells hj
  have hds:=(hv.el _ (List.getElem_mem hj)).ds
  rw [hdv] at hds
  have hpc:=part_cells hds hal
  rw [hax] at hpc
  have hs':V.heap[s]?=some (.cells #[.nilFunc] 95 (0,0)):=(hb.block _ (Nat.lt_of_lt_of_le hsl hb1.size)).trans ((hb1.block _ hsl).trans hs)
  refine ⟨⟨by rw [hc.2.2.2.2.1,hdv],row_cell hR' 0,row_cell hR' 4,row_cell hs' 0,hc.1,row_lt hR',row_lt hR2',hpc.2.2.1,row_lt hs'⟩,⟨hpc.1 0 _ rfl (by omega),hpc.1 1 _ rfl (by omega),hpc.1 2 _ rfl (by omega),hpc.1 3 _ rfl (by omega),hpc.1 4 _ rfl (by omega),hpc.1 5 _ rfl (by omega),hpc.1 6 _ rfl (by omega),hpc.1 7 _ rfl (by omega),hpc.1 8 _ rfl (by omega),hpc.1 9 _ rfl (by omega),hpc.1 10 _ rfl (by omega)⟩,⟨row_cell hR2' 0,row_cell hR2' 1,row_cell hR2' 2,row_cell hR2' 3,row_cell hR2' 4,row_cell hR2' 5,row_cell hR2' 6,row_cell hR2' 7,row_cell hR2' 8,row_cell hR2' 9,row_cell hR2' 10⟩⟩
 have n0:w.cell? ⟨ob,oo,none⟩=some (.int .i64 o.id):=hob.2 0 _ rfl (by omega)
 have n1:w.cell? ⟨ob,oo+1,none⟩=some (.int .i64 o.kind):=hob.2 1 _ rfl (by omega)
 have n2:w.cell? ⟨ob,oo+2,none⟩=some (.bool o.pub):=hob.2 2 _ rfl (by omega)
 have n3:w.cell? ⟨ob,oo+3,none⟩=some (.slice o.na o.names.length o.ncap):=hob.2 3 _ rfl (by omega)
 have n4:w.cell? ⟨ob,oo+4,none⟩=some (.bool o.doubt):=hob.2 4 _ rfl (by omega)
 have n5:w.cell? ⟨ob,oo+5,none⟩=some (.int .i64 o.body.kind):=hob.2 5 _ rfl (by omega)
 have n6:w.cell? ⟨ob,oo+6,none⟩=some (.string o.body.name):=hob.2 6 _ rfl (by omega)
 have n7:w.cell? ⟨ob,oo+7,none⟩=some (.string o.body.more):=hob.2 7 _ rfl (by omega)
 have n8:w.cell? ⟨ob,oo+8,none⟩=some (.int .i64 o.body.int):=hob.2 8 _ rfl (by omega)
 have n9:w.cell? ⟨ob,oo+9,none⟩=some (.int .i64 o.body.den):=hob.2 9 _ rfl (by omega)
 have n10:w.cell? ⟨ob,oo+10,none⟩=some (.slice o.body.ao o.body.sub.length o.body.cap):=hob.2 10 _ rfl (by omega)
 have hm:=((h1.el _ (List.getElem_mem hj)).mwa h1.bel).decls
 rw [hda,hdcap] at hm
 have CB:=lid (fun W (hb:Below W1.heap.size W1 W)=>findDecl_any L[j].decls o.id _ _ _ W (hm.below hb) hA hn hid hdi)
 rw [ha,hf] at CB
 have CM:=lid (fun W=>mentioned_any 6 x W)
 have hxm:x∈L[j].decls:=by rw [← hax];exact List.getElem_mem hal
 have CE:=lid (fun W (hb:Below W1.heap.size W1 W)=>equalDecl_any (menW 6 x) o W (menW_A ((((h1.el _ (List.getElem_mem hj)).del x hxm).below h1.bel).below hb)) ((how.below h1.bel).below hb) (menW_cnt hcx))
 rw [show pB ((menW 6 x).x=o.x)=true from pB_iff.2 hmx] at CE
 obtain ⟨mx,hmxe⟩:∃ y,menW 6 x=y:=⟨_,rfl⟩
 rw [hmxe] at CM CE
 rw [ha]
 obtain ⟨us,hus⟩:∃ us,L[j].decls.take a++L[j].decls.drop (a+1)=us:=⟨_,rfl⟩
 rw [hus]
 have CD:=lid (fun V (hb:Below W1.heap.size W1 V)=>DelD_any (h1.below hb) hj hus.symm hal (by omega))
 rw [hda,hdcap] at CD
 have HST:Hid (∀ V,Below W1.heap.size W1 V→Stp w V (.slice (some ⟨g,0,none⟩) L.length cap) (.slice (some ⟨g,0,none⟩) L.length cap) L L):=lid (fun V hb=>(Stp.below hb1).trans (Stp.below hb))
 have HALL:=lid hall
 have HW1:=lid hW1
 have HN:=lid hn
 clear hall hW1 hb1 hR hR2 h1 h he hs hA hf hmx hcx hid hdi ha hax hxi hsl hold how hob hbs hdv hda hdcap hm hmxe hxm hus
 go_enter Tryz.func77,Tryz.ntmps77
 go_wp2_with fail
 rw [HW1.out]
 clear n0 n1 n2 n3 n4 n5 n6 n7 n8 n9 n10 lob
 obtain ⟨⟨c2,c0,c4,cs,lg,lw,lw1,ld,ls⟩,⟨x0,x1,x2,x3,x4,x5,x6,x7,x8,x9,x10⟩,⟨y0,y1,y2,y3,y4,y5,y6,y7,y8,y9,y10⟩⟩:=HALL.out W1 (Below.refl _ _)
 refine qd (fun w'=>∃ s:Since W1.heap.size W1,w'=s.world) [(0,true),(1,true),(2,true),(3,true),(4,true),(5,true),(6,false),(7,true),(8,true),(9,true),(10,false),(11,false)] ?_
 repeat (first | (refine qk ?_;simp only [Act.put,q1,q2,q3]) | (refine qf ?_;intro K hK;go_big_quiet_op;go_big_quiet_on))
 refine qc ?_
 intro K hK
 go_wp2_with fail
 (with_reducible refine (CB.out _ (Below.refl _ _).drew).mono ?_);rintro e V2 ⟨rfl,hb2⟩
 have HB2:=lid ((Below.refl W1.heap.size W1).drew.trans hb2)
 clear hb2 CB
 go_wp2_with fail
 refine hK.out _ _ (since HB2.out) ?_
 clear hK K
 repeat (first | (refine qk ?_;simp only [Act.put,q1,q2,q3]) | (refine qf ?_;intro K hK;go_big_quiet_op;go_big_quiet_on))
 refine qc ?_
 intro K hK
 go_wp2_with fail
 refine hK.out _ _ (since HB2.out) ?_
 clear hK K
 repeat (first | (refine qk ?_;simp only [Act.put,q1,q2,q3]) | (refine qf ?_;intro K hK;go_big_quiet_op;go_big_quiet_on))
 refine qc ?_
 intro K hK
 go_wp2_with fail
 refine hK.out _ _ (since HB2.out) ?_
 clear hK K
 repeat (first | (refine qk ?_;simp only [Act.put,q1,q2,q3]) | (refine qf ?_;intro K hK;go_big_quiet_op;go_big_quiet_on))
 refine seq_nil ?_
 clear c2 c0 c4 cs lg lw lw1 ld ls x0 x1 x2 x3 x4 x5 x6 x7 x8 x9 x10 y0 y1 y2 y3 y4 y5 y6 y7 y8 y9 y10
 obtain ⟨⟨c2,c0,c4,cs,lg,lw,lw1,ld,ls⟩,⟨x0,x1,x2,x3,x4,x5,x6,x7,x8,x9,x10⟩,⟨y0,y1,y2,y3,y4,y5,y6,y7,y8,y9,y10⟩⟩:=HALL.out V2 HB2.out
 go_wp2_with fail
 refine qd (fun w'=>∃ s:Since V2.heap.size V2,w'=s.world) [(0,true),(1,true),(2,true),(3,true),(4,true),(5,true),(6,true),(7,true),(8,true),(10,true),(9,false),(11,false),(12,true)] ?_
 repeat (first | (refine qk ?_;simp only [Act.put,q1,q2,q3]) | (refine qf ?_;intro K hK;go_big_quiet_op;go_big_quiet_on))
 refine qc ?_
 intro K hK
 go_wp2_with fail
 (with_reducible refine (CM.out _).mono ?_);rintro e V3 ⟨rfl,hb3⟩
 have HB3':=lid ((Below.refl V2.heap.size V2).drew.trans hb3)
 have HB3:=lid (HB2.out.trans (HB3'.out.mono HB2.out.size))
 clear hb3 CM
 go_wp2_with fail
 refine hK.out _ _ (since HB3'.out) ?_
 clear hK K
 repeat (first | (refine qk ?_;simp only [Act.put,q1,q2,q3]) | (refine qf ?_;intro K hK;go_big_quiet_op;go_big_quiet_on))
 refine qc ?_
 intro K hK
 go_wp2_with fail
 (with_reducible refine (CE.out _ HB3.out).mono ?_);rintro e V4 ⟨rfl,hb4⟩
 have HB4':=lid (HB3'.out.trans (hb4.mono HB3'.out.size))
 have HB4:=lid (HB3.out.trans (hb4.mono HB3.out.size))
 clear hb4 CE
 go_wp2_with fail
 refine hK.out _ _ (since HB4'.out) ?_
 clear hK K
 repeat (first | (refine qk ?_;simp only [Act.put,q1,q2,q3]) | (refine qf ?_;intro K hK;go_big_quiet_op;go_big_quiet_on))
 refine seq_nil ?_
 clear c2 c0 c4 cs lg lw lw1 ld ls x0 x1 x2 x3 x4 x5 x6 x7 x8 x9 x10 y0 y1 y2 y3 y4 y5 y6 y7 y8 y9 y10
 obtain ⟨⟨c2,c0,c4,cs,lg,lw,lw1,ld,ls⟩,⟨x0,x1,x2,x3,x4,x5,x6,x7,x8,x9,x10⟩,⟨y0,y1,y2,y3,y4,y5,y6,y7,y8,y9,y10⟩⟩:=HALL.out V4 HB4.out
 go_wp2_with fail
 (with_reducible refine (CD.out _ HB4.out).mono ?_);rintro e w2 ⟨ao,c,rfl,he,hr,hq1,hq2,hq3⟩
 have HRR:=lid hr
 clear he hr CD
 go_wp2_with fail
 go_ret
 exact ⟨rfl,_,rfl,HRR.out.1,(HST.out V4 HB4.out).trans HRR.out.2⟩
end Go.Proofs.YtgcceepadlmelaaGreatDoor
namespace Go.Proofs.YtgcceepadlmelaaGreatDoor
abbrev Sg:=Nat × Int × ByteArray × ByteArray × Int × Int × Nat
def sgN (p:Nd):Sg:=(p.1,p.2.kind,p.2.name,p.2.more,p.2.int,p.2.den,p.2.sub.length)
theorem xL_len {s t:List Ew} (h:xL s=xL t):s.length=t.length:=by
 have h2:=congrArg List.length h
 rw [xL_map,xL_map,List.length_map,List.length_map] at h2
 exact h2
mutual
theorem pre_x:∀ (d:Nat) (e f:Ew),e.x=f.x→(preW d e).map sgN=(preW d f).map sgN
 | d,.mk k n m i b a c s,.mk k' n' m' i' b' a' c' s',h=>by
  simp only [Ew.x] at h
  injection h with h1 h2 h3 h4 h5 h6
  subst h1 h2 h3 h4 h5
  have h7:=preL_x (d+1) s s' h6
  have hl:=xL_len h6
  simp only [preW,List.map_cons,h7]
  congr 1
  show (d,k,n,m,i,b,s.length)=(d,k,n,m,i,b,s'.length)
  rw [hl]
theorem preL_x:∀ (d:Nat) (s t:List Ew),xL s=xL t→(preWL d s).map sgN=(preWL d t).map sgN
 | _,[],[],_=>rfl
 | _,[],_::_,h=>by simp [xL] at h
 | _,_::_,[],h=>by simp [xL] at h
 | d,e::s,f::t,h=>by
  simp only [xL,List.cons.injEq] at h
  simp only [preWL,List.map_append,pre_x d e f h.1,preL_x d s t h.2]
end
theorem cnt_x {e f:Ew} (h:e.x=f.x):cntE e=cntE f:=by
 have h2:=congrArg List.length (pre_x 1 e f h)
 rw [List.length_map,List.length_map,cnt_pre,cnt_pre] at h2
 exact h2
theorem okW_x {e f:Ew} (h:e.x=f.x) (ho:okW e):okW f:=by
 have hp:=pre_x 1 e f h
 have hl:=congrArg List.length hp
 rw [List.length_map,List.length_map] at hl
 have hm:∀ x∈preW 1 f,∃ y∈preW 1 e,sgN y=sgN x:=fun x hx=>by
  have h1:sgN x∈(preW 1 e).map sgN:=by rw [hp];exact List.mem_map.2 ⟨x,hx,rfl⟩
  exact List.mem_map.1 h1
 refine ⟨by rw [← hl];exact ho.1,fun x hx=>?_,fun x hx=>?_⟩
 ·obtain ⟨y,hy,e1⟩:=hm x hx
  simp only [sgN,Prod.mk.injEq] at e1
  rw [← e1.1]
  exact ho.2.1 y hy
 ·obtain ⟨y,hy,e1⟩:=hm x hx
  simp only [sgN,Prod.mk.injEq] at e1
  obtain ⟨_,a1,a2,a3,a4,a5,a6⟩:=e1
  have h3:=ho.2.2 y hy
  unfold ndC at h3 ⊢
  rw [← a1,← a2,← a3,← a4,← a5,← a6]
  exact h3
theorem any_x {P:Ew→Bool} (Q:Sg→Bool) (hQ:∀ p:Nd,P p.2=Q (sgN p)) {e f:Ew} (h:e.x=f.x):anyE P e=anyE P f:=by
 have hq:∀ g:Ew,anyE P g=((preW 1 g).map sgN).any Q:=fun g=>by
  rw [any_pre P 1 g,List.any_map]
  congr 1
  funext p
  exact hQ p
 rw [hq,hq,pre_x 1 e f h]
theorem dot_x {e f:Ew} (h:e.x=f.x):anyE isDot e=anyE isDot f:=any_x (fun s=>s.2.1 == 4) (fun _=>rfl) h
theorem ref_x (l:ByteArray) {e f:Ew} (h:e.x=f.x):anyE (isRef l) e=anyE (isRef l) f:=any_x (fun s=>(s.2.1 == 5) && (s.2.2.1.toList == l.toList)) (fun _=>rfl) h
mutual
theorem free_x:∀ (L:List ByteArray) (e f:Ew),e.x=f.x→freeE L e=freeE L f
 | L,.mk k n m i b a c s,.mk k' n' m' i' b' a' c' s',h=>by
  simp only [Ew.x] at h
  injection h with h1 h2 h3 h4 h5 h6
  subst h1 h2 h3 h4 h5
  have h7:=freeS_x L k n m 0 s s' h6
  rw [freeE_eq,freeE_eq]
  show (if k=3 then (if inS L n=true then [] else [n]) else freeS L k n m 0 s)=(if k=3 then (if inS L n=true then [] else [n]) else freeS L k n m 0 s')
  rw [h7]
theorem freeS_x:∀ (L:List ByteArray) (k:Int) (n m:ByteArray) (j:Nat) (s t:List Ew),xL s=xL t→freeS L k n m j s=freeS L k n m j t
 | _,_,_,_,_,[],[],_=>rfl
 | _,_,_,_,_,[],_::_,h=>by simp [xL] at h
 | _,_,_,_,_,_::_,[],h=>by simp [xL] at h
 | L,k,n,m,j,e::s,f::t,h=>by
  simp only [xL,List.cons.injEq] at h
  rw [freeS,freeS,free_x _ e f h.1,freeS_x L k n m (j+1) s t h.2]
end
theorem bodyW_x {l:ByteArray} {e f:Ew} (h:e.x=f.x) (hb:bodyW l e):bodyW l f :=
 ⟨okW_x h hb.1,by rw [← dot_x h];exact hb.2.1,by rw [← free_x [] e f h];exact hb.2.2.1,by rw [← ref_x l h];exact hb.2.2.2⟩
theorem declW_x {l:ByteArray} {d e:Dw} (h:d.x=e.x) (hd:declW l d):declW l e:=by
 unfold Dw.x at h
 injection h with h1 h2 h3 h4 h5 h6
 obtain ⟨a1,a2,a3,a4⟩:=hd
 rw [h1] at a1
 rw [h2] at a2
 rw [h4] at a3
 exact ⟨a1,a2,a3,bodyW_x h6 a4⟩
theorem modW_x {m n:Mw} (h:m.x=n.x) (hm:modW m):modW n:=by
 unfold Mw.x at h
 injection h with h1 h2 h3
 have hl:=congrArg List.length h3
 rw [List.length_map,List.length_map] at hl
 obtain ⟨b1,b2,b3,b4,b5,b6⟩:=hm
 rw [h1] at b1 b3 b5
 rw [h2] at b2
 refine ⟨b1,b2,?_,by rw [← hl];exact b4,fun d hd=>?_,?_⟩
 ·intro i hi
  have hi':i<m.uses.length:=by rw [h2];exact hi
  have h4:=b3 i hi'
  simp only [h2] at h4
  exact h4
 ·have h1:d.x∈m.decls.map Dw.x:=by rw [h3];exact List.mem_map.2 ⟨d,hd,rfl⟩
  obtain ⟨y,hy,e1⟩:=List.mem_map.1 h1
  exact declW_x e1 (b5 y hy)
 ·have h4:(m.decls.map Dw.x).Pairwise fun x y=>x.id<y.id:=List.pairwise_map.2 b6
  rw [h3] at h4
  exact (List.pairwise_map (f:=Dw.x) (R:=fun x y:Dx=>x.id<y.id)).1 h4
end Go.Proofs.YtgcceepadlmelaaGreatDoor
