import Derived.Test.YtgcceepadlmelaaGreatDoorQAO
import Derived.Test.YtgcceepadlmelaaGreatDoorQAP
import Derived.Test.YtgcceepadlmelaaGreatDoorQAN
import Derived.Test.YtgcceepadlmelaaGreatDoorQAK
namespace Go.Proofs.YtgcceepadlmelaaGreatDoor
set_option maxRecDepth 100000
set_option maxHeartbeats 16000000
open Go.RowKit
theorem chgP_any (K:Int) (F:FuncId) (hKF:(K=7∧F=52)∨(K=8∧F=53)∨(K=9∧F=54)) (n x d':Dw) (hset:∀ (V:World) (base dg c:Nat) (D:List Dw) (a:Nat) (ha:a<D.length),D[a]=x→V.ownsRow base 65 11 (.slice (some ⟨dg,0,none⟩) D.length c) D.length (dcs D)→Calls Tryz.prog F #[.pointer (some ⟨dg,a*11,none⟩),.agg (dca n)] V (SetP V base dg c D a d')) (hd':∀ {w0:World},DwA w0 x→DwA w0 n→DwA w0 d') (w0 w:World) (L:List Mw) (g cap j:Nat) (p t:ByteArray) (ob oo oc:Nat) (o:Dw) (nb no nc:Nat) (s:Nat) (hj:j<L.length) (h:MO w0 w (.slice (some ⟨g,0,none⟩) L.length cap) L) (he:KwA w0 ⟨K,p,t,some ⟨ob,oo,none⟩,[o],oc,some ⟨nb,no,none⟩,[n],nc⟩)
  (hs:w.heap[s]?=some (.cells #[.func (.func F) #[] #[]] 95 (0,0))) (hso:s∉L.flatMap blkM) (hA:AscK Dw.id ltI L[j].decls) (hf:fnd Dw.id L[j].decls o.id=some x) (hmx:(menW K x).x=o.x) (hcx:cntE x.body≤1000) (hn:L[j].decls.length≤100000) (hid:∀ d∈L[j].decls,1≤d.id∧d.id≤999999) (hdi:1≤o.id∧o.id≤999999) :
  Calls Tryz.prog 77 #[.pointer (some ⟨g,j*3,none⟩),.agg #[.int .i64 K,.string p,.string t,.slice (some ⟨ob,oo,none⟩) 1 oc,.slice (some ⟨nb,no,none⟩) 1 nc],.pointer (some ⟨s,0,none⟩)] w (EfP w0 w g cap L j ⟨L[j].label,L[j].uses,(L[j].decls.set (idxK Dw.id ltI L[j].decls o.id) d').map Dw.x⟩):=by
 obtain ⟨a,ha⟩:∃ i,idxK Dw.id ltI L[j].decls o.id=i:=⟨_,rfl⟩
 obtain ⟨hal,hax,hxi⟩:=at_some ltI_k hA hf
 simp only [ha] at hal hax
 have hsl:=row_lt hs
 have hold:DLA w0 (some ⟨ob,oo,none⟩) 1 oc [o]:=he.old
 have how:DwA w0 o:=hold.el o (List.mem_singleton.2 rfl)
 have hob:ob<w0.heap.size∧∀ i u,(dce o)[i]?=some u→i<11→w.cell? ⟨ob,oo+i,none⟩=some u:=by
  obtain ⟨b,o',e1,h1,_⟩:=hold.sl.at_ (k:=0) (by simp)
  cases e1
  obtain ⟨b,o',e1,_,h2⟩:=dla_row (j:=0) hold h.bel (by simp) (by simp)
  cases e1
  exact ⟨h1,fun i u hu hi=>by have:=h2 i u hu hi;simpa using this⟩
 have hnew:DLA w0 (some ⟨nb,no,none⟩) 1 nc [n]:=he.new
 have hnw:DwA w0 n:=hnew.el n (List.mem_singleton.2 rfl)
 have hnb:nb<w0.heap.size∧∀ i u,(dce n)[i]?=some u→i<11→w.cell? ⟨nb,no+i,none⟩=some u:=by
  obtain ⟨b,o',e1,h1,_⟩:=hnew.sl.at_ (k:=0) (by simp)
  cases e1
  obtain ⟨b,o',e1,_,h2⟩:=dla_row (j:=0) hnew h.bel (by simp) (by simp)
  cases e1
  exact ⟨h1,fun i u hu hi=>by have:=h2 i u hu hi;simpa using this⟩
 have hbs:=h.bel.size
 have lob:ob<w.heap.size:=by omega
 have lnb:nb<w.heap.size:=by omega
 obtain ⟨dg,dc,hdv,hda,hdcap⟩:∃ dg dc,dV L[j]=.slice (some ⟨dg,0,none⟩) L[j].decls.length dc∧L[j].da=some ⟨dg,0,none⟩∧L[j].dcap=dc:=by
  rcases (h.el _ (List.getElem_mem hj)).ds.2 with ⟨_,h0⟩ | ⟨g',c',cur,e1,_⟩
  ·omega
  ·injection e1 with e1 _ e3
   exact ⟨g',c',by show Value.slice L[j].da _ L[j].dcap=_;rw [e1,e3],e1,e3⟩
 have HNE:Hid (¬ s=dg∧¬ g=dg∧¬ w.heap.size=dg∧¬ nb=dg):=lid (by
  have hdo:dg∈blkM L[j]:=List.mem_append.2 (.inr (mem_obs.2 (by rw [hdv];rfl)))
  have hdl:=(h.el _ (List.getElem_mem hj)).lt hdo
  have hnd:=nodup_blkM h hj
  rw [List.nodup_append] at hnd
  exact ⟨fun e=>hso (by rw [e];exact List.mem_flatMap.2 ⟨_,List.getElem_mem hj,hdo⟩),fun e=>hnd.2.2 g (mem_obs.2 rfl) dg hdo e,by omega,by omega⟩)
 obtain ⟨W1,hW1⟩:∃ y,(w.alloc (.cells #[.int .i64 K,.string p,.string t,.slice (some ⟨ob,oo,none⟩) 1 oc,.slice (some ⟨nb,no,none⟩) 1 nc] 52)).alloc (.cells (dca o) 65)=y:=⟨_,rfl⟩
 have hb1:Below w.heap.size w W1:=by rw [← hW1];exact (ba _ _).alloc (by simp) _
 have hR:W1.heap[w.heap.size]?=some (.cells #[.int .i64 K,.string p,.string t,.slice (some ⟨ob,oo,none⟩) 1 oc,.slice (some ⟨nb,no,none⟩) 1 nc] 52 (0,0)):=by rw [← hW1];exact (h_old (by simp) _).trans (h_new rfl _)
 have hR2:W1.heap[w.heap.size+1]?=some (.cells (dca o) 65 (0,0)):=by rw [← hW1];exact h_new (by simp) _
 have h1:=h.below hb1
 have hall:∀ V,Below W1.heap.size W1 V→(V.cell? ⟨g,j*3+2,none⟩=some (.slice (some ⟨dg,0,none⟩) L[j].decls.length dc)∧V.cell? ⟨w.heap.size,0,none⟩=some (.int .i64 K)∧V.cell? ⟨w.heap.size,4,none⟩=some (.slice (some ⟨nb,no,none⟩) 1 nc)∧V.cell? ⟨s,0,none⟩=some (.func (.func F) #[] #[])∧g<V.heap.size∧w.heap.size<V.heap.size∧w.heap.size+1<V.heap.size∧dg<V.heap.size∧s<V.heap.size∧nb<V.heap.size)∧(V.cell? ⟨dg,a*11,none⟩=some (.int .i64 x.id)∧V.cell? ⟨dg,a*11+1,none⟩=some (.int .i64 x.kind)∧V.cell? ⟨dg,a*11+2,none⟩=some (.bool x.pub)∧V.cell? ⟨dg,a*11+3,none⟩=some (.slice x.na x.names.length x.ncap)∧V.cell? ⟨dg,a*11+4,none⟩=some (.bool x.doubt)∧V.cell? ⟨dg,a*11+5,none⟩=some (.int .i64 x.body.kind)∧V.cell? ⟨dg,a*11+6,none⟩=some (.string x.body.name)∧V.cell? ⟨dg,a*11+7,none⟩=some (.string x.body.more)∧V.cell? ⟨dg,a*11+8,none⟩=some (.int .i64 x.body.int)∧V.cell? ⟨dg,a*11+9,none⟩=some (.int .i64 x.body.den)∧V.cell? ⟨dg,a*11+10,none⟩=some (.slice x.body.ao x.body.sub.length x.body.cap))∧(V.cell? ⟨w.heap.size+1,0,none⟩=some (.int .i64 o.id)∧V.cell? ⟨w.heap.size+1,1,none⟩=some (.int .i64 o.kind)∧V.cell? ⟨w.heap.size+1,2,none⟩=some (.bool o.pub)∧V.cell? ⟨w.heap.size+1,3,none⟩=some (.slice o.na o.names.length o.ncap)∧V.cell? ⟨w.heap.size+1,4,none⟩=some (.bool o.doubt)∧V.cell? ⟨w.heap.size+1,5,none⟩=some (.int .i64 o.body.kind)∧V.cell? ⟨w.heap.size+1,6,none⟩=some (.string o.body.name)∧V.cell? ⟨w.heap.size+1,7,none⟩=some (.string o.body.more)∧V.cell? ⟨w.heap.size+1,8,none⟩=some (.int .i64 o.body.int)∧V.cell? ⟨w.heap.size+1,9,none⟩=some (.int .i64 o.body.den)∧V.cell? ⟨w.heap.size+1,10,none⟩=some (.slice o.body.ao o.body.sub.length o.body.cap))∧(V.cell? ⟨nb,no,none⟩=some (.int .i64 n.id)∧V.cell? ⟨nb,no+1,none⟩=some (.int .i64 n.kind)∧V.cell? ⟨nb,no+2,none⟩=some (.bool n.pub)∧V.cell? ⟨nb,no+3,none⟩=some (.slice n.na n.names.length n.ncap)∧V.cell? ⟨nb,no+4,none⟩=some (.bool n.doubt)∧V.cell? ⟨nb,no+5,none⟩=some (.int .i64 n.body.kind)∧V.cell? ⟨nb,no+6,none⟩=some (.string n.body.name)∧V.cell? ⟨nb,no+7,none⟩=some (.string n.body.more)∧V.cell? ⟨nb,no+8,none⟩=some (.int .i64 n.body.int)∧V.cell? ⟨nb,no+9,none⟩=some (.int .i64 n.body.den)∧V.cell? ⟨nb,no+10,none⟩=some (.slice n.body.ao n.body.sub.length n.body.cap)):=fun V hb=>by
  have hR':=(hb.block _ (row_lt hR)).trans hR
  have hR2':=(hb.block _ (row_lt hR2)).trans hR2
  have hv:=h1.below hb
  have hc:=hv.cells hj
  have hds:=(hv.el _ (List.getElem_mem hj)).ds
  rw [hdv] at hds
  have hpc:=part_cells hds hal
  rw [hax] at hpc
  have hs':V.heap[s]?=some (.cells #[.func (.func F) #[] #[]] 95 (0,0)):=(hb.block _ (Nat.lt_of_lt_of_le hsl hb1.size)).trans ((hb1.block _ hsl).trans hs)
  refine ⟨⟨by rw [hc.2.2.2.2.1,hdv],row_cell hR' 0,row_cell hR' 4,row_cell hs' 0,hc.1,row_lt hR',row_lt hR2',hpc.2.2.1,row_lt hs',Nat.lt_of_lt_of_le lnb (Nat.le_trans hb1.size hb.size)⟩,⟨hpc.1 0 _ rfl (by omega),hpc.1 1 _ rfl (by omega),hpc.1 2 _ rfl (by omega),hpc.1 3 _ rfl (by omega),hpc.1 4 _ rfl (by omega),hpc.1 5 _ rfl (by omega),hpc.1 6 _ rfl (by omega),hpc.1 7 _ rfl (by omega),hpc.1 8 _ rfl (by omega),hpc.1 9 _ rfl (by omega),hpc.1 10 _ rfl (by omega)⟩,⟨row_cell hR2' 0,row_cell hR2' 1,row_cell hR2' 2,row_cell hR2' 3,row_cell hR2' 4,row_cell hR2' 5,row_cell hR2' 6,row_cell hR2' 7,row_cell hR2' 8,row_cell hR2' 9,row_cell hR2' 10⟩,⟨by rw [bc hb (Nat.lt_of_lt_of_le lnb hb1.size) _,bc hb1 lnb _];exact hnb.2 0 _ rfl (by omega),by rw [bc hb (Nat.lt_of_lt_of_le lnb hb1.size) _,bc hb1 lnb _];exact hnb.2 1 _ rfl (by omega),by rw [bc hb (Nat.lt_of_lt_of_le lnb hb1.size) _,bc hb1 lnb _];exact hnb.2 2 _ rfl (by omega),by rw [bc hb (Nat.lt_of_lt_of_le lnb hb1.size) _,bc hb1 lnb _];exact hnb.2 3 _ rfl (by omega),by rw [bc hb (Nat.lt_of_lt_of_le lnb hb1.size) _,bc hb1 lnb _];exact hnb.2 4 _ rfl (by omega),by rw [bc hb (Nat.lt_of_lt_of_le lnb hb1.size) _,bc hb1 lnb _];exact hnb.2 5 _ rfl (by omega),by rw [bc hb (Nat.lt_of_lt_of_le lnb hb1.size) _,bc hb1 lnb _];exact hnb.2 6 _ rfl (by omega),by rw [bc hb (Nat.lt_of_lt_of_le lnb hb1.size) _,bc hb1 lnb _];exact hnb.2 7 _ rfl (by omega),by rw [bc hb (Nat.lt_of_lt_of_le lnb hb1.size) _,bc hb1 lnb _];exact hnb.2 8 _ rfl (by omega),by rw [bc hb (Nat.lt_of_lt_of_le lnb hb1.size) _,bc hb1 lnb _];exact hnb.2 9 _ rfl (by omega),by rw [bc hb (Nat.lt_of_lt_of_le lnb hb1.size) _,bc hb1 lnb _];exact hnb.2 10 _ rfl (by omega)⟩⟩
 have n0:w.cell? ⟨ob,oo,none⟩=some (.int .i64 o.id):=hob.2 0 _ rfl (by omega)
 have n1:w.cell? ⟨ob,oo+1,none⟩=some (.int .i64 o.kind):=hob.2 1 _ rfl (by omega)
 have n2:w.cell? ⟨ob,oo+2,none⟩=some (.bool o.pub):=hob.2 2 _ rfl (by omega)
 have n3:w.cell? ⟨ob,oo+3,none⟩=some (.slice o.na o.names.length o.ncap):=hob.2 3 _ rfl (by omega)
 have n4:w.cell? ⟨ob,oo+4,none⟩=some (.bool o.doubt):=hob.2 4 _ rfl (by omega)
 have n5:w.cell? ⟨ob,oo+5,none⟩=some (.int .i64 o.body.kind):=hob.2 5 _ rfl (by omega)
 have n6:w.cell? ⟨ob,oo+6,none⟩=some (.string o.body.name):=hob.2 6 _ rfl (by omega)
 have n7:w.cell? ⟨ob,oo+7,none⟩=some (.string o.body.more):=hob.2 7 _ rfl (by omega)
 have n8:w.cell? ⟨ob,oo+8,none⟩=some (.int .i64 o.body.int):=hob.2 8 _ rfl (by omega)
 have n9:w.cell? ⟨ob,oo+9,none⟩=some (.int .i64 o.body.den):=hob.2 9 _ rfl (by omega)
 have n10:w.cell? ⟨ob,oo+10,none⟩=some (.slice o.body.ao o.body.sub.length o.body.cap):=hob.2 10 _ rfl (by omega)
 have hm:=((h1.el _ (List.getElem_mem hj)).mwa h1.bel).decls
 rw [hda,hdcap] at hm
 have CB:=lid (fun W (hb:Below W1.heap.size W1 W)=>findDecl_any L[j].decls o.id _ _ _ W (hm.below hb) hA hn hid hdi)
 rw [ha,hf] at CB
 have CM:=lid (fun W=>mentioned_any K x W)
 have hxm:x∈L[j].decls:=by rw [← hax];exact List.getElem_mem hal
 have CE:=lid (fun W (hb:Below W1.heap.size W1 W)=>equalDecl_any (menW K x) o W (menW_A ((((h1.el _ (List.getElem_mem hj)).del x hxm).below h1.bel).below hb)) ((how.below h1.bel).below hb) (menW_cnt hcx))
 rw [show pB ((menW K x).x=o.x)=true from pB_iff.2 hmx] at CE
 obtain ⟨mx,hmxe⟩:∃ y,menW K x=y:=⟨_,rfl⟩
 rw [hmxe] at CM CE
 rw [ha]
 have hD:DwA w0 d':=hd' ((h.el _ (List.getElem_mem hj)).del x hxm) hnw
 have HFIN:Hid (∀ V V5,Below W1.heap.size W1 V→SetP V w0.heap.size dg dc L[j].decls a d' (.returned (.tuple #[])) V5→EfP w0 w g cap L j ⟨L[j].label,L[j].uses,(L[j].decls.set a d').map Dw.x⟩ (.returned (.int .i64 0)) V5):=lid (fun V V5 hb hS=>by
  have hv:=h1.below hb
  obtain ⟨p1,p2⟩:=hv.part hj hdv (D:=L[j].decls.set a d') (by rw [List.length_set]) (hv.bel.trans hS.2.2.1) hS.2.2.1.size hS.2.2.2 hS.2.1 (fun u hu=>by
   rcases List.mem_or_eq_of_mem_set hu with hu | rfl
   ·exact (h.el _ (List.getElem_mem hj)).del u hu
   ·exact hD)
  exact ⟨rfl,_,rfl,p1,(Stp.below hb1).trans ((Stp.below hb).trans p2)⟩)
 have CS:=lid (fun V (hb:Below W1.heap.size W1 V)=>hset V w0.heap.size dg dc L[j].decls a hal hax (by have:=((h1.below hb).el _ (List.getElem_mem hj)).ds;rw [hdv] at this;exact this))
 have HALL:=lid hall
 have HW1:=lid hW1
 have HN:=lid hn
 clear hall hW1 hb1 hR hR2 h1 h he hs hA hf hmx hcx hid hdi ha hax hxi hsl hold how hob hnew hnw hnb hso hbs hdv hda hdcap hm hmxe hxm hD hset
 rcases hKF with ⟨rfl,rfl⟩ | ⟨rfl,rfl⟩ | ⟨rfl,rfl⟩
 all_goals
  go_enter Tryz.func77,Tryz.ntmps77
  go_wp2_with fail
  rw [HW1.out]
  clear n0 n1 n2 n3 n4 n5 n6 n7 n8 n9 n10 lob lnb
  obtain ⟨⟨c2,c0,c4,cs,lg,lw,lw1,ld,ls,lnb⟩,⟨x0,x1,x2,x3,x4,x5,x6,x7,x8,x9,x10⟩,⟨y0,y1,y2,y3,y4,y5,y6,y7,y8,y9,y10⟩,⟨z0,z1,z2,z3,z4,z5,z6,z7,z8,z9,z10⟩⟩:=HALL.out W1 (Below.refl _ _)
  refine qd (fun w'=>∃ s:Since W1.heap.size W1,w'=s.world) [(0,true),(1,true),(2,true),(3,true),(4,true),(5,true),(6,false),(7,true),(8,true),(9,true),(10,false),(11,false)] ?_
  repeat (first | (refine qk ?_;simp only [Act.put,q1,q2,q3]) | (refine qf ?_;intro K hK;go_big_quiet_op;go_big_quiet_on))
  refine qc ?_
  intro K hK
  go_wp2_with fail
  (with_reducible refine (CB.out _ (Below.refl _ _).drew).mono ?_);rintro e V2 ⟨rfl,hb2⟩
  have HB2:=lid ((Below.refl W1.heap.size W1).drew.trans hb2)
  clear hb2 CB
  go_wp2_with fail
  refine hK.out _ _ (since HB2.out) ?_
  clear hK K
  repeat (first | (refine qk ?_;simp only [Act.put,q1,q2,q3]) | (refine qf ?_;intro K hK;go_big_quiet_op;go_big_quiet_on))
  refine qc ?_
  intro K hK
  go_wp2_with fail
  refine hK.out _ _ (since HB2.out) ?_
  clear hK K
  repeat (first | (refine qk ?_;simp only [Act.put,q1,q2,q3]) | (refine qf ?_;intro K hK;go_big_quiet_op;go_big_quiet_on))
  refine qc ?_
  intro K hK
  go_wp2_with fail
  refine hK.out _ _ (since HB2.out) ?_
  clear hK K
  repeat (first | (refine qk ?_;simp only [Act.put,q1,q2,q3]) | (refine qf ?_;intro K hK;go_big_quiet_op;go_big_quiet_on))
  refine seq_nil ?_
  clear c2 c0 c4 cs lg lw lw1 ld ls lnb x0 x1 x2 x3 x4 x5 x6 x7 x8 x9 x10 y0 y1 y2 y3 y4 y5 y6 y7 y8 y9 y10 z0 z1 z2 z3 z4 z5 z6 z7 z8 z9 z10
  obtain ⟨⟨c2,c0,c4,cs,lg,lw,lw1,ld,ls,lnb⟩,⟨x0,x1,x2,x3,x4,x5,x6,x7,x8,x9,x10⟩,⟨y0,y1,y2,y3,y4,y5,y6,y7,y8,y9,y10⟩,⟨z0,z1,z2,z3,z4,z5,z6,z7,z8,z9,z10⟩⟩:=HALL.out V2 HB2.out
  go_wp2_with fail
  refine qd (fun w'=>∃ s:Since V2.heap.size V2,w'=s.world) [(0,true),(1,true),(2,true),(3,true),(4,true),(5,true),(6,true),(7,true),(8,true),(10,true),(9,false),(11,false),(12,true)] ?_
  repeat (first | (refine qk ?_;simp only [Act.put,q1,q2,q3]) | (refine qf ?_;intro K hK;go_big_quiet_op;go_big_quiet_on))
  refine qc ?_
  intro K hK
  go_wp2_with fail
  (with_reducible refine (CM.out _).mono ?_);rintro e V3 ⟨rfl,hb3⟩
  have HB3':=lid ((Below.refl V2.heap.size V2).drew.trans hb3)
  have HB3:=lid (HB2.out.trans (HB3'.out.mono HB2.out.size))
  clear hb3 CM
  go_wp2_with fail
  refine hK.out _ _ (since HB3'.out) ?_
  clear hK K
  repeat (first | (refine qk ?_;simp only [Act.put,q1,q2,q3]) | (refine qf ?_;intro K hK;go_big_quiet_op;go_big_quiet_on))
  refine qc ?_
  intro K hK
  go_wp2_with fail
  (with_reducible refine (CE.out _ HB3.out).mono ?_);rintro e V4 ⟨rfl,hb4⟩
  have HB4':=lid (HB3'.out.trans (hb4.mono HB3'.out.size))
  have HB4:=lid (HB3.out.trans (hb4.mono HB3.out.size))
  clear hb4 CE
  go_wp2_with fail
  refine hK.out _ _ (since HB4'.out) ?_
  clear hK K
  repeat (first | (refine qk ?_;simp only [Act.put,q1,q2,q3]) | (refine qf ?_;intro K hK;go_big_quiet_op;go_big_quiet_on))
  refine seq_nil ?_
  clear c2 c0 c4 cs lg lw lw1 ld ls lnb x0 x1 x2 x3 x4 x5 x6 x7 x8 x9 x10 y0 y1 y2 y3 y4 y5 y6 y7 y8 y9 y10 z0 z1 z2 z3 z4 z5 z6 z7 z8 z9 z10
  obtain ⟨⟨c2,c0,c4,cs,lg,lw,lw1,ld,ls,lnb⟩,⟨x0,x1,x2,x3,x4,x5,x6,x7,x8,x9,x10⟩,⟨y0,y1,y2,y3,y4,y5,y6,y7,y8,y9,y10⟩,⟨z0,z1,z2,z3,z4,z5,z6,z7,z8,z9,z10⟩⟩:=HALL.out V4 HB4.out
  go_wp2_with fail
  have ns:¬ s=dg:=HNE.out.1
  have ng:¬ g=dg:=HNE.out.2.1
  have nw:¬ w.heap.size=dg:=HNE.out.2.2.1
  have nn:¬ nb=dg:=HNE.out.2.2.2
  have q0:=SinceX.cell (B:=V4.heap.size) (X:=dg) (W:=V4) s (0) ls ns cs
  have q1:=SinceX.cell (B:=V4.heap.size) (X:=dg) (W:=V4) g (j*3+2) lg ng c2
  have q2:=SinceX.cell (B:=V4.heap.size) (X:=dg) (W:=V4) w.heap.size (4) lw nw c4
  have r0:=SinceX.cell (B:=V4.heap.size) (X:=dg) (W:=V4) nb (no) lnb nn z0
  have r1:=SinceX.cell (B:=V4.heap.size) (X:=dg) (W:=V4) nb (no+1) lnb nn z1
  have r2:=SinceX.cell (B:=V4.heap.size) (X:=dg) (W:=V4) nb (no+2) lnb nn z2
  have r3:=SinceX.cell (B:=V4.heap.size) (X:=dg) (W:=V4) nb (no+3) lnb nn z3
  have r4:=SinceX.cell (B:=V4.heap.size) (X:=dg) (W:=V4) nb (no+4) lnb nn z4
  have r5:=SinceX.cell (B:=V4.heap.size) (X:=dg) (W:=V4) nb (no+5) lnb nn z5
  have r6:=SinceX.cell (B:=V4.heap.size) (X:=dg) (W:=V4) nb (no+6) lnb nn z6
  have r7:=SinceX.cell (B:=V4.heap.size) (X:=dg) (W:=V4) nb (no+7) lnb nn z7
  have r8:=SinceX.cell (B:=V4.heap.size) (X:=dg) (W:=V4) nb (no+8) lnb nn z8
  have r9:=SinceX.cell (B:=V4.heap.size) (X:=dg) (W:=V4) nb (no+9) lnb nn z9
  have r10:=SinceX.cell (B:=V4.heap.size) (X:=dg) (W:=V4) nb (no+10) lnb nn z10
  clear c2 c0 c4 cs x0 x1 x2 x3 x4 x5 x6 x7 x8 x9 x10 y0 y1 y2 y3 y4 y5 y6 y7 y8 y9 y10 z0 z1 z2 z3 z4 z5 z6 z7 z8 z9 z10
  refine qs (fun w'=>∃ s:SinceX V4.heap.size dg V4,w'=s.world) [(0,true),(1,true),(2,true),(3,true),(4,true),(5,true),(6,true),(7,true),(8,true),(9,true),(10,true),(11,false)] (sincex (KeptX.refl _ _ _).drew) ?_
  repeat (first | (refine qk ?_;simp only [Act.put,q1,q2,q3]) | (refine qf ?_;intro K hK;go_big_quiet_op;go_big_quiet_on))
  refine qc ?_
  intro K hK
  go_wp2_with fail
  (with_reducible refine (CS.out _ HB4.out.drew).mono ?_);rintro e V5 hS
  obtain ⟨rfl,hS2⟩:=hS
  have HS:=lid (HFIN.out V4.drew _ HB4.out.drew ⟨rfl,hS2⟩)
  have HKX:Hid (KeptX V4.heap.size dg V4 V5):=lid (fun k hk hx=>hS2.2.2 k hk hx)
  clear hS2 CS
  go_wp2_with fail
  refine hK.out _ _ (sincex HKX.out) ?_
  clear hK K
  repeat (first | (refine qk ?_;simp only [Act.put,q1,q2,q3]) | (refine qf ?_;intro K hK;go_big_quiet_op;go_big_quiet_on))
  refine seq_nil ?_
  go_wp2_with fail
  go_ret
  exact HS.out
theorem chg7_any (w0 w:World) (L:List Mw) (g cap j:Nat) (p t:ByteArray) (ob oo oc:Nat) (o:Dw) (nb no nc:Nat) (n:Dw) (x:Dw) (s:Nat) (hj:j<L.length) (h:MO w0 w (.slice (some ⟨g,0,none⟩) L.length cap) L) (he:KwA w0 ⟨7,p,t,some ⟨ob,oo,none⟩,[o],oc,some ⟨nb,no,none⟩,[n],nc⟩)
  (hs:w.heap[s]?=some (.cells #[.func (.func 52) #[] #[]] 95 (0,0))) (hso:s∉L.flatMap blkM) (hA:AscK Dw.id ltI L[j].decls) (hf:fnd Dw.id L[j].decls o.id=some x) (hmx:(menW 7 x).x=o.x) (hcx:cntE x.body≤1000) (hn:L[j].decls.length≤100000) (hid:∀ d∈L[j].decls,1≤d.id∧d.id≤999999) (hdi:1≤o.id∧o.id≤999999) :
  Calls Tryz.prog 77 #[.pointer (some ⟨g,j*3,none⟩),.agg #[.int .i64 7,.string p,.string t,.slice (some ⟨ob,oo,none⟩) 1 oc,.slice (some ⟨nb,no,none⟩) 1 nc],.pointer (some ⟨s,0,none⟩)] w (EfP w0 w g cap L j ⟨L[j].label,L[j].uses,(L[j].decls.set (idxK Dw.id ltI L[j].decls o.id) (⟨x.id,x.kind,x.pub,n.na,n.names,n.ncap,x.doubt,x.body⟩:Dw)).map Dw.x⟩) :=
 chgP_any 7 _ (.inl ⟨rfl,rfl⟩) n x ⟨x.id,x.kind,x.pub,n.na,n.names,n.ncap,x.doubt,x.body⟩ (fun V base dg c D a ha hax h=>by rw [← hax];exact set4_any V base dg c a D ha h n) (fun d1 d2=>⟨d1.id,d1.kind,d2.names,d1.body⟩) w0 w L g cap j p t ob oo oc o nb no nc s hj h he hs hso hA hf hmx hcx hn hid hdi
theorem chg8_any (w0 w:World) (L:List Mw) (g cap j:Nat) (p t:ByteArray) (ob oo oc:Nat) (o:Dw) (nb no nc:Nat) (n:Dw) (x:Dw) (s:Nat) (hj:j<L.length) (h:MO w0 w (.slice (some ⟨g,0,none⟩) L.length cap) L) (he:KwA w0 ⟨8,p,t,some ⟨ob,oo,none⟩,[o],oc,some ⟨nb,no,none⟩,[n],nc⟩)
  (hs:w.heap[s]?=some (.cells #[.func (.func 53) #[] #[]] 95 (0,0))) (hso:s∉L.flatMap blkM) (hA:AscK Dw.id ltI L[j].decls) (hf:fnd Dw.id L[j].decls o.id=some x) (hmx:(menW 8 x).x=o.x) (hcx:cntE x.body≤1000) (hn:L[j].decls.length≤100000) (hid:∀ d∈L[j].decls,1≤d.id∧d.id≤999999) (hdi:1≤o.id∧o.id≤999999) :
  Calls Tryz.prog 77 #[.pointer (some ⟨g,j*3,none⟩),.agg #[.int .i64 8,.string p,.string t,.slice (some ⟨ob,oo,none⟩) 1 oc,.slice (some ⟨nb,no,none⟩) 1 nc],.pointer (some ⟨s,0,none⟩)] w (EfP w0 w g cap L j ⟨L[j].label,L[j].uses,(L[j].decls.set (idxK Dw.id ltI L[j].decls o.id) (⟨x.id,x.kind,x.pub,x.na,x.names,x.ncap,x.doubt,n.body⟩:Dw)).map Dw.x⟩) :=
 chgP_any 8 _ (.inr (.inl ⟨rfl,rfl⟩)) n x ⟨x.id,x.kind,x.pub,x.na,x.names,x.ncap,x.doubt,n.body⟩ (fun V base dg c D a ha hax h=>by rw [← hax];exact set5_any V base dg c a D ha h n) (fun d1 d2=>⟨d1.id,d1.kind,d1.names,d2.body⟩) w0 w L g cap j p t ob oo oc o nb no nc s hj h he hs hso hA hf hmx hcx hn hid hdi
theorem chg9_any (w0 w:World) (L:List Mw) (g cap j:Nat) (p t:ByteArray) (ob oo oc:Nat) (o:Dw) (nb no nc:Nat) (n:Dw) (x:Dw) (s:Nat) (hj:j<L.length) (h:MO w0 w (.slice (some ⟨g,0,none⟩) L.length cap) L) (he:KwA w0 ⟨9,p,t,some ⟨ob,oo,none⟩,[o],oc,some ⟨nb,no,none⟩,[n],nc⟩)
  (hs:w.heap[s]?=some (.cells #[.func (.func 54) #[] #[]] 95 (0,0))) (hso:s∉L.flatMap blkM) (hA:AscK Dw.id ltI L[j].decls) (hf:fnd Dw.id L[j].decls o.id=some x) (hmx:(menW 9 x).x=o.x) (hcx:cntE x.body≤1000) (hn:L[j].decls.length≤100000) (hid:∀ d∈L[j].decls,1≤d.id∧d.id≤999999) (hdi:1≤o.id∧o.id≤999999) :
  Calls Tryz.prog 77 #[.pointer (some ⟨g,j*3,none⟩),.agg #[.int .i64 9,.string p,.string t,.slice (some ⟨ob,oo,none⟩) 1 oc,.slice (some ⟨nb,no,none⟩) 1 nc],.pointer (some ⟨s,0,none⟩)] w (EfP w0 w g cap L j ⟨L[j].label,L[j].uses,(L[j].decls.set (idxK Dw.id ltI L[j].decls o.id) (⟨x.id,n.kind,n.pub,x.na,x.names,x.ncap,n.doubt,x.body⟩:Dw)).map Dw.x⟩) :=
 chgP_any 9 _ (.inr (.inr ⟨rfl,rfl⟩)) n x ⟨x.id,n.kind,n.pub,x.na,x.names,x.ncap,n.doubt,x.body⟩ (fun V base dg c D a ha hax h=>by rw [← hax];exact set6_any V base dg c a D ha h n) (fun d1 d2=>⟨d1.id,d2.kind,d1.names,d1.body⟩) w0 w L g cap j p t ob oo oc o nb no nc s hj h he hs hso hA hf hmx hcx hn hid hdi
end Go.Proofs.YtgcceepadlmelaaGreatDoor
