import Derived.Test.YtgcceepadlmelaaGreatDoorQAJ
import Derived.Test.YtgcceepadlmelaaGreatDoorQAO
import Derived.Test.YtgcceepadlmelaaGreatDoorQAN
namespace Go.Proofs.YtgcceepadlmelaaGreatDoor
set_option maxRecDepth 100000
set_option maxHeartbeats 8000000
open Go.RowKit
theorem one1_any (w0 w:World) (L:List Mw) (v mv:Value) (p t:ByteArray) (oa na:Option Addr) (on oc nn nc i:Nat) (h:MO w0 w v L) (hA:AscK Mw.label ltL L) (hn:L.length≤100000) (hi:idxK Mw.label ltL L p=i) (hf:(fnd Mw.label L p).isSome=false) (hp:p.size≤maxLen) :
  Calls Tryz.prog 28 #[v,.agg #[.int .i64 1,.string p,.string t,.slice oa on oc,.slice na nn nc],mv] w fun r w'=>∃ v',r=.returned (.tuple #[v',.int .i64 0])∧MO w0 w' v' (L.take i++⟨p,none,[],0,none,[],0⟩::L.drop i)∧Stp w w' v v' L (L.take i++⟨p,none,[],0,none,[],0⟩::L.drop i):=by
 have hil:i≤L.length:=by rw [← hi];exact idx_le
 obtain ⟨W0,hW0⟩:∃ y,w.alloc (.cells #[.int .i64 1,.string p,.string t,.slice oa on oc,.slice na nn nc] 52)=y:=⟨_,rfl⟩
 have hb0:Below w.heap.size w W0:=by rw [← hW0];exact ba _ _
 have hR:W0.heap[w.heap.size]?=some (.cells #[.int .i64 1,.string p,.string t,.slice oa on oc,.slice na nn nc] 52 (0,0)):=by rw [← hW0];exact h_new rfl _
 have h0:=h.below hb0
 obtain ⟨ao,cap,rfl,hmla⟩:=h0.mla
 have CB:=lid (findModule_any L p L.length cap ao W0 rfl hmla.sl hA hn)
 rw [hi,hf] at CB
 have hall:∀ V,Below W0.heap.size W0 V→V.cell? ⟨w.heap.size,0,none⟩=some (.int .i64 1)∧V.cell? ⟨w.heap.size,1,none⟩=some (.string p)∧V.cell? ⟨w.heap.size,2,none⟩=some (.string t)∧V.cell? ⟨w.heap.size,3,none⟩=some (.slice oa on oc)∧V.cell? ⟨w.heap.size,4,none⟩=some (.slice na nn nc)∧w.heap.size<V.heap.size:=fun V hb=>by
  have hR':=(hb.block _ (row_lt hR)).trans hR
  exact ⟨row_cell hR' 0,row_cell hR' 1,row_cell hR' 2,row_cell hR' 3,row_cell hR' 4,row_lt hR'⟩
 have HALL:=lid hall
 have HW0:=lid hW0
 have H0:=lid h0
 have HB0:=lid hb0
 have CI:=lid (fun V (hb:Below W0.heap.size W0 V) W1 (hW1:W1=V.alloc (.cells #[.string p,.slice none 0 0,.slice none 0 0] 45))=>InsM_any (W:=W1) (xb:=V.heap.size) (h0.below (hb.trans (by rw [hW1];exact (ba V _).mono hb.size))) hil (by omega) hp (by rw [hW1];exact h_new rfl _) (fun e=>by have:=(own_blk (h0.below hb).own e).2;omega))
 obtain ⟨x0,x1,x2,x3,x4,lx⟩:=hall W0 (Below.refl _ _)
 clear hall hW0 hb0 hR h0 hmla h hA hi hf hp
 go_enter Tryz.func28,Tryz.ntmps28
 go_wp2_with fail
 rw [HW0.out]
 go_wp2_with fail
 (with_reducible refine (CB.out).mono ?_);rintro e V ⟨rfl,hb⟩
 have HB:=lid hb
 clear hb CB x0 x1 x2 x3 x4 lx
 obtain ⟨x0,x1,x2,x3,x4,lx⟩:=HALL.out V HB.out
 obtain ⟨W1,hW1⟩:∃ y,V.alloc (.cells #[.string p,.slice none 0 0,.slice none 0 0] 45)=y:=⟨_,rfl⟩
 have CI2:=lid (CI.out V HB.out W1 hW1.symm)
 have HBW:Hid (Below V.heap.size V W1):=lid (by rw [← hW1];exact ba _ _)
 have HW1:=lid hW1
 clear hW1 CI
 go_wp2_with fail
 rw [HW1.out]
 (with_reducible refine (CI2.out).mono ?_);rintro e w2 ⟨v',rfl,hm,hs⟩
 have HM:=lid hm
 have HS:=lid hs
 clear hm hs CI2
 go_wp2_with fail
 go_ret2
 exact ⟨_,rfl,HM.out,(Stp.below HB0.out).trans ((Stp.below HB.out).trans ((Stp.below HBW.out).trans HS.out))⟩
theorem one2_any (w0 w:World) (L:List Mw) (v mv:Value) (p t:ByteArray) (oa na:Option Addr) (on oc nn nc i:Nat) (h:MO w0 w v L) (hA:AscK Mw.label ltL L) (hn:L.length≤100000) (hi:idxK Mw.label ltL L p=i) (hil:i<L.length) (hf:(fnd Mw.label L p).isSome=true) (hu:L[i].uses=[]) (hd:L[i].decls=[]) :
  Calls Tryz.prog 28 #[v,.agg #[.int .i64 2,.string p,.string t,.slice oa on oc,.slice na nn nc],mv] w fun r w'=>∃ v',r=.returned (.tuple #[v',.int .i64 0])∧MO w0 w' v' (L.take i++L.drop (i+1))∧Stp w w' v v' L (L.take i++L.drop (i+1)):=by
 obtain ⟨W0,hW0⟩:∃ y,w.alloc (.cells #[.int .i64 2,.string p,.string t,.slice oa on oc,.slice na nn nc] 52)=y:=⟨_,rfl⟩
 have hb0:Below w.heap.size w W0:=by rw [← hW0];exact ba _ _
 have hR:W0.heap[w.heap.size]?=some (.cells #[.int .i64 2,.string p,.string t,.slice oa on oc,.slice na nn nc] 52 (0,0)):=by rw [← hW0];exact h_new rfl _
 have h0:=h.below hb0
 obtain ⟨ao,cap,rfl,hmla⟩:=h0.mla
 have CB:=lid (findModule_any L p L.length cap ao W0 rfl hmla.sl hA hn)
 rw [hi,hf] at CB
 have hall:∀ V,Below W0.heap.size W0 V→V.cell? ⟨w.heap.size,0,none⟩=some (.int .i64 2)∧V.cell? ⟨w.heap.size,1,none⟩=some (.string p)∧V.cell? ⟨w.heap.size,2,none⟩=some (.string t)∧V.cell? ⟨w.heap.size,3,none⟩=some (.slice oa on oc)∧V.cell? ⟨w.heap.size,4,none⟩=some (.slice na nn nc)∧w.heap.size<V.heap.size:=fun V hb=>by
  have hR':=(hb.block _ (row_lt hR)).trans hR
  exact ⟨row_cell hR' 0,row_cell hR' 1,row_cell hR' 2,row_cell hR' 3,row_cell hR' 4,row_lt hR'⟩
 obtain ⟨g,rfl⟩:∃ g,ao=some ⟨g,0,none⟩:=by
  rcases h0.own.2 with ⟨_,h5⟩ | ⟨g,c',cur,e5,_⟩
  ·omega
  ·injection e5 with e5
   exact ⟨g,e5⟩
 have HALL:=lid hall
 have HW0:=lid hW0
 have H0:=lid h0
 have HB0:=lid hb0
 have CI:=lid (fun V (hb:Below W0.heap.size W0 V)=>DelM_any (h0.below hb) hil (by omega))
 have hcell:∀ V,Below W0.heap.size W0 V→V.cell? ⟨g,i*3+1,none⟩=some (.slice L[i].ua 0 L[i].ucap)∧V.cell? ⟨g,i*3+2,none⟩=some (.slice L[i].da 0 L[i].dcap)∧g<V.heap.size:=fun V hb=>by
  have hc:=(h0.below hb).cells hil
  refine ⟨?_,?_,hc.1⟩
  ·rw [hc.2.2.2.1]
   show some (Value.slice _ L[i].uses.length _)=_
   rw [hu]
   rfl
  ·rw [hc.2.2.2.2.1]
   show some (Value.slice _ L[i].decls.length _)=_
   rw [hd]
   rfl
 have HCELL:=lid hcell
 obtain ⟨x0,x1,x2,x3,x4,lx⟩:=hall W0 (Below.refl _ _)
 clear hall hW0 hb0 hR h0 hmla h hA hi hf hu hd hcell
 go_enter Tryz.func28,Tryz.ntmps28
 go_wp2_with fail
 rw [HW0.out]
 go_wp2_with fail
 (with_reducible refine (CB.out).mono ?_);rintro e V ⟨rfl,hb⟩
 have HB:=lid hb
 clear hb CB x0 x1 x2 x3 x4 lx
 obtain ⟨x0,x1,x2,x3,x4,lx⟩:=HALL.out V HB.out
 obtain ⟨c1,c2,lg⟩:=HCELL.out V HB.out
 go_wp2_with fail
 (with_reducible refine (CI.out _ HB.out).mono ?_);rintro e w2 ⟨v',rfl,hm,hs⟩
 have HM:=lid hm
 have HS:=lid hs
 clear hm hs CI
 go_wp2_with fail
 go_ret2
 exact ⟨_,rfl,HM.out,(Stp.below HB0.out).trans ((Stp.below HB.out).trans HS.out)⟩
end Go.Proofs.YtgcceepadlmelaaGreatDoor
namespace Go.Proofs.YtgcceepadlmelaaGreatDoor
set_option maxRecDepth 100000
set_option maxHeartbeats 8000000
open Go.RowKit
theorem eff2_any (w0 w:World) (L:List Mw) (g cap j:Nat) (e:Kw) (hj:j<L.length) (h:MO w0 w (.slice (some ⟨g,0,none⟩) L.length cap) L) (_he:KwA w0 e) (hA:AscU L[j].uses) (hf:(fndU L[j].uses e.text).isSome=true) (hn:L[j].uses.length≤100000) :
  Calls Tryz.prog 46 #[.pointer (some ⟨g,j*3,none⟩),.agg (kca e)] w (EfP w0 w g cap L j ⟨L[j].label,oneU L[j].uses e.text false,L[j].decls.map Dw.x⟩):=by
 obtain ⟨W0,hW0⟩:∃ y,w.alloc (.cells (kca e) 52)=y:=⟨_,rfl⟩
 have hb0:Below w.heap.size w W0:=by rw [← hW0];exact ba _ _
 have hR:W0.heap[w.heap.size]?=some (.cells (kca e) 52 (0,0)):=by rw [← hW0];exact h_new rfl _
 have h0:=h.below hb0
 obtain ⟨V,hV⟩:∃ y,W0.drew=y:=⟨_,rfl⟩
 have hv:MO w0 V (.slice (some ⟨g,0,none⟩) L.length cap) L:=by rw [← hV];exact h0.below (Below.refl _ _).drew
 have hRV:V.heap[w.heap.size]?=some (.cells (kca e) 52 (0,0)):=by rw [← hV];exact hR
 obtain ⟨hg,hg2,c0,c1',c2',cf⟩:=h0.cells hj
 have c1:W0.cell? ⟨g,j*3+1,none⟩=some (.slice L[j].ua L[j].uses.length L[j].ucap):=c1'
 have d1:V.cell? ⟨g,j*3+1,none⟩=some (.slice L[j].ua L[j].uses.length L[j].ucap):=(hv.cells hj).2.2.2.1
 have dg:=(hv.cells hj).1
 clear c1' c2' c0 cf
 have hm:=((h0.el _ (List.getElem_mem hj)).mwa h0.bel).uses
 have CB:=lid (fun W (hb:Below W0.heap.size W0 W)=>bsS_any L[j].uses e.text _ _ _ W (hm.below hb) hA hn)
 have x2:W0.cell? ⟨w.heap.size,2,none⟩=some (.string e.text):=row_cell hR 2
 have y2:V.cell? ⟨w.heap.size,2,none⟩=some (.string e.text):=row_cell hRV 2
 have lx:=row_lt hR
 have ly:=row_lt hRV
 rw [hf] at CB
 obtain ⟨i,hi⟩:∃ i,idxK (fun x:ByteArray=>x) ltL L[j].uses e.text=i:=⟨_,rfl⟩
 have hil:i<L[j].uses.length:=by
  obtain ⟨x,hx⟩:=Option.isSome_iff_exists.1 hf
  rw [← hi];exact (at_some ltL_k hA hx).1
 rw [hi] at CB
 obtain ⟨us,hus⟩:∃ us,oneU L[j].uses e.text false=us:=⟨_,rfl⟩
 have hus2:us=L[j].uses.take i++L[j].uses.drop (i+1):=by rw [← hus,← hi];rfl
 rw [hus]
 have CI:=lid (DelU_any hv hj hus2 hil (by omega))
 have HW0:=lid hW0
 have HV:=lid hV
 have HST:Hid (Stp w V (.slice (some ⟨g,0,none⟩) L.length cap) (.slice (some ⟨g,0,none⟩) L.length cap) L L):=lid ((Stp.below hb0).trans (Stp.below (by rw [← hV];exact (Below.refl _ _).drew)))
 clear hW0 hb0 h0 hR h _he hA hf hi hm hV hv hRV hus hus2
 go_enter Tryz.func46,Tryz.ntmps46
 go_wp2_with fail
 rw [HW0.out]
 refine qd (fun w'=>∃ s:Since W0.heap.size W0,w'=s.world) [(0,true),(1,true),(2,true),(3,true),(4,true),(5,true),(6,false),(7,true),(8,true),(9,true),(10,false),(11,false)] ?_
 repeat (first | (refine qk ?_;simp only [Act.put,q1,q2,q3]) | (refine qf ?_;intro K hK;go_big_quiet_op;go_big_quiet_on))
 refine qc ?_
 intro K hK
 go_wp2_with fail
 (with_reducible refine (CB.out _ (Below.refl _ _).drew).mono ?_);rintro e w1 ⟨rfl,rfl⟩
 go_wp2_with fail
 refine hK.out _ _ (since ((Below.refl _ _).drew)) ?_
 clear hK K
 repeat (first | (refine qk ?_;simp only [Act.put,q1,q2,q3]) | (refine qf ?_;intro K hK;go_big_quiet_op;go_big_quiet_on))
 refine qc ?_
 intro K hK
 go_wp2_with fail
 refine hK.out _ _ (since ((Below.refl _ _).drew)) ?_
 clear hK K
 repeat (first | (refine qk ?_;simp only [Act.put,q1,q2,q3]) | (refine qf ?_;intro K hK;go_big_quiet_op;go_big_quiet_on))
 refine qc ?_
 intro K hK
 go_wp2_with fail
 refine hK.out _ _ (since ((Below.refl _ _).drew)) ?_
 clear hK K
 repeat (first | (refine qk ?_;simp only [Act.put,q1,q2,q3]) | (refine qf ?_;intro K hK;go_big_quiet_op;go_big_quiet_on))
 refine seq_nil ?_
 clear CB
 go_wp2_with fail
 rw [HV.out]
 clear c1 x2
 go_wp2_with fail
 (with_reducible refine (CI.out).mono ?_);rintro e w2 ⟨ao,c,rfl,he,hr,hq1,hq2,hq3⟩
 have HRR:=lid hr
 clear he hr CI
 go_wp2_with fail
 go_ret
 exact ⟨rfl,_,rfl,HRR.out.1,HST.out.trans HRR.out.2⟩
end Go.Proofs.YtgcceepadlmelaaGreatDoor
namespace Go.Proofs.YtgcceepadlmelaaGreatDoor
set_option maxRecDepth 100000
set_option maxHeartbeats 8000000
open Go.RowKit
theorem eff3_any (w0 w:World) (L:List Mw) (g cap j:Nat) (e:Kw) (d:Dw) (hen:e.new=[d]) (hj:j<L.length) (h:MO w0 w (.slice (some ⟨g,0,none⟩) L.length cap) L) (he:KwA w0 e) (hA:AscK Dw.id ltI L[j].decls) (hf:(fnd Dw.id L[j].decls d.id).isSome=false) (hn:L[j].decls.length≤100000) (hid:∀ d∈L[j].decls,1≤d.id∧d.id≤999999) (hdi:1≤d.id∧d.id≤999999) :
  Calls Tryz.prog 48 #[.pointer (some ⟨g,j*3,none⟩),.agg (kca e)] w (EfP w0 w g cap L j ⟨L[j].label,L[j].uses,(insK Dw.id ltI L[j].decls d).map Dw.x⟩):=by
 obtain ⟨W0,hW0⟩:∃ y,w.alloc (.cells (kca e) 52)=y:=⟨_,rfl⟩
 have hb0:Below w.heap.size w W0:=by rw [← hW0];exact ba _ _
 have hR:W0.heap[w.heap.size]?=some (.cells (kca e) 52 (0,0)):=by rw [← hW0];exact h_new rfl _
 have h0:=h.below hb0
 have hnew:=he.new
 rw [hen] at hnew
 have hdw:DwA w0 d:=hnew.el d (List.mem_singleton.2 rfl)
 obtain ⟨nb,no,hna,hnl,hnc⟩:=dla_row (j:=0) hnew h0.bel (by simp) (by simp)
 have hnb0:nb<w0.heap.size:=by
  obtain ⟨b,o,e1,h1,_⟩:=hnew.sl.at_ (k:=0) (by simp)
  rw [hna] at e1
  cases e1
  exact h1
 rw [show ([d]:List Dw)[0]=d from rfl] at hnc
 have hall:∀ V,Below W0.heap.size W0 V→(V.cell? ⟨g,j*3+2,none⟩=some (.slice L[j].da L[j].decls.length L[j].dcap)∧V.cell? ⟨w.heap.size,4,none⟩=some (.slice (some ⟨nb,no,none⟩) 1 e.ncap)∧g<V.heap.size∧w.heap.size<V.heap.size∧nb<V.heap.size)∧(V.cell? ⟨nb,no,none⟩=some (.int .i64 d.id)∧V.cell? ⟨nb,no+1,none⟩=some (.int .i64 d.kind)∧V.cell? ⟨nb,no+2,none⟩=some (.bool d.pub)∧V.cell? ⟨nb,no+3,none⟩=some (.slice d.na d.names.length d.ncap)∧V.cell? ⟨nb,no+4,none⟩=some (.bool d.doubt)∧V.cell? ⟨nb,no+5,none⟩=some (.int .i64 d.body.kind)∧V.cell? ⟨nb,no+6,none⟩=some (.string d.body.name)∧V.cell? ⟨nb,no+7,none⟩=some (.string d.body.more)∧V.cell? ⟨nb,no+8,none⟩=some (.int .i64 d.body.int)∧V.cell? ⟨nb,no+9,none⟩=some (.int .i64 d.body.den)∧V.cell? ⟨nb,no+10,none⟩=some (.slice d.body.ao d.body.sub.length d.body.cap)):=fun V hb=>by
  have hR':=(hb.block _ (row_lt hR)).trans hR
  have hc:=(h0.below hb).cells hj
  refine ⟨⟨hc.2.2.2.2.1,?_,hc.1,row_lt hR',Nat.lt_of_lt_of_le hnl hb.size⟩,?_,?_,?_,?_,?_,?_,?_,?_,?_,?_,?_⟩
  ·have:V.cell? ⟨w.heap.size,4,none⟩=some (.slice e.na e.new.length e.ncap):=row_cell hR' 4
   rw [hna,hen] at this
   exact this
  ·have:=hnc 0 _ rfl (by omega);rw [← bc hb hnl _] at this;simpa using this
  ·have:=hnc 1 _ rfl (by omega);rw [← bc hb hnl _] at this;simpa using this
  ·have:=hnc 2 _ rfl (by omega);rw [← bc hb hnl _] at this;simpa using this
  ·have:=hnc 3 _ rfl (by omega);rw [← bc hb hnl _] at this;simpa using this
  ·have:=hnc 4 _ rfl (by omega);rw [← bc hb hnl _] at this;simpa using this
  ·have:=hnc 5 _ rfl (by omega);rw [← bc hb hnl _] at this;simpa using this
  ·have:=hnc 6 _ rfl (by omega);rw [← bc hb hnl _] at this;simpa using this
  ·have:=hnc 7 _ rfl (by omega);rw [← bc hb hnl _] at this;simpa using this
  ·have:=hnc 8 _ rfl (by omega);rw [← bc hb hnl _] at this;simpa using this
  ·have:=hnc 9 _ rfl (by omega);rw [← bc hb hnl _] at this;simpa using this
  ·have:=hnc 10 _ rfl (by omega);rw [← bc hb hnl _] at this;simpa using this
 have hm:=((h0.el _ (List.getElem_mem hj)).mwa h0.bel).decls
 have CB:=lid (fun W (hb:Below W0.heap.size W0 W)=>findDecl_any L[j].decls d.id _ _ _ W (hm.below hb) hA hn hid hdi)
 obtain ⟨⟨c1,x4,_,lx,lnb⟩,n0,n1,n2,n3,n4,n5,n6,n7,n8,n9,n10⟩:=hall W0 (Below.refl _ _)
 rw [hf] at CB
 obtain ⟨i,hi⟩:∃ i,idxK Dw.id ltI L[j].decls d.id=i:=⟨_,rfl⟩
 have hil:i≤L[j].decls.length:=by rw [← hi];exact idx_le
 rw [hi] at CB
 obtain ⟨us,hus⟩:∃ us,insK Dw.id ltI L[j].decls d=us:=⟨_,rfl⟩
 have hus2:us=L[j].decls.take i++d::L[j].decls.drop i:=by rw [← hus,← hi];rfl
 rw [hus]
 have HNX:Hid (∀ k,(dV L[j]).ownBlock=some k→k<w.heap.size):=lid (fun k hk=>(own_blk (h.el _ (List.getElem_mem hj)).ds hk).2)
 have HW0:=lid hW0
 have HALL:=lid hall
 have H0:=lid h0
 have HB0:=lid hb0
 have HUS:=lid hus2
 have HDW:=lid hdw
 have HNB:=lid hnb0
 clear hW0 hb0 h0 hR h he hA hf hi hm hen hid hdi hnew hdw hna hnc hnb0 hnl hus hus2 hall
 go_enter Tryz.func48,Tryz.ntmps48
 go_wp2_with fail
 rw [HW0.out]
 refine qd (fun w'=>∃ s:Since W0.heap.size W0,w'=s.world) [(0,true),(1,true),(2,true),(3,true),(4,true),(5,true),(6,true),(7,true),(8,true),(9,false),(10,true),(11,true),(12,true),(13,false),(14,false)] ?_
 repeat (first | (refine qk ?_;simp only [Act.put,q1,q2,q3]) | (refine qf ?_;intro K hK;go_big_quiet_op;go_big_quiet_on))
 refine qc ?_
 intro K hK
 go_wp2_with fail
 (with_reducible refine (CB.out _ (Below.refl _ _).drew).mono ?_);rintro e V ⟨rfl,hb1⟩
 have HBV:=lid ((Below.refl W0.heap.size W0).drew.trans hb1)
 clear hb1 CB
 go_wp2_with fail
 refine hK.out _ _ (since HBV.out) ?_
 clear hK K
 repeat (first | (refine qk ?_;simp only [Act.put,q1,q2,q3]) | (refine qf ?_;intro K hK;go_big_quiet_op;go_big_quiet_on))
 refine qc ?_
 intro K hK
 go_wp2_with fail
 refine hK.out _ _ (since HBV.out) ?_
 clear hK K
 repeat (first | (refine qk ?_;simp only [Act.put,q1,q2,q3]) | (refine qf ?_;intro K hK;go_big_quiet_op;go_big_quiet_on))
 refine qc ?_
 intro K hK
 go_wp2_with fail
 refine hK.out _ _ (since HBV.out) ?_
 clear hK K
 repeat (first | (refine qk ?_;simp only [Act.put,q1,q2,q3]) | (refine qf ?_;intro K hK;go_big_quiet_op;go_big_quiet_on))
 refine seq_nil ?_
 clear c1 x4 lx lnb n0 n1 n2 n3 n4 n5 n6 n7 n8 n9 n10
 have hv:=H0.out.below HBV.out
 obtain ⟨⟨d1,y4,dg,ly,ln⟩,m0,m1,m2,m3,m4,m5,m6,m7,m8,m9,m10⟩:=HALL.out V HBV.out
 have hE:=(hv.el _ (List.getElem_mem hj)).ds
 have hE0:=(H0.out.el _ (List.getElem_mem hj)).ds
 obtain ⟨ub,hu1,hu2⟩:=left_out (w0:=w0) (W:=V) hE (Nat.le_refl _)
 have hgo:g∈obs (.slice (some ⟨g,0,none⟩) L.length cap):=mem_obs.2 rfl
 have hnd:=nodup_blkM hv hj
 rw [List.nodup_append] at hnd
 have ng:¬ g=ub:=fun e=>by
  rcases hu2 with h5 | h5
  ·omega
  ·exact hnd.2.2 g hgo ub (List.mem_append.2 (.inr (mem_obs.2 h5))) e
 have nn:¬ nb=ub:=fun e=>by
  rcases hu2 with h5 | h5
  ·omega
  ·have:=(own_blk hE h5).1
   have:=HNB.out
   omega
 have nx:¬ w.heap.size=ub:=fun e=>by
  rcases hu2 with h5 | h5
  ·omega
  ·have:=HNX.out ub h5
   omega
 obtain ⟨W1,hW1⟩:∃ y,(V.alloc (.cells (dca d) 65)).drew=y:=⟨_,rfl⟩
 have hb1:Below V.heap.size V W1:=by rw [← hW1];exact ((Below.refl _ _).alloc (Nat.le_refl _) _).drew
 have CI:=lid (InsD_any (hv.below hb1) hj (xb:=V.heap.size) HUS.out hil (by omega) (by rw [← hW1];exact h_new (w:=V) rfl _) (fun e=>by have:=(own_blk hE e).2;omega) HDW.out)
 have HW1:=lid hW1
 have HU1:=lid hu1
 have HST:Hid (Stp w W1 (.slice (some ⟨g,0,none⟩) L.length cap) (.slice (some ⟨g,0,none⟩) L.length cap) L L):=lid ((Stp.below HB0.out).trans ((Stp.below HBV.out).trans (Stp.below hb1)))
 have q1:=SinceX.cell (B:=V.heap.size) (X:=ub) (W:=V) g (j*3+2) dg ng d1
 have q2:=SinceX.cell (B:=V.heap.size) (X:=ub) (W:=V) w.heap.size 4 ly nx y4
 have r0:=SinceX.cell (B:=V.heap.size) (X:=ub) (W:=V) nb (no) ln nn m0
 have r1:=SinceX.cell (B:=V.heap.size) (X:=ub) (W:=V) nb (no+1) ln nn m1
 have r2:=SinceX.cell (B:=V.heap.size) (X:=ub) (W:=V) nb (no+2) ln nn m2
 have r3:=SinceX.cell (B:=V.heap.size) (X:=ub) (W:=V) nb (no+3) ln nn m3
 have r4:=SinceX.cell (B:=V.heap.size) (X:=ub) (W:=V) nb (no+4) ln nn m4
 have r5:=SinceX.cell (B:=V.heap.size) (X:=ub) (W:=V) nb (no+5) ln nn m5
 have r6:=SinceX.cell (B:=V.heap.size) (X:=ub) (W:=V) nb (no+6) ln nn m6
 have r7:=SinceX.cell (B:=V.heap.size) (X:=ub) (W:=V) nb (no+7) ln nn m7
 have r8:=SinceX.cell (B:=V.heap.size) (X:=ub) (W:=V) nb (no+8) ln nn m8
 have r9:=SinceX.cell (B:=V.heap.size) (X:=ub) (W:=V) nb (no+9) ln nn m9
 have r10:=SinceX.cell (B:=V.heap.size) (X:=ub) (W:=V) nb (no+10) ln nn m10
 clear hv hE hE0 hu1 hu2 hgo hnd hW1 hb1 d1 y4 m0 m1 m2 m3 m4 m5 m6 m7 m8 m9 m10
 go_wp2_with fail
 refine wp_region_seqC 14 (fun w'=>∃ s:SinceX V.heap.size ub V,w'=s.world) [(0,true),(1,true),(2,true),(3,true),(4,true),(5,true),(6,true),(7,true),(8,true),(9,true),(10,false),(11,false),(12,true),(13,true),(14,false)] (by kernel_rfl) (by kernel_rfl) (by intro c d v a w h;first | (cases d <;> exact h) | cases h.1) (sincex (KeptX.refl _ _ _).drew) ?_
 repeat (first | (refine seqL_skip (by rfl) (by rfl) (by rfl) ?_;simp only [Act.put,q1,q2,q3]) | (refine seqL_float (by rfl) (by rfl) (by rfl) (by rfl) ?_;intro K hK;go_big_quiet_op;go_big_quiet_on))
 refine seqL_chain (by rfl) ?_
 intro K hK
 go_wp2_with fail
 rw [HW1.out]
 refine hK.out _ _ (sincex (by rw [← HW1.out];exact ((KeptX.refl V.heap.size ub V).alloc (Nat.le_refl _) (.cells (dca d) 65)).drew)) ?_
 clear hK K
 repeat (first | (refine seqL_skip (by rfl) (by rfl) (by rfl) ?_;simp only [Act.put,q1,q2,q3]) | (refine seqL_float (by rfl) (by rfl) (by rfl) (by rfl) ?_;intro K hK;go_big_quiet_op;go_big_quiet_on))
 refine seqL_chain (by rfl) ?_
 intro K hK
 go_wp2_with fail
 (with_reducible refine (CI.out).mono ?_);rintro e w2 ⟨ao,c,rfl,he,hr,hq1,hq2,hq3⟩
 have HE:=lid he
 have HRR:=lid hr
 clear he hr CI q1 q2 r0 r1 r2 r3 r4 r5 r6 r7 r8 r9 r10
 go_wp2_with fail
 refine hK.out _ _ (sincex (by have h1:=HE.out;rw [← HW1.out] at h1;exact else_keptx h1 HU1.out)) ?_
 clear hK K
 repeat (first | (refine seqL_skip (by rfl) (by rfl) (by rfl) ?_;simp only [Act.put,q1,q2,q3]) | (refine seqL_float (by rfl) (by rfl) (by rfl) (by rfl) ?_;intro K hK;go_big_quiet_op;go_big_quiet_on))
 refine seqL_last (by rfl) (by rfl) ?_
 intro K hK
 go_wp2_with fail
 refine hK.out _ _ ?_
 clear hK K
 go_wp2_with fail
 go_ret
 exact ⟨rfl,_,rfl,HRR.out.1,HST.out.trans HRR.out.2⟩
end Go.Proofs.YtgcceepadlmelaaGreatDoor
namespace Go.Proofs.YtgcceepadlmelaaGreatDoor
set_option maxRecDepth 100000
set_option maxHeartbeats 4000000
open Go.RowKit
def SetP (w:World) (base dg cap:Nat) (D:List Dw) (a:Nat) (d:Dw) (r:Ending) (w':World):Prop :=
 r=.returned (.tuple #[])∧w'.ownsRow base 65 11 (.slice (some ⟨dg,0,none⟩) D.length cap) D.length (dcs (D.set a d))∧Below base w w'∧(∀ k,k<w.heap.size→k≠dg→w'.heap[k]?=w.heap[k]?)
theorem set_part {w:World} {base dg cap a:Nat} {D:List Dw} (h:w.ownsRow base 65 11 (.slice (some ⟨dg,0,none⟩) D.length cap) D.length (dcs D)) (ha:a<D.length) {i:Nat} {vs:List Value} {d:Dw} (hd:dce d=(dce D[a]).take i++vs++(dce D[a]).drop (i+vs.length)) (hi:i+vs.length≤11) :
  (w.setCells dg (a*11+i) vs).ownsRow base 65 11 (.slice (some ⟨dg,0,none⟩) D.length cap) D.length (dcs (D.set a d)):=by
 have hp:a*11+i+vs.length≤D.length*11:=by have:(a+1)*11≤D.length*11:=Nat.mul_le_mul_right _ ha;omega
 have h2:=(own_cells h (a*11+i) vs hp).2.2
 have h3:=flat_set (enc:=dce) (sz:=11) dce_length ha hd hi
 have h4:(dcs D).take (a*11+i)++vs++(dcs D).drop (a*11+i+vs.length)=dcs (D.set a d):=h3
 rw [h4] at h2
 exact h2
theorem part_cells {w:World} {base dg cap a:Nat} {D:List Dw} (h:w.ownsRow base 65 11 (.slice (some ⟨dg,0,none⟩) D.length cap) D.length (dcs D)) (ha:a<D.length):(∀ i u,(dce D[a])[i]?=some u→i<11→w.cell? ⟨dg,a*11+i,none⟩=some u)∧(∀ i,w.frozen? ⟨dg,i,none⟩=false)∧dg<w.heap.size∧base≤dg:=by
 obtain ⟨cur,h1,h2,_⟩:=own_formK h
 exact ⟨fun i u hu hi=>own_cellK h _ (by rw [dcs_cell ha hi];exact hu),fun i=>row_fz h2 i,row_lt h2,h1⟩
theorem set4_any (w:World) (base dg cap a:Nat) (D:List Dw) (ha:a<D.length) (h:w.ownsRow base 65 11 (.slice (some ⟨dg,0,none⟩) D.length cap) D.length (dcs D)) (n:Dw) :
  Calls Tryz.prog 52 #[.pointer (some ⟨dg,a*11,none⟩),.agg (dca n)] w (SetP w base dg cap D a ⟨D[a].id,D[a].kind,D[a].pub,n.na,n.names,n.ncap,D[a].doubt,D[a].body⟩):=by
 obtain ⟨hc,hf,hl,hbd⟩:=part_cells h ha
 have hbw:base≤w.heap.size:=by omega
 have hne:¬ w.heap.size=dg:=by omega
 have hne':¬ dg=w.heap.size:=by omega
 have c3:=hc 3 _ rfl (by omega)
 have f3:=hf (a*11+3)
 obtain ⟨W,hW⟩:∃ y,w.setCells dg (a*11+3) ([.slice n.na n.names.length n.ncap])=y:=⟨_,rfl⟩
 have hp:W.ownsRow base 65 11 (.slice (some ⟨dg,0,none⟩) D.length cap) D.length (dcs (D.set a ⟨D[a].id,D[a].kind,D[a].pub,n.na,n.names,n.ncap,D[a].doubt,D[a].body⟩)):=by rw [← hW];exact set_part h ha (i:=3) rfl (by simp)
 have hb:Below base w W:=by rw [← hW];exact below_cells hbd _ _ _ (Below.refl _ _)
 have ho:∀ k,k≠dg→W.heap[k]?=w.heap[k]?:=fun k hk=>by rw [← hW];exact setCells_other hk _ _ _
 have hs:W.heap.size=w.heap.size:=by rw [← hW];exact setCells_size _ _ _ _
 have HW:=lid hW
 have HF:Hid (SetP w base dg cap D a ⟨D[a].id,D[a].kind,D[a].pub,n.na,n.names,n.ncap,D[a].doubt,D[a].body⟩ (.returned (.tuple #[])) (W.alloc (.cells (dca n) 65))):=lid ⟨rfl,own_keep hp (fun k hk=>by cases hk;exact h_old (by rw [hs];exact hl) _),hb.alloc (by omega) _,fun k hk hx=>(h_old (by rw [hs];exact hk) _).trans (ho k hx)⟩
 clear hW hp hb ho hs hbw h hc hf
 go_enter Tryz.func52,Tryz.ntmps52
 go_wp2_with fail
 have hfin:=HF.out
 rw [← HW.out] at hfin
 exact bodyPost_ret (by simp [results,Tryz.results52,go_sem]) rfl hfin
theorem set5_any (w:World) (base dg cap a:Nat) (D:List Dw) (ha:a<D.length) (h:w.ownsRow base 65 11 (.slice (some ⟨dg,0,none⟩) D.length cap) D.length (dcs D)) (n:Dw) :
  Calls Tryz.prog 53 #[.pointer (some ⟨dg,a*11,none⟩),.agg (dca n)] w (SetP w base dg cap D a ⟨D[a].id,D[a].kind,D[a].pub,D[a].na,D[a].names,D[a].ncap,D[a].doubt,n.body⟩):=by
 obtain ⟨hc,hf,hl,hbd⟩:=part_cells h ha
 have hbw:base≤w.heap.size:=by omega
 have hne:¬ w.heap.size=dg:=by omega
 have hne':¬ dg=w.heap.size:=by omega
 have c5:=hc 5 _ rfl (by omega)
 have f5:=hf (a*11+5)
 have c6:=hc 6 _ rfl (by omega)
 have f6:=hf (a*11+6)
 have c7:=hc 7 _ rfl (by omega)
 have f7:=hf (a*11+7)
 have c8:=hc 8 _ rfl (by omega)
 have f8:=hf (a*11+8)
 have c9:=hc 9 _ rfl (by omega)
 have f9:=hf (a*11+9)
 have c10:=hc 10 _ rfl (by omega)
 have f10:=hf (a*11+10)
 obtain ⟨W,hW⟩:∃ y,w.setCells dg (a*11+5) (ece n.body)=y:=⟨_,rfl⟩
 have hp:W.ownsRow base 65 11 (.slice (some ⟨dg,0,none⟩) D.length cap) D.length (dcs (D.set a ⟨D[a].id,D[a].kind,D[a].pub,D[a].na,D[a].names,D[a].ncap,D[a].doubt,n.body⟩)):=by rw [← hW];exact set_part h ha (i:=5) rfl (by simp)
 have hb:Below base w W:=by rw [← hW];exact below_cells hbd _ _ _ (Below.refl _ _)
 have ho:∀ k,k≠dg→W.heap[k]?=w.heap[k]?:=fun k hk=>by rw [← hW];exact setCells_other hk _ _ _
 have hs:W.heap.size=w.heap.size:=by rw [← hW];exact setCells_size _ _ _ _
 have HW:=lid hW
 have HF:Hid (SetP w base dg cap D a ⟨D[a].id,D[a].kind,D[a].pub,D[a].na,D[a].names,D[a].ncap,D[a].doubt,n.body⟩ (.returned (.tuple #[])) (W.alloc (.cells (dca n) 65))):=lid ⟨rfl,own_keep hp (fun k hk=>by cases hk;exact h_old (by rw [hs];exact hl) _),hb.alloc (by omega) _,fun k hk hx=>(h_old (by rw [hs];exact hk) _).trans (ho k hx)⟩
 clear hW hp hb ho hs hbw h hc hf
 go_enter Tryz.func53,Tryz.ntmps53
 go_wp2_with fail
 have hfin:=HF.out
 rw [← HW.out] at hfin
 exact bodyPost_ret (by simp [results,Tryz.results53,go_sem]) rfl hfin
theorem set6_any (w:World) (base dg cap a:Nat) (D:List Dw) (ha:a<D.length) (h:w.ownsRow base 65 11 (.slice (some ⟨dg,0,none⟩) D.length cap) D.length (dcs D)) (n:Dw) :
  Calls Tryz.prog 54 #[.pointer (some ⟨dg,a*11,none⟩),.agg (dca n)] w (SetP w base dg cap D a ⟨D[a].id,n.kind,n.pub,D[a].na,D[a].names,D[a].ncap,n.doubt,D[a].body⟩):=by
 obtain ⟨hc,hf,hl,hbd⟩:=part_cells h ha
 have hbw:base≤w.heap.size:=by omega
 have hne:¬ w.heap.size=dg:=by omega
 have hne':¬ dg=w.heap.size:=by omega
 obtain ⟨W0,hW0⟩:∃ y,w.alloc (.cells (dca n) 65)=y:=⟨_,rfl⟩
 have hb0:Below w.heap.size w W0:=by rw [← hW0];exact ba _ _
 have hR:W0.heap[w.heap.size]?=some (.cells (dca n) 65 (0,0)):=by rw [← hW0];exact h_new rfl _
 have h0:=own_keep h (w':=W0) (fun k hk=>by cases hk;exact hb0.block _ hl)
 have x1:W0.cell? ⟨w.heap.size,1,none⟩=some (.int .i64 n.kind):=row_cell hR 1
 have x2:W0.cell? ⟨w.heap.size,2,none⟩=some (.bool n.pub):=row_cell hR 2
 have x4:W0.cell? ⟨w.heap.size,4,none⟩=some (.bool n.doubt):=row_cell hR 4
 obtain ⟨W1,hW1⟩:∃ y,(W0.setCell ⟨dg,a*11+1,none⟩ (.int .i64 n.kind)).drew=y:=⟨_,rfl⟩
 obtain ⟨W2,hW2⟩:∃ y,W1.setCell ⟨dg,a*11+2,none⟩ (.bool n.pub)=y:=⟨_,rfl⟩
 obtain ⟨W3,hW3⟩:∃ y,W2.setCell ⟨dg,a*11+4,none⟩ (.bool n.doubt)=y:=⟨_,rfl⟩
 have hp1:W1.ownsRow base 65 11 (.slice (some ⟨dg,0,none⟩) D.length cap) D.length (dcs (D.set a (⟨D[a].id,n.kind,D[a].pub,D[a].na,D[a].names,D[a].ncap,D[a].doubt,D[a].body⟩:Dw))):=by rw [← hW1];exact own_keep (set_part h0 ha (i:=1) (vs:=[.int .i64 n.kind]) (d:=(⟨D[a].id,n.kind,D[a].pub,D[a].na,D[a].names,D[a].ncap,D[a].doubt,D[a].body⟩:Dw)) rfl (by simp)) (fun _ _=>rfl)
 have hl1:a<(D.set a (⟨D[a].id,n.kind,D[a].pub,D[a].na,D[a].names,D[a].ncap,D[a].doubt,D[a].body⟩:Dw)).length:=by rw [List.length_set];exact ha
 rw [show D.length=(D.set a (⟨D[a].id,n.kind,D[a].pub,D[a].na,D[a].names,D[a].ncap,D[a].doubt,D[a].body⟩:Dw)).length by rw [List.length_set]] at hp1
 have hp2:W2.ownsRow base 65 11 (.slice (some ⟨dg,0,none⟩) (D.set a (⟨D[a].id,n.kind,D[a].pub,D[a].na,D[a].names,D[a].ncap,D[a].doubt,D[a].body⟩:Dw)).length cap) (D.set a (⟨D[a].id,n.kind,D[a].pub,D[a].na,D[a].names,D[a].ncap,D[a].doubt,D[a].body⟩:Dw)).length (dcs ((D.set a (⟨D[a].id,n.kind,D[a].pub,D[a].na,D[a].names,D[a].ncap,D[a].doubt,D[a].body⟩:Dw)).set a (⟨D[a].id,n.kind,n.pub,D[a].na,D[a].names,D[a].ncap,D[a].doubt,D[a].body⟩:Dw))):=by rw [← hW2];exact set_part hp1 hl1 (i:=2) (vs:=[.bool n.pub]) (d:=(⟨D[a].id,n.kind,n.pub,D[a].na,D[a].names,D[a].ncap,D[a].doubt,D[a].body⟩:Dw)) (by rw [List.getElem_set_self];rfl) (by simp)
 rw [List.set_set,show (D.set a (⟨D[a].id,n.kind,D[a].pub,D[a].na,D[a].names,D[a].ncap,D[a].doubt,D[a].body⟩:Dw)).length=(D.set a (⟨D[a].id,n.kind,n.pub,D[a].na,D[a].names,D[a].ncap,D[a].doubt,D[a].body⟩:Dw)).length by rw [List.length_set,List.length_set]] at hp2
 have hl2:a<(D.set a (⟨D[a].id,n.kind,n.pub,D[a].na,D[a].names,D[a].ncap,D[a].doubt,D[a].body⟩:Dw)).length:=by rw [List.length_set];exact ha
 have hp3:W3.ownsRow base 65 11 (.slice (some ⟨dg,0,none⟩) (D.set a (⟨D[a].id,n.kind,n.pub,D[a].na,D[a].names,D[a].ncap,D[a].doubt,D[a].body⟩:Dw)).length cap) (D.set a (⟨D[a].id,n.kind,n.pub,D[a].na,D[a].names,D[a].ncap,D[a].doubt,D[a].body⟩:Dw)).length (dcs ((D.set a (⟨D[a].id,n.kind,n.pub,D[a].na,D[a].names,D[a].ncap,D[a].doubt,D[a].body⟩:Dw)).set a (⟨D[a].id,n.kind,n.pub,D[a].na,D[a].names,D[a].ncap,n.doubt,D[a].body⟩:Dw))):=by rw [← hW3];exact set_part hp2 hl2 (i:=4) (vs:=[.bool n.doubt]) (d:=(⟨D[a].id,n.kind,n.pub,D[a].na,D[a].names,D[a].ncap,n.doubt,D[a].body⟩:Dw)) (by rw [List.getElem_set_self];rfl) (by simp)
 rw [List.set_set,List.length_set] at hp3
 have q0:=part_cells h0 ha
 have q1:=part_cells hp1 hl1
 have q2:=part_cells hp2 hl2
 have c1:=q0.1 1 _ rfl (by omega)
 have f1:=q0.2.1 (a*11+1)
 have c2:W1.cell? ⟨dg,a*11+2,none⟩=some (.bool D[a].pub):=by have h5:=q1.1 2 _ rfl (by omega);simpa using h5
 have f2:=q1.2.1 (a*11+2)
 have c4:W2.cell? ⟨dg,a*11+4,none⟩=some (.bool D[a].doubt):=by have h5:=q2.1 4 _ rfl (by omega);simpa using h5
 have f4:=q2.2.1 (a*11+4)
 have l0:=q0.2.2.1
 have l1:=q1.2.2.1
 have l2:=q2.2.2.1
 have lx:=row_lt hR
 have y1:=SinceK.cell (k:=w.heap.size) (W:=W0) x1
 have y2:=SinceK.cell (k:=w.heap.size) (W:=W0) x2
 have y4:=SinceK.cell (k:=w.heap.size) (W:=W0) x4
 have k1:KeepK w.heap.size W0 W1:=by rw [← hW1];exact (Below.heap_setCell (w:=W0) _ _ _ hne)
 have k2:KeepK w.heap.size W0 W2:=by rw [← hW2];exact (Below.heap_setCell _ _ _ _ hne).trans k1
 have k3:KeepK w.heap.size W0 W3:=by rw [← hW3];exact (Below.heap_setCell _ _ _ _ hne).trans k2
 have HK1:=lid k1
 have HK2:=lid k2
 have HK3:=lid k3
 have hb3:Below base w W3:=by rw [← hW3,← hW2,← hW1];exact (((hb0.mono hbw).setCell (p:=⟨dg,a*11+1,none⟩) hbd _).drew.setCell (p:=⟨dg,a*11+2,none⟩) hbd _).setCell (p:=⟨dg,a*11+4,none⟩) hbd _
 have ho3:∀ k,k<w.heap.size→k≠dg→W3.heap[k]?=w.heap[k]?:=fun k hk hx=>by rw [← hW3,← hW2,← hW1];exact (Below.heap_setCell _ _ _ _ hx).trans ((Below.heap_setCell _ _ _ _ hx).trans ((Below.heap_setCell (w:=W0) _ _ _ hx).trans (hb0.block k hk)))
 have HF:Hid (SetP w base dg cap D a (⟨D[a].id,n.kind,n.pub,D[a].na,D[a].names,D[a].ncap,n.doubt,D[a].body⟩:Dw) (.returned (.tuple #[])) W3):=lid ⟨rfl,hp3,hb3,ho3⟩
 have HW0:=lid hW0
 have HW1:=lid hW1
 have HW2:=lid hW2
 have HW3:=lid hW3
 clear hW0 hW1 hW2 hW3 hb0 hR h0 hp1 hl1 hp2 hl2 hp3 q0 q1 q2 k1 k2 k3 hb3 ho3 h hc hf hbw
 go_enter Tryz.func54,Tryz.ntmps54
 go_wp2_with fail
 rw [HW0.out]
 refine qs (fun w'=>∃ s:SinceK w.heap.size W0,w'=s.world) [(0,true),(1,true),(2,true),(3,true),(4,true),(5,true),(6,true),(7,true),(8,true),(9,true),(10,true),(11,false),(12,true),(13,true),(14,false),(15,true),(16,true),(17,false)] (sincek (KeepK.refl _ _).drew) ?_
 repeat (first | (refine qk ?_;simp only [Act.put,q1,q2,q3]) | (refine qf ?_;intro K hK;go_big_quiet_op;go_big_quiet_on))
 refine qc ?_
 intro K hK
 go_wp2_with fail
 rw [HW1.out]
 refine hK.out _ _ (sincek HK1.out) ?_
 clear hK K
 repeat (first | (refine qk ?_;simp only [Act.put,q1,q2,q3]) | (refine qf ?_;intro K hK;go_big_quiet_op;go_big_quiet_on))
 refine qc ?_
 intro K hK
 go_wp2_with fail
 rw [HW2.out]
 refine hK.out _ _ (sincek HK2.out) ?_
 clear hK K
 repeat (first | (refine qk ?_;simp only [Act.put,q1,q2,q3]) | (refine qf ?_;intro K hK;go_big_quiet_op;go_big_quiet_on))
 refine qc ?_
 intro K hK
 go_wp2_with fail
 rw [HW3.out]
 refine hK.out _ _ (sincek HK3.out) ?_
 clear hK K
 repeat (first | (refine qk ?_;simp only [Act.put,q1,q2,q3]) | (refine qf ?_;intro K hK;go_big_quiet_op;go_big_quiet_on))
 refine seq_nil ?_
 go_wp2_with fail
 exact bodyPost_ret (by simp [results,Tryz.results54,go_sem]) rfl HF.out
end Go.Proofs.YtgcceepadlmelaaGreatDoor
