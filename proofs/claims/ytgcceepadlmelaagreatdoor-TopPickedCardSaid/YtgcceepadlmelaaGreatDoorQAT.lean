import Derived.Test.YtgcceepadlmelaaGreatDoorEdGr2
import Derived.Test.YtgcceepadlmelaaGreatDoorQAO
import Derived.Test.YtgcceepadlmelaaGreatDoorEdSx
import Derived.Test.YtgcceepadlmelaaGreatDoorEdApply
import Derived.Test.YtgcceepadlmelaaGreatDoorEdDf
import Derived.Test.YtgcceepadlmelaaGreatDoorEdMove
import Derived.Test.YtgcceepadlmelaaGreatDoorQAA
import Derived.Lay
import Derived.Deep.Slices
import Derived.Test.YtgcceepadlmelaaGreatDoorQAM
import Derived.Test.YtgcceepadlmelaaGreatDoorQAN
namespace Go.Proofs.YtgcceepadlmelaaGreatDoor
set_option maxRecDepth 100000
set_option maxHeartbeats 8000000
open Go.RowKit
def TrueB (w:World) (r:Ending) (w':World):Prop:=r=.returned (.bool true)∧Below w.heap.size w w'
theorem TrueB.of {w w1 w2:World} {r:Ending} (h:TrueB w1 r w2) (hb:Below w.heap.size w w1):TrueB w r w2:=⟨h.1,hb.trans (h.2.mono hb.size)⟩
theorem map_at {α β:Type} {f:α→β} {l m:List α} (h:l.map f=m.map f) {k:Nat} (hk:k<l.length) (hk2:k<m.length):f l[k]=f m[k]:=by
 have h1:=congrArg (fun z=>z[k]?) h
 simp only [List.getElem?_map,List.getElem?_eq_getElem hk,List.getElem?_eq_getElem hk2,Option.map_some,Option.some.injEq] at h1
 exact h1
theorem TellB.yes {p:Prop} {w w':World} {r:Ending} (h:TellB p w r w') (hp:p):TrueB w r w':=⟨by rw [h.1,pB_t hp],h.2⟩
theorem SameS_any (ao bo:Option Addr) (n ca cb:Nat) (l m:List ByteArray) (w:World) (ha:SA w ao n ca l) (hb:SA w bo n cb m) (hx:l=m):Calls Tryz.prog 41 #[.slice ao n ca,.slice bo n cb] w (TrueB w):=(SameSx_any ao bo n n ca cb l m w ha hb).mono fun _ _ h=>h.yes hx
theorem SameDs_any (ao bo:Option Addr) (n ca cb:Nat) (l m:List Dw) (w:World) (ha:DLA w ao n ca l) (hb:DLA w bo n cb m) (hx:l.map Dw.x=m.map Dw.x):Calls Tryz.prog 42 #[.slice ao n ca,.slice bo n cb] w (TrueB w):=(SameDsx_any ao bo n n ca cb l m w ha hb).mono fun _ _ h=>h.yes hx
theorem SameM_any (a b:Mw) (w:World) (ha:MwA w a) (hb:MwA w b) (hx:a.x=b.x):Calls Tryz.prog 21 #[.agg (mca a),.agg (mca b)] w (TrueB w):=by
 have h1:a.label=b.label:=congrArg Mx.label hx
 have h2:a.uses=b.uses:=congrArg Mx.uses hx
 have h3:a.decls.map Dw.x=b.decls.map Dw.x:=congrArg Mx.decls hx
 have h4:=congrArg List.length h3
 rw [List.length_map,List.length_map] at h4
 obtain ⟨nu,hnu⟩:∃ n,a.uses.length=n:=⟨_,rfl⟩
 obtain ⟨nd,hnd⟩:∃ n,a.decls.length=n:=⟨_,rfl⟩
 have hnu2:b.uses.length=nu:=by rw [← h2,hnu]
 have hnd2:b.decls.length=nd:=by rw [← h4,hnd]
 have ea:mca a=#[.string a.label,.slice a.ua nu a.ucap,.slice a.da nd a.dcap]:=by rw [← hnu,← hnd]
 have eb:mca b=#[.string a.label,.slice b.ua nu b.ucap,.slice b.da nd b.dcap]:=by rw [h1,← hnu2,← hnd2]
 obtain ⟨W0,hW0⟩:∃ y,(w.alloc (.cells #[.string a.label,.slice a.ua nu a.ucap,.slice a.da nd a.dcap] 45)).alloc (.cells #[.string a.label,.slice b.ua nu b.ucap,.slice b.da nd b.dcap] 45)=y:=⟨_,rfl⟩
 have hb0:Below w.heap.size w W0:=by rw [← hW0];exact (ba _ _).alloc (by simp) _
 have hR:W0.heap[w.heap.size]?=some (.cells #[.string a.label,.slice a.ua nu a.ucap,.slice a.da nd a.dcap] 45 (0,0)):=by rw [← hW0];exact (h_old (by simp) _).trans (h_new rfl _)
 have hR2:W0.heap[w.heap.size+1]?=some (.cells #[.string a.label,.slice b.ua nu b.ucap,.slice b.da nd b.dcap] 45 (0,0)):=by rw [← hW0];exact h_new (by simp) _
 have HRR:Hid (∀ W,Below W0.heap.size W0 W→(W.cell? ⟨w.heap.size,0,none⟩=some (.string a.label)∧W.cell? ⟨w.heap.size,1,none⟩=some (.slice a.ua nu a.ucap)∧W.cell? ⟨w.heap.size,2,none⟩=some (.slice a.da nd a.dcap))∧(W.cell? ⟨w.heap.size+1,0,none⟩=some (.string a.label)∧W.cell? ⟨w.heap.size+1,1,none⟩=some (.slice b.ua nu b.ucap)∧W.cell? ⟨w.heap.size+1,2,none⟩=some (.slice b.da nd b.dcap))∧w.heap.size<W.heap.size∧w.heap.size+1<W.heap.size):=lid (fun W hb=>by
  have q1:=(hb.block _ (row_lt hR)).trans hR
  have q2:=(hb.block _ (row_lt hR2)).trans hR2
  exact ⟨⟨row_cell q1 0,row_cell q1 1,row_cell q1 2⟩,⟨row_cell q2 0,row_cell q2 1,row_cell q2 2⟩,row_lt q1,row_lt q2⟩)
 have CS:Hid (Calls Tryz.prog 41 #[.slice a.ua nu a.ucap,.slice b.ua nu b.ucap] W0 (TrueB W0)):=lid (by
  exact SameS_any a.ua b.ua nu a.ucap b.ucap a.uses b.uses W0 (by have:=(ha.below hb0).uses;rw [hnu] at this;exact this) (by have:=(hb.below hb0).uses;rw [hnu2] at this;exact this) h2)
 have CE:=lid (fun W (hW:Below W0.heap.size W0 W)=>SameDs_any a.da b.da nd a.dcap b.dcap a.decls b.decls W (by have:=((ha.below hb0).below hW).decls;rw [hnd] at this;exact this) (by have:=((hb.below hb0).below hW).decls;rw [hnd2] at this;exact this) h3)
 have HW0:=lid hW0
 have HB0:=lid hb0
 obtain ⟨⟨x0,x1,x2⟩,⟨y0,y1,y2⟩,lx,ly⟩:=HRR.out W0 (Below.refl _ _)
 have dl:(a.label.toList == a.label.toList)=true:=by simp
 rw [ea,eb]
 clear ea eb ha hb hx h1 h2 h3 h4 hnu hnd hnu2 hnd2 hW0 hb0 hR hR2
 go_enter Tryz.func21,Tryz.ntmps21
 go_wp2_with fail
 rw [HW0.out]
 go_wp2_with fail
 (with_reducible refine (CS.out).mono ?_);rintro e w1 ⟨rfl,hb1⟩
 have HB1:=lid hb1
 clear hb1 CS x0 x1 x2 y0 y1 y2 lx ly
 obtain ⟨⟨x0,x1,x2⟩,⟨y0,y1,y2⟩,lx,ly⟩:=HRR.out w1 HB1.out
 go_wp2_with fail
 (with_reducible refine (CE.out _ HB1.out).mono ?_);rintro e w2 ⟨rfl,hb2⟩
 have HB2:=lid (HB1.out.trans (hb2.mono HB1.out.size))
 clear hb2
 go_wp2_with fail
 go_ret
 exact ⟨rfl,HB0.out.trans (HB2.out.mono HB0.out.size)⟩
theorem SameMs_any (ao bo:Option Addr) (n ca cb:Nat) (l m:List Mw) (w:World) (ha:MLA w ao n ca l) (hb:MLA w bo n cb m) (hx:l.map Mw.x=m.map Mw.x):Calls Tryz.prog 8 #[.slice ao n ca,.slice bo n cb] w (TrueB w):=by
 have HA:=lid ha
 have HBB:=lid hb
 have HX:=lid hx
 have c1:n≤ca:=ha.le
 have c2:n≤cb:=hb.le
 have m1:ca≤9223372036854775807:=ha.max
 have m2:cb≤9223372036854775807:=hb.max
 clear ha hb hx
 go_enter Tryz.func8,Tryz.ntmps8
 go_wp2_with fail
 go_loopw [5] (fun u5 wr=>∃ k:Nat,k≤n∧u5=.int .i64 k∧Hid (Below w.heap.size w wr)) (fun u5 _=>n-(intOf u5).toNat)
 case atStart=>exact ⟨0,Nat.zero_le _,rfl,lid (Below.refl _ _)⟩
 case round =>
  obtain ⟨k,hk,rfl,HB⟩:=hrel
  by_cases hkn:k<n
  ·have hk1:k<l.length:=by rw [HA.out.len];exact hkn
   have hk2:k<m.length:=by rw [HBB.out.len];exact hkn
   obtain ⟨p,po,rfl,hlp,hcp⟩:=HA.out.sl.at_ (k:=k) hkn
   obtain ⟨q,qo,rfl,hlq,hcq⟩:=HBB.out.sl.at_ (k:=k) hkn
   have CI:=lid (fun W (hW:Below w.heap.size w W)=>SameM_any l[k] m[k] W ((HA.out.el _ (List.getElem_mem hk1)).below hW) ((HBB.out.el _ (List.getElem_mem hk2)).below hW) (map_at HX.out hk1 hk2))
   obtain ⟨s,hs⟩:∃ s,l[k]=s:=⟨_,rfl⟩
   obtain ⟨t,ht⟩:∃ t,m[k]=t:=⟨_,rfl⟩
   rw [hs,ht] at CI
   have hc1:∀ i u,(mce s)[i]?=some u→i<3→wr.cell? ⟨p,po+(k*3+i),none⟩=some u:=fun i u hu hi=>by rw [bc HB.out hlp _];exact hcp _ u (by rw [show (mcs l)[k*3+i]?=(mce l[k])[i]? from flat_at mce_length hk1 hi,hs];exact hu)
   have hc2:∀ i u,(mce t)[i]?=some u→i<3→wr.cell? ⟨q,qo+(k*3+i),none⟩=some u:=fun i u hu hi=>by rw [bc HB.out hlq _];exact hcq _ u (by rw [show (mcs m)[k*3+i]?=(mce m[k])[i]? from flat_at mce_length hk2 hi,ht];exact hu)
   have s0:wr.cell? ⟨p,po+k*3,none⟩=some (.string s.label):=by have:=hc1 0 _ rfl (by omega);exact this
   have s1:wr.cell? ⟨p,po+k*3+1,none⟩=some (.slice s.ua s.uses.length s.ucap):=by have:=hc1 1 _ rfl (by omega);rwa [← Nat.add_assoc] at this
   have s2:wr.cell? ⟨p,po+k*3+2,none⟩=some (.slice s.da s.decls.length s.dcap):=by have:=hc1 2 _ rfl (by omega);rwa [← Nat.add_assoc] at this
   have t0:wr.cell? ⟨q,qo+k*3,none⟩=some (.string t.label):=by have:=hc2 0 _ rfl (by omega);exact this
   have t1:wr.cell? ⟨q,qo+k*3+1,none⟩=some (.slice t.ua t.uses.length t.ucap):=by have:=hc2 1 _ rfl (by omega);rwa [← Nat.add_assoc] at this
   have t2:wr.cell? ⟨q,qo+k*3+2,none⟩=some (.slice t.da t.decls.length t.dcap):=by have:=hc2 2 _ rfl (by omega);rwa [← Nat.add_assoc] at this
   have l1:p<wr.heap.size:=Nat.lt_of_lt_of_le hlp HB.out.size
   have l2:q<wr.heap.size:=Nat.lt_of_lt_of_le hlq HB.out.size
   clear hcp hcq hc1 hc2 hs ht hk1 hk2
   go_wp2_with fail
   refine qd (fun w'=>∃ s:Since wr.heap.size wr,w'=s.world) [(0,true),(1,true),(2,true),(3,true),(4,true),(5,true),(6,true),(7,true),(8,false),(9,true)] ?_
   repeat (first | (refine qk ?_;simp only [Act.put,q1,q2,q3]) | (refine qf ?_;intro K hK;go_big_quiet_op;go_big_quiet_on))
   refine qc ?_
   intro K hK
   go_wp2_with fail
   (with_reducible refine (CI.out _ HB.out.drew).mono ?_);rintro e w2 ⟨rfl,hb2⟩
   have HB2':=lid ((Below.refl wr.heap.size wr).drew.trans hb2)
   have HB2:=lid (HB.out.trans (HB2'.out.mono HB.out.size))
   clear hb2 CI
   go_wp2_with fail
   refine hK.out _ _ (since HB2'.out) ?_
   clear hK K
   repeat (first | (refine qk ?_;simp only [Act.put,q1,q2,q3]) | (refine qf ?_;intro K hK;go_big_quiet_op;go_big_quiet_on))
   refine seq_nil ?_
   go_wp2_with fail
   go_roundw
   case rel=>exact ⟨k+1,by omega,by go_num,HB2⟩
   case measure=>simp [intOf];omega
  ·obtain rfl:k=n:=by omega
   clear hkn
   go_wp2_with fail
   go_ret
   exact ⟨rfl,HB.out⟩
end Go.Proofs.YtgcceepadlmelaaGreatDoor
namespace Go.Proofs.YtgcceepadlmelaaGreatDoor
set_option maxRecDepth 100000
set_option maxHeartbeats 16000000
open Go.RowKit
theorem kla_own {w:World} {base n:Nat} {v:Value} {K:List Kw} (h:w.ownsRow base 52 5 v n (kcs K)) (hn:K.length=n) (hK:∀ x∈K,KwA w x):∃ ao cap,v=.slice ao n cap∧KLA w ao n cap K:=by
 obtain ⟨a1,c1,e1,l1,x1,s1⟩:=Sl.of_own h
 refine ⟨a1,c1,e1,hn,s1,l1,x1,hK,?_⟩
 rw [e1] at h
 exact own_cap0 h
theorem Sw.perm {K L:List Kw} (h:Sw K L):L.Perm K:=by
 induction h with
 | refl=>exact List.Perm.refl _
 | step _ _ ih=>exact (List.Perm.append_left _ (List.Perm.swap _ _ _)).trans ih
def mwA:Mw:=⟨⟨#[97]⟩,none,[],0,none,[],0⟩
def mwB:Mw:=⟨⟨#[98]⟩,none,[],0,none,[],0⟩
theorem bare_A {w:World} {l:ByteArray} (h:l.size≤maxLen):MwA w ⟨l,none,[],0,none,[],0⟩:=⟨h,SA.empty,DLA.empty⟩
theorem modA:modW mwA:=modW_bare (by decide +kernel) none 0 none 0
theorem modB:modW mwB:=modW_bare (by decide +kernel) none 0 none 0
theorem diff_ab:diffE [] [mwA.x,mwB.x]=[⟨⟨#[97]⟩,.add⟩,⟨⟨#[98]⟩,.add⟩]:=by
 have hp:pairsM [] [mwA.x,mwB.x]=[(⟨#[97]⟩,none,some mwA.x),(⟨#[98]⟩,none,some mwB.x)]:=by
  rw [pairsM,pairsM,pairsM]
  rfl
 have h3:∀ m:Mw,m.decls=[]→ph3 none (some m.x)=[]:=fun m hm=>by
  have e:dO (some m.x)=[]:=by show m.decls.map Dw.x=[];rw [hm];rfl
  unfold ph3
  rw [e,show dO none=[] from rfl,declE]
  rfl
 unfold diffE flatE
 rw [hp]
 simp only [List.flatMap_cons,List.flatMap_nil,h3 mwA rfl,h3 mwB rfl]
 rfl
theorem ordAB:OrdM [mwA,mwB]:=by
 refine List.pairwise_cons.2 ⟨fun y hy=>?_,List.pairwise_singleton _ _⟩
 rw [List.mem_singleton.1 hy]
 decide +kernel
theorem mla_ab {w:World} {R:Nat} (h:w.heap[R]?=some (.cells #[.string ⟨#[97]⟩,.slice none 0 0,.slice none 0 0,.string ⟨#[98]⟩,.slice none 0 0,.slice none 0 0] 45 (0,0))):MLA w (some ⟨R,0,none⟩) 2 2 [mwA,mwB] :=
 ⟨rfl,sl_row h rfl,Nat.le_refl _,by simp [maxLen],fun m hm=>by
  simp only [List.mem_cons,List.not_mem_nil,or_false] at hm
  rcases hm with rfl | rfl <;> exact bare_A (by decide),fun h=>by cases h⟩
theorem MLA.empty {w:World}:MLA w none 0 0 []:=⟨rfl,Sl.nil,Nat.le_refl _,Nat.zero_le _,fun _ h=>(by cases h),fun _=>rfl⟩
theorem valid_K {K:List Kw} {E:List Ed} (hKE:K.map Kw.x=E.map Ed.k) (hE:∀ e∈E,e.vld):∀ x∈K,FitK x∧TestK x:=fun x hx=>by
 have h1:x.x∈E.map Ed.k:=by rw [← hKE];exact List.mem_map.2 ⟨x,hx,rfl⟩
 obtain ⟨e,he,e1⟩:=List.mem_map.1 h1
 exact Ed.vld_k (hE e he) e1.symm
theorem not_notInd {k1 k2:Kw} (h:k1.pack≠k2.pack):¬ NotInd [k1,k2]:=by
 rintro ⟨p,a,b,q,hs,hi⟩
 have hp:=hs.perm
 have hl:=hp.length_eq
 rw [List.length_append,List.length_cons,List.length_cons] at hl
 have hl2:([k1,k2]:List Kw).length=2:=rfl
 rw [hl2] at hl
 have e1:p=[]:=List.eq_nil_of_length_eq_zero (by omega)
 have e2:q=[]:=List.eq_nil_of_length_eq_zero (by omega)
 subst e1 e2
 rw [List.nil_append] at hp
 have hne:a.pack≠b.pack:=by
  have ha:a=k1∨a=k2:=by have:=hp.subset (List.mem_cons_self ..);simpa using this
  rcases ha with rfl | rfl
  ·have h2:=(List.perm_cons a).1 hp
   have:b=k2:=by have:=h2.subset (List.mem_cons_self ..);simpa using this
   rw [this]
   exact h
  ·have h2:=(List.perm_cons a).1 (hp.trans (List.Perm.swap _ _ _))
   have:b=k1:=by have:=h2.subset (List.mem_cons_self ..);simpa using this
   rw [this]
   exact Ne.symm h
 unfold indK at hi
 rw [if_pos hne] at hi
 cases hi
theorem edited_any (w:World):Calls Tryz.prog 6 #[] w (TrueB w):=by
 obtain ⟨W0,hW0⟩:∃ y,((w.alloc (.cells #[.string ⟨#[97]⟩,.slice none 0 0,.slice none 0 0] 45)).alloc (.cells #[.string ⟨#[98]⟩,.slice none 0 0,.slice none 0 0] 45)).alloc (.cells #[.string ⟨#[97]⟩,.slice none 0 0,.slice none 0 0,.string ⟨#[98]⟩,.slice none 0 0,.slice none 0 0] 45)=y:=⟨_,rfl⟩
 have hb0:Below w.heap.size w W0:=by rw [← hW0];exact ((ba _ _).alloc (by simp) _).alloc (by simp <;> omega) _
 have hR0:W0.heap[w.heap.size]?=some (.cells #[.string ⟨#[97]⟩,.slice none 0 0,.slice none 0 0] 45 (0,0)):=by rw [← hW0];exact (h_old (by simp <;> omega) _).trans ((h_old (by simp) _).trans (h_new rfl _))
 have hR1:W0.heap[w.heap.size+1]?=some (.cells #[.string ⟨#[98]⟩,.slice none 0 0,.slice none 0 0] 45 (0,0)):=by rw [← hW0];exact (h_old (by simp) _).trans (h_new (by simp) _)
 have hR2:W0.heap[w.heap.size+1+1]?=some (.cells #[.string ⟨#[97]⟩,.slice none 0 0,.slice none 0 0,.string ⟨#[98]⟩,.slice none 0 0,.slice none 0 0] 45 (0,0)):=by rw [← hW0];exact h_new (by simp) _
 have CD:=lid (Diff_any none (some ⟨w.heap.size+1+1,0,none⟩) 0 0 2 2 [] [mwA,mwB] W0 MLA.empty (mla_ab hR2) (by omega) (by omega))
 have HW0:=lid hW0
 have HB0:=lid hb0
 have HR0:=lid hR0
 have HR1:=lid hR1
 have x0:=row_cell hR0 0
 clear x0 hW0 hb0 hR0 hR1 hR2
 go_enter Tryz.func6,Tryz.ntmps6
 go_wp2_with fail
 rw [HW0.out]
 (with_reducible refine CD.out.mono ?_);rintro e w1 hD
 obtain ⟨v1,q,rfl,hb1,hor⟩:=hD
 have hval:(OrdM ([]:List Mw)∧∀ m∈([]:List Mw),modW m)∧(OrdM [mwA,mwB]∧∀ m∈[mwA,mwB],modW m):=⟨⟨List.Pairwise.nil,fun _ h=>by cases h⟩,ordAB,fun m hm=>by
  simp only [List.mem_cons,List.not_mem_nil,or_false] at hm
  rcases hm with rfl | rfl
  ·exact modA
  ·exact modB⟩
 obtain ⟨rfl,K,ho1,hk1,hkx,-⟩:q=0∧∃ K:List Kw,w1.ownsRow W0.heap.size 52 5 v1 K.length (kcs K)∧(∀ x∈K,KwA w1 x)∧K.map Kw.x=([⟨⟨#[97]⟩,.add⟩,⟨⟨#[98]⟩,.add⟩]:List Ed).map Ed.k∧True:=by
  rcases hor with ⟨_,h⟩ | ⟨h1,_,_,K,h2,h3,h4,_⟩
  ·exact absurd hval h
  ·refine ⟨h1,K,h2,h3,?_,trivial⟩
   rw [h4]
   show (diffE [] [mwA.x,mwB.x]).map Ed.k=_
   rw [diff_ab]
 obtain ⟨k1,k2,rfl⟩:∃ k1 k2,K=[k1,k2]:=by
  have hl:=congrArg List.length hkx
  rw [List.length_map,List.length_map] at hl
  match K,hl with
  | [a,b],_=>exact ⟨a,b,rfl⟩
 obtain ⟨E,hEE⟩:∃ E:List Ed,([⟨⟨#[97]⟩,.add⟩,⟨⟨#[98]⟩,.add⟩]:List Ed)=E:=⟨_,rfl⟩
 have hpk:k1.pack≠k2.pack:=by
  have e1:k1.x.pack=⟨#[97]⟩:=congrArg (fun l:List Kc=>match l with | a::_=>a.pack | []=>⟨#[97]⟩) hkx
  have e2:k2.x.pack=⟨#[98]⟩:=congrArg (fun l:List Kc=>match l with | _::a::_=>a.pack | _=>⟨#[98]⟩) hkx
  have e1':k1.pack=⟨#[97]⟩:=e1
  have e2':k2.pack=⟨#[98]⟩:=e2
  rw [e1',e2']
  decide
 have hEv:∀ e∈E,e.vld:=fun e he=>by
  rw [← hEE] at he
  simp only [List.mem_cons,List.not_mem_nil,or_false] at he
  rcases he with rfl | rfl
  ·exact ⟨by decide +kernel,trivial⟩
  ·exact ⟨by decide +kernel,trivial⟩
 have hokT:OkL [mwA.x,mwB.x]:=ordM_ok (A:=[mwA,mwB]) hval.2.1 hval.2.2
 have hlead:apL E (absM []) (absM [mwA.x,mwB.x]):=by
  rw [← hEE,← diff_ab]
  exact diff_lead ⟨List.Pairwise.nil,fun _ h=>by cases h⟩ hokT
 rw [hEE] at hkx
 obtain ⟨a1,c1,rfl,hkla⟩:=kla_own ho1 rfl hk1
 have CM:Hid (Calls Tryz.prog 9 #[.slice a1 2 c1,.int .i64 0,.int .i64 1] w1 fun r w'=>∃ v L,r=.returned (.tuple #[v,.bool true])∧Hid (Below w1.heap.size w1 w'∧w'.ownsRow w1.heap.size 52 5 v 2 (kcs L)∧Sw [k1,k2] L)):=lid ((Move_any a1 2 c1 [k1,k2] w1 hkla (by omega) 0 1 (by omega) (by omega) (valid_K hkx hEv)).mono (by
  rintro r w' ⟨h1,h2⟩
  rcases h2 with ⟨_,h3⟩ | ⟨v,L,rfl,h3,h4⟩
  ·exact absurd h3 (not_notInd hpk)
  ·exact ⟨v,L,rfl,lid ⟨h1,h3,h4⟩⟩))
 have HB1:=lid hb1
 have HKW:=lid hk1
 have HKX:=lid hkx
 have HEV:=lid hEv
 have HLEAD:=lid hlead
 have HT:=lid hokT
 clear hor hval ho1 hkla hb1 hk1 hkx hpk hEE hEv hlead hokT CD
 go_wp2_with fail
 (with_reducible refine (CM.out).mono ?_);rintro e w2 ⟨v2,L,rfl,hm⟩
 have CA:Hid (∃ a2 c2,v2=.slice a2 2 c2∧Calls Tryz.prog 10 #[.slice none 0 0,.slice a2 2 c2] w2 fun r w'=>∃ v M,r=.returned (.tuple #[v,.int .i64 0])∧Hid (MO w2 w' v M∧M.map Mw.x=[mwA.x,mwB.x])):=lid (by
  obtain ⟨m1,m2,m3⟩:=hm.out
  obtain ⟨hl,hmem⟩:=m3.mem
  obtain ⟨a2,c2,rfl,hk2⟩:=kla_own m2 (by rw [hl];rfl) (fun x hx=>(HKW.out x ((hmem x).1 hx)).below m1)
  obtain ⟨E',q1,q2,q3⟩:=sw_lead m3 HKX.out (fun e he=>⟨Ed.vld_fit (HEV.out e he),Ed.vld_named (HEV.out e he)⟩) HLEAD.out
  refine ⟨a2,c2,rfl,(Apply_any none a2 0 0 2 c2 [] L E' w2 MLA.empty hk2 (by omega) (by omega) q1 (fun e he=>HEV.out e (q2 e he)) List.Pairwise.nil (fun _ h=>by cases h) [mwA.x,mwB.x] HT.out ?_ q3).mono ?_⟩
  ·intro m hm
   simp only [List.mem_cons,List.not_mem_nil,or_false] at hm
   rcases hm with rfl | rfl
   ·exact ⟨mwA,rfl,modA⟩
   ·exact ⟨mwB,rfl,modB⟩
  ·rintro r w' ⟨v,M,rfl,h1,h2⟩
   exact ⟨v,M,rfl,lid ⟨h1,h2⟩⟩)
 have HB2:=lid (HB1.out.trans (hm.out.1.mono HB1.out.size))
 obtain ⟨a2,c2,rfl,ca⟩:=CA.out
 have CA2:=lid ca
 clear ca CA hm CM
 go_wp2_with fail
 (with_reducible refine (CA2.out).mono ?_);rintro e w3 ⟨v3,M,rfl,hm⟩
 have HB3:Hid (Below W0.heap.size W0 w3):=lid (HB2.out.trans (hm.out.1.bel.mono HB2.out.size))
 have hlM:M.length=2:=by have:=congrArg List.length hm.out.2;rw [List.length_map] at this;exact this
 obtain ⟨a3,c3,hv3,hmla⟩:=hm.out.1.mla
 rw [hlM] at hv3 hmla
 subst hv3
 have x0:w3.cell? ⟨w.heap.size,0,none⟩=some (.string ⟨#[97]⟩):=row_cell ((HB3.out.block _ (row_lt HR0.out)).trans HR0.out) 0
 have x1:w3.cell? ⟨w.heap.size,1,none⟩=some (.slice none 0 0):=row_cell ((HB3.out.block _ (row_lt HR0.out)).trans HR0.out) 1
 have x2:w3.cell? ⟨w.heap.size,2,none⟩=some (.slice none 0 0):=row_cell ((HB3.out.block _ (row_lt HR0.out)).trans HR0.out) 2
 have y0:w3.cell? ⟨w.heap.size+1,0,none⟩=some (.string ⟨#[98]⟩):=row_cell ((HB3.out.block _ (row_lt HR1.out)).trans HR1.out) 0
 have y1:w3.cell? ⟨w.heap.size+1,1,none⟩=some (.slice none 0 0):=row_cell ((HB3.out.block _ (row_lt HR1.out)).trans HR1.out) 1
 have y2:w3.cell? ⟨w.heap.size+1,2,none⟩=some (.slice none 0 0):=row_cell ((HB3.out.block _ (row_lt HR1.out)).trans HR1.out) 2
 have lx:w.heap.size<w3.heap.size:=row_lt ((HB3.out.block _ (row_lt HR0.out)).trans HR0.out)
 have ly:w.heap.size+1<w3.heap.size:=row_lt ((HB3.out.block _ (row_lt HR1.out)).trans HR1.out)
 obtain ⟨W4,hW4⟩:∃ y,w3.alloc (.cells #[.string ⟨#[97]⟩,.slice none 0 0,.slice none 0 0,.string ⟨#[98]⟩,.slice none 0 0,.slice none 0 0] 45)=y:=⟨_,rfl⟩
 have hb4:Below w3.heap.size w3 W4:=by rw [← hW4];exact ba _ _
 have CS:=lid (SameMs_any a3 (some ⟨w3.heap.size,0,none⟩) 2 c3 2 M [mwA,mwB] W4 (hmla.below hb4) (mla_ab (by rw [← hW4];exact h_new rfl _)) hm.out.2)
 have HW4:=lid hW4
 have HB4:=lid (HB3.out.trans (hb4.mono HB3.out.size))
 clear hmla hm hW4 hb4 hlM CA2
 go_wp2_with fail
 rw [HW4.out]
 (with_reducible refine (CS.out).mono ?_);rintro e w5 ⟨rfl,hb5⟩
 have HB5:=lid (HB4.out.trans (hb5.mono HB4.out.size))
 clear hb5
 go_wp2_with fail
 go_ret
 exact ⟨rfl,HB0.out.trans (HB5.out.mono HB0.out.size)⟩
end Go.Proofs.YtgcceepadlmelaaGreatDoor
namespace Go.Proofs.YtgcceepadlmelaaGreatDoor
open Go.RowKit
abbrev mve (p:Int × Int):List Value:=[.int .u8 p.1,.int .u8 p.2]
def mvs (l:List (Int × Int)):List Value:=l.flatMap mve
theorem mve_length (p:Int × Int):(mve p).length=2:=rfl
def ReoN (wr:World) (u:Value) (n:Nat) (S T:St):Prop:=∃ K E ao cap,u=.slice ao n cap∧KLA wr ao n cap K∧K.map Kw.x=E.map Ed.k∧(∀ e∈E,e.vld)∧apL E S T
theorem ReoN.below {wr w':World} {u:Value} {n:Nat} {S T:St} (h:ReoN wr u n S T) (hb:Below wr.heap.size wr w'):ReoN w' u n S T:=by
 obtain ⟨K,E,ao,cap,h1,h2,h3⟩:=h
 exact ⟨K,E,ao,cap,h1,h2.below hb,h3⟩
theorem ReoN.move {wr:World} {u:Value} {n:Nat} {S T:St} (h:ReoN wr u n S T) (hn:n≤100000) {f t:Nat} (hf:f<n) (ht:t<n):Calls Tryz.prog 9 #[u,.int .i64 f,.int .i64 t] wr fun r w'=>∃ v ok,r=.returned (.tuple #[v,.bool ok])∧Hid (Below wr.heap.size wr w'∧(ok=true→ReoN w' v n S T)):=by
 obtain ⟨K,E,ao,cap,rfl,h2,h3,h4,h5⟩:=h
 refine (Move_any ao n cap K wr h2 hn f t hf ht (valid_K h3 h4)).mono ?_
 rintro r w' ⟨h6,⟨rfl,_⟩ | ⟨v,L,rfl,h7,h8⟩⟩
 ·exact ⟨_,false,rfl,lid ⟨h6,fun h=>by cases h⟩⟩
 ·obtain ⟨hl,hmem⟩:=h8.mem
  obtain ⟨a2,c2,rfl,hk2⟩:=kla_own h7 (by rw [hl];exact h2.len) (fun x hx=>(h2.el x ((hmem x).1 hx)).below h6)
  obtain ⟨E',q1,q2,q3⟩:=sw_lead h8 h3 (fun e he=>⟨Ed.vld_fit (h4 e he),Ed.vld_named (h4 e he)⟩) h5
  exact ⟨_,true,rfl,lid ⟨h6,fun _=>⟨L,E',a2,c2,rfl,hk2,q1,fun e he=>h4 e (q2 e he),q3⟩⟩⟩
end Go.Proofs.YtgcceepadlmelaaGreatDoor
namespace Go.Proofs.YtgcceepadlmelaaGreatDoor
set_option maxRecDepth 100000
open Go.ChangeShapes Go.WideShapes Go.ChangeAt Go.RowKit Go.Deep
open Go.ChangeMaps (setBlock shut_map_nil open_string shut_string keptBut_setBlock frozen?_setBlock heap_setBlock_same)
theorem cells_str:Tryz.prog.cellsOf 9=1:=by kernel_rfl
theorem cells_int:Tryz.prog.cellsOf 3=1:=by kernel_rfl
theorem cells_bool:Tryz.prog.cellsOf 4=1:=by kernel_rfl
theorem cells_u8:Tryz.prog.cellsOf 5=1:=by kernel_rfl
theorem cells_sstr:Tryz.prog.cellsOf 42=1:=by kernel_rfl
theorem cells_sex:Tryz.prog.cellsOf 61=1:=by kernel_rfl
theorem cells_sde:Tryz.prog.cellsOf 43=1:=by kernel_rfl
theorem cells_ex:Tryz.prog.cellsOf 63=6:=by kernel_rfl
theorem cells_de:Tryz.prog.cellsOf 65=11:=by kernel_rfl
theorem cells_mo:Tryz.prog.cellsOf 45=3:=by kernel_rfl
theorem cells_pr:Tryz.prog.cellsOf 31=2:=by kernel_rfl
section
variable {H:Type} {enc:TypeId × Value→H} {W:World}
theorem row_of_elems {α:Type} {sz:Nat} {e:α→List Value} (he:∀ x,(e x).length=sz) (hsz:0<sz) {a:Addr} {len:Nat} {f:Nat→α} (hf:∀ i,i<len→W.cells? 0 (a.add (i*sz)) sz=some (e (f i))):Sl W sz (some a) len (((List.range len).map f).flatMap e):=by
 refine ⟨by rw [flat_length he];simp,?_⟩
 rcases Nat.eq_zero_or_pos len with h0 | hpos
 ·exact .inl h0
 ·right
  have hcell:∀ i (_:i<len),∀ j,j<sz→W.cell? ((a.add (i*sz)).add j)=(e (f i))[j]?:=fun i hi j hj=>(World.cells?_some (hf i hi)).2.2 j hj
  obtain ⟨b,off,spot⟩:=a
  have h00:=hcell 0 hpos 0 hsz
  rw [List.getElem?_eq_getElem (show 0<(e (f 0)).length by rw [he];exact hsz)] at h00
  have hspot:spot=none:=by simpa [Addr.add] using World.cell?_spot h00
  subst hspot
  have h00':W.cell? ⟨b,off,none⟩=some ((e (f 0))[0]'(by rw [he];exact hsz)):=by simpa [Addr.add] using h00
  refine ⟨b,off,rfl,World.block_lt_of_cell? W ⟨b,off,none⟩ h00',fun j u hj=>?_⟩
  have hj':j<len*sz:=by
   have:=(List.getElem?_eq_some_iff.1 hj).1
   rw [flat_length he] at this
   simpa using this
  have hq:j / sz<len:=Nat.div_lt_of_lt_mul (by rw [Nat.mul_comm];exact hj')
  have hr:j % sz<sz:=Nat.mod_lt _ hsz
  have hd:j / sz*sz+j % sz=j:=by rw [Nat.mul_comm];exact Nat.div_add_mod j sz
  have h4:=hcell (j / sz) hq (j % sz) hr
  rw [Addr.add_lit,Addr.add_lit,Nat.add_assoc,hd] at h4
  rw [h4,← hj]
  have h5:=flat_at he (l:=(List.range len).map f) (k:=j / sz) (by simpa using hq) hr
  rw [hd] at h5
  rw [h5]
  congr 2
  simp
theorem slL {α:Type} [Inhabited α] {sz:Nat} {e:α→List Value} (he:∀ x,(e x).length=sz) (hsz:0<sz) {t et:TypeId} (ht:Tryz.prog.underlying t=some (.slice et)) (hce:Tryz.prog.cellsOf et=sz) {fuel:Nat} {cs:List Value} {x:DataW H × List MemPlace} (h:DataW.trod enc Tryz.prog W 0 (fun _=>true) true fuel t cs=some x)
  (Q:α→Prop) (op:∀ n cs' y,n<fuel→DataW.trod enc Tryz.prog W 0 (fun _=>true) true n et cs'=some y→∃ r,cs'=e r∧Q r) :
  ∃ (ao:Option Addr) (n cap:Nat) (l:List α),cs=[.slice ao n cap]∧l.length=n∧Sl W sz ao n (l.flatMap e)∧n≤cap∧cap≤maxLen∧(ao=none→cap=0)∧∀ r∈l,Q r:=by
 rcases DataW.trod_slice ht h with ⟨hcs,_⟩ | ⟨a,len,cap,elems,rest,n,hfu,hcs,_,_,hl,hm,hlen,hel,_,_⟩
 ·exact ⟨none,0,0,[],hcs,rfl,⟨by simp,.inl rfl⟩,Nat.le_refl _,Nat.zero_le _,fun _=>rfl,fun _ h=>(by cases h)⟩
 ·rw [hce] at hel
  have hd:∀ i,i<len→∃ r:α,W.cells? 0 (a.add (i*sz)) sz=some (e r)∧Q r:=fun i hi=>by
   have h1:=hel i hi
   rw [List.getElem?_eq_getElem (by omega)] at h1
   obtain ⟨cs',h2,h3⟩:=Option.bind_eq_some_iff.1 h1
   obtain ⟨r,rfl,hQ⟩:=op n cs' _ (by omega) h3
   exact ⟨r,h2,hQ⟩
  obtain ⟨f,hf'⟩:∃ f:Nat→α,∀ i,i<len→W.cells? 0 (a.add (i*sz)) sz=some (e (f i))∧Q (f i) :=
   ⟨fun i=>if h:i<len then (hd i h).choose else default,fun i hi=>by simp only [hi,dif_pos];exact (hd i hi).choose_spec⟩
  refine ⟨some a,len,cap,(List.range len).map f,hcs,by simp,row_of_elems he hsz (fun i hi=>(hf' i hi).1),hl,hm,(fun h=>by cases h),fun r hr=>?_⟩
  obtain ⟨i,hi,rfl⟩:=List.mem_map.1 hr
  exact (hf' i (by simpa using hi)).2
theorem strs_of {fuel:Nat} {cs:List Value} {x:DataW H × List MemPlace} (h:DataW.trod enc Tryz.prog W 0 (fun _=>true) true fuel 42 cs=some x):∃ (ao:Option Addr) (cap:Nat) (l:List ByteArray),cs=[.slice ao l.length cap]∧SA W ao l.length cap l:=by
 obtain ⟨ao,n,cap,l,rfl,hl,hs,h1,h2,h3,h4⟩:=slL (e:=sce) sce_length (by omega) Tryz.underlying42 cells_str h (fun s=>s.size≤maxLen) (fun n cs' y _ hy=>by
  obtain ⟨s,rfl,_,hs⟩:=DataW.trod_string Tryz.underlying9 hy
  exact ⟨s,rfl,hs⟩)
 subst hl
 exact ⟨ao,cap,l,rfl,rfl,by rw [← scs_eq];exact hs,h1,h2,h4,h3⟩
theorem i64_wf {n:Int} (h:(Lit.int .i64 n).wf=true):I64 n:=by
 simp [Lit.wf,IntKind.min,IntKind.max,IntKind.signed,IntKind.bits] at h
 exact ⟨by omega,by omega⟩
instance:Inhabited Ew:=⟨.mk 0 ⟨#[]⟩ ⟨#[]⟩ 0 0 none 0 []⟩
theorem expr_of:∀ (N fuel:Nat),fuel≤N→∀ (cs:List Value) (x:DataW H × List MemPlace),DataW.trod enc Tryz.prog W 0 (fun _=>true) true fuel 63 cs=some x→∃ e:Ew,cs=ece e∧EA W e:=by
 intro N
 induction N with
 | zero =>
  intro fuel hf cs x h
  obtain rfl:fuel=0:=by omega
  simp [DataW.trod] at h
 | succ N ih =>
  intro fuel hf cs x h
  obtain ⟨xs,m,hfu,rfl,hl,hn,hi⟩:=DataW.trod_struct Tryz.underlying63 h
  rw [cells_ex] at hl
  match cs,hl with
  | [c0,c1,c2,c3,c4,c5],_ =>
   have h0:=hi 0 _ rfl
   have h1:=hi 1 _ rfl
   have h2:=hi 2 _ rfl
   have h3:=hi 3 _ rfl
   have h4:=hi 4 _ rfl
   have h5:=hi 5 _ rfl
   match xs,hn with
   | [x0,x1,x2,x3,x4,x5],_ =>
    simp [cells_int,cells_str,cells_sex] at h0 h1 h2 h3 h4 h5
    obtain ⟨b0,e0,_,s0⟩:=DataW.trod_int Tryz.underlying3 h0
    obtain ⟨b1,e1,_,s1⟩:=DataW.trod_string Tryz.underlying9 h1
    obtain ⟨b2,e2,_,s2⟩:=DataW.trod_string Tryz.underlying9 h2
    obtain ⟨b3,e3,_,s3⟩:=DataW.trod_int Tryz.underlying3 h3
    obtain ⟨b4,e4,_,s4⟩:=DataW.trod_int Tryz.underlying3 h4
    obtain ⟨ao,n,cap,l,e5,hln,hs,g1,g2,g3,g4⟩:=slL (e:=ece) ece_length (by omega) Tryz.underlying61 cells_ex h5 (fun e=>EA W e) (fun n cs' y hnm hy=>ih n (by omega) cs' y hy)
    simp at e0 e1 e2 e3 e4 e5
    subst e0 e1 e2 e3 e4 e5 hln
    exact ⟨.mk b0 b1 b2 b3 b4 ao cap l,rfl,.mk hs g1 g2 s1 s2 (i64_wf s0) (i64_wf s3) (i64_wf s4) g4 g3⟩
instance:Inhabited Dw:=⟨⟨0,0,false,none,[],0,false,default⟩⟩
theorem decl_of {fuel:Nat} {cs:List Value} {x:DataW H × List MemPlace} (h:DataW.trod enc Tryz.prog W 0 (fun _=>true) true fuel 65 cs=some x):∃ d:Dw,cs=dce d∧DwA W d:=by
 obtain ⟨xs,m,hfu,rfl,hl,hn,hi⟩:=DataW.trod_struct Tryz.underlying65 h
 rw [cells_de] at hl
 match cs,hl with
 | [c0,c1,c2,c3,c4,c5,c6,c7,c8,c9,c10],_ =>
  have h0:=hi 0 _ rfl
  have h1:=hi 1 _ rfl
  have h2:=hi 2 _ rfl
  have h3:=hi 3 _ rfl
  have h4:=hi 4 _ rfl
  have h5:=hi 5 _ rfl
  match xs,hn with
  | [x0,x1,x2,x3,x4,x5],_ =>
   simp [cells_int,cells_bool,cells_sstr,cells_ex] at h0 h1 h2 h3 h4 h5
   obtain ⟨b0,e0,_,s0⟩:=DataW.trod_int Tryz.underlying3 h0
   obtain ⟨b1,e1,_,s1⟩:=DataW.trod_int Tryz.underlying3 h1
   obtain ⟨b2,e2,_⟩:=DataW.trod_bool Tryz.underlying4 h2
   obtain ⟨ao,cap,l,e3,hs⟩:=strs_of h3
   obtain ⟨b4,e4,_⟩:=DataW.trod_bool Tryz.underlying4 h4
   obtain ⟨b,e5,hE⟩:=expr_of m m (Nat.le_refl _) _ _ h5
   simp at e0 e1 e2 e3 e4
   injection e5 with p0 e5
   injection e5 with p1 e5
   injection e5 with p2 e5
   injection e5 with p3 e5
   injection e5 with p4 e5
   injection e5 with p5 e5
   subst e0 e1 e2 e3 e4 p0 p1 p2 p3 p4 p5
   exact ⟨⟨b0,b1,b2,ao,l,cap,b4,b⟩,rfl,i64_wf s0,i64_wf s1,hs,hE⟩
instance:Inhabited Mw:=⟨zMw⟩
theorem mod_of {fuel:Nat} {cs:List Value} {x:DataW H × List MemPlace} (h:DataW.trod enc Tryz.prog W 0 (fun _=>true) true fuel 45 cs=some x):∃ d:Mw,cs=mce d∧MwA W d:=by
 obtain ⟨xs,m,hfu,rfl,hl,hn,hi⟩:=DataW.trod_struct Tryz.underlying45 h
 rw [cells_mo] at hl
 match cs,hl with
 | [c0,c1,c2],_ =>
  have h0:=hi 0 _ rfl
  have h1:=hi 1 _ rfl
  have h2:=hi 2 _ rfl
  match xs,hn with
  | [x0,x1,x2],_ =>
   simp [cells_str,cells_sstr,cells_sde] at h0 h1 h2
   obtain ⟨b0,e0,_,s0⟩:=DataW.trod_string Tryz.underlying9 h0
   obtain ⟨ao,cap,l,e1,hs⟩:=strs_of h1
   obtain ⟨bo,n,bc,dl,e2,hln,hs2,g1,g2,g3,g4⟩:=slL (e:=dce) dce_length (by omega) Tryz.underlying43 cells_de h2 (fun d=>DwA W d) (fun n cs' y _ hy=>decl_of hy)
   simp at e0 e1 e2
   subst e0 e1 e2 hln
   exact ⟨⟨b0,ao,l,cap,bo,dl,bc⟩,rfl,s0,hs,rfl,hs2,g1,g2,g4,g3⟩
theorem Arg.mods {v:Value} (h:Arg enc W 22 v):∃ (L:List Mw) (ao:Option Addr) (n cap:Nat),v=.slice ao n cap∧MLA W ao n cap L:=by
 obtain ⟨⟨base,hv⟩,d,p,⟨fuel,hf⟩,_⟩:=h
 obtain ⟨sa,sn,sc,rfl⟩:=okWide_slice Tryz.underlying22 hv
 obtain ⟨bo,n,bc,dl,e2,hln,hs2,g1,g2,g3,g4⟩:=slL (e:=mce) mce_length (by omega) Tryz.underlying22 cells_mo hf (fun d=>MwA W d) (fun n cs' y _ hy=>mod_of hy)
 simp [Value.cells] at e2
 obtain ⟨rfl,rfl,rfl⟩:=e2
 exact ⟨dl,_,_,_,rfl,hln,hs2,g1,g2,g4,g3⟩
theorem pair_of {fuel:Nat} {cs:List Value} {x:DataW H × List MemPlace} (h:DataW.trod enc Tryz.prog W 0 (fun _=>true) true fuel 31 cs=some x):∃ p:Int × Int,cs=mve p∧(0≤p.1∧p.1≤255)∧0≤p.2∧p.2≤255:=by
 obtain ⟨xs,m,hfu,rfl,hl,hn,hi⟩:=DataW.trod_array Tryz.underlying31 h
 rw [cells_pr] at hl
 match cs,hl with
 | [c0,c1],_ =>
  have h0:=hi 0 (by omega)
  have h1:=hi 1 (by omega)
  match xs,hn with
  | [x0,x1],_ =>
   simp [cells_u8] at h0 h1
   obtain ⟨b0,e0,_,s0⟩:=DataW.trod_int Tryz.underlying5 h0
   obtain ⟨b1,e1,_,s1⟩:=DataW.trod_int Tryz.underlying5 h1
   simp at e0 e1
   subst e0 e1
   simp [Lit.wf,IntKind.min,IntKind.max,IntKind.signed,IntKind.bits] at s0 s1
   exact ⟨(b0,b1),rfl,⟨by omega,by omega⟩,by omega,by omega⟩
theorem Arg.pairs {v:Value} (h:Arg enc W 23 v):∃ (X:List (Int × Int)) (ao:Option Addr) (n cap:Nat),v=.slice ao n cap∧X.length=n∧Sl W 2 ao n (mvs X)∧n≤cap∧cap≤maxLen∧∀ p∈X,(0≤p.1∧p.1≤255)∧0≤p.2∧p.2≤255:=by
 obtain ⟨⟨base,hv⟩,d,p,⟨fuel,hf⟩,_⟩:=h
 obtain ⟨sa,sn,sc,rfl⟩:=okWide_slice Tryz.underlying23 hv
 obtain ⟨bo,n,bc,dl,e2,hln,hs2,g1,g2,g3,g4⟩:=slL (e:=mve) mve_length (by omega) Tryz.underlying23 cells_pr hf (fun p:Int × Int=>(0≤p.1∧p.1≤255)∧0≤p.2∧p.2≤255) (fun n cs' y _ hy=>pair_of hy)
 simp [Value.cells] at e2
 obtain ⟨rfl,rfl,rfl⟩:=e2
 exact ⟨dl,_,_,_,rfl,hln,hs2,g1,g2,g4⟩
theorem law_lift_laid {os:Os} {F:FuncId} {fn:Func} {s:ChangeSpec} {X:World→Array Value→Prop} (hX:∀ (w w':World) (args:Array Value),w.heap=w'.heap→X w args→X w' args) (started:os.Started) (noInit:Tryz.checked.prog.inits.idxOf? F=none) (hfn:Tryz.checked.prog.funcs[F]?=some fn) (hv:s.vars=[])
  (hres:fn.resultTypes=#[4]) (hr:fn.params.toList.all (fun t=>Tryz.prog.readableRec t && decide (t<Tryz.prog.types.size))=true)
  (hs:∀ ds:List (DataW H),ds.length=fn.params.toList.length→(s.fn H (ds++[])).results=[.lit (.bool true)]∧(s.fn H (ds++[])).args=ds∧(s.fn H (ds++[])).vars=[])
  (witness:∃ (w:World) (tape:Tape) (i:Input),w.os=os∧(w.forCall tape i).Shaped Tryz.checked.prog∧i.vars=[]∧Input.okWide Tryz.checked.prog (w.forCall tape i) .any w.heap.size F i ∧
   ((s.pre enc Tryz.checked.prog fn [] false (w.forCall tape i).memory i.args∧X (w.forCall tape i).memory i.args)∧sizedMet enc Tryz.checked.prog fn (OpenSpec.ofChange s) false (w.forCall tape i).memory i.args)∧({}:Assume).holds Tryz.checked.prog (lone (Frame.enter Tryz.checked.prog F i.args .normal) [] (w.forCall tape i)))
  (walk:∀ (W:World) (vs:List Value),Args enc W fn.params.toList vs→Calls Tryz.prog F vs.toArray W fun e w'=>e=.returned (.bool true)∧Below W.heap.size W w') :
  ReturnsInHanded {} Tryz.checked os F .any (fun w args=>(s.pre enc Tryz.prog fn [] false w args∧X w args)∧sizedMet enc Tryz.prog fn (OpenSpec.ofChange s) false w args) (s.post enc Tryz.prog fn false true false false):=by
 refine returnsInHanded_of_change_and (C:=Tryz.checked) (X:=X) hX own started noInit hfn witness ?_
 intro W base args ds gs before hval hW _ _ _ _
 have hW':=hW
 obtain ⟨p,q,hA0,hV,rfl,hfz,hnd⟩:=hW
 have hA:DataW.TrodAll enc Tryz.prog W 0 (fun _=>true) true fn.params.toList args.toList ds p:=hA0
 rw [hv] at hV
 obtain ⟨rfl,rfl⟩:=trodVars_none hV
 have hlt:∀ x∈p,x.block<W.heap.size:=fun x hx=>hW'.lt x (by simp [hx])
 have hargs:=args_of hA (fun j t v h1 h2=>hval j t v (by simpa using h1) (by simpa using h2)) hlt
 obtain ⟨e1,e2,e3⟩:=hs ds (trodAll_len hA)
 refine (walk W args.toList hargs).mono fun e W' ⟨he,hb⟩=>?_
 subst he
 refine ⟨_,rfl,ds,[],p++[],[],p,[],hW',?_,?_,?_,hb.frame _,fun h=>by cases h⟩
 ·rw [e1,hres]
  exact trodAll_mk1 (shut_bool Tryz.underlying4 _)
 ·rw [e2]
  exact trodAll_below hr hA hb hlt
 ·rw [hv,e3]
  exact rfl
end
end Go.Proofs.YtgcceepadlmelaaGreatDoor
namespace Go.Proofs.YtgcceepadlmelaaGreatDoor
open Go.RowKit
def depK (K:List Kw) (k x:Nat):Prop:=∃ a b,K[k]?=some a∧K[x]?=some b∧indK a b=false
def Cl (K:List Kw) (M:List Bool) (x:Nat):Prop:=∀ k,k<x→depK K k x→M[k]?=some true
theorem Cl.mono {K:List Kw} {M N:List Bool} {x:Nat} (h:Cl K M x) (hs:∀ k:Nat,M[k]?=some true→N[k]?=some true):Cl K N x:=fun k hk hd=>hs k (h k hk hd)
def Mk (K:List Kw) (M:List Bool) (i:Nat) (N:List Bool):Prop:=(∀ k:Nat,M[k]?=some true→N[k]?=some true)∧N[i]?=some true∧∀ x:Nat,N[x]?=some true→M[x]?=some true∨Cl K N x
def LpI (K:List Kw) (M:List Bool) (i j:Nat) (N:List Bool):Prop :=
 (∀ k:Nat,M[k]?=some true→N[k]?=some true)∧N[i]?=some true∧(∀ x:Nat,x≠i→N[x]?=some true→M[x]?=some true∨Cl K N x)∧∀ k,j≤k→k<i→depK K k i→N[k]?=some true
theorem LpI.start {K:List Kw} {M:List Bool} {i:Nat} (hi:i<M.length):LpI K M i i (M.set i true):=by
 refine ⟨fun k hk=>?_,by simp [hi],fun x hx h=>?_,fun k h1 h2=>by omega⟩
 ·rw [List.getElem?_set]
  split
  ·rfl
  ·exact hk
 ·rw [List.getElem?_set_ne (Ne.symm hx)] at h
  exact .inl h
theorem LpI.met {K:List Kw} {M N:List Bool} {i j:Nat} (h:LpI K M i (j+1) N) (hm:N[j]?=some true):LpI K M i j N :=
 ⟨h.1,h.2.1,h.2.2.1,fun k h1 h2 hd=>by
  by_cases e:k=j
  ·rw [e];exact hm
  ·exact h.2.2.2 k (by omega) h2 hd⟩
theorem LpI.ind {K:List Kw} {M N:List Bool} {i j:Nat} {a b:Kw} (h:LpI K M i (j+1) N) (ha:K[j]?=some a) (hb:K[i]?=some b) (hi:indK a b=true):LpI K M i j N :=
 ⟨h.1,h.2.1,h.2.2.1,fun k h1 h2 hd=>by
  by_cases e:k=j
  ·subst e
   obtain ⟨a',b',h3,h4,h5⟩:=hd
   rw [ha] at h3
   rw [hb] at h4
   cases h3
   cases h4
   rw [hi] at h5
   cases h5
  ·exact h.2.2.2 k (by omega) h2 hd⟩
theorem LpI.go {K:List Kw} {M N N':List Bool} {i j:Nat} (h:LpI K M i (j+1) N) (hm:Mk K N j N'):LpI K M i j N':=by
 refine ⟨fun k hk=>hm.1 k (h.1 k hk),hm.1 i h.2.1,fun x hx hn=>?_,fun k h1 h2 hd=>?_⟩
 ·rcases hm.2.2 x hn with h1 | h1
  ·rcases h.2.2.1 x hx h1 with h2 | h2
   ·exact .inl h2
   ·exact .inr (h2.mono hm.1)
  ·exact .inr h1
 ·by_cases e:k=j
  ·rw [e];exact hm.2.1
  ·exact hm.1 k (h.2.2.2 k (by omega) h2 hd)
theorem LpI.done {K:List Kw} {M N:List Bool} {i:Nat} (h:LpI K M i 0 N):Mk K M i N:=by
 refine ⟨h.1,h.2.1,fun x hx=>?_⟩
 by_cases e:x=i
 ·subst e
  exact .inr (fun k hk hd=>h.2.2.2 k (Nat.zero_le _) hk hd)
 ·exact h.2.2.1 x e hx
def bls (M:List Bool):Array Value:=(M.map Value.bool).toArray
theorem bls_set (M:List Bool) (i:Nat):(bls M).setIfInBounds i (.bool true)=bls (M.set i true):=by simp [bls,List.map_set]
theorem bls_at {M:List Bool} {k:Nat} {b:Bool} (h:M[k]?=some b):(bls M)[k]?=some (.bool b):=by simp [bls,h]
abbrev visF (b2 b5 b6:Nat):Value:=.func (.func 61) #[] #[.pointer (some ⟨b5,0,none⟩),.pointer (some ⟨b2,0,none⟩),.pointer (some ⟨b6,0,none⟩)]
structure VS (W0:World) (b2 b5 b6 mb:Nat) (ao:Option Addr) (n cap:Nat) (w:World) (M:List Bool):Prop where
 below:Below W0.heap.size W0 w
 h2:w.heap[b2]?=some (.cells #[.slice ao n cap] 26 (0,0))
 h5:w.heap[b5]?=some (.cells #[.slice (some ⟨mb,0,none⟩) n n] 71 (0,0))
 h6:w.heap[b6]?=some (.cells #[visF b2 b5 b6] 102 (0,0))
 row:w.heap[mb]?=some (.cells (bls M) 4 (0,0))
 len:M.length=n
 m2:b2≠mb
 m5:b5≠mb
 m6:b6≠mb
 mB:W0.heap.size≤mb
theorem VS.mark {W0 w:World} {b2 b5 b6 mb n cap i:Nat} {ao:Option Addr} {M:List Bool} (h:VS W0 b2 b5 b6 mb ao n cap w M):VS W0 b2 b5 b6 mb ao n cap (w.setCell ⟨mb,i,none⟩ (.bool true)) (M.set i true):=by
 have hk:∀ k,k≠mb→(w.setCell ⟨mb,i,none⟩ (.bool true)).heap[k]?=w.heap[k]?:=fun k hk=>Below.heap_setCell _ _ _ _ hk
 refine ⟨h.below.setCell h.mB _,(hk _ h.m2).trans h.h2,(hk _ h.m5).trans h.h5,(hk _ h.m6).trans h.h6,?_,by rw [List.length_set];exact h.len,h.m2,h.m5,h.m6,h.mB⟩
 rw [row_set h.row i _,bls_set]
theorem VS.keep {W0 w w':World} {b2 b5 b6 mb n cap:Nat} {ao:Option Addr} {M:List Bool} (h:VS W0 b2 b5 b6 mb ao n cap w M) (hb:Below w.heap.size w w'):VS W0 b2 b5 b6 mb ao n cap w' M :=
 ⟨h.below.trans (hb.mono h.below.size),(hb.block _ (row_lt h.h2)).trans h.h2,(hb.block _ (row_lt h.h5)).trans h.h5,(hb.block _ (row_lt h.h6)).trans h.h6,(hb.block _ (row_lt h.row)).trans h.row,h.len,h.m2,h.m5,h.m6,h.mB⟩
theorem kla_cells {w W:World} {ao:Option Addr} {n cap:Nat} {L:List Kw} (h:KLA w ao n cap L) (hb:Below w.heap.size w W) (hn:0<n):∃ b o,ao=some ⟨b,o,none⟩∧b<w.heap.size∧∀ j m,L[j]?=some m→∀ i u,(kce m)[i]?=some u→i<5→W.cell? ⟨b,o+(j*5+i),none⟩=some u:=by
 obtain ⟨b,o,e,hbz,hc⟩:=h.sl.at_ (k:=0) hn
 refine ⟨b,o,e,hbz,fun j m hm i u hu hi=>?_⟩
 obtain ⟨hj,e2⟩:=List.getElem?_eq_some_iff.1 hm
 rw [bc hb hbz _]
 exact hc _ u (by rw [kcs_cell hj hi,e2];exact hu)
end Go.Proofs.YtgcceepadlmelaaGreatDoor
