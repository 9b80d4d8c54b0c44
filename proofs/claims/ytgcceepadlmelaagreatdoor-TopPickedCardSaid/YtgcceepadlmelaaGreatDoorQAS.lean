import Derived.Test.YtgcceepadlmelaaGreatDoorQAR
import Derived.Test.YtgcceepadlmelaaGreatDoorQAJ
import Derived.Test.YtgcceepadlmelaaGreatDoorEdPairs
import Derived.Test.YtgcceepadlmelaaGreatDoorQAK
import Derived.Test.YtgcceepadlmelaaGreatDoorEdVisit
import Derived.Test.YtgcceepadlmelaaGreatDoorQAN
namespace Go.Proofs.YtgcceepadlmelaaGreatDoor
open Go.RowKit
theorem own_base {w:World} {base base' size n:Nat} {e:TypeId} {v:Value} {xs:List Value} (h:w.ownsRow base e size v n xs) (hb:base'≤base):w.ownsRow base' e size v n xs :=
 ⟨h.1,h.2.imp id (fun ⟨g,c,cur,h1,h2,h3⟩=>⟨g,c,cur,h1,Nat.le_trans hb h2,h3⟩)⟩
theorem flat3 {l:List Mw} {m:Nat} (h:m<l.length*3):∃ hk:m / 3<l.length,(mcs l)[m]?=(mce l[m / 3])[m % 3]?:=by
 have hk:m / 3<l.length:=by omega
 refine ⟨hk,?_⟩
 have:=mcs_cell (l:=l) (k:=m / 3) (j:=m % 3) hk (Nat.mod_lt _ (by omega))
 rw [show m / 3*3+m % 3=m by omega] at this
 exact this
theorem made_mcs (n:Nat):(madeCells #[.string ⟨#[]⟩,.slice none 0 0,.slice none 0 0] (n*3)).toList=mcs (List.replicate n zMw):=by
 refine List.ext_getElem? fun m=>?_
 by_cases hm:m<n*3
 ·obtain ⟨hk,e⟩:=flat3 (l:=List.replicate n zMw) (m:=m) (by rw [List.length_replicate];exact hm)
  rw [e,List.getElem_replicate]
  have h3:m % 3<3:=Nat.mod_lt _ (by omega)
  rw [Array.getElem?_toList]
  unfold madeCells
  rw [Array.getElem?_map,show (Array.range (n*3))[m]?=some m by simp [hm]]
  show some ((#[Value.string ⟨#[]⟩,Value.slice none 0 0,Value.slice none 0 0]:Array Value)[m % 3]!)=(mce zMw)[m % 3]?
  have h4:m % 3=0∨m % 3=1∨m % 3=2:=by omega
  rcases h4 with h4 | h4 | h4 <;> (rw [h4];rfl)
 ·rw [List.getElem?_eq_none (by rw [Array.length_toList,size_madeCells];omega),List.getElem?_eq_none (by rw [mcs_length,List.length_replicate];omega)]
theorem MO.clone {w wr V:World} {L:List Mw} {g cap:Nat} (h:MO w wr (.slice (some ⟨g,0,none⟩) L.length cap) L) {j:Nat} (hj:j<L.length) {m:Mw} {a1 a2:Option Addr} {c1 c2 B1 B2:Nat} (hm:MwA w m) (hb:Below wr.heap.size wr V)
  (h1:V.ownsRow B1 9 1 (.slice a1 m.uses.length c1) m.uses.length (svals m.uses)) (h2:V.ownsRow B2 65 11 (.slice a2 m.decls.length c2) m.decls.length (dcs m.decls)) (hB1:wr.heap.size≤B1) (hB2:wr.heap.size≤B2) (hap:∀ k,(Value.slice a1 m.uses.length c1).ownBlock=some k→k<B2) :
  V.there g (j*3) 3∧MO w (V.setCells g (j*3) (mce ⟨m.label,a1,m.uses,c1,a2,m.decls,c2⟩)) (.slice (some ⟨g,0,none⟩) L.length cap) (L.set j ⟨m.label,a1,m.uses,c1,a2,m.decls,c2⟩):=by
 have hgo:g∈obs (.slice (some ⟨g,0,none⟩) L.length cap):=mem_obs.2 rfl
 obtain ⟨hg1,hg2⟩:=h.lt (.inl hgo)
 have hrow2:=own_keep h.own (w':=V) (fun k hk=>by cases hk;exact hb.block _ hg2)
 have hsp:j*3+(mce ⟨m.label,a1,m.uses,c1,a2,m.decls,c2⟩).length≤L.length*3:=by have:(j+1)*3≤L.length*3:=Nat.mul_le_mul_right _ hj;show j*3+3≤_;omega
 obtain ⟨t1,t2,t3⟩:=own_cells hrow2 (j*3) (mce ⟨m.label,a1,m.uses,c1,a2,m.decls,c2⟩) hsp
 have hfs:=flat_set (enc:=mce) (sz:=3) mce_length hj (x:=⟨m.label,a1,m.uses,c1,a2,m.decls,c2⟩) (i:=0) (vs:=mce ⟨m.label,a1,m.uses,c1,a2,m.decls,c2⟩) (by simp) (by simp)
 have hfs':(mcs L).take (j*3)++mce ⟨m.label,a1,m.uses,c1,a2,m.decls,c2⟩++(mcs L).drop (j*3+(mce ⟨m.label,a1,m.uses,c1,a2,m.decls,c2⟩).length)=mcs (L.set j ⟨m.label,a1,m.uses,c1,a2,m.decls,c2⟩):=hfs
 rw [hfs'] at t3
 have hbw:=h.bel.size
 have ht:wr.heap.size≤V.heap.size:=hb.size
 have n1:∀ k,(Value.slice a1 m.uses.length c1).ownBlock=some k→k≠g∧wr.heap.size≤k:=fun k hk=>by have:=(own_blk h1 hk).1;omega
 have n2:∀ k,(Value.slice a2 m.decls.length c2).ownBlock=some k→k≠g∧wr.heap.size≤k:=fun k hk=>by have:=(own_blk h2 hk).1;omega
 refine ⟨t1,h.set hj (below_cells hg1 _ _ _ (h.bel.trans (hb.mono hbw))) t3 ⟨hm.sz,own_base (own_keep h1 (fun k hk=>setCells_other (n1 k hk).1 _ _ _)) (by omega),hm.uses.sz,own_base (own_keep h2 (fun k hk=>setCells_other (n2 k hk).1 _ _ _)) (by omega),hm.decls.el⟩ (fun k hk h3 _=>?_) ?_ (fun k hk=>.inr ?_)⟩
 ·rw [setCells_other (fun e=>h3 (by rw [e];exact hgo))]
  exact hb.block k hk
 ·show (obs _++obs _).Nodup
  rw [List.nodup_append]
  refine ⟨obs_nodup _,obs_nodup _,fun a ha b hb' e=>?_⟩
  have:=hap a (mem_obs.1 ha)
  have:=(own_blk h2 (mem_obs.1 hb')).1
  omega
 ·rcases List.mem_append.1 hk with hk | hk
  ·exact (n1 k (mem_obs.1 hk)).2
  ·exact (n2 k (mem_obs.1 hk)).2
end Go.Proofs.YtgcceepadlmelaaGreatDoor
namespace Go.Proofs.YtgcceepadlmelaaGreatDoor
set_option maxRecDepth 100000
set_option maxHeartbeats 8000000
open Go.RowKit
theorem el_row {w W:World} {ao:Option Addr} {n cap j:Nat} {L:List Ew} (h:EL w ao n cap L) (hb:Below w.heap.size w W) (hj:j<n) (hjl:j<L.length):∃ b o,ao=some ⟨b,o,none⟩∧b<W.heap.size∧(∀ i u,(ece L[j])[i]?=some u→i<6→W.cell? ⟨b,o+(j*6+i),none⟩=some u):=by
 obtain ⟨b,o,e,hbz,hc⟩:=h.sl.at_ (k:=j) hj
 refine ⟨b,o,e,Nat.lt_of_lt_of_le hbz hb.size,fun i u hu hi=>?_⟩
 rw [bc hb hbz _]
 exact hc _ u (by rw [show (ecs L)[j*6+i]?=(ece L[j])[i]? from flat_at ece_length hjl hi];exact hu)
theorem cntL_mem {l:List Ew} {e:Ew} (h:e∈l):cntE e≤cntL l:=by
 induction l with
 | nil=>cases h
 | cons a l ih =>
  rw [cntL]
  rcases List.mem_cons.1 h with rfl | h
  ·omega
  ·have:=ih h
   omega
def SomeI (w:World) (r:Ending) (w':World):Prop:=(∃ q:Int,r=.returned (.int .i64 q))∧Below w.heap.size w w'
def SomeB (w:World) (r:Ending) (w':World):Prop:=(∃ q:Bool,r=.returned (.bool q))∧Below w.heap.size w w'
theorem Nodes_upto:∀ (N:Nat) (e:Ew),cntE e≤N→∀ w,EA w e→Calls Tryz.prog 89 #[.agg (eca e)] w (SomeI w)
 | 0,e,hN,_,_=>by rw [cntE_eq] at hN;omega
 | N+1,e,hN,w,he=>by
  have ih:=Nodes_upto N
  obtain ⟨W0,hW0⟩:∃ y,w.alloc (.cells (eca e) 63)=y:=⟨_,rfl⟩
  have hb0:Below w.heap.size w W0:=by rw [← hW0];exact ba _ _
  have hR:W0.heap[w.heap.size]?=some (.cells (eca e) 63 (0,0)):=by rw [← hW0];exact h_new rfl _
  have h1:=(he.lift hb0).subs
  have hR2:∀ W,Below W0.heap.size W0 W→W.heap[w.heap.size]?=some (.cells (eca e) 63 (0,0)):=fun W hb=>(hb.block _ (row_lt hR)).trans hR
  have hcap:e.sub.length≤e.cap:=he.le
  have hmax:e.cap≤9223372036854775807:=he.max
  have IH:=lid (fun (s:Ew) (hs:s∈e.sub) W (hE:EA W s)=>ih s (by have:=cntL_mem hs;rw [cntE_eq] at hN;omega) W hE)
  have HS:=lid he.sz
  have HW0:=lid hW0
  have HB0:=lid hb0
  have H1:=lid h1
  have HR:=lid hR2
  obtain ⟨n,hn⟩:∃ n,e.sub.length=n:=⟨_,rfl⟩
  have x1:W0.cell? ⟨w.heap.size,1,none⟩=some (.string e.name):=row_cell hR 1
  have x2:W0.cell? ⟨w.heap.size,2,none⟩=some (.string e.more):=row_cell hR 2
  have x5:W0.cell? ⟨w.heap.size,5,none⟩=some (.slice e.ao n e.cap):=by rw [← hn];exact row_cell hR 5
  have lx:=row_lt hR
  rw [hn] at hcap H1
  have HN:=lid hn
  clear ih hN he hW0 hb0 hR h1 hR2 hn
  go_enter Tryz.func89,Tryz.ntmps89
  go_wp2_with fail
  rw [HW0.out]
  go_wp2_with fail
  go_loopw [3,4] (fun u3 u4 wr=>∃ (k:Nat) (q:Int),k≤n∧u4=.int .i64 k∧u3=.int .i64 q∧Hid (Below W0.heap.size W0 wr)) (fun u3 u4 _=>n-(intOf u4).toNat)
  case atStart=>exact ⟨0,1,Nat.zero_le _,rfl,rfl,lid (Below.refl _ _)⟩
  case round =>
   clear x1 x2 x5 lx
   obtain ⟨k,q,hk,rfl,rfl,HB⟩:=hrel
   by_cases hkn:k<n
   ·have hkl:k<e.sub.length:=by rw [HN.out];exact hkn
    obtain ⟨b,o,hao,hlb,hc⟩:=el_row H1.out HB.out hkn hkl
    have CI:=lid (fun W (hW:Below wr.heap.size wr W)=>IH.out _ (List.getElem_mem hkl) W ((H1.out.el _ (List.getElem_mem hkl)).lift (HB.out.trans (hW.mono HB.out.size))))
    obtain ⟨s,hs⟩:∃ s,e.sub[k]=s:=⟨_,rfl⟩
    rw [hs] at hc CI
    have y0:wr.cell? ⟨b,o+k*6,none⟩=some (.int .i64 s.kind):=by have:=hc 0 _ rfl (by omega);exact this
    have y1:wr.cell? ⟨b,o+k*6+1,none⟩=some (.string s.name):=by have:=hc 1 _ rfl (by omega);rwa [← Nat.add_assoc] at this
    have y2:wr.cell? ⟨b,o+k*6+2,none⟩=some (.string s.more):=by have:=hc 2 _ rfl (by omega);rwa [← Nat.add_assoc] at this
    have y3:wr.cell? ⟨b,o+k*6+3,none⟩=some (.int .i64 s.int):=by have:=hc 3 _ rfl (by omega);rwa [← Nat.add_assoc] at this
    have y4:wr.cell? ⟨b,o+k*6+4,none⟩=some (.int .i64 s.den):=by have:=hc 4 _ rfl (by omega);rwa [← Nat.add_assoc] at this
    have y5:wr.cell? ⟨b,o+k*6+5,none⟩=some (.slice s.ao s.sub.length s.cap):=by have:=hc 5 _ rfl (by omega);rwa [← Nat.add_assoc] at this
    have b0:wr.cell? ⟨w.heap.size,0,none⟩=some (.int .i64 e.kind):=row_cell (HR.out _ HB.out) 0
    have b1:wr.cell? ⟨w.heap.size,1,none⟩=some (.string e.name):=row_cell (HR.out _ HB.out) 1
    have b2:wr.cell? ⟨w.heap.size,2,none⟩=some (.string e.more):=row_cell (HR.out _ HB.out) 2
    have b3:wr.cell? ⟨w.heap.size,3,none⟩=some (.int .i64 e.int):=row_cell (HR.out _ HB.out) 3
    have b4:wr.cell? ⟨w.heap.size,4,none⟩=some (.int .i64 e.den):=row_cell (HR.out _ HB.out) 4
    have b5:wr.cell? ⟨w.heap.size,5,none⟩=some (.slice (some ⟨b,o,none⟩) n e.cap):=by have:=row_cell (HR.out _ HB.out) 5;rw [this,← HN.out,← hao];rfl
    have lx:w.heap.size<wr.heap.size:=row_lt (HR.out _ HB.out)
    clear hc hs hkl hao
    go_wp2_with fail
    (with_reducible refine (CI.out wr (Below.refl _ _)).mono ?_);rintro e w2 ⟨⟨q2,rfl⟩,hb2⟩
    have HB2:=lid (HB.out.trans (hb2.mono HB.out.size))
    clear hb2
    go_wp2_with fail
    go_roundw
    case rel=>exact ⟨k+1,_,by omega,by go_num,rfl,HB2⟩
    case measure=>simp [intOf];omega
   ·obtain rfl:k=n:=by omega
    have b5:wr.cell? ⟨w.heap.size,5,none⟩=some (.slice e.ao k e.cap):=by have:=row_cell (HR.out _ HB.out) 5;rw [this,← HN.out];rfl
    have lx:w.heap.size<wr.heap.size:=row_lt (HR.out _ HB.out)
    clear hkn
    go_wp2_with fail
    go_ret
    exact ⟨⟨_,rfl⟩,HB0.out.trans (HB.out.mono HB0.out.size)⟩
theorem long_upto:∀ (N:Nat) (e:Ew),cntE e≤N→∀ w,EA w e→Calls Tryz.prog 90 #[.agg (eca e)] w (SomeB w)
 | 0,e,hN,_,_=>by rw [cntE_eq] at hN;omega
 | N+1,e,hN,w,he=>by
  have ih:=long_upto N
  obtain ⟨W0,hW0⟩:∃ y,w.alloc (.cells (eca e) 63)=y:=⟨_,rfl⟩
  have hb0:Below w.heap.size w W0:=by rw [← hW0];exact ba _ _
  have hR:W0.heap[w.heap.size]?=some (.cells (eca e) 63 (0,0)):=by rw [← hW0];exact h_new rfl _
  have h1:=(he.lift hb0).subs
  have hR2:∀ W,Below W0.heap.size W0 W→W.heap[w.heap.size]?=some (.cells (eca e) 63 (0,0)):=fun W hb=>(hb.block _ (row_lt hR)).trans hR
  have hcap:e.sub.length≤e.cap:=he.le
  have hmax:e.cap≤9223372036854775807:=he.max
  have IH:=lid (fun (s:Ew) (hs:s∈e.sub) W (hE:EA W s)=>ih s (by have:=cntL_mem hs;rw [cntE_eq] at hN;omega) W hE)
  have HS:=lid he.sz
  have HW0:=lid hW0
  have HB0:=lid hb0
  have H1:=lid h1
  have HR:=lid hR2
  obtain ⟨n,hn⟩:∃ n,e.sub.length=n:=⟨_,rfl⟩
  have x1:W0.cell? ⟨w.heap.size,1,none⟩=some (.string e.name):=row_cell hR 1
  have x2:W0.cell? ⟨w.heap.size,2,none⟩=some (.string e.more):=row_cell hR 2
  have x5:W0.cell? ⟨w.heap.size,5,none⟩=some (.slice e.ao n e.cap):=by rw [← hn];exact row_cell hR 5
  have lx:=row_lt hR
  rw [hn] at hcap H1
  have HN:=lid hn
  clear ih hN he hW0 hb0 hR h1 hR2 hn
  have hs1:e.name.size≤9223372036854775807:=HS.out.1
  have hs2:e.more.size≤9223372036854775807:=HS.out.2
  by_cases hb1:100<e.name.size
  ·have d1:decide ((e.name.size:Int)>100)=true:=by simp;omega
   go_enter Tryz.func90,Tryz.ntmps90
   go_wp2_with fail
   rw [HW0.out]
   go_wp2_with fail
   go_ret
   exact ⟨⟨_,rfl⟩,HB0.out⟩
  have d1:decide ((e.name.size:Int)>100)=false:=by simp;omega
  by_cases hb2:100<e.more.size
  ·have d2:decide ((e.more.size:Int)>100)=true:=by simp;omega
   go_enter Tryz.func90,Tryz.ntmps90
   go_wp2_with fail
   rw [HW0.out]
   go_wp2_with fail
   go_ret
   exact ⟨⟨_,rfl⟩,HB0.out⟩
  have d2:decide ((e.more.size:Int)>100)=false:=by simp;omega
  go_enter Tryz.func90,Tryz.ntmps90
  go_wp2_with fail
  rw [HW0.out]
  go_wp2_with fail
  go_loopw [3] (fun u3 wr=>∃ (k:Nat),k≤n∧u3=.int .i64 k∧Hid (Below W0.heap.size W0 wr)) (fun u3 _=>n-(intOf u3).toNat)
  case atStart=>exact ⟨0,Nat.zero_le _,rfl,lid (Below.refl _ _)⟩
  case round =>
   clear x1 x2 x5 lx
   obtain ⟨k,hk,rfl,HB⟩:=hrel
   by_cases hkn:k<n
   ·have hkl:k<e.sub.length:=by rw [HN.out];exact hkn
    obtain ⟨b,o,hao,hlb,hc⟩:=el_row H1.out HB.out hkn hkl
    have CI:=lid (fun W (hW:Below wr.heap.size wr W)=>IH.out _ (List.getElem_mem hkl) W ((H1.out.el _ (List.getElem_mem hkl)).lift (HB.out.trans (hW.mono HB.out.size))))
    obtain ⟨s,hs⟩:∃ s,e.sub[k]=s:=⟨_,rfl⟩
    rw [hs] at hc CI
    have y0:wr.cell? ⟨b,o+k*6,none⟩=some (.int .i64 s.kind):=by have:=hc 0 _ rfl (by omega);exact this
    have y1:wr.cell? ⟨b,o+k*6+1,none⟩=some (.string s.name):=by have:=hc 1 _ rfl (by omega);rwa [← Nat.add_assoc] at this
    have y2:wr.cell? ⟨b,o+k*6+2,none⟩=some (.string s.more):=by have:=hc 2 _ rfl (by omega);rwa [← Nat.add_assoc] at this
    have y3:wr.cell? ⟨b,o+k*6+3,none⟩=some (.int .i64 s.int):=by have:=hc 3 _ rfl (by omega);rwa [← Nat.add_assoc] at this
    have y4:wr.cell? ⟨b,o+k*6+4,none⟩=some (.int .i64 s.den):=by have:=hc 4 _ rfl (by omega);rwa [← Nat.add_assoc] at this
    have y5:wr.cell? ⟨b,o+k*6+5,none⟩=some (.slice s.ao s.sub.length s.cap):=by have:=hc 5 _ rfl (by omega);rwa [← Nat.add_assoc] at this
    have b0:wr.cell? ⟨w.heap.size,0,none⟩=some (.int .i64 e.kind):=row_cell (HR.out _ HB.out) 0
    have b1:wr.cell? ⟨w.heap.size,1,none⟩=some (.string e.name):=row_cell (HR.out _ HB.out) 1
    have b2:wr.cell? ⟨w.heap.size,2,none⟩=some (.string e.more):=row_cell (HR.out _ HB.out) 2
    have b3:wr.cell? ⟨w.heap.size,3,none⟩=some (.int .i64 e.int):=row_cell (HR.out _ HB.out) 3
    have b4:wr.cell? ⟨w.heap.size,4,none⟩=some (.int .i64 e.den):=row_cell (HR.out _ HB.out) 4
    have b5:wr.cell? ⟨w.heap.size,5,none⟩=some (.slice (some ⟨b,o,none⟩) n e.cap):=by have:=row_cell (HR.out _ HB.out) 5;rw [this,← HN.out,← hao];rfl
    have lx:w.heap.size<wr.heap.size:=row_lt (HR.out _ HB.out)
    clear hc hs hkl hao
    go_wp2_with fail
    (with_reducible refine (CI.out wr (Below.refl _ _)).mono ?_);rintro e w2 ⟨⟨q2,rfl⟩,hb2⟩
    have HB2:=lid (HB.out.trans (hb2.mono HB.out.size))
    clear hb2
    cases q2 with
    | true =>
     go_wp2_with fail
     go_ret
     exact ⟨⟨_,rfl⟩,HB0.out.trans (HB2.out.mono HB0.out.size)⟩
    | false =>
     go_wp2_with fail
     go_roundw
     case rel=>exact ⟨k+1,by omega,by go_num,HB2⟩
     case measure=>simp [intOf];omega
   ·obtain rfl:k=n:=by omega
    have b5:wr.cell? ⟨w.heap.size,5,none⟩=some (.slice e.ao k e.cap):=by have:=row_cell (HR.out _ HB.out) 5;rw [this,← HN.out];rfl
    have lx:w.heap.size<wr.heap.size:=row_lt (HR.out _ HB.out)
    clear hkn
    go_wp2_with fail
    go_ret
    exact ⟨⟨_,rfl⟩,HB0.out.trans (HB.out.mono HB0.out.size)⟩
end Go.Proofs.YtgcceepadlmelaaGreatDoor
