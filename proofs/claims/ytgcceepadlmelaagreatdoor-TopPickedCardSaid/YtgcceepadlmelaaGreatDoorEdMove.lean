import Derived.Test.YtgcceepadlmelaaGreatDoorQAM
import Derived.Test.YtgcceepadlmelaaGreatDoorQAL
namespace Go.Proofs.YtgcceepadlmelaaGreatDoor
set_option maxRecDepth 100000
set_option maxHeartbeats 16000000
open Go.RowKit
def NotInd (K:List Kw):Prop:=∃ p a b q,Sw K (p++a::b::q)∧indK a b=false
def MvR (W0:World) (m1 m2:Kw) (ok:Bool) (s:Nat→Bool) (vs:List Value) (w:World):Prop :=
 ∃ c m e0 e1 k p q,vs=[c,m,e0,e1,k,p,q]∧Below W0.heap.size W0 w∧(s 9=true→c=.tuple #[.agg (kca m1),.agg (kca m2),.bool ok])∧(s 10=true→m=.tuple #[.agg (kca m1),.agg (kca m2),.bool ok])∧(s 11=true→e0=.agg (kca m1))∧(s 12=true→e1=.agg (kca m2))∧(s 13=true→k=.bool ok)∧(s 14=true→∃ g,p=.pointer (some ⟨g,0,none⟩)∧W0.heap.size≤g∧w.heap[g]?=some (.cells zkA 52 (0,0)))∧(s 15=true→∃ g,q=.pointer (some ⟨g,0,none⟩)∧W0.heap.size≤g∧w.heap[g]?=some (.cells zkA 52 (0,0)))∧(s 14=true→s 15=true→p≠q)
theorem MvR.s9 {W0 w w':World} {m1 m2:Kw} {ok:Bool} {s:Nat→Bool} {c m e0 e1 k p q:Value} (h:MvR W0 m1 m2 ok s [c,m,e0,e1,k,p,q] w) (hb:Below w.heap.size w w'):MvR W0 m1 m2 ok (upd s 9) [.tuple #[.agg (kca m1),.agg (kca m2),.bool ok],m,e0,e1,k,p,q] w':=by
 obtain ⟨_,_,_,_,_,_,_,e,hB,h0,h1,h2,h3,h4,h5,h6,h7⟩:=h
 cases e
 exact ⟨_,_,_,_,_,_,_,rfl,hB.trans (hb.mono hB.size),fun _=>rfl,fun e=>h1 (by simpa [upd] using e),fun e=>h2 (by simpa [upd] using e),fun e=>h3 (by simpa [upd] using e),fun e=>h4 (by simpa [upd] using e),fun e=>(h5 (by simpa [upd] using e)).elim fun g hg=>⟨g,hg.1,hg.2.1,(hb.block _ (row_lt hg.2.2)).trans hg.2.2⟩,fun e=>(h6 (by simpa [upd] using e)).elim fun g hg=>⟨g,hg.1,hg.2.1,(hb.block _ (row_lt hg.2.2)).trans hg.2.2⟩,fun e1 e2=>h7 (by simpa [upd] using e1) (by simpa [upd] using e2)⟩
theorem MvR.s10 {W0 w:World} {m1 m2:Kw} {ok:Bool} {s:Nat→Bool} {c m e0 e1 k p q:Value} (h:MvR W0 m1 m2 ok s [c,m,e0,e1,k,p,q] w) :MvR W0 m1 m2 ok (upd s 10) [c,.tuple #[.agg (kca m1),.agg (kca m2),.bool ok],e0,e1,k,p,q] w:=by
 obtain ⟨_,_,_,_,_,_,_,e,hB,h0,h1,h2,h3,h4,h5,h6,h7⟩:=h
 cases e
 exact ⟨_,_,_,_,_,_,_,rfl,hB,fun e=>h0 (by simpa [upd] using e),fun _=>rfl,fun e=>h2 (by simpa [upd] using e),fun e=>h3 (by simpa [upd] using e),fun e=>h4 (by simpa [upd] using e),fun e=>(h5 (by simpa [upd] using e)).elim fun g hg=>⟨g,hg.1,hg.2.1,hg.2.2⟩,fun e=>(h6 (by simpa [upd] using e)).elim fun g hg=>⟨g,hg.1,hg.2.1,hg.2.2⟩,fun e1 e2=>h7 (by simpa [upd] using e1) (by simpa [upd] using e2)⟩
theorem MvR.s11 {W0 w:World} {m1 m2:Kw} {ok:Bool} {s:Nat→Bool} {c m e0 e1 k p q:Value} (h:MvR W0 m1 m2 ok s [c,m,e0,e1,k,p,q] w) :MvR W0 m1 m2 ok (upd s 11) [c,m,.agg (kca m1),e1,k,p,q] w:=by
 obtain ⟨_,_,_,_,_,_,_,e,hB,h0,h1,h2,h3,h4,h5,h6,h7⟩:=h
 cases e
 exact ⟨_,_,_,_,_,_,_,rfl,hB,fun e=>h0 (by simpa [upd] using e),fun e=>h1 (by simpa [upd] using e),fun _=>rfl,fun e=>h3 (by simpa [upd] using e),fun e=>h4 (by simpa [upd] using e),fun e=>(h5 (by simpa [upd] using e)).elim fun g hg=>⟨g,hg.1,hg.2.1,hg.2.2⟩,fun e=>(h6 (by simpa [upd] using e)).elim fun g hg=>⟨g,hg.1,hg.2.1,hg.2.2⟩,fun e1 e2=>h7 (by simpa [upd] using e1) (by simpa [upd] using e2)⟩
theorem MvR.s12 {W0 w:World} {m1 m2:Kw} {ok:Bool} {s:Nat→Bool} {c m e0 e1 k p q:Value} (h:MvR W0 m1 m2 ok s [c,m,e0,e1,k,p,q] w) :MvR W0 m1 m2 ok (upd s 12) [c,m,e0,.agg (kca m2),k,p,q] w:=by
 obtain ⟨_,_,_,_,_,_,_,e,hB,h0,h1,h2,h3,h4,h5,h6,h7⟩:=h
 cases e
 exact ⟨_,_,_,_,_,_,_,rfl,hB,fun e=>h0 (by simpa [upd] using e),fun e=>h1 (by simpa [upd] using e),fun e=>h2 (by simpa [upd] using e),fun _=>rfl,fun e=>h4 (by simpa [upd] using e),fun e=>(h5 (by simpa [upd] using e)).elim fun g hg=>⟨g,hg.1,hg.2.1,hg.2.2⟩,fun e=>(h6 (by simpa [upd] using e)).elim fun g hg=>⟨g,hg.1,hg.2.1,hg.2.2⟩,fun e1 e2=>h7 (by simpa [upd] using e1) (by simpa [upd] using e2)⟩
theorem MvR.s13 {W0 w:World} {m1 m2:Kw} {ok:Bool} {s:Nat→Bool} {c m e0 e1 k p q:Value} (h:MvR W0 m1 m2 ok s [c,m,e0,e1,k,p,q] w) :MvR W0 m1 m2 ok (upd s 13) [c,m,e0,e1,.bool ok,p,q] w:=by
 obtain ⟨_,_,_,_,_,_,_,e,hB,h0,h1,h2,h3,h4,h5,h6,h7⟩:=h
 cases e
 exact ⟨_,_,_,_,_,_,_,rfl,hB,fun e=>h0 (by simpa [upd] using e),fun e=>h1 (by simpa [upd] using e),fun e=>h2 (by simpa [upd] using e),fun e=>h3 (by simpa [upd] using e),fun _=>rfl,fun e=>(h5 (by simpa [upd] using e)).elim fun g hg=>⟨g,hg.1,hg.2.1,hg.2.2⟩,fun e=>(h6 (by simpa [upd] using e)).elim fun g hg=>⟨g,hg.1,hg.2.1,hg.2.2⟩,fun e1 e2=>h7 (by simpa [upd] using e1) (by simpa [upd] using e2)⟩
theorem MvR.s14 {W0 w:World} {m1 m2:Kw} {ok:Bool} {s:Nat→Bool} {c m e0 e1 k p q:Value} (h:MvR W0 m1 m2 ok s [c,m,e0,e1,k,p,q] w) :MvR W0 m1 m2 ok (upd s 14) [c,m,e0,e1,k,.pointer (some ⟨w.heap.size,0,none⟩),q] (w.alloc (.cells zkA 52)):=by
 obtain ⟨_,_,_,_,_,_,_,e,hB,h0,h1,h2,h3,h4,h5,h6,h7⟩:=h
 cases e
 exact ⟨_,_,_,_,_,_,_,rfl,hB.alloc hB.size _,fun e=>h0 (by simpa [upd] using e),fun e=>h1 (by simpa [upd] using e),fun e=>h2 (by simpa [upd] using e),fun e=>h3 (by simpa [upd] using e),fun e=>h4 (by simpa [upd] using e),fun _=>⟨_,rfl,hB.size,h_new rfl _⟩,fun e=>(h6 (by simpa [upd] using e)).elim fun g hg=>⟨g,hg.1,hg.2.1,(h_old (row_lt hg.2.2) _).trans hg.2.2⟩,fun _ e2=>(h6 (by simpa [upd] using e2)).elim fun g hg=>by rw [hg.1];exact ptr_ne (by have:=row_lt hg.2.2;omega)⟩
theorem MvR.s15 {W0 w:World} {m1 m2:Kw} {ok:Bool} {s:Nat→Bool} {c m e0 e1 k p q:Value} (h:MvR W0 m1 m2 ok s [c,m,e0,e1,k,p,q] w) :MvR W0 m1 m2 ok (upd s 15) [c,m,e0,e1,k,p,.pointer (some ⟨w.heap.size,0,none⟩)] (w.alloc (.cells zkA 52)):=by
 obtain ⟨_,_,_,_,_,_,_,e,hB,h0,h1,h2,h3,h4,h5,h6,h7⟩:=h
 cases e
 exact ⟨_,_,_,_,_,_,_,rfl,hB.alloc hB.size _,fun e=>h0 (by simpa [upd] using e),fun e=>h1 (by simpa [upd] using e),fun e=>h2 (by simpa [upd] using e),fun e=>h3 (by simpa [upd] using e),fun e=>h4 (by simpa [upd] using e),fun e=>(h5 (by simpa [upd] using e)).elim fun g hg=>⟨g,hg.1,hg.2.1,(h_old (row_lt hg.2.2) _).trans hg.2.2⟩,fun _=>⟨_,rfl,hB.size,h_new rfl _⟩,fun e1 _=>(h5 (by simpa [upd] using e1)).elim fun g hg=>by rw [hg.1];exact ptr_ne (by have:=row_lt hg.2.2;omega)⟩
theorem Move_any (ao:Option Addr) (n cap:Nat) (K:List Kw) (w:World) (h:KLA w ao n cap K) (hn:n≤100000) (f0 t:Nat) (hf0:f0<n) (ht:t<n) (hv:∀ x∈K,FitK x∧TestK x) :
  Calls Tryz.prog 9 #[.slice ao n cap,.int .i64 f0,.int .i64 t] w fun r w'=>Below w.heap.size w w'∧((r=.returned (.tuple #[.slice none 0 0,.bool false])∧NotInd K)∨∃ v L,r=.returned (.tuple #[v,.bool true])∧w'.ownsRow w.heap.size 52 5 v n (kcs L)∧Sw K L):=by
 have HK:=lid h
 have HV:=lid hv
 have CC:=lid (CloneK_any n cap ao (kcs K) w h.sl (kcs_one _) h.nil (by omega))
 have hcn:n≤cap:=h.le
 have hc63:cap≤9223372036854775807:=h.max
 clear h hv
 have d1:decide ((f0:Int)<0)=false:=by simp
 have d2:decide ((n:Int)≤(f0:Int))=false:=by simp;omega
 have d3:decide ((t:Int)<0)=false:=by simp
 have d4:decide ((n:Int)≤(t:Int))=false:=by simp;omega
 have d2':decide (n≤f0)=false:=by simp;omega
 have d4':decide (n≤t)=false:=by simp;omega
 go_enter Tryz.func9,Tryz.ntmps9
 go_wp2_with fail
 (with_reducible refine (CC.out).mono ?_);rintro e w1 ⟨v1,rfl,hown,hb1⟩
 obtain ⟨g,c8,rfl⟩:∃ g c8,v1=.slice (some ⟨g,0,none⟩) n c8:=by
  rcases hown.2 with ⟨-,e⟩ | ⟨g,cap,cur,rfl,_⟩
  ·omega
  ·exact ⟨g,cap,rfl⟩
 have HO1:=lid hown
 have HB1:=lid hb1
 clear hown hb1 CC
 go_wp2_with fail
 go_loopw [1] (fun v1 wr=>∃ (f:Nat) (L:List Kw),f<n∧v1=.int .i64 f∧Hid (wr.ownsRow w.heap.size 52 5 (.slice (some ⟨g,0,none⟩) n c8) n (kcs L))∧Hid (Sw K L)∧Hid (Below w.heap.size w wr)) (fun v1 _=>((intOf v1).toNat-t)+(t-(intOf v1).toNat))
 case atStart=>exact ⟨f0,K,hf0,rfl,HO1,lid (.refl K),HB1⟩
 case round =>
  clear HO1 HB1
  obtain ⟨f,L,hf,rfl,HO,HS,HB⟩:=hrel
  have HLL:Hid (L.length=n):=lid (by rw [HS.out.mem.1,HK.out.len])
  by_cases hft:f=t
  ·subst hft
   go_wp2_with fail
   go_ret2
   exact ⟨HB.out,.inr ⟨_,L,rfl,HO.out,HS.out⟩⟩
  ·by_cases hlt:f<t
   ·have d5:decide ((t:Int)<(f:Int))=false:=by simp;omega
    have d5':decide (t<f)=false:=by simp;omega
    have d6:((f:Int) != (t:Int))=true:=by simp;omega
    have d6':(f != t)=true:=by simp;omega
    have d7:((f:Int) == (t:Int))=false:=by simp;omega
    obtain ⟨a,ha⟩:∃ a,L[f]?=some a:=⟨_,List.getElem?_eq_getElem (by rw [HLL.out];exact hf)⟩
    obtain ⟨b,hb⟩:∃ b,L[f+1]?=some b:=⟨_,List.getElem?_eq_getElem (by rw [HLL.out];omega)⟩
    have HA:=lid ha
    have HB2:=lid hb
    have hma:=(HS.out.mem.2 a).1 (List.mem_of_getElem? ha)
    have hmb:=(HS.out.mem.2 b).1 (List.mem_of_getElem? hb)
    have CS:=lid (fun (W:World) (hW:Below w.heap.size w W)=>Swap_any a b W ((HK.out.el a hma).below hW) ((HK.out.el b hmb).below hW) (HV.out a hma).1 (HV.out b hmb).1 (HV.out a hma).2 (HV.out b hmb).2)
    obtain ⟨m1,m2,ok,hres,hor⟩:∃ m1 m2 ok,(if indK a b=true then Value.tuple #[.agg (kca b),.agg (kca a),.bool true] else .tuple #[.agg (kca zKw),.agg (kca zKw),.bool false])=.tuple #[.agg (kca m1),.agg (kca m2),.bool ok]∧((ok=true∧indK a b=true∧m1=b∧m2=a)∨(ok=false∧indK a b=false)):=by
     by_cases hi:indK a b=true
     ·exact ⟨b,a,true,if_pos hi,.inl ⟨rfl,hi,rfl,rfl⟩⟩
     ·exact ⟨zKw,zKw,false,if_neg hi,.inr ⟨rfl,by cases h:indK a b <;> simp_all⟩⟩
    rw [hres] at CS
    have HRES:=lid hor
    have hk5:∀ {i j:Nat} {x:Kw} {u:Value},L[i]?=some x→j<5→(kce x)[j]?=some u→wr.cell? ⟨g,i*5+j,none⟩=some u:=fun {i j x u} hx hj hu=>own_cellK HO.out _ (by obtain ⟨hi,e⟩:=List.getElem?_eq_some_iff.1 hx;rw [kcs_cell hi hj,e];exact hu)
    have x0:wr.cell? ⟨g,f*5,none⟩=some (.int .i64 a.kind):=hk5 (j:=0) ha (by omega) rfl
    have y0:wr.cell? ⟨g,(f+1)*5,none⟩=some (.int .i64 b.kind):=hk5 (j:=0) hb (by omega) rfl
    have x1:wr.cell? ⟨g,f*5+1,none⟩=some (.string a.pack):=hk5 (j:=1) ha (by omega) rfl
    have y1:wr.cell? ⟨g,(f+1)*5+1,none⟩=some (.string b.pack):=hk5 (j:=1) hb (by omega) rfl
    have x2:wr.cell? ⟨g,f*5+2,none⟩=some (.string a.text):=hk5 (j:=2) ha (by omega) rfl
    have y2:wr.cell? ⟨g,(f+1)*5+2,none⟩=some (.string b.text):=hk5 (j:=2) hb (by omega) rfl
    have x3:wr.cell? ⟨g,f*5+3,none⟩=some (.slice a.oa a.old.length a.ocap):=hk5 (j:=3) ha (by omega) rfl
    have y3:wr.cell? ⟨g,(f+1)*5+3,none⟩=some (.slice b.oa b.old.length b.ocap):=hk5 (j:=3) hb (by omega) rfl
    have x4:wr.cell? ⟨g,f*5+4,none⟩=some (.slice a.na a.new.length a.ncap):=hk5 (j:=4) ha (by omega) rfl
    have y4:wr.cell? ⟨g,(f+1)*5+4,none⟩=some (.slice b.na b.new.length b.ncap):=hk5 (j:=4) hb (by omega) rfl
    have lg:g<wr.heap.size:=by obtain ⟨cur,-,hr,-⟩:=own_formK HO.out;exact row_lt hr
    have hcap:n≤c8∧c8≤9223372036854775807:=by obtain ⟨cur,-,-,h3,h4,-⟩:=own_formK HO.out;exact ⟨h3,h4⟩
    obtain ⟨hc81,hc82⟩:=hcap
    clear hk5 hres hor hma hmb ha hb
    go_wp2_with fail
    refine wp_region_mixF (fun w'=>∃ s:Since wr.heap.size wr,w'=s.world) [(0,true),(1,true),(2,true),(3,true),(4,true),(5,true),(6,true),(7,true),(8,true)] [(9,[]),(14,[]),(15,[])] [(10,[9]),(11,[10]),(12,[10]),(13,[10])] [(16,false),(17,false),(18,false)] (by kernel_rfl) (by kernel_rfl) (by intro c d v a w h;first | (cases d <;> exact h) | cases h.1) (since (Below.refl _ _).drew) ?_
    repeat (first | (refine qk ?_;simp only [Act.put,q1,q2,q3]) | (refine qf ?_;intro K hK;go_big_quiet_op;go_big_quiet_on))
    refine seq_nil (mixF_go [57,47,58,59,60,11,12] [u57,u47,u58,u59,u60,u11,u12] (MvR wr m1 m2 ok) rfl (by simp only [putAll,Act.put,q1,q2,q3]) (fun s h g=>⟨_,_,_,_,_,_,_,rfl,(Below.refl _ _).drew,fun e=>absurd e (by rw [(h (9,[]) (by simp))];simp),fun e=>absurd e (by rw [(g (10,[9]) (by simp))];simp),fun e=>absurd e (by rw [(g (11,[10]) (by simp))];simp),fun e=>absurd e (by rw [(g (12,[10]) (by simp))];simp),fun e=>absurd e (by rw [(g (13,[10]) (by simp))];simp),fun e=>absurd e (by rw [(h (14,[]) (by simp))];simp),fun e=>absurd e (by rw [(h (15,[]) (by simp))];simp),fun e=>absurd e (by rw [(h (14,[]) (by simp))];simp)⟩) ⟨?_,?_,?_,trivial⟩ ⟨?_,?_,?_,?_,trivial⟩ ?_)
    ·intro s vs wm _ _ hneed _ hR
     have hR':=lid hR
     obtain ⟨z0,z1,z2,z3,z4,z5,z6,rfl,hB1,r0,r1,-⟩:=hR
     have HB1:=lid hB1
     clear hB1 r0 r1
     simp only [putAll,Act.put,q1,q2,q3]
     refine mix_op (by rfl) ?_
     intro K' hK'
     go_wp2_with fail
     (with_reducible refine (CS.out wm (HB.out.trans (HB1.out.mono HB.out.size))).mono ?_);rintro e w4 ⟨rfl,hb4⟩
     go_wp2_with fail
     exact hK'.out _ _ ⟨since (HB1.out.trans (hb4.mono HB1.out.size)),[_,z1,z2,z3,z4,z5,z6],rfl,by simp only [putAll,Act.put,q1,q2,q3],hR'.out.s9 hb4⟩
    ·intro s vs wm _ _ hneed _ hR
     have hR':=lid hR
     obtain ⟨z0,z1,z2,z3,z4,z5,z6,rfl,hB1,r0,r1,-⟩:=hR
     have HB1:=lid hB1
     clear hB1 r0 r1
     simp only [putAll,Act.put,q1,q2,q3]
     refine mix_op (by rfl) ?_
     intro K' hK'
     go_wp2_with fail
     exact hK'.out _ _ ⟨since (HB1.out.alloc HB1.out.size _),[z0,z1,z2,z3,z4,_,z6],rfl,by simp only [putAll,Act.put,q1,q2,q3],hR'.out.s14⟩
    ·intro s vs wm _ _ hneed _ hR
     have hR':=lid hR
     obtain ⟨z0,z1,z2,z3,z4,z5,z6,rfl,hB1,r0,r1,-⟩:=hR
     have HB1:=lid hB1
     clear hB1 r0 r1
     simp only [putAll,Act.put,q1,q2,q3]
     refine mix_op (by rfl) ?_
     intro K' hK'
     go_wp2_with fail
     exact hK'.out _ _ ⟨since (HB1.out.alloc HB1.out.size _),[z0,z1,z2,z3,z4,z5,_],rfl,by simp only [putAll,Act.put,q1,q2,q3],hR'.out.s15⟩
    ·intro s vs wm _ _ hneed _ hR
     have hR':=lid hR
     obtain ⟨z0,z1,z2,z3,z4,z5,z6,rfl,hB1,r0,r1,-⟩:=hR
     obtain rfl:=r0 (hneed 9 (by simp))
     have HB1:=lid hB1
     clear hB1 r0 r1
     refine mix_read (by rfl) (by rfl) (by rfl) ?_
     intro K' hK'
     simp only [putAll,Act.put,q1,q2,q3]
     go_big_quiet_op
     go_big_quiet_on
     exact ⟨[_,_,z2,z3,z4,z5,z6],rfl,by simp only [putAll,Act.put,q1,q2,q3],hR'.out.s10⟩
    ·intro s vs wm _ _ hneed _ hR
     have hR':=lid hR
     obtain ⟨z0,z1,z2,z3,z4,z5,z6,rfl,hB1,r0,r1,-⟩:=hR
     obtain rfl:=r1 (hneed 10 (by simp))
     have HB1:=lid hB1
     clear hB1 r0 r1
     refine mix_read (by rfl) (by rfl) (by rfl) ?_
     intro K' hK'
     simp only [putAll,Act.put,q1,q2,q3]
     go_big_quiet_op
     go_big_quiet_on
     exact ⟨[z0,_,_,z3,z4,z5,z6],rfl,by simp only [putAll,Act.put,q1,q2,q3],hR'.out.s11⟩
    ·intro s vs wm _ _ hneed _ hR
     have hR':=lid hR
     obtain ⟨z0,z1,z2,z3,z4,z5,z6,rfl,hB1,r0,r1,-⟩:=hR
     obtain rfl:=r1 (hneed 10 (by simp))
     have HB1:=lid hB1
     clear hB1 r0 r1
     refine mix_read (by rfl) (by rfl) (by rfl) ?_
     intro K' hK'
     simp only [putAll,Act.put,q1,q2,q3]
     go_big_quiet_op
     go_big_quiet_on
     exact ⟨[z0,_,z2,_,z4,z5,z6],rfl,by simp only [putAll,Act.put,q1,q2,q3],hR'.out.s12⟩
    ·intro s vs wm _ _ hneed _ hR
     have hR':=lid hR
     obtain ⟨z0,z1,z2,z3,z4,z5,z6,rfl,hB1,r0,r1,-⟩:=hR
     obtain rfl:=r1 (hneed 10 (by simp))
     have HB1:=lid hB1
     clear hB1 r0 r1
     refine mix_read (by rfl) (by rfl) (by rfl) ?_
     intro K' hK'
     simp only [putAll,Act.put,q1,q2,q3]
     go_big_quiet_op
     go_big_quiet_on
     exact ⟨[z0,_,z2,z3,_,z5,z6],rfl,by simp only [putAll,Act.put,q1,q2,q3],hR'.out.s13⟩
    ·intro s vs w8 _ hall hallf _ hR
     obtain ⟨z0,z1,z2,z3,z4,z5,z6,rfl,hB1,r0,r1,r2,r3,r4,r5,r6,r7⟩:=hR
     obtain rfl:=r0 (hall (9,[]) (by simp))
     obtain rfl:=r1 (hallf (10,[9]) (by simp))
     obtain rfl:=r2 (hallf (11,[10]) (by simp))
     obtain rfl:=r3 (hallf (12,[10]) (by simp))
     obtain rfl:=r4 (hallf (13,[10]) (by simp))
     obtain ⟨p,rfl,hpz,hrp⟩:=r5 (hall (14,[]) (by simp))
     obtain ⟨q,rfl,hqz,hrq⟩:=r6 (hall (15,[]) (by simp))
     have hpq:p≠q:=fun e=>r7 (hall (14,[]) (by simp)) (hall (15,[]) (by simp)) (by rw [e])
     clear r5 r6 r7 hall hallf
     simp only [putAll,Act.put,q1,q2,q3]
     refine qc ?_
     intro K' hK'
     refine wpList_store_mid rfl 52 _ _ rfl p 0 (kca m1) rfl rfl (there_row hrp (by simp)) (by kernel_rfl) (by simp [Value.oneCell']) ?_
     obtain ⟨w9,hw9⟩:∃ y,w8.setCells p 0 (kca m1).toList=y:=⟨_,rfl⟩
     have h9:Below wr.heap.size wr w9:=by rw [← hw9];exact below_cells hpz _ _ _ hB1
     have hP9:w9.heap[p]?=some (.cells (kca m1) 52 (0,0)):=by rw [← hw9];exact row_whole (vs:=kca m1) hrp rfl
     have hQ9:w9.heap[q]?=some (.cells zkA 52 (0,0)):=by rw [← hw9];exact (setCells_other (Ne.symm hpq) _ _ _).trans hrq
     rw [hw9]
     clear hw9
     simp only [Act.put]
     go_wp2_with fail
     refine hK'.out _ _ (since h9) ?_
     clear hK' K'
     refine qc ?_
     intro K' hK'
     refine wpList_store_mid rfl 52 _ _ rfl q 0 (kca m2) rfl rfl (there_row hQ9 (by simp)) (by kernel_rfl) (by simp [Value.oneCell']) ?_
     obtain ⟨w10,hw10⟩:∃ y,w9.setCells q 0 (kca m2).toList=y:=⟨_,rfl⟩
     have h10:Below wr.heap.size wr w10:=by rw [← hw10];exact below_cells hqz _ _ _ h9
     have hQ10:w10.heap[q]?=some (.cells (kca m2) 52 (0,0)):=by rw [← hw10];exact row_whole (vs:=kca m2) hQ9 rfl
     have hP10:w10.heap[p]?=some (.cells (kca m1) 52 (0,0)):=by rw [← hw10];exact (setCells_other hpq _ _ _).trans hP9
     rw [hw10]
     simp only [Act.put]
     clear hw10 hrp hrq hP9 hQ9 h9 hB1
     have H10:=lid h10
     have HP10:=lid hP10
     have HQ10:=lid hQ10
     have HPZ:=lid (And.intro hpz hqz)
     clear h10 hP10 hQ10 hpz hqz hpq
     go_wp2_with fail
     refine hK'.out _ _ (since H10.out) ?_
     clear hK' K'
     refine qc ?_
     intro K' hK'
     go_wp2_with fail
     refine hK'.out _ _ (since H10.out) ?_
     clear hK' K'
     refine seq_nil ?_
     have HB10:=lid (HB.out.trans (H10.out.mono HB.out.size))
     have HO10:=lid (own_keep HO.out (fun g hg=>H10.out.block g (HO.out.lt g hg).2))
     clear x0 x1 x2 x3 x4 y0 y1 y2 y3 y4
     cases ok with
     | false =>
      obtain ⟨pp,qq,hs1,-⟩:=set_two HA.out HB2.out
      have HND:Hid (NotInd K):=lid ⟨pp,a,b,qq,by rw [← hs1];exact HS.out,by
       rcases HRES.out with h | h
       ·cases h.1
       ·exact h.2⟩
      clear hs1
      go_wp2_with fail
      go_ret2
      exact ⟨HB10.out,.inl ⟨rfl,HND.out⟩⟩
     | true =>
      obtain ⟨hi,rfl,rfl⟩:indK a b=true∧m1=b∧m2=a:=by
       rcases HRES.out with h | h
       ·exact h.2
       ·cases h.1
      have hgp:p≠g:=by have:=HPZ.out.1;omega
      have hgq:q≠g:=by have:=HPZ.out.2;omega
      have lp:=row_lt HP10.out
      have lq:=row_lt HQ10.out
      have tp0:=SinceX.cell (B:=w10.heap.size) (X:=g) (W:=w10) p 0 lp hgp (row_cell HP10.out 0)
      have tq0:=SinceX.cell (B:=w10.heap.size) (X:=g) (W:=w10) q 0 lq hgq (row_cell HQ10.out 0)
      have tp1:=SinceX.cell (B:=w10.heap.size) (X:=g) (W:=w10) p 1 lp hgp (row_cell HP10.out 1)
      have tq1:=SinceX.cell (B:=w10.heap.size) (X:=g) (W:=w10) q 1 lq hgq (row_cell HQ10.out 1)
      have tp2:=SinceX.cell (B:=w10.heap.size) (X:=g) (W:=w10) p 2 lp hgp (row_cell HP10.out 2)
      have tq2:=SinceX.cell (B:=w10.heap.size) (X:=g) (W:=w10) q 2 lq hgq (row_cell HQ10.out 2)
      have tp3:=SinceX.cell (B:=w10.heap.size) (X:=g) (W:=w10) p 3 lp hgp (row_cell HP10.out 3)
      have tq3:=SinceX.cell (B:=w10.heap.size) (X:=g) (W:=w10) q 3 lq hgq (row_cell HQ10.out 3)
      have tp4:=SinceX.cell (B:=w10.heap.size) (X:=g) (W:=w10) p 4 lp hgp (row_cell HP10.out 4)
      have tq4:=SinceX.cell (B:=w10.heap.size) (X:=g) (W:=w10) q 4 lq hgq (row_cell HQ10.out 4)
      obtain ⟨pp,qq,hs1,hs2⟩:=set_two HA.out HB2.out
      have HSW:Hid (Sw K ((L.set f m1).set (f+1) m2)):=lid (by rw [hs2];exact .step (by rw [← hs1];exact HS.out) hi)
      have HT1:=lid (own_set (i:=f) (x:=m1) HO10.out HLL.out (by omega)).1
      have HGB:Hid (w.heap.size≤g):=lid (own_set (i:=f) (x:=m1) HO10.out HLL.out (by omega)).2.1
      clear hs1 hs2 hi
      have lg10:g<w10.heap.size:=Nat.lt_of_lt_of_le lg H10.out.size
      go_wp2_with fail
      refine qs (fun w'=>∃ s:SinceX w10.heap.size g w10,w'=s.world) [(0,true),(1,true),(2,true),(3,true),(4,true),(5,true),(6,true),(7,true),(8,false),(9,true),(10,false)] (sincex (KeptX.refl _ _ _).drew) ?_
      repeat (first | (refine qk ?_;simp only [Act.put,q1,q2,q3]) | (refine qf ?_;intro K hK;go_big_quiet_op;go_big_quiet_on))
      refine qc ?_
      intro K' hK'
      refine wpList_store_mid rfl 52 _ _ rfl g (f*5) (kca m1) rfl rfl (show World.there w10.drew g (f*5) 5 from HT1.out) (by kernel_rfl) (by simp [Value.oneCell']) ?_
      have HO11:=lid (own_set (w:=w10.drew) (i:=f) (x:=m1) HO10.out HLL.out (by omega)).2.2
      obtain ⟨w11,hw11⟩:∃ y,w10.drew.setCells g (f*5) (kca m1).toList=y:=⟨_,rfl⟩
      have HX11:Hid (KeptX w10.heap.size g w10 w11):=lid (by rw [← hw11];exact fun k _ hx=>setCells_other hx _ _ _)
      have HB11:Hid (Below w.heap.size w w11):=lid (by rw [← hw11];exact below_cells HGB.out _ _ _ HB10.out.drew)
      rw [show w10.drew.setCells g (f*5) (kce m1)=w11 from hw11] at HO11
      rw [hw11]
      have HLS:Hid ((L.set f m1).length=n):=lid (by rw [List.length_set];exact HLL.out)
      have HT2:=lid (own_set (i:=f+1) (x:=m2) HO11.out HLS.out (by omega)).1
      clear hw11
      simp only [Act.put]
      go_wp2_with fail
      refine hK'.out _ _ (sincex HX11.out) ?_
      clear hK' K'
      repeat (first | (refine qk ?_;simp only [Act.put,q1,q2,q3]) | (refine qf ?_;intro K hK;go_big_quiet_op;go_big_quiet_on))
      refine qc ?_
      intro K' hK'
      refine wpList_store_mid rfl 52 _ _ rfl g ((f+1)*5) (kca m2) rfl rfl HT2.out (by kernel_rfl) (by simp [Value.oneCell']) ?_
      have HO12:=lid (own_set (i:=f+1) (x:=m2) HO11.out HLS.out (by omega)).2.2
      obtain ⟨w12,hw12⟩:∃ y,w11.setCells g ((f+1)*5) (kca m2).toList=y:=⟨_,rfl⟩
      have HX12:Hid (KeptX w10.heap.size g w10 w12):=lid (by rw [← hw12];exact fun k hk hx=>(setCells_other hx _ _ _).trans (HX11.out k hk hx))
      have HB12:Hid (Below w.heap.size w w12):=lid (by rw [← hw12];exact below_cells HGB.out _ _ _ HB11.out)
      rw [show w11.setCells g ((f+1)*5) (kce m2)=w12 from hw12] at HO12
      rw [hw12]
      clear hw12
      simp only [Act.put]
      go_wp2_with fail
      refine hK'.out _ _ (sincex HX12.out) ?_
      clear hK' K'
      refine seq_nil ?_
      go_wp2_with fail
      go_roundw
      case measure=>simp only [intOf];omega
      case rel=>exact ⟨f+1,_,by omega,by simp,HO12,HSW,HB12⟩
   ·obtain ⟨l,hl1⟩:∃ l,l+1=f:=⟨f-1,by omega⟩
    have hln:l+1<n:=by omega
    have hl2:l<n:=by omega
    have e1:(f:Int)-1=(l:Int):=by omega
    have d5:decide ((t:Int)<(f:Int))=true:=by simp;omega
    have d5':decide (t<f)=true:=by simp;omega
    have d6:((f:Int) != (t:Int))=true:=by simp;omega
    have d6':(f != t)=true:=by simp;omega
    have d7:((f:Int) == (t:Int))=false:=by simp;omega
    have HL1:=lid hl1
    clear hl1
    obtain ⟨a,ha⟩:∃ a,L[l]?=some a:=⟨_,List.getElem?_eq_getElem (by rw [HLL.out];exact hl2)⟩
    obtain ⟨b,hb⟩:∃ b,L[l+1]?=some b:=⟨_,List.getElem?_eq_getElem (by rw [HLL.out];omega)⟩
    have HA:=lid ha
    have HB2:=lid hb
    have hma:=(HS.out.mem.2 a).1 (List.mem_of_getElem? ha)
    have hmb:=(HS.out.mem.2 b).1 (List.mem_of_getElem? hb)
    have CS:=lid (fun (W:World) (hW:Below w.heap.size w W)=>Swap_any a b W ((HK.out.el a hma).below hW) ((HK.out.el b hmb).below hW) (HV.out a hma).1 (HV.out b hmb).1 (HV.out a hma).2 (HV.out b hmb).2)
    obtain ⟨m1,m2,ok,hres,hor⟩:∃ m1 m2 ok,(if indK a b=true then Value.tuple #[.agg (kca b),.agg (kca a),.bool true] else .tuple #[.agg (kca zKw),.agg (kca zKw),.bool false])=.tuple #[.agg (kca m1),.agg (kca m2),.bool ok]∧((ok=true∧indK a b=true∧m1=b∧m2=a)∨(ok=false∧indK a b=false)):=by
     by_cases hi:indK a b=true
     ·exact ⟨b,a,true,if_pos hi,.inl ⟨rfl,hi,rfl,rfl⟩⟩
     ·exact ⟨zKw,zKw,false,if_neg hi,.inr ⟨rfl,by cases h:indK a b <;> simp_all⟩⟩
    rw [hres] at CS
    have HRES:=lid hor
    have hk5:∀ {i j:Nat} {x:Kw} {u:Value},L[i]?=some x→j<5→(kce x)[j]?=some u→wr.cell? ⟨g,i*5+j,none⟩=some u:=fun {i j x u} hx hj hu=>own_cellK HO.out _ (by obtain ⟨hi,e⟩:=List.getElem?_eq_some_iff.1 hx;rw [kcs_cell hi hj,e];exact hu)
    have x0:wr.cell? ⟨g,l*5,none⟩=some (.int .i64 a.kind):=hk5 (j:=0) ha (by omega) rfl
    have y0:wr.cell? ⟨g,(l+1)*5,none⟩=some (.int .i64 b.kind):=hk5 (j:=0) hb (by omega) rfl
    have x1:wr.cell? ⟨g,l*5+1,none⟩=some (.string a.pack):=hk5 (j:=1) ha (by omega) rfl
    have y1:wr.cell? ⟨g,(l+1)*5+1,none⟩=some (.string b.pack):=hk5 (j:=1) hb (by omega) rfl
    have x2:wr.cell? ⟨g,l*5+2,none⟩=some (.string a.text):=hk5 (j:=2) ha (by omega) rfl
    have y2:wr.cell? ⟨g,(l+1)*5+2,none⟩=some (.string b.text):=hk5 (j:=2) hb (by omega) rfl
    have x3:wr.cell? ⟨g,l*5+3,none⟩=some (.slice a.oa a.old.length a.ocap):=hk5 (j:=3) ha (by omega) rfl
    have y3:wr.cell? ⟨g,(l+1)*5+3,none⟩=some (.slice b.oa b.old.length b.ocap):=hk5 (j:=3) hb (by omega) rfl
    have x4:wr.cell? ⟨g,l*5+4,none⟩=some (.slice a.na a.new.length a.ncap):=hk5 (j:=4) ha (by omega) rfl
    have y4:wr.cell? ⟨g,(l+1)*5+4,none⟩=some (.slice b.na b.new.length b.ncap):=hk5 (j:=4) hb (by omega) rfl
    have lg:g<wr.heap.size:=by obtain ⟨cur,-,hr,-⟩:=own_formK HO.out;exact row_lt hr
    have hcap:n≤c8∧c8≤9223372036854775807:=by obtain ⟨cur,-,-,h3,h4,-⟩:=own_formK HO.out;exact ⟨h3,h4⟩
    obtain ⟨hc81,hc82⟩:=hcap
    clear hk5 hres hor hma hmb ha hb
    go_wp2_with fail
    refine wp_region_mixF (fun w'=>∃ s:Since wr.heap.size wr,w'=s.world) [(0,true),(1,true),(2,true),(3,true),(4,true),(5,true),(6,true),(7,true),(8,true)] [(9,[]),(14,[]),(15,[])] [(10,[9]),(11,[10]),(12,[10]),(13,[10])] [(16,false),(17,false),(18,false)] (by kernel_rfl) (by kernel_rfl) (by intro c d v a w h;first | (cases d <;> exact h) | cases h.1) (since (Below.refl _ _).drew) ?_
    repeat (first | (refine qk ?_;simp only [Act.put,q1,q2,q3]) | (refine qf ?_;intro K hK;go_big_quiet_op;go_big_quiet_on))
    refine seq_nil (mixF_go [57,47,58,59,60,11,12] [u57,u47,u58,u59,u60,u11,u12] (MvR wr m1 m2 ok) rfl (by simp only [putAll,Act.put,q1,q2,q3]) (fun s h g=>⟨_,_,_,_,_,_,_,rfl,(Below.refl _ _).drew,fun e=>absurd e (by rw [(h (9,[]) (by simp))];simp),fun e=>absurd e (by rw [(g (10,[9]) (by simp))];simp),fun e=>absurd e (by rw [(g (11,[10]) (by simp))];simp),fun e=>absurd e (by rw [(g (12,[10]) (by simp))];simp),fun e=>absurd e (by rw [(g (13,[10]) (by simp))];simp),fun e=>absurd e (by rw [(h (14,[]) (by simp))];simp),fun e=>absurd e (by rw [(h (15,[]) (by simp))];simp),fun e=>absurd e (by rw [(h (14,[]) (by simp))];simp)⟩) ⟨?_,?_,?_,trivial⟩ ⟨?_,?_,?_,?_,trivial⟩ ?_)
    ·intro s vs wm _ _ hneed _ hR
     have hR':=lid hR
     obtain ⟨z0,z1,z2,z3,z4,z5,z6,rfl,hB1,r0,r1,-⟩:=hR
     have HB1:=lid hB1
     clear hB1 r0 r1
     simp only [putAll,Act.put,q1,q2,q3]
     refine mix_op (by rfl) ?_
     intro K' hK'
     go_wp2_with fail
     (with_reducible refine (CS.out wm (HB.out.trans (HB1.out.mono HB.out.size))).mono ?_);rintro e w4 ⟨rfl,hb4⟩
     go_wp2_with fail
     exact hK'.out _ _ ⟨since (HB1.out.trans (hb4.mono HB1.out.size)),[_,z1,z2,z3,z4,z5,z6],rfl,by simp only [putAll,Act.put,q1,q2,q3],hR'.out.s9 hb4⟩
    ·intro s vs wm _ _ hneed _ hR
     have hR':=lid hR
     obtain ⟨z0,z1,z2,z3,z4,z5,z6,rfl,hB1,r0,r1,-⟩:=hR
     have HB1:=lid hB1
     clear hB1 r0 r1
     simp only [putAll,Act.put,q1,q2,q3]
     refine mix_op (by rfl) ?_
     intro K' hK'
     go_wp2_with fail
     exact hK'.out _ _ ⟨since (HB1.out.alloc HB1.out.size _),[z0,z1,z2,z3,z4,_,z6],rfl,by simp only [putAll,Act.put,q1,q2,q3],hR'.out.s14⟩
    ·intro s vs wm _ _ hneed _ hR
     have hR':=lid hR
     obtain ⟨z0,z1,z2,z3,z4,z5,z6,rfl,hB1,r0,r1,-⟩:=hR
     have HB1:=lid hB1
     clear hB1 r0 r1
     simp only [putAll,Act.put,q1,q2,q3]
     refine mix_op (by rfl) ?_
     intro K' hK'
     go_wp2_with fail
     exact hK'.out _ _ ⟨since (HB1.out.alloc HB1.out.size _),[z0,z1,z2,z3,z4,z5,_],rfl,by simp only [putAll,Act.put,q1,q2,q3],hR'.out.s15⟩
    ·intro s vs wm _ _ hneed _ hR
     have hR':=lid hR
     obtain ⟨z0,z1,z2,z3,z4,z5,z6,rfl,hB1,r0,r1,-⟩:=hR
     obtain rfl:=r0 (hneed 9 (by simp))
     have HB1:=lid hB1
     clear hB1 r0 r1
     refine mix_read (by rfl) (by rfl) (by rfl) ?_
     intro K' hK'
     simp only [putAll,Act.put,q1,q2,q3]
     go_big_quiet_op
     go_big_quiet_on
     exact ⟨[_,_,z2,z3,z4,z5,z6],rfl,by simp only [putAll,Act.put,q1,q2,q3],hR'.out.s10⟩
    ·intro s vs wm _ _ hneed _ hR
     have hR':=lid hR
     obtain ⟨z0,z1,z2,z3,z4,z5,z6,rfl,hB1,r0,r1,-⟩:=hR
     obtain rfl:=r1 (hneed 10 (by simp))
     have HB1:=lid hB1
     clear hB1 r0 r1
     refine mix_read (by rfl) (by rfl) (by rfl) ?_
     intro K' hK'
     simp only [putAll,Act.put,q1,q2,q3]
     go_big_quiet_op
     go_big_quiet_on
     exact ⟨[z0,_,_,z3,z4,z5,z6],rfl,by simp only [putAll,Act.put,q1,q2,q3],hR'.out.s11⟩
    ·intro s vs wm _ _ hneed _ hR
     have hR':=lid hR
     obtain ⟨z0,z1,z2,z3,z4,z5,z6,rfl,hB1,r0,r1,-⟩:=hR
     obtain rfl:=r1 (hneed 10 (by simp))
     have HB1:=lid hB1
     clear hB1 r0 r1
     refine mix_read (by rfl) (by rfl) (by rfl) ?_
     intro K' hK'
     simp only [putAll,Act.put,q1,q2,q3]
     go_big_quiet_op
     go_big_quiet_on
     exact ⟨[z0,_,z2,_,z4,z5,z6],rfl,by simp only [putAll,Act.put,q1,q2,q3],hR'.out.s12⟩
    ·intro s vs wm _ _ hneed _ hR
     have hR':=lid hR
     obtain ⟨z0,z1,z2,z3,z4,z5,z6,rfl,hB1,r0,r1,-⟩:=hR
     obtain rfl:=r1 (hneed 10 (by simp))
     have HB1:=lid hB1
     clear hB1 r0 r1
     refine mix_read (by rfl) (by rfl) (by rfl) ?_
     intro K' hK'
     simp only [putAll,Act.put,q1,q2,q3]
     go_big_quiet_op
     go_big_quiet_on
     exact ⟨[z0,_,z2,z3,_,z5,z6],rfl,by simp only [putAll,Act.put,q1,q2,q3],hR'.out.s13⟩
    ·intro s vs w8 _ hall hallf _ hR
     obtain ⟨z0,z1,z2,z3,z4,z5,z6,rfl,hB1,r0,r1,r2,r3,r4,r5,r6,r7⟩:=hR
     obtain rfl:=r0 (hall (9,[]) (by simp))
     obtain rfl:=r1 (hallf (10,[9]) (by simp))
     obtain rfl:=r2 (hallf (11,[10]) (by simp))
     obtain rfl:=r3 (hallf (12,[10]) (by simp))
     obtain rfl:=r4 (hallf (13,[10]) (by simp))
     obtain ⟨p,rfl,hpz,hrp⟩:=r5 (hall (14,[]) (by simp))
     obtain ⟨q,rfl,hqz,hrq⟩:=r6 (hall (15,[]) (by simp))
     have hpq:p≠q:=fun e=>r7 (hall (14,[]) (by simp)) (hall (15,[]) (by simp)) (by rw [e])
     clear r5 r6 r7 hall hallf
     simp only [putAll,Act.put,q1,q2,q3]
     refine qc ?_
     intro K' hK'
     refine wpList_store_mid rfl 52 _ _ rfl p 0 (kca m1) rfl rfl (there_row hrp (by simp)) (by kernel_rfl) (by simp [Value.oneCell']) ?_
     obtain ⟨w9,hw9⟩:∃ y,w8.setCells p 0 (kca m1).toList=y:=⟨_,rfl⟩
     have h9:Below wr.heap.size wr w9:=by rw [← hw9];exact below_cells hpz _ _ _ hB1
     have hP9:w9.heap[p]?=some (.cells (kca m1) 52 (0,0)):=by rw [← hw9];exact row_whole (vs:=kca m1) hrp rfl
     have hQ9:w9.heap[q]?=some (.cells zkA 52 (0,0)):=by rw [← hw9];exact (setCells_other (Ne.symm hpq) _ _ _).trans hrq
     rw [hw9]
     clear hw9
     simp only [Act.put]
     go_wp2_with fail
     refine hK'.out _ _ (since h9) ?_
     clear hK' K'
     refine qc ?_
     intro K' hK'
     refine wpList_store_mid rfl 52 _ _ rfl q 0 (kca m2) rfl rfl (there_row hQ9 (by simp)) (by kernel_rfl) (by simp [Value.oneCell']) ?_
     obtain ⟨w10,hw10⟩:∃ y,w9.setCells q 0 (kca m2).toList=y:=⟨_,rfl⟩
     have h10:Below wr.heap.size wr w10:=by rw [← hw10];exact below_cells hqz _ _ _ h9
     have hQ10:w10.heap[q]?=some (.cells (kca m2) 52 (0,0)):=by rw [← hw10];exact row_whole (vs:=kca m2) hQ9 rfl
     have hP10:w10.heap[p]?=some (.cells (kca m1) 52 (0,0)):=by rw [← hw10];exact (setCells_other hpq _ _ _).trans hP9
     rw [hw10]
     simp only [Act.put]
     clear hw10 hrp hrq hP9 hQ9 h9 hB1
     have H10:=lid h10
     have HP10:=lid hP10
     have HQ10:=lid hQ10
     have HPZ:=lid (And.intro hpz hqz)
     clear h10 hP10 hQ10 hpz hqz hpq
     go_wp2_with fail
     refine hK'.out _ _ (since H10.out) ?_
     clear hK' K'
     refine qc ?_
     intro K' hK'
     go_wp2_with fail
     refine hK'.out _ _ (since H10.out) ?_
     clear hK' K'
     refine seq_nil ?_
     have HB10:=lid (HB.out.trans (H10.out.mono HB.out.size))
     have HO10:=lid (own_keep HO.out (fun g hg=>H10.out.block g (HO.out.lt g hg).2))
     clear x0 x1 x2 x3 x4 y0 y1 y2 y3 y4
     cases ok with
     | false =>
      obtain ⟨pp,qq,hs1,-⟩:=set_two HA.out HB2.out
      have HND:Hid (NotInd K):=lid ⟨pp,a,b,qq,by rw [← hs1];exact HS.out,by
       rcases HRES.out with h | h
       ·cases h.1
       ·exact h.2⟩
      clear hs1
      go_wp2_with fail
      go_ret2
      exact ⟨HB10.out,.inl ⟨rfl,HND.out⟩⟩
     | true =>
      obtain ⟨hi,rfl,rfl⟩:indK a b=true∧m1=b∧m2=a:=by
       rcases HRES.out with h | h
       ·exact h.2
       ·cases h.1
      have hgp:p≠g:=by have:=HPZ.out.1;omega
      have hgq:q≠g:=by have:=HPZ.out.2;omega
      have lp:=row_lt HP10.out
      have lq:=row_lt HQ10.out
      have tp0:=SinceX.cell (B:=w10.heap.size) (X:=g) (W:=w10) p 0 lp hgp (row_cell HP10.out 0)
      have tq0:=SinceX.cell (B:=w10.heap.size) (X:=g) (W:=w10) q 0 lq hgq (row_cell HQ10.out 0)
      have tp1:=SinceX.cell (B:=w10.heap.size) (X:=g) (W:=w10) p 1 lp hgp (row_cell HP10.out 1)
      have tq1:=SinceX.cell (B:=w10.heap.size) (X:=g) (W:=w10) q 1 lq hgq (row_cell HQ10.out 1)
      have tp2:=SinceX.cell (B:=w10.heap.size) (X:=g) (W:=w10) p 2 lp hgp (row_cell HP10.out 2)
      have tq2:=SinceX.cell (B:=w10.heap.size) (X:=g) (W:=w10) q 2 lq hgq (row_cell HQ10.out 2)
      have tp3:=SinceX.cell (B:=w10.heap.size) (X:=g) (W:=w10) p 3 lp hgp (row_cell HP10.out 3)
      have tq3:=SinceX.cell (B:=w10.heap.size) (X:=g) (W:=w10) q 3 lq hgq (row_cell HQ10.out 3)
      have tp4:=SinceX.cell (B:=w10.heap.size) (X:=g) (W:=w10) p 4 lp hgp (row_cell HP10.out 4)
      have tq4:=SinceX.cell (B:=w10.heap.size) (X:=g) (W:=w10) q 4 lq hgq (row_cell HQ10.out 4)
      obtain ⟨pp,qq,hs1,hs2⟩:=set_two HA.out HB2.out
      have HSW:Hid (Sw K ((L.set l m1).set (l+1) m2)):=lid (by rw [hs2];exact .step (by rw [← hs1];exact HS.out) hi)
      have HT1:=lid (own_set (i:=l) (x:=m1) HO10.out HLL.out (by omega)).1
      have HGB:Hid (w.heap.size≤g):=lid (own_set (i:=l) (x:=m1) HO10.out HLL.out (by omega)).2.1
      clear hs1 hs2 hi
      have lg10:g<w10.heap.size:=Nat.lt_of_lt_of_le lg H10.out.size
      go_wp2_with fail
      refine qs (fun w'=>∃ s:SinceX w10.heap.size g w10,w'=s.world) [(0,true),(1,true),(2,true),(3,true),(4,true),(5,true),(6,true),(7,true),(8,false),(9,true),(10,false)] (sincex (KeptX.refl _ _ _).drew) ?_
      repeat (first | (refine qk ?_;simp only [Act.put,q1,q2,q3]) | (refine qf ?_;intro K hK;go_big_quiet_op;go_big_quiet_on))
      refine qc ?_
      intro K' hK'
      refine wpList_store_mid rfl 52 _ _ rfl g (l*5) (kca m1) rfl rfl (show World.there w10.drew g (l*5) 5 from HT1.out) (by kernel_rfl) (by simp [Value.oneCell']) ?_
      have HO11:=lid (own_set (w:=w10.drew) (i:=l) (x:=m1) HO10.out HLL.out (by omega)).2.2
      obtain ⟨w11,hw11⟩:∃ y,w10.drew.setCells g (l*5) (kca m1).toList=y:=⟨_,rfl⟩
      have HX11:Hid (KeptX w10.heap.size g w10 w11):=lid (by rw [← hw11];exact fun k _ hx=>setCells_other hx _ _ _)
      have HB11:Hid (Below w.heap.size w w11):=lid (by rw [← hw11];exact below_cells HGB.out _ _ _ HB10.out.drew)
      rw [show w10.drew.setCells g (l*5) (kce m1)=w11 from hw11] at HO11
      rw [hw11]
      have HLS:Hid ((L.set l m1).length=n):=lid (by rw [List.length_set];exact HLL.out)
      have HT2:=lid (own_set (i:=l+1) (x:=m2) HO11.out HLS.out (by omega)).1
      clear hw11
      simp only [Act.put]
      go_wp2_with fail
      refine hK'.out _ _ (sincex HX11.out) ?_
      clear hK' K'
      repeat (first | (refine qk ?_;simp only [Act.put,q1,q2,q3]) | (refine qf ?_;intro K hK;go_big_quiet_op;go_big_quiet_on))
      refine qc ?_
      intro K' hK'
      refine wpList_store_mid rfl 52 _ _ rfl g ((l+1)*5) (kca m2) rfl rfl HT2.out (by kernel_rfl) (by simp [Value.oneCell']) ?_
      have HO12:=lid (own_set (i:=l+1) (x:=m2) HO11.out HLS.out (by omega)).2.2
      obtain ⟨w12,hw12⟩:∃ y,w11.setCells g ((l+1)*5) (kca m2).toList=y:=⟨_,rfl⟩
      have HX12:Hid (KeptX w10.heap.size g w10 w12):=lid (by rw [← hw12];exact fun k hk hx=>(setCells_other hx _ _ _).trans (HX11.out k hk hx))
      have HB12:Hid (Below w.heap.size w w12):=lid (by rw [← hw12];exact below_cells HGB.out _ _ _ HB11.out)
      rw [show w11.setCells g ((l+1)*5) (kce m2)=w12 from hw12] at HO12
      rw [hw12]
      clear hw12
      simp only [Act.put]
      go_wp2_with fail
      refine hK'.out _ _ (sincex HX12.out) ?_
      clear hK' K'
      refine seq_nil ?_
      go_wp2_with fail
      go_roundw
      case measure=>have:=HL1.out;simp only [intOf];omega
      case rel=>exact ⟨l,_,by omega,by simp,HO12,HSW,HB12⟩
end Go.Proofs.YtgcceepadlmelaaGreatDoor
