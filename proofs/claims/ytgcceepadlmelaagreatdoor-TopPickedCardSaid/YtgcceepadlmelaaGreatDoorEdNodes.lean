import Derived.Test.YtgcceepadlmelaaGreatDoorChecked
import Derived.Laws.EntriesVeiled
import Derived.Test.YtgcceepadlmelaaGreatDoorQAD
import Derived.Sort.LoopGhostIn
import Derived.OwnWalkIn
namespace Go.Proofs.YtgcceepadlmelaaGreatDoor
set_option maxRecDepth 100000
set_option maxHeartbeats 16000000
open Go.RowKit Go.Shelf
attribute [local go_sem] Oper.semAt_some
abbrev ndv (x:Nd):Array Value:=#[.int .i64 x.1,.agg #[.int .i64 x.2.kind,.string x.2.name,.string x.2.more,.int .i64 x.2.int,.int .i64 x.2.den,.slice x.2.ao x.2.sub.length x.2.cap]]
def NdX (s:List Nd) (x:Nd) (_:World):Prop:=∃ t,s=x::t
def NdT (s:List Nd) (x:Nd) (s':List Nd):Prop:=s=x::s'∧x.1≤1000
theorem info_es:(Tryz.prog.info? 61).map (fun i=>(i.zero,i.size,i.bytes))=some (some (.slice none 0 0),1,24):=by kernel_rfl
theorem EL.addr {w:World} {a a':Option Addr} {n:Nat} {l:List Ew} (h:EL w a n 0 l):EL w a' n 0 l:=⟨h.len,⟨h.sl.1,.inl (Nat.le_zero.1 h.le)⟩,h.le,h.max,h.el,fun _=>rfl⟩
theorem grown_set0 (w:World) (b o:Nat) (v:Value):w.grownBy (w.setCell ⟨b,o,none⟩ v) (some b):=⟨rfl,rfl,rfl,by simp [World.setCell],fun k _ hk=>Below.heap_setCell _ _ _ k (fun e=>hk (by rw [e]))⟩
theorem nodes_iter (l m:Nat) (c:Nat→Prop) (B be:Nat) (e:Ew) (w0 W:World) (J:List Nd→World→Prop) (Jx:List Nd→Nd→World→Prop)
  (hJ:∀ s,Ab B (J s)) (hJg:∀ s X X' g,W.heap.size≤g→J s X→X.grownBy X' (some g)→J s X')
  (hY:RoundN Tryz.prog m l c B ndv NdX NdT J Jx) (hbe:W.heap[be]?=some (.cells #[.int .i64 e.kind,.string e.name,.string e.more,.int .i64 e.int,.int .i64 e.den,.slice e.ao e.sub.length e.cap] 63 (0,0))) (hcb:c be) (hk:KL w0 W) (he:EA w0 e)
  (hc0:∀ k,k<w0.heap.size→c k) (hcn:∀ k,W.heap.size≤k→c k) (hJ0:J (preW 1 e) W) :
  Calls Tryz.prog 130 #[.func (.yield l) #[] #[],.pointer (some ⟨be,0,none⟩)] W fun e W'=>e=.returned (.tuple #[])∧(J [] W'∨∃ s x,Jx s x W'):=by
 have HJ:=lid hJ
 have HJG:=lid hJg
 have HY:=lid hY
 have HC0:=lid hc0
 have HCN:=lid hcn
 have HE:=lid he
 have HKL:=lid hk
 have hzW:w0.heap.size≤W.heap.size:=hk.size
 have x0:W.cell? ⟨be,0,none⟩=some (.int .i64 e.kind):=row_cell hbe 0
 have x1:W.cell? ⟨be,1,none⟩=some (.string e.name):=row_cell hbe 1
 have x2:W.cell? ⟨be,2,none⟩=some (.string e.more):=row_cell hbe 2
 have x3:W.cell? ⟨be,3,none⟩=some (.int .i64 e.int):=row_cell hbe 3
 have x4:W.cell? ⟨be,4,none⟩=some (.int .i64 e.den):=row_cell hbe 4
 have x5:W.cell? ⟨be,5,none⟩=some (.slice e.ao e.sub.length e.cap):=row_cell hbe 5
 have lx:=row_lt hbe
 have HBE:=lid hbe
 obtain ⟨fn,tmps,assign,body,hy,hR⟩:=hY _ (1,e) W hJ0 ⟨_,preW_eq 1 e⟩
 rw [show ndv (1,e)=#[.int .i64 1,.agg #[.int .i64 e.kind,.string e.name,.string e.more,.int .i64 e.int,.int .i64 e.den,.slice e.ao e.sub.length e.cap]] from rfl] at hy
 have HR1:=lid hR
 clear hJ hJg hY hc0 hcn he hk hbe hJ0 hR
 refine (callsIn_wide (n:=m+1)).1 ?_
 refine callsIn_of_wp Tryz.func130 rfl trivial ?_ rfl
 simp only [Tryz.ntmps130,List.size_toArray,List.length_cons,List.length_nil,Nat.reduceAdd,Nat.reduceSub,Array.replicate_succ,Array.replicate_zero,List.push_toArray,List.append_toArray,List.nil_append,List.cons_append]
 gi_wp2_with fail
 refine HR1.out.mono ?_
 rintro e' W' (⟨rfl,hk',s',hT,hJ'⟩ | ⟨rfl,hk',hJx'⟩)
 case inr =>
  have HJ':=lid hJx'
  clear hJx' hk' x0 x1 x2 x3 x4 x5 lx hy
  gi_wp2_with fail
  exact bodyPost_ret (results_none rfl _ _ _) rfl ⟨rfl,.inr ⟨_,_,HJ'.out⟩⟩
 have hs':s'=preWL 2 e.sub:=by
  have h1:=hT.1
  rw [preW_eq] at h1
  exact (List.cons.inj h1).2.symm
 subst hs'
 have HJ':=lid hJ'
 have HBE2:=lid (hk'.cells _ _ _ _ hcb HBE.out)
 have HKL2:=lid (HKL.out.kf hk' HC0.out)
 have hz2:W.heap.size≤W'.heap.size:=hk'.size
 have z5:W'.cell? ⟨be,5,none⟩=some (.slice e.ao e.sub.length e.cap):=row_cell HBE2.out 5
 have lz:=row_lt HBE2.out
 clear hJ' hT hk' x0 x1 x2 x3 x4 x5 lx hy
 gi_wp2_with fail
 obtain ⟨W1,hW1⟩:∃ y,W'.alloc (Obj.cells #[.slice e.ao e.sub.length e.cap] 61)=y:=⟨_,rfl⟩
 have HOW1:Hid (W1.ownsRow W.heap.size 61 1 (.slice (some ⟨W'.heap.size,0,none⟩) 1 1) [(⟨e.ao,e.sub,e.cap⟩:Tw)].length ([(⟨e.ao,e.sub,e.cap⟩:Tw)].map twc)):=lid (by
  rw [← hW1]
  exact World.ownsRow_lit (e:=61) (base:=W.heap.size) (size:=1) W' #[.slice e.ao e.sub.length e.cap] 1 hz2 (by simp [maxLen]) rfl)
 have HKL1:Hid (KL w0 W1):=lid (by rw [← hW1];exact HKL2.out.below (ba _ _) HKL2.out.size)
 have HJ1:Hid (J (remB 2 [⟨e.ao,e.sub,e.cap⟩]) W1):=lid (by
  rw [← hW1]
  refine (HJ.out _).alloc _ ?_
  simp only [remB,List.nil_append]
  exact HJ'.out)
 have hz1:W.heap.size≤W1.heap.size:=by rw [← hW1];simp;omega
 have HT0:Hid (∀ t∈[(⟨e.ao,e.sub,e.cap⟩:Tw)],TwA w0 t):=lid (fun t ht=>by
  simp only [List.mem_singleton] at ht
  subst ht
  exact HE.out.subs)
 rw [hW1]
 clear hW1 z5 lz
 gi_loopg [3] (2*(remB 2 [⟨e.ao,e.sub,e.cap⟩]).length+1) (fun N u3 wr=>∃ S:List Tw,N=2*(remB 2 S).length+S.length∧S.length≤1000∧Hid (wr.ownsRow W.heap.size 61 1 u3 S.length (S.map twc))∧Hid (KL w0 wr)∧Hid (J (remB 2 S) wr)∧Hid (∀ t∈S,TwA w0 t)∧W.heap.size≤wr.heap.size)
 case atStart=>exact ⟨[⟨e.ao,e.sub,e.cap⟩],rfl,by simp,HOW1,HKL1,HJ1,HT0,hz1⟩
 case round =>
  clear HJ' HBE HBE2 HKL HKL2 HOW1 HKL1 HJ1 hz1 HT0 HR1 HE
  obtain ⟨S,hN,hS,HOW,HKW,HJW,HTW,hzw⟩:=hrel
  rcases List.eq_nil_or_concat S with rfl | ⟨S0,t,rfl⟩
  ·obtain ⟨a9,c9,rfl,-,-,-⟩:=Sl.of_own HOW.out
   clear HOW HTW HKW
   gi_wp2_with fail
   exact bodyPost_end (results_none rfl _ _ _) rfl ⟨rfl,.inl HJW.out⟩
  ·rw [List.concat_eq_append] at HOW HJW HTW hN hS
   obtain ⟨n,hn⟩:∃ n,S0.length=n:=⟨_,rfl⟩
   have hlen:(S0++[t]).length=n+1:=by simp [hn]
   rw [hlen] at HOW hN hS
   rw [List.map_append] at HOW
   obtain ⟨g,cap,rfl⟩:=ownsRow_succ HOW.out
   obtain ⟨cur,hgb,hgg,hnc,hcm,-,-⟩:=own_form HOW.out
   obtain ⟨a9,c9,e9,h91,h92,hsl⟩:=Sl.of_own HOW.out
   injection e9 with e91 _ e93
   subst e91 e93
   obtain ⟨b9,o9,e9,hl9,hc9⟩:=hsl.at_ (show n<n+1 by omega)
   injection e9 with e9
   injection e9 with e91 e92
   subst e91 e92
   have y0:wr.cell? ⟨g,n,none⟩=some (twc t):=by
    have:=hc9 n (twc t) (by rw [List.getElem?_append_right (by simp [hn])];simp [hn])
    rwa [Nat.zero_add] at this
   have yf:=row_fz hgg n
   have HTL:=lid (HTW.out t (by simp))
   have HTS:Hid (∀ t∈S0,TwA w0 t):=lid (fun t ht=>HTW.out t (List.mem_append.2 (.inl ht)))
   have HNS:=lid hn
   have hncm:n+1≤9223372036854775807:=by simp only [maxLen] at hcm;omega
   have hcm2:cap≤9223372036854775807:=hcm
   clear HTW hsl hc9 h91 h92 hlen hgg
   obtain ⟨ta,tl,tc⟩:=t
   replace y0:wr.cell? ⟨g,n,none⟩=some (.slice ta tl.length tc):=y0
   cases tl with
   | nil =>
    have HJ2:Hid (J (remB 2 S0) wr):=lid (by rw [← remB_pop (t:=⟨ta,[],tc⟩) rfl];exact HJW.out)
    have HOW2:Hid (wr.ownsRow W.heap.size 61 1 (.slice (some ⟨g,0,none⟩) n cap) n (S0.map twc)):=lid (own_pop HOW.out)
    have hN2:gk=2*(remB 2 S0).length+(n+1):=by rw [hN,remB_pop rfl]
    clear HJW HOW hN
    gi_wp2_with fail
    gi_roundg (gk-1)
    case measure=>omega
    case rel=>exact ⟨S0,by omega,by omega,by rw [HNS.out];exact HOW2,HKW,HJ2,HTS,hzw⟩
   | cons x r =>
    have hEL:=HTL.out.kl HKW.out
    obtain ⟨b,o,c1,rfl,rfl,hR0,hX0⟩:=EL.tail (show EL w0 ta (x::r).length tc (x::r) from HTL.out)
    have HX0:=lid hX0
    obtain ⟨b9,o9,e9,hlb,hcx⟩:=(show Sl wr 6 (some ⟨b,o,none⟩) (r.length+1) (ecs (x::r)) from hEL.sl).at_ (show 0<r.length+1 by omega)
    injection e9 with e9
    injection e9 with e91 e92
    subst e91 e92
    have z0:wr.cell? ⟨b,o,none⟩=some (.int .i64 x.kind):=hcx 0 _ rfl
    have z1:wr.cell? ⟨b,o+1,none⟩=some (.string x.name):=hcx 1 _ rfl
    have z2:wr.cell? ⟨b,o+2,none⟩=some (.string x.more):=hcx 2 _ rfl
    have z3:wr.cell? ⟨b,o+3,none⟩=some (.int .i64 x.int):=hcx 3 _ rfl
    have z4:wr.cell? ⟨b,o+4,none⟩=some (.int .i64 x.den):=hcx 4 _ rfl
    have z5:wr.cell? ⟨b,o+5,none⟩=some (.slice x.ao x.sub.length x.cap):=hcx 5 _ rfl
    have hrl:r.length+1≤9223372036854775807:=by
     have h1:=hR0.le
     have h2:=hEL.max
     simp only [maxLen] at h2
     omega
    have hrc:r.length≤c1:=hR0.le
    have hc1m:c1+1≤9223372036854775807:=hEL.max
    cases c1 with
    | zero =>
     obtain rfl:r=[]:=List.eq_nil_of_length_eq_zero (Nat.le_zero.1 hrc)
     have HR0:Hid (EL w0 (some ⟨b,o,none⟩) 0 0 []):=lid hR0.addr
     obtain ⟨W2,hW2⟩:∃ y,wr.setCell ⟨g,n,none⟩ (.slice (some ⟨b,o,none⟩) 0 0)=y:=⟨_,rfl⟩
     have hg2:wr.grownBy W2 (some g):=by rw [← hW2];exact grown_set0 wr g n _
     have hs2:W2.heap.size=wr.heap.size:=by rw [← hW2];simp [World.setCell]
     have hO2:W2.ownsRow W.heap.size 61 1 (.slice (some ⟨g,0,none⟩) (n+1) cap) (n+1) (S0.map twc++[twc ⟨some ⟨b,o,none⟩,[],0⟩]):=by rw [← hW2];exact own_put HOW.out _
     obtain ⟨W3,hW3⟩:∃ y,W2.alloc (Obj.cells #[.int .i64 x.kind,.string x.name,.string x.more,.int .i64 x.int,.int .i64 x.den,.slice x.ao x.sub.length x.cap] 63)=y:=⟨_,rfl⟩
     have hb3:Below W2.heap.size W2 W3:=by rw [← hW3];exact ba _ _
     have hX3:W3.heap[wr.heap.size]?=some (.cells #[.int .i64 x.kind,.string x.name,.string x.more,.int .i64 x.int,.int .i64 x.den,.slice x.ao x.sub.length x.cap] 63 (0,0)):=by rw [← hW3,← hs2];exact h_new rfl _
     have hO3:W3.ownsRow W.heap.size 61 1 (.slice (some ⟨g,0,none⟩) (n+1) cap) (n+1) (S0.map twc++[twc ⟨some ⟨b,o,none⟩,[],0⟩]):=by rw [← hW3];exact hO2.alloc _
     have hK2:KL w0 W2:=HKW.out.grown hg2 (fun k e=>by cases e;omega)
     have hK3:KL w0 W3:=hK2.below hb3 hK2.size
     have hJ3:J ((2+n,x)::remB 2 ((S0++[(⟨some ⟨b,o,none⟩,[],0⟩:Tw)])++[(⟨x.ao,x.sub,x.cap⟩:Tw)])) W3:=by
      have:=remB_next (S:=S0) (d:=2) (t:=⟨some ⟨b,o,none⟩,x::[],0+1⟩) (t':=⟨some ⟨b,o,none⟩,[],0⟩) (s:=⟨x.ao,x.sub,x.cap⟩) rfl rfl rfl
      rw [hn] at this
      rw [← this,← hW3]
      exact (HJ.out _).alloc _ (HJG.out _ wr W2 g hgb HJW.out hg2)
     have HRB:Hid ((remB 2 (S0++[(⟨some ⟨b,o,none⟩,x::[],0+1⟩:Tw)])).length=(remB 2 ((S0++[(⟨some ⟨b,o,none⟩,[],0⟩:Tw)])++[(⟨x.ao,x.sub,x.cap⟩:Tw)])).length+1):=lid (by
      rw [remB_next (S:=S0) (d:=2) (t:=⟨some ⟨b,o,none⟩,x::[],0+1⟩) (t':=⟨some ⟨b,o,none⟩,[],0⟩) (s:=⟨x.ao,x.sub,x.cap⟩) rfl rfl rfl]
      rfl)
     obtain ⟨fn,tmps,assign,body,hy,hR⟩:=HY.out _ (2+n,x) W3 hJ3 ⟨_,rfl⟩
     rw [show ndv (2+n,x)=#[.int .i64 ((n:Int)+1+1),.agg #[.int .i64 x.kind,.string x.name,.string x.more,.int .i64 x.int,.int .i64 x.den,.slice x.ao x.sub.length x.cap]] by
      show #[Value.int .i64 ((2+n:Nat):Int),_]=_
      rw [show ((2+n:Nat):Int)=(n:Int)+1+1 by omega],← hW3,← hW2] at hy
     rw [← hW3,← hW2] at hR
     have HR1:=lid hR
     have HX3:=lid hX3
     have HO3:=lid hO3
     have HK3:=lid hK3
     have hz3:wr.heap.size≤W3.heap.size:=by have:=hb3.size;omega
     have HW23:Hid ((wr.setCell ⟨g,n,none⟩ (.slice (some ⟨b,o,none⟩) 0 0)).alloc (Obj.cells #[.int .i64 x.kind,.string x.name,.string x.more,.int .i64 x.int,.int .i64 x.den,.slice x.ao x.sub.length x.cap] 63)=W3):=lid (by rw [hW2,hW3])
     clear hEL hR0 hX0 hcx hW2 hW3 hX3 hO3 hK3 hJ3 hR hO2 hb3 hg2 hs2 hK2 HJW HOW
     gi_wp2_with fail
     refine HR1.out.mono ?_
     rintro e' W4 (⟨rfl,hk',s',hT,hJ'⟩ | ⟨rfl,hk',hJx'⟩)
     case inr =>
      have HJ':=lid hJx'
      clear hJx' hk' hy
      gi_wp2_with fail
      exact bodyPost_ret (results_none rfl _ _ _) rfl ⟨rfl,.inr ⟨_,_,HJ'.out⟩⟩
     rw [HW23.out] at hk'
     obtain ⟨hT1,hT2⟩:=hT
     have hs':=(List.cons.inj hT1).2
     subst hs'
     have hn1000:n+2≤1000:=by have:2+n≤1000:=hT2;omega
     have hzk:W3.heap.size≤W4.heap.size:=hk'.size
     have HX4:=lid (hk'.cells _ _ _ _ (HCN.out _ hzw) HX3.out)
     have HK4:=lid (HK3.out.kf hk' HC0.out)
     have HO4:Hid (W4.ownsRow W.heap.size 61 1 (.slice (some ⟨g,0,none⟩) (n+1) cap) (n+1) (S0.map twc++[twc ⟨some ⟨b,o,none⟩,[],0⟩])):=lid (by
      obtain ⟨cur3,q1,q2,q3,q4,q5,q6⟩:=own_form HO3.out
      exact ⟨HO3.out.1,.inr ⟨g,cap,cur3,rfl,q1,hk'.cells _ _ _ _ (HCN.out _ q1) q2,q3,q4,q5,q6⟩⟩)
     have HJ4:=lid hJ'
     have t5:W4.cell? ⟨wr.heap.size,5,none⟩=some (.slice x.ao x.sub.length x.cap):=row_cell HX4.out 5
     have lt5:=row_lt HX4.out
     obtain ⟨sv,hsv⟩:∃ sv,Value.slice (some ⟨g,0,none⟩) (n+1) cap=sv:=⟨_,rfl⟩
     have HOS:Hid (W4.ownsRow W.heap.size 61 1 sv (n+1) (S0.map twc++[twc ⟨some ⟨b,o,none⟩,[],0⟩])):=lid (by rw [← hsv];exact HO4.out)
     rw [hsv]
     obtain ⟨i0,hi,hzz0,hzz1,hzz2⟩:=info_parts info_es
     have HHI:=lid hi
     have HZ0:=lid hzz0
     have HZ1:=lid hzz1
     have HZ2:=lid hzz2
     have hz24:W.heap.size≤W4.heap.size:=by omega
     clear hJ' hT1 hT2 hk' hy hsv HX3 HK3 HO3 HW23 y0 yf z0 z1 z2 z3 z4 z5 hi hzz0 hzz1 hzz2
     gi_wp2_with (gi_at_builtin;go_must (refine wpListIn_append_own _ rfl _ _ 158 rfl W.heap.size 61 i0 (.slice none 0 0) 1 24 Tryz.underlying158 HHI.out HZ0.out HZ1.out HZ2.out rfl (by decide) sv (n+1) _ rfl (HOS.out.alloc _) ⟨W4.heap.size,0,none⟩ 1 1 [.slice x.ao x.sub.length x.cap] rfl rfl (cell_one_new _ _ _) (by simp [Value.oneCell']) (by unfold maxLen;omega) (by omega) (by simp;omega) ?_))
     intro v9 w9 own9 hg9 _
     have HO9:Hid (w9.ownsRow W.heap.size 61 1 v9 ((S0++[(⟨some ⟨b,o,none⟩,[],0⟩:Tw)])++[(⟨x.ao,x.sub,x.cap⟩:Tw)]).length (((S0++[(⟨some ⟨b,o,none⟩,[],0⟩:Tw)])++[(⟨x.ao,x.sub,x.cap⟩:Tw)]).map twc)):=lid (by
      have e1:((S0++[(⟨some ⟨b,o,none⟩,[],0⟩:Tw)])++[(⟨x.ao,x.sub,x.cap⟩:Tw)]).length=n+1+1:=by simp [HNS.out]
      rw [e1,List.map_append,List.map_append,List.append_assoc]
      exact own9)
     have hrow:∀ k,sv.ownBlock=some k→W.heap.size≤k:=fun k e=>(HOS.out.lt k e).1
     have HK9:Hid (KL w0 w9):=lid ((HK4.out.below (ba W4 _) HK4.out.size).grown hg9 (fun k e=>Nat.le_trans hzW (hrow k e)))
     have HJ9:Hid (J (remB 2 ((S0++[(⟨some ⟨b,o,none⟩,[],0⟩:Tw)])++[(⟨x.ao,x.sub,x.cap⟩:Tw)])) w9):=lid (by
      have h1:=(HJ.out _).alloc (.cells #[.slice x.ao x.sub.length x.cap] 61) HJ4.out
      cases hv:sv.ownBlock with
      | none =>
       rw [hv] at hg9
       exact HJ.out _ _ _ none h1 hg9 (fun r e=>by cases e)
      | some k =>
       rw [hv] at hg9
       exact HJG.out _ _ _ k (hrow k hv) h1 hg9)
     have HT9:Hid (∀ t∈(S0++[(⟨some ⟨b,o,none⟩,[],0⟩:Tw)])++[(⟨x.ao,x.sub,x.cap⟩:Tw)],TwA w0 t):=lid (fun t ht=>by
      rcases List.mem_append.1 ht with ht | ht
      ·rcases List.mem_append.1 ht with ht | ht
       ·exact HTS.out t ht
       ·simp only [List.mem_singleton] at ht
        subst ht
        exact HR0.out
      ·simp only [List.mem_singleton] at ht
       subst ht
       exact HX0.out.subs)
     have hz9:W.heap.size≤w9.heap.size:=by have:=hg9.size;simp at this;omega
     have hN9:gk-1=2*(remB 2 ((S0++[(⟨some ⟨b,o,none⟩,[],0⟩:Tw)])++[(⟨x.ao,x.sub,x.cap⟩:Tw)])).length+(n+2):=by
      have:=HRB.out
      omega
     have hgk:0<gk:=by omega
     clear own9 hg9 t5 lt5 HOS HO4 HX4 HK4 HJ4 hN
     gi_wp2_with fail
     gi_roundg (gk-1)
     case measure=>omega
     case rel=>exact ⟨(S0++[(⟨some ⟨b,o,none⟩,[],0⟩:Tw)])++[(⟨x.ao,x.sub,x.cap⟩:Tw)],by rw [hN9];simp [HNS.out],by simp [HNS.out];omega,HO9,HK9,HJ9,HT9,hz9⟩
    | succ c2 =>
     have HR0:=lid hR0
     obtain ⟨W2,hW2⟩:∃ y,wr.setCell ⟨g,n,none⟩ (.slice (some ⟨b,o+6,none⟩) r.length (c2+1))=y:=⟨_,rfl⟩
     have hg2:wr.grownBy W2 (some g):=by rw [← hW2];exact grown_set0 wr g n _
     have hs2:W2.heap.size=wr.heap.size:=by rw [← hW2];simp [World.setCell]
     have hO2:W2.ownsRow W.heap.size 61 1 (.slice (some ⟨g,0,none⟩) (n+1) cap) (n+1) (S0.map twc++[twc ⟨some ⟨b,o+6,none⟩,r,(c2+1)⟩]):=by rw [← hW2];exact own_put HOW.out _
     obtain ⟨W3,hW3⟩:∃ y,W2.alloc (Obj.cells #[.int .i64 x.kind,.string x.name,.string x.more,.int .i64 x.int,.int .i64 x.den,.slice x.ao x.sub.length x.cap] 63)=y:=⟨_,rfl⟩
     have hb3:Below W2.heap.size W2 W3:=by rw [← hW3];exact ba _ _
     have hX3:W3.heap[wr.heap.size]?=some (.cells #[.int .i64 x.kind,.string x.name,.string x.more,.int .i64 x.int,.int .i64 x.den,.slice x.ao x.sub.length x.cap] 63 (0,0)):=by rw [← hW3,← hs2];exact h_new rfl _
     have hO3:W3.ownsRow W.heap.size 61 1 (.slice (some ⟨g,0,none⟩) (n+1) cap) (n+1) (S0.map twc++[twc ⟨some ⟨b,o+6,none⟩,r,(c2+1)⟩]):=by rw [← hW3];exact hO2.alloc _
     have hK2:KL w0 W2:=HKW.out.grown hg2 (fun k e=>by cases e;omega)
     have hK3:KL w0 W3:=hK2.below hb3 hK2.size
     have hJ3:J ((2+n,x)::remB 2 ((S0++[(⟨some ⟨b,o+6,none⟩,r,(c2+1)⟩:Tw)])++[(⟨x.ao,x.sub,x.cap⟩:Tw)])) W3:=by
      have:=remB_next (S:=S0) (d:=2) (t:=⟨some ⟨b,o,none⟩,x::r,(c2+1)+1⟩) (t':=⟨some ⟨b,o+6,none⟩,r,(c2+1)⟩) (s:=⟨x.ao,x.sub,x.cap⟩) rfl rfl rfl
      rw [hn] at this
      rw [← this,← hW3]
      exact (HJ.out _).alloc _ (HJG.out _ wr W2 g hgb HJW.out hg2)
     have HRB:Hid ((remB 2 (S0++[(⟨some ⟨b,o,none⟩,x::r,(c2+1)+1⟩:Tw)])).length=(remB 2 ((S0++[(⟨some ⟨b,o+6,none⟩,r,(c2+1)⟩:Tw)])++[(⟨x.ao,x.sub,x.cap⟩:Tw)])).length+1):=lid (by
      rw [remB_next (S:=S0) (d:=2) (t:=⟨some ⟨b,o,none⟩,x::r,(c2+1)+1⟩) (t':=⟨some ⟨b,o+6,none⟩,r,(c2+1)⟩) (s:=⟨x.ao,x.sub,x.cap⟩) rfl rfl rfl]
      rfl)
     obtain ⟨fn,tmps,assign,body,hy,hR⟩:=HY.out _ (2+n,x) W3 hJ3 ⟨_,rfl⟩
     rw [show ndv (2+n,x)=#[.int .i64 ((n:Int)+1+1),.agg #[.int .i64 x.kind,.string x.name,.string x.more,.int .i64 x.int,.int .i64 x.den,.slice x.ao x.sub.length x.cap]] by
      show #[Value.int .i64 ((2+n:Nat):Int),_]=_
      rw [show ((2+n:Nat):Int)=(n:Int)+1+1 by omega],← hW3,← hW2] at hy
     rw [← hW3,← hW2] at hR
     have HR1:=lid hR
     have HX3:=lid hX3
     have HO3:=lid hO3
     have HK3:=lid hK3
     have hz3:wr.heap.size≤W3.heap.size:=by have:=hb3.size;omega
     have HW23:Hid ((wr.setCell ⟨g,n,none⟩ (.slice (some ⟨b,o+6,none⟩) r.length (c2+1))).alloc (Obj.cells #[.int .i64 x.kind,.string x.name,.string x.more,.int .i64 x.int,.int .i64 x.den,.slice x.ao x.sub.length x.cap] 63)=W3):=lid (by rw [hW2,hW3])
     clear hEL hR0 hX0 hcx hW2 hW3 hX3 hO3 hK3 hJ3 hR hO2 hb3 hg2 hs2 hK2 HJW HOW
     gi_wp2_with fail
     refine HR1.out.mono ?_
     rintro e' W4 (⟨rfl,hk',s',hT,hJ'⟩ | ⟨rfl,hk',hJx'⟩)
     case inr =>
      have HJ':=lid hJx'
      clear hJx' hk' hy
      gi_wp2_with fail
      exact bodyPost_ret (results_none rfl _ _ _) rfl ⟨rfl,.inr ⟨_,_,HJ'.out⟩⟩
     rw [HW23.out] at hk'
     obtain ⟨hT1,hT2⟩:=hT
     have hs':=(List.cons.inj hT1).2
     subst hs'
     have hn1000:n+2≤1000:=by have:2+n≤1000:=hT2;omega
     have hzk:W3.heap.size≤W4.heap.size:=hk'.size
     have HX4:=lid (hk'.cells _ _ _ _ (HCN.out _ hzw) HX3.out)
     have HK4:=lid (HK3.out.kf hk' HC0.out)
     have HO4:Hid (W4.ownsRow W.heap.size 61 1 (.slice (some ⟨g,0,none⟩) (n+1) cap) (n+1) (S0.map twc++[twc ⟨some ⟨b,o+6,none⟩,r,(c2+1)⟩])):=lid (by
      obtain ⟨cur3,q1,q2,q3,q4,q5,q6⟩:=own_form HO3.out
      exact ⟨HO3.out.1,.inr ⟨g,cap,cur3,rfl,q1,hk'.cells _ _ _ _ (HCN.out _ q1) q2,q3,q4,q5,q6⟩⟩)
     have HJ4:=lid hJ'
     have t5:W4.cell? ⟨wr.heap.size,5,none⟩=some (.slice x.ao x.sub.length x.cap):=row_cell HX4.out 5
     have lt5:=row_lt HX4.out
     obtain ⟨sv,hsv⟩:∃ sv,Value.slice (some ⟨g,0,none⟩) (n+1) cap=sv:=⟨_,rfl⟩
     have HOS:Hid (W4.ownsRow W.heap.size 61 1 sv (n+1) (S0.map twc++[twc ⟨some ⟨b,o+6,none⟩,r,(c2+1)⟩])):=lid (by rw [← hsv];exact HO4.out)
     rw [hsv]
     obtain ⟨i0,hi,hzz0,hzz1,hzz2⟩:=info_parts info_es
     have HHI:=lid hi
     have HZ0:=lid hzz0
     have HZ1:=lid hzz1
     have HZ2:=lid hzz2
     have hz24:W.heap.size≤W4.heap.size:=by omega
     clear hJ' hT1 hT2 hk' hy hsv HX3 HK3 HO3 HW23 y0 yf z0 z1 z2 z3 z4 z5 hi hzz0 hzz1 hzz2
     gi_wp2_with (gi_at_builtin;go_must (refine wpListIn_append_own _ rfl _ _ 158 rfl W.heap.size 61 i0 (.slice none 0 0) 1 24 Tryz.underlying158 HHI.out HZ0.out HZ1.out HZ2.out rfl (by decide) sv (n+1) _ rfl (HOS.out.alloc _) ⟨W4.heap.size,0,none⟩ 1 1 [.slice x.ao x.sub.length x.cap] rfl rfl (cell_one_new _ _ _) (by simp [Value.oneCell']) (by unfold maxLen;omega) (by omega) (by simp;omega) ?_))
     intro v9 w9 own9 hg9 _
     have HO9:Hid (w9.ownsRow W.heap.size 61 1 v9 ((S0++[(⟨some ⟨b,o+6,none⟩,r,(c2+1)⟩:Tw)])++[(⟨x.ao,x.sub,x.cap⟩:Tw)]).length (((S0++[(⟨some ⟨b,o+6,none⟩,r,(c2+1)⟩:Tw)])++[(⟨x.ao,x.sub,x.cap⟩:Tw)]).map twc)):=lid (by
      have e1:((S0++[(⟨some ⟨b,o+6,none⟩,r,(c2+1)⟩:Tw)])++[(⟨x.ao,x.sub,x.cap⟩:Tw)]).length=n+1+1:=by simp [HNS.out]
      rw [e1,List.map_append,List.map_append,List.append_assoc]
      exact own9)
     have hrow:∀ k,sv.ownBlock=some k→W.heap.size≤k:=fun k e=>(HOS.out.lt k e).1
     have HK9:Hid (KL w0 w9):=lid ((HK4.out.below (ba W4 _) HK4.out.size).grown hg9 (fun k e=>Nat.le_trans hzW (hrow k e)))
     have HJ9:Hid (J (remB 2 ((S0++[(⟨some ⟨b,o+6,none⟩,r,(c2+1)⟩:Tw)])++[(⟨x.ao,x.sub,x.cap⟩:Tw)])) w9):=lid (by
      have h1:=(HJ.out _).alloc (.cells #[.slice x.ao x.sub.length x.cap] 61) HJ4.out
      cases hv:sv.ownBlock with
      | none =>
       rw [hv] at hg9
       exact HJ.out _ _ _ none h1 hg9 (fun r e=>by cases e)
      | some k =>
       rw [hv] at hg9
       exact HJG.out _ _ _ k (hrow k hv) h1 hg9)
     have HT9:Hid (∀ t∈(S0++[(⟨some ⟨b,o+6,none⟩,r,(c2+1)⟩:Tw)])++[(⟨x.ao,x.sub,x.cap⟩:Tw)],TwA w0 t):=lid (fun t ht=>by
      rcases List.mem_append.1 ht with ht | ht
      ·rcases List.mem_append.1 ht with ht | ht
       ·exact HTS.out t ht
       ·simp only [List.mem_singleton] at ht
        subst ht
        exact HR0.out
      ·simp only [List.mem_singleton] at ht
       subst ht
       exact HX0.out.subs)
     have hz9:W.heap.size≤w9.heap.size:=by have:=hg9.size;simp at this;omega
     have hN9:gk-1=2*(remB 2 ((S0++[(⟨some ⟨b,o+6,none⟩,r,(c2+1)⟩:Tw)])++[(⟨x.ao,x.sub,x.cap⟩:Tw)])).length+(n+2):=by
      have:=HRB.out
      omega
     have hgk:0<gk:=by omega
     clear own9 hg9 t5 lt5 HOS HO4 HX4 HK4 HJ4 hN
     gi_wp2_with fail
     gi_roundg (gk-1)
     case measure=>omega
     case rel=>exact ⟨(S0++[(⟨some ⟨b,o+6,none⟩,r,(c2+1)⟩:Tw)])++[(⟨x.ao,x.sub,x.cap⟩:Tw)],by rw [hN9];simp [HNS.out],by simp [HNS.out];omega,HO9,HK9,HJ9,HT9,hz9⟩
end Go.Proofs.YtgcceepadlmelaaGreatDoor
