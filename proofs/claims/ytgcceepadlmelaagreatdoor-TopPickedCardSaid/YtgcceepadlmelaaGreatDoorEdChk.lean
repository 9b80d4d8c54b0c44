import Derived.Test.YtgcceepadlmelaaGreatDoorEdNode
import Derived.Test.YtgcceepadlmelaaGreatDoorEdNodes
import Derived.Test.YtgcceepadlmelaaGreatDoorQAG
namespace Go.Proofs.YtgcceepadlmelaaGreatDoor
set_option maxRecDepth 100000
set_option maxHeartbeats 16000000
open Go.RowKit Go.Shelf
attribute [local go_sem] Oper.semAt_some
abbrev ndC (e:Ew):Int:=nodeC e.kind e.int e.den e.name e.more e.sub.length
def okW (e:Ew):Prop:=(preW 1 e).length≤400∧(∀ x∈preW 1 e,x.1≤40)∧∀ x∈preW 1 e,ndC x.2=0
theorem nodes_fn (e:Ew) (w:World):Calls Tryz.prog 117 #[.agg (eca e)] w fun r w'=>r=.returned (.func (.func 130) #[] #[.pointer (some ⟨w.heap.size,0,none⟩)])∧w'=w.alloc (.cells (eca e) 63):=by
 go_enter Tryz.func117,Tryz.ntmps117
 go_wp2_with fail
 go_ret
 exact ⟨rfl,rfl⟩
theorem res_int2 {fn:Func} (hf:fn.results=#[.cell 2 27]) (t:Array Value) (w:World) (k:Nat) (r:Int) (h:t.getD 2 undef=.pointer (some ⟨k,0,none⟩)) (e:w.heap[k]?=some (.cells #[.int .i64 r] 27 (0,0))):(results fn t).run Tryz.prog w=.ok (.int .i64 r) w:=by
 have e0:=row_cell e 0
 rw [Array.getD_eq_getD_getElem?] at h
 unfold results
 rw [hf]
 simp [go_sem,h,e0,asAddr]
def C1 (b:Nat) (w:World) (e:Ew) (s:List Nd) (W:World):Prop :=
 Below b w W∧W.heap[b]?=some (.cells (eca e) 63 (0,0))∧W.heap[b+1]?=some (.cells #[.int .i64 0] 27 (0,0))∧∃ p:List Nd,preW 1 e=p++s∧p.length≤400∧(∀ x∈p,x.1≤40)∧W.heap[b+2]?=some (.cells #[.int .i64 (p.length:Nat)] 3 (0,0))
def C1x (b:Nat) (w:World) (e:Ew) (c:Code) (_:List Nd) (_:Nd) (W:World):Prop :=
 c=.ret∧Below b w W∧W.heap[b+1]?=some (.cells #[.int .i64 4] 27 (0,0))∧¬ okW e
def C2 (b D:Nat) (w:World) (e:Ew) (s:List Nd) (W:World):Prop :=
 Below b w W∧W.heap[b+1]?=some (.cells #[.int .i64 0] 27 (0,0))∧W.heap[D]?=some (.deferred (some []))∧∃ p:List Nd,preW 1 e=p++s∧∀ x∈p,ndC x.2=0
def C2x (b D:Nat) (w:World) (e:Ew) (c:Code) (_:List Nd) (_:Nd) (W:World):Prop :=
 c=.ret∧Below b w W∧W.heap[D]?=some (.deferred (some []))∧¬ okW e∧∃ r:Int,r≠0∧W.heap[b+1]?=some (.cells #[.int .i64 r] 27 (0,0))
def C2b (a:Value→Nd→Act) (b5:Nat) (x:Nd) (a₁:Act) (W:World):Prop:=∃ k,b5≤k∧a₁=a (.pointer (some ⟨k,0,none⟩)) x∧W.heap[k]?=some (.cells (eca x.2) 63 (0,0))
theorem C2b.ab {a:Value→Nd→Act} {b5 B:Nat} {x:Nd} {a₁:Act}:Ab B (C2b a b5 x a₁):=fun W W' row ⟨k,h0,h1,h2⟩ hg hr=>⟨k,h0,h1,Ab.cells W W' row h2 hg hr⟩
theorem C1.ab {b B:Nat} {w:World} {e:Ew} {s:List Nd} (hb:b≤w.heap.size) (hB:b+2<B):Ab B (C1 b w e s):=fun W W' row hs hg hr =>
 ⟨Ab.belowW (B:=B) hb (by omega) W W' row hs.1 hg hr,Ab.blk (B:=B) (by omega) _ rfl W W' row hs.2.1 hg hr,Ab.blk (B:=B) (by omega) _ rfl W W' row hs.2.2.1 hg hr,by
  obtain ⟨p,h1,h2,h3,h4⟩:=hs.2.2.2
  exact ⟨p,h1,h2,h3,Ab.blk (B:=B) (by omega) _ rfl W W' row h4 hg hr⟩⟩
theorem C1x.ab {b B:Nat} {w:World} {e:Ew} {c:Code} {s:List Nd} {x:Nd} (hb:b≤w.heap.size) (hB:b+2<B):Ab B (C1x b w e c s x):=fun W W' row hs hg hr =>
 ⟨hs.1,Ab.belowW (B:=B) hb (by omega) W W' row hs.2.1 hg hr,Ab.blk (B:=B) (by omega) _ rfl W W' row hs.2.2.1 hg hr,hs.2.2.2⟩
theorem C2.ab {b B D:Nat} {w:World} {e:Ew} {s:List Nd} (hb:b≤w.heap.size) (hB:b+2<B) (hD:D<B):Ab B (C2 b D w e s):=fun W W' row hs hg hr =>
 ⟨Ab.belowW (B:=B) hb (by omega) W W' row hs.1 hg hr,Ab.blk (B:=B) (by omega) _ rfl W W' row hs.2.1 hg hr,Ab.blk (B:=B) hD _ rfl W W' row hs.2.2.1 hg hr,hs.2.2.2⟩
theorem C2x.ab {b B D:Nat} {w:World} {e:Ew} {c:Code} {s:List Nd} {x:Nd} (hb:b≤w.heap.size) (hB:b+2<B) (hD:D<B):Ab B (C2x b D w e c s x):=fun W W' row hs hg hr =>
 ⟨hs.1,Ab.belowW (B:=B) hb (by omega) W W' row hs.2.1 hg hr,Ab.blk (B:=B) hD _ rfl W W' row hs.2.2.1 hg hr,hs.2.2.2.1,by
  obtain ⟨r,h1,h2⟩:=hs.2.2.2.2
  exact ⟨r,h1,Ab.blk (B:=B) (by omega) _ rfl W W' row h2 hg hr⟩⟩
mutual
theorem pre_el {w:World}:∀ (d:Nat) (e:Ew),EA w e→∀ x∈preW d e,EA w x.2
 | d,.mk k n m i e a c s,h,x,hx=>by
  rw [preW_eq] at hx
  rcases List.mem_cons.1 hx with rfl | hx
  ·exact h
  ·exact preL_el (d+1) s h.all x hx
theorem preL_el {w:World}:∀ (d:Nat) (l:List Ew),(∀ s∈l,EA w s)→∀ x∈preWL d l,EA w x.2
 | d,[],_,x,hx=>by rw [preWL_nil] at hx;cases hx
 | d,e::l,h,x,hx=>by
  rw [preWL] at hx
  rcases List.mem_append.1 hx with hx | hx
  ·exact pre_el d e (h e (List.mem_cons_self ..)) x hx
  ·exact preL_el d l (fun s hs=>h s (List.mem_cons_of_mem _ hs)) x hx
end
theorem CheckExpr_any (e:Ew) (w:World) (he:EA w e):Calls Tryz.prog 102 #[.agg (eca e)] w fun r w'=>∃ q:Int,r=.returned (.int .i64 q)∧(q=0↔okW e)∧Below w.heap.size w w':=by
 have HE:=lid he
 have CN:=lid (fun e W=>nodes_fn e W)
 clear he
 refine (callsIn_wide (n:=3)).1 ?_
 refine callsIn_of_wp_marks Tryz.func102 rfl trivial ?_ rfl
 simp only [Tryz.ntmps102,List.size_toArray,List.length_cons,List.length_nil,Nat.reduceAdd,Nat.reduceSub,Array.replicate_succ,Array.replicate_zero,List.push_toArray,List.append_toArray,List.nil_append,List.cons_append]
 gi_wp2_with fail
 refine ⟨trivial,(callsIn_wide.2 (CN.out e _)).mono ?_⟩
 rintro r w4 ⟨rfl,hw4⟩
 obtain ⟨b,hb⟩:∃ b,w.heap.size=b:=⟨_,rfl⟩
 have hb4:Below b w w4:=by rw [hw4,← hb];exact (((ba _ _).alloc (by simp) _).alloc (by simp;omega) _).alloc (by simp;omega) _
 have hz4:w4.heap.size=b+4:=by rw [hw4,← hb];simp
 have r0:w4.heap[b]?=some (.cells (eca e) 63 (0,0)):=by
  rw [hw4,← hb]
  exact (h_old (by simp;omega) _).trans ((h_old (by simp;omega) _).trans ((h_old (by simp) _).trans (h_new rfl _)))
 have r1:w4.heap[b+1]?=some (.cells #[.int .i64 0] 27 (0,0)):=by
  rw [hw4,← hb]
  exact (h_old (by simp) _).trans ((h_old (by simp) _).trans (h_new (by simp) _))
 have r2:w4.heap[b+2]?=some (.cells #[.int .i64 0] 3 (0,0)):=by
  rw [hw4,← hb]
  exact (h_old (by simp) _).trans (h_new (by simp) _)
 have HBE:Hid (w4.heap[b+3]?=some (.cells (eca e) 63 (0,0))):=lid (by
  rw [hw4,← hb]
  exact h_new (by simp) _)
 have HC1:Hid (C1 b w e (preW 1 e) w4):=lid ⟨hb4,r0,r1,[],rfl,by simp,by simp,r2⟩
 have e3:(((w.alloc (Obj.cells (eca e) 63)).alloc (Obj.cells #[Value.int IntKind.i64 0] 27)).alloc (Obj.cells #[Value.int IntKind.i64 0] 3)).heap.size=b+3:=by rw [← hb];simp
 have HZ4:=lid hz4
 have HB:=lid hb
 rw [e3,hb]
 clear hw4 hb4 r0 r1 r2 e3 hz4 hb
 gi_wp2_with fail
 refine wpIn_rfn (pre:=#[]) (lb:=#[.pointer (some ⟨b+3,0,none⟩)]) rfl (enters_of Tryz.func130 (by kernel_rfl) rfl) ndv NdX NdT (C1 b w e) (C1x b w e) (fun x=>rfl) (fun x=>{ tmps:=#[.agg (eca e),.pointer (some ⟨b,0,none⟩),.pointer (some ⟨b+1,0,none⟩),.pointer (some ⟨b+1+1,0,none⟩),.int .i64 x.1,undef,undef,undef,.agg (eca e),.func (.func 130) #[] #[.pointer (some ⟨b+3,0,none⟩)],.int .i64 x.1,.agg (eca x.2),undef,undef,undef,undef,undef,undef,undef,undef,undef,undef,undef,undef,undef,undef,undef,undef,undef],defers:=[] }) (fun s x=>Ab.pure _) (fun s=>C1.ab (by have:=HB.out;omega) (by have:=HZ4.out;omega)) (fun c s x=>C1x.ab (by have:=HB.out;omega) (by have:=HZ4.out;omega)) (preW 1 e) HC1.out (fun s=>s=[]) (fun _ _=>True) (fun k=>k≠b+1∧k≠b+2) ?call ?assign ?body ?done ?stop
 case call =>
  intro l' m' rec W' hz' hbw hJ1 hJ2 hR hj
  have hz4:=HZ4.out
  have hblk:∀ k,k<w4.heap.size→W'.heap[k]?=w4.heap[k]?:=fun k hk=>hbw.block k hk
  refine (nodes_iter l' m' (fun k=>k≠b+1∧k≠b+2) W'.heap.size (b+3) e w W' _ _ hJ1 (fun s X X' g hg h1 h2=>?_) hR ((hblk _ (by omega)).trans HBE.out) ⟨by omega,by omega⟩ (KL.of_below (by have:=hj.1.1;rw [← HB.out] at this;exact this)) HE.out (fun k hk=>⟨by have:=HB.out;omega,by have:=HB.out;omega⟩) (fun k hk=>⟨by omega,by omega⟩) hj).mono ?_
  ·have hb0:=HB.out
   obtain ⟨⟨q1,q2,q3,p,q4,q5,q6,q7⟩,q8,q9⟩:=h1
   have hne:∀ k,k<W'.heap.size→some k≠some g:=fun k hk e=>by cases e;omega
   refine ⟨⟨q1.grown h2 (by have:=q1.size;omega) (fun k e=>by cases e;omega),(h2.block _ (row_lt q2) (hne _ (by omega))).trans q2,(h2.block _ (row_lt q3) (hne _ (by omega))).trans q3,p,q4,q5,q6,(h2.block _ (row_lt q7) (hne _ (by omega))).trans q7⟩,(h2.block _ (row_lt q8) (hne _ (by omega))).trans q8,(h2.block _ (row_lt q9) (hne _ (by omega))).trans q9⟩
  ·rintro r W3 ⟨rfl,h | ⟨s,x,h⟩⟩
   ·exact ⟨rfl,.inl ⟨[],rfl,h⟩⟩
   ·exact ⟨rfl,.inr ⟨s,x,trivial,h⟩⟩
 case assign =>
  intro l' m' x W' K hK
  gi_wp2_with fail
  exact hK
 case body =>
  rintro l' m' s x W' ⟨hb,h0,h1,p,hp,hpl,hpd,h2⟩ ⟨tl,rfl⟩ hsz
  have hz4:=HZ4.out
  obtain ⟨n,hn⟩:∃ n,p.length=n:=⟨_,rfl⟩
  rw [hn] at h2 hpl
  have HBW:=lid hb
  have H0:=lid h0
  have H1:=lid h1
  have H2:=lid (show W'.heap[b+1+1]?=_ from h2)
  have HP:=lid hp
  have HPD:=lid hpd
  have HN:=lid hn
  have c2:W'.cell? ⟨b+1+1,0,none⟩=some (.int .i64 n):=row_cell H2.out 0
  have z2:W'.frozen? ⟨b+1+1,0,none⟩=false:=row_fz H2.out 0
  have l2:=row_lt H2.out
  have c1:W'.cell? ⟨b+1,0,none⟩=some (.int .i64 0):=row_cell H1.out 0
  have z1:W'.frozen? ⟨b+1,0,none⟩=false:=row_fz H1.out 0
  have l1:=row_lt H1.out
  clear hb h0 h1 hp hpd h2 hn
  have HKF:Hid (KF (fun k=>k≠b+1∧k≠b+2) w4.heap.size W' (W'.setCell ⟨b+1+1,0,none⟩ (.int .i64 (n+1:Nat)))):=lid (KF.setCell _ _ _ (by rintro ⟨_,h⟩;exact h rfl))
  have HB2:Hid (Below b w (W'.setCell ⟨b+1+1,0,none⟩ (.int .i64 (n+1:Nat)))):=lid (HBW.out.setCell (p:=⟨b+1+1,0,none⟩) (by show b≤b+1+1;omega) _)
  have HR0:Hid ((W'.setCell ⟨b+1+1,0,none⟩ (.int .i64 (n+1:Nat))).heap[b]?=_):=lid (row_other H0.out (by omega))
  have HR1:Hid ((W'.setCell ⟨b+1+1,0,none⟩ (.int .i64 (n+1:Nat))).heap[b+1]?=_):=lid (row_other H1.out (by omega))
  have HR2:Hid ((W'.setCell ⟨b+1+1,0,none⟩ (.int .i64 (n+1:Nat))).heap[b+2]?=some (.cells #[.int .i64 (n+1:Nat)] 3 (0,0))):=lid (by have:=row_set H2.out 0 (.int .i64 (n+1:Nat));simpa using this)
  have e1:((n+1:Nat):Int)=(n:Int)+1:=by omega
  rw [e1] at HKF HB2 HR0 HR1 HR2
  have HX:∀ (k:Nat),Hid (((W'.setCell ⟨b+1+1,0,none⟩ (.int .i64 ((n:Int)+1))).setCell ⟨b+1,0,none⟩ (.int .i64 4)).heap[b+1]?=some (.cells #[.int .i64 4] 27 (0,0))):=fun _=>lid (by have:=row_set HR1.out 0 (.int .i64 4);simpa using this)
  have HXB:∀ (k:Nat),Hid (Below b w ((W'.setCell ⟨b+1+1,0,none⟩ (.int .i64 ((n:Int)+1))).setCell ⟨b+1,0,none⟩ (.int .i64 4))):=fun _=>lid (HB2.out.setCell (p:=⟨b+1,0,none⟩) (by show b≤b+1;omega) _)
  have HXK:∀ (k:Nat),Hid (KF (fun k=>k≠b+1∧k≠b+2) w4.heap.size W' ((W'.setCell ⟨b+1+1,0,none⟩ (.int .i64 ((n:Int)+1))).setCell ⟨b+1,0,none⟩ (.int .i64 4))):=fun _=>lid (HKF.out.trans (KF.setCell _ _ _ (by rintro ⟨h,_⟩;exact h rfl)))
  by_cases h400:n=400
  ·have HNO:Hid (¬ okW e):=lid (fun h=>by
    have h1:=h.1
    rw [HP.out,List.length_append,List.length_cons,HN.out] at h1
    omega)
   subst h400
   gi_wp2_with fail
   exact ⟨(HXK 0).out,rfl,(HXB 0).out,(HX 0).out,HNO.out⟩
  by_cases h40:x.1≤40
  ·have d40:decide ((40:Int)<(x.1:Int))=false:=by simp;omega
   have d400:decide ((400:Int)<(n:Int)+1)=false:=by simp;omega
   have HXD:=lid h40
   clear h400 h40
   gi_wp2_with fail
   refine ⟨HKF.out,tl,⟨rfl,by have:=HXD.out;omega⟩,HB2.out,HR0.out,HR1.out,p++[x],by rw [HP.out];simp,?_,?_,?_⟩
   ·have:=HN.out
    simp only [decide_eq_false_iff_not] at d400
    rw [List.length_append,this]
    simp
    omega
   ·intro y hy
    rcases List.mem_append.1 hy with hy | hy
    ·exact HPD.out y hy
    ·rw [List.mem_singleton.1 hy]
     exact HXD.out
   ·have e2:(p++[x]).length=n+1:=by simp [HN.out]
    rw [e2,e1]
    exact HR2.out
  ·have d40:decide ((40:Int)<(x.1:Int))=true:=by simp;omega
   have d400:decide ((400:Int)<(n:Int)+1)=false:=by simp;omega
   have HNO:Hid (¬ okW e):=lid (fun h=>h40 (h.2.1 x (by rw [HP.out];simp)))
   clear h400 h40
   gi_wp2_with fail
   exact ⟨(HXK 0).out,rfl,(HXB 0).out,(HX 0).out,HNO.out⟩
 case stop =>
  rintro D c s x W' hD _ ⟨rfl,hb,h1,hno⟩ hdef
  have HBW:=lid hb
  have H1:=lid h1
  have HDE:=lid hdef
  have HNO:=lid hno
  have hDw:b+1<D:=by have:=HZ4.out;omega
  clear hb h1 hdef hno
  gi_wp2_with fail
  refine ⟨by simp,.inl ⟨D,_,rfl,run_takeDeferred HDE.out,?_⟩⟩
  refine ⟨_,res_int2 rfl _ _ (b+1) 4 rfl ((World.putObj_heap_other (by omega)).trans H1.out),4,rfl,⟨fun h=>by simp at h,fun h=>absurd h HNO.out⟩,?_⟩
  have:=HBW.out.grown (grownBy_putObj' W' D (.deferred none)) (by rw [← HB.out];exact HBW.out.size) (fun j e=>by cases e;omega)
  rwa [← HB.out] at this
 case done =>
  rintro D s W' hD rfl ⟨hb,h0,h1,p,hp,hpl,hpd,h2⟩ hdef
  have hDw:b+1<D:=by have:=HZ4.out;omega
  have HLE:Hid ((preW 1 e).length≤400∧∀ x∈preW 1 e,x.1≤40):=lid (by rw [hp,List.append_nil];exact ⟨hpl,hpd⟩)
  have HBW:=lid hb
  have H0:=lid h0
  have H1:=lid h1
  have HDE:=lid hdef
  have c0:W'.cell? ⟨b,0,none⟩=some (.int .i64 e.kind):=row_cell h0 0
  have c1:W'.cell? ⟨b,1,none⟩=some (.string e.name):=row_cell h0 1
  have c2:W'.cell? ⟨b,2,none⟩=some (.string e.more):=row_cell h0 2
  have c3:W'.cell? ⟨b,3,none⟩=some (.int .i64 e.int):=row_cell h0 3
  have c4:W'.cell? ⟨b,4,none⟩=some (.int .i64 e.den):=row_cell h0 4
  have c5:W'.cell? ⟨b,5,none⟩=some (.slice e.ao e.sub.length e.cap):=row_cell h0 5
  have l0:=row_lt h0
  clear hb h0 h1 p hp hpl hpd h2 hdef HC1
  gi_wp2_with fail
  refine ⟨trivial,(callsIn_wide.2 (CN.out e _)).mono ?_⟩
  rintro r w5 ⟨rfl,hw5⟩
  obtain ⟨b5,hb5⟩:∃ b5,W'.heap.size=b5:=⟨_,rfl⟩
  have hz5:w5.heap.size=b5+1:=by rw [hw5,← hb5];simp
  have hD5:D<b5:=by rw [← hb5];exact row_lt HDE.out
  have HB5:Hid (w5.heap[b5]?=some (.cells (eca e) 63 (0,0))):=lid (by rw [hw5];exact h_new hb5 _)
  have HC2:Hid (C2 b D w e (preW 1 e) w5):=lid ⟨by rw [hw5];exact HBW.out.alloc (by rw [hb5];omega) _,by rw [hw5];exact (h_old (by omega) _).trans H1.out,by rw [hw5];exact (h_old (by omega) _).trans HDE.out,[],rfl,fun _ h=>by cases h⟩
  have HZ5:=lid hz5
  have hbb5:b+4≤b5:=by have:=HZ4.out;omega
  rw [hb5]
  clear hw5 hz5 c0 c1 c2 c3 c4 c5 l0 HBW H0 H1 HDE
  gi_wp2_with fail
  refine wpIn_rfna (pre:=#[]) (lb:=#[.pointer (some ⟨b5,0,none⟩)]) rfl (enters_of Tryz.func130 (by kernel_rfl) rfl) ndv NdX NdT (C2 b D w e) (C2x b D w e) (fun x=>rfl) (fun s x=>Ab.pure _) (fun s=>C2.ab (by have:=HB.out;omega) (by have:=HZ5.out;omega) (by have:=HZ5.out;omega)) (fun c s x=>C2x.ab (by have:=HB.out;omega) (by have:=HZ5.out;omega) (by have:=HZ5.out;omega)) (preW 1 e) HC2.out (C2b (fun v x=>{ tmps:=#[.agg (eca e),.pointer (some ⟨b,0,none⟩),.pointer (some ⟨b+1,0,none⟩),.pointer (some ⟨b+1+1,0,none⟩),undef,undef,v,undef,.agg (eca e),.func (.func 130) #[] #[.pointer (some ⟨b+3,0,none⟩)],undef,undef,undef,undef,undef,undef,undef,undef,undef,undef,.agg (eca e),.func (.func 130) #[] #[.pointer (some ⟨b5,0,none⟩)],.int .i64 x.1,.agg (eca x.2),undef,undef,undef,undef,undef],defers:=[] }) b5) (fun x a₁=>C2b.ab) (fun s=>s=[]) (fun _ _=>True) (fun k=>k≠b+1) ?call ?assign ?body ?done ?stop
  case call =>
   intro l' m' rec W' hz' hbw hJ1 hJ2 hR hj
   have hz5:=HZ5.out
   have hblk:∀ k,k<w5.heap.size→W'.heap[k]?=w5.heap[k]?:=fun k hk=>hbw.block k hk
   refine (nodes_iter l' m' (fun k=>k≠b+1) W'.heap.size b5 e w W' _ _ hJ1 (fun s X X' g hg h1 h2=>?_) hR ((hblk _ (by omega)).trans HB5.out) (by omega) (KL.of_below (by have:=hj.1.1;rw [← HB.out] at this;exact this)) HE.out (fun k hk=>by have:=HB.out;omega) (fun k hk=>by omega) hj).mono ?_
   ·have hb0:=HB.out
    obtain ⟨⟨q1,q2,q3,q4⟩,q8,q9⟩:=h1
    have hne:∀ k,k<W'.heap.size→some k≠some g:=fun k hk e=>by cases e;omega
    refine ⟨⟨q1.grown h2 (by have:=q1.size;omega) (fun k e=>by cases e;omega),(h2.block _ (row_lt q2) (hne _ (by omega))).trans q2,(h2.block _ (row_lt q3) (hne _ (by omega))).trans q3,q4⟩,(h2.block _ (row_lt q8) (hne _ (by omega))).trans q8,(h2.block _ (row_lt q9) (hne _ (by omega))).trans q9⟩
   ·rintro r W3 ⟨rfl,h | ⟨s,x,h⟩⟩
    ·exact ⟨rfl,.inl ⟨[],rfl,h⟩⟩
    ·exact ⟨rfl,.inr ⟨s,x,trivial,h⟩⟩
  case assign =>
   intro l' m' s x W' K _ _ hz hK
   have HK:=lid hK
   have hz5:=HZ5.out
   clear hK
   gi_wp2_with fail
   exact HK.out _ _ (ba _ _) ⟨W'.heap.size,by omega,rfl,h_new rfl _⟩
  case body =>
   rintro l' m' s x a₁ W' ⟨hb,h1,hd,p,hp,hpd⟩ ⟨tl,rfl⟩ ⟨k,hk,rfl,hkc⟩ hsz
   have hz5:=HZ5.out
   have HBW:=lid hb
   have H1:=lid h1
   have HD:=lid hd
   have HP:=lid hp
   have HPD:=lid hpd
   have HEX:=lid (pre_el 1 e HE.out x (by rw [hp];simp))
   have HKC:=lid hkc
   have FX:=lid (fun W=>checkNode_fn x.2.kind x.2.int x.2.den x.2.name x.2.more x.2.ao x.2.sub.length x.2.cap W HEX.out.sz.1 HEX.out.sz.2)
   have c0:W'.cell? ⟨k,0,none⟩=some (.int .i64 x.2.kind):=row_cell hkc 0
   have c1:W'.cell? ⟨k,1,none⟩=some (.string x.2.name):=row_cell hkc 1
   have c2:W'.cell? ⟨k,2,none⟩=some (.string x.2.more):=row_cell hkc 2
   have c3:W'.cell? ⟨k,3,none⟩=some (.int .i64 x.2.int):=row_cell hkc 3
   have c4:W'.cell? ⟨k,4,none⟩=some (.int .i64 x.2.den):=row_cell hkc 4
   have c5:W'.cell? ⟨k,5,none⟩=some (.slice x.2.ao x.2.sub.length x.2.cap):=row_cell hkc 5
   have l0:=row_lt hkc
   clear hb h1 hd hp hpd hkc
   gi_wp2_with fail
   refine ⟨trivial,(fun h=>by cases h),CallsIn.inRound l' ((callsIn_wide.2 (FX.out _)).mono ?_)⟩
   rintro r w6 ⟨rfl,hb6⟩
   have HB6:=lid (HBW.out.trans (hb6.mono (by have:=HBW.out.size;have:=HB.out;omega)))
   have H16:=lid ((hb6.block _ (row_lt H1.out)).trans H1.out)
   have HD6:=lid ((hb6.block _ (row_lt HD.out)).trans HD.out)
   have HKF:Hid (KF (fun k=>k≠b+1) w5.heap.size W' w6):=lid (KF.below hb6)
   obtain ⟨q,hq⟩:∃ q,nodeC x.2.kind x.2.int x.2.den x.2.name x.2.more x.2.sub.length=q:=⟨_,rfl⟩
   have HQ:=lid hq
   rw [hq]
   have c1':w6.cell? ⟨b+1,0,none⟩=some (.int .i64 0):=row_cell H16.out 0
   have z1':w6.frozen? ⟨b+1,0,none⟩=false:=row_fz H16.out 0
   have l1':=row_lt H16.out
   clear hb6 c0 c1 c2 c3 c4 c5 l0 hq
   cases uq:(q == 0) with
   | true =>
    have HU:=lid uq
    gi_wp2_with fail
    refine ⟨HKF.out,tl,⟨rfl,?_⟩,HB6.out,H16.out,HD6.out,p++[x],by rw [HP.out];simp,?_⟩
    ·have:=HLE.out.2 x (by rw [HP.out];simp)
     omega
    ·intro y hy
     rcases List.mem_append.1 hy with hy | hy
     ·exact HPD.out y hy
     ·rw [List.mem_singleton.1 hy]
      exact HQ.out.trans (by simpa using HU.out)
   | false =>
    have HNO:Hid (¬ okW e):=lid (fun h=>by
     have h1:=h.2.2 x (by rw [HP.out];simp)
     rw [show ndC x.2=q from HQ.out] at h1
     rw [h1] at uq
     simp at uq)
    have HU:=lid uq
    gi_wp2_with fail
    exact ⟨HKF.out.trans (KF.setCell _ _ _ (by intro h;exact h rfl)),rfl,HB6.out.setCell (p:=⟨b+1,0,none⟩) (by show b≤b+1;omega) _,(row_other HD6.out (by omega)),HNO.out,q,by have:=HU.out;simpa using this,by have:=row_set H16.out 0 (.int .i64 q);simpa using this⟩
  case done =>
   rintro D2 s W' hD2 rfl ⟨hb,h1,hd,p,hp,hpd⟩ hdef
   have hz5:=HZ5.out
   have hDw2:b+1<D2:=by omega
   have hDD:D<D2:=by omega
   have HOK:Hid (okW e):=lid ⟨HLE.out.1,HLE.out.2,by rw [hp,List.append_nil];exact hpd⟩
   have HBW:=lid hb
   have H1:=lid h1
   have HD:=lid hd
   have HDE:=lid hdef
   have c1:W'.cell? ⟨b+1,0,none⟩=some (.int .i64 0):=row_cell h1 0
   have z1:W'.frozen? ⟨b+1,0,none⟩=false:=row_fz h1 0
   have l1:=row_lt h1
   clear hb h1 hd p hp hpd hdef
   gi_wp2_with fail
   have HD22:=lid ((Below.heap_setCell W' ⟨b+1,0,none⟩ (.int .i64 0) D2 (by show D2≠b+1;omega)).trans HDE.out)
   have HD12:=lid ((Below.heap_setCell W' ⟨b+1,0,none⟩ (.int .i64 0) D (by show D≠b+1;omega)).trans HD.out)
   have H12:=lid (row_set H1.out 0 (.int .i64 0))
   have HB2:=lid (HBW.out.setCell (p:=⟨b+1,0,none⟩) (by show b≤b+1;omega) (.int .i64 0))
   refine ⟨by simp,.inl ⟨D2,_,rfl,run_takeDeferred HD22.out,?_⟩⟩
   refine ⟨by simp,.inl ⟨D,_,rfl,run_takeDeferred ((World.putObj_heap_other (by omega)).trans HD12.out),?_⟩⟩
   refine ⟨_,res_int2 rfl _ _ (b+1) 0 rfl ((World.putObj_heap_other (by omega)).trans ((World.putObj_heap_other (by omega)).trans H12.out)),0,rfl,⟨fun _=>HOK.out,fun _=>rfl⟩,?_⟩
   have hz:=HB2.out.size
   have g1:=HB2.out.grown (grownBy_putObj' _ D2 (.deferred none)) (Nat.le_trans (Nat.le_of_eq HB.out.symm) hz) (fun j e=>by cases e;omega)
   have:=g1.grown (grownBy_putObj' _ D (.deferred none)) (Nat.le_trans (Nat.le_of_eq HB.out.symm) g1.size) (fun j e=>by cases e;omega)
   rw [HB.out]
   exact this
  case stop =>
   rintro D2 c s x W' hD2 _ ⟨rfl,hb,hd,hno,q,hq,h1⟩ hdef
   have hz5:=HZ5.out
   have hDw2:b+1<D2:=by omega
   have hDD:D<D2:=by omega
   have HBW:=lid hb
   have H1:=lid h1
   have HD:=lid hd
   have HNO:=lid hno
   have HQ:=lid hq
   have HDE:=lid hdef
   clear hb h1 hd hno hq hdef
   gi_wp2_with fail
   refine ⟨by simp,.inl ⟨D2,_,rfl,run_takeDeferred HDE.out,?_⟩⟩
   refine ⟨by simp,.inl ⟨D,_,rfl,run_takeDeferred ((World.putObj_heap_other (by omega)).trans HD.out),?_⟩⟩
   refine ⟨_,res_int2 rfl _ _ (b+1) q rfl ((World.putObj_heap_other (by omega)).trans ((World.putObj_heap_other (by omega)).trans H1.out)),q,rfl,⟨fun h=>absurd h HQ.out,fun h=>absurd h HNO.out⟩,?_⟩
   have hz:=HBW.out.size
   have g1:=HBW.out.grown (grownBy_putObj' _ D2 (.deferred none)) (Nat.le_trans (Nat.le_of_eq HB.out.symm) hz) (fun j e=>by cases e;omega)
   have:=g1.grown (grownBy_putObj' _ D (.deferred none)) (Nat.le_trans (Nat.le_of_eq HB.out.symm) g1.size) (fun j e=>by cases e;omega)
   rw [HB.out]
   exact this
end Go.Proofs.YtgcceepadlmelaaGreatDoor
