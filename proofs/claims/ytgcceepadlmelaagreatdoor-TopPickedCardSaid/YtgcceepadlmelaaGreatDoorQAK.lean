import Derived.Test.YtgcceepadlmelaaGreatDoorQAJ
import Derived.Test.YtgcceepadlmelaaGreatDoorEdPhase
import Derived.Test.YtgcceepadlmelaaGreatDoorQAA
import Derived.Test.YtgcceepadlmelaaGreatDoorQAB
namespace Go.Proofs.YtgcceepadlmelaaGreatDoor
open Classical
def zEx:Ex:=.mk 0 ⟨#[]⟩ ⟨#[]⟩ 0 0 []
theorem zEw_x:zEw.x=zEx:=by rw [Ew.x_eq];rfl
structure Kc where
 kind:Int
 pack:ByteArray
 text:ByteArray
 old:List Dx
 new:List Dx
def Kw.x (k:Kw):Kc:=⟨k.kind,k.pack,k.text,k.old.map Dw.x,k.new.map Dw.x⟩
def namD (i:Int) (ns:List ByteArray):Dx:=⟨i,0,false,ns,false,zEx⟩
def bodD (i:Int) (e:Ex):Dx:=⟨i,0,false,[],false,e⟩
def hedD (i:Int) (h:Hd):Dx:=⟨i,h.1,h.2.1,[],h.2.2,zEx⟩
def menX (k:Int) (d:Dx):Dx:=if k=7 then namD d.id d.names else if k=8 then bodD d.id d.body else if k=9 then hedD d.id d.hd else d
theorem menW_x (k:Int) (d:Dw):(menW k d).x=menX k d.x:=by
 unfold menW menX
 split
 ·simp [Dw.x,namD,zEw_x]
 ·split
  ·simp [Dw.x,bodD]
  ·split
   ·simp [Dw.x,hedD,zEw_x]
   ·rfl
def daK (l:ByteArray) (i:Int):DA→Kc
 | .add d=>⟨5,l,⟨#[]⟩,[],[d]⟩
 | .rem d=>⟨6,l,⟨#[]⟩,[d],[]⟩
 | .nam o n=>⟨7,l,⟨#[]⟩,[namD i o],[namD i n]⟩
 | .bod o n=>⟨8,l,⟨#[]⟩,[bodD i o],[bodD i n]⟩
 | .hed o n=>⟨9,l,⟨#[]⟩,[hedD i o],[hedD i n]⟩
def maK (l:ByteArray):MA→Kc
 | .use u true=>⟨3,l,u,[],[]⟩
 | .use u false=>⟨4,l,u,[],[]⟩
 | .dec i a=>daK l i a
def Ed.k (e:Ed):Kc:=match e.a with
 | .add=>⟨1,e.l,⟨#[]⟩,[],[]⟩
 | .rem=>⟨2,e.l,⟨#[]⟩,[],[]⟩
 | .mod a=>maK e.l a
noncomputable def partKs (l:ByteArray) (x y:Dx) (k:Int):List Kc:=if menX k x=menX k y then [] else [⟨k,l,⟨#[]⟩,[menX k x],[menX k y]⟩]
theorem parts_eq (l:ByteArray) {x y:Dx} (h:x.id=y.id):partKs l x y 7++partKs l x y 8++partKs l x y 9=((partsE x y).map (.dec x.id)).map (maK l):=by
 have e7:menX 7 x=menX 7 y↔x.names=y.names:=by
  rw [show menX 7 x=namD x.id x.names from rfl,show menX 7 y=namD y.id y.names from rfl,h]
  exact ⟨fun e=>by injection e,fun e=>by rw [e]⟩
 have e8:menX 8 x=menX 8 y↔x.body=y.body:=by
  rw [show menX 8 x=bodD x.id x.body from rfl,show menX 8 y=bodD y.id y.body from rfl,h]
  exact ⟨fun e=>by injection e,fun e=>by rw [e]⟩
 have e9:menX 9 x=menX 9 y↔x.hd=y.hd:=by
  rw [show menX 9 x=hedD x.id x.hd from rfl,show menX 9 y=hedD y.id y.hd from rfl,h]
  refine ⟨fun e=>?_,fun e=>by rw [e]⟩
  injection e with e1 e2 e3 e4 e5 e6
  exact Prod.ext e2 (Prod.ext e3 e5)
 have p:∀ (k:Int) (q:Prop) (a:DA),(menX k x=menX k y↔q)→daK l x.id a=⟨k,l,⟨#[]⟩,[menX k x],[menX k y]⟩→partKs l x y k=(((if q then [] else [a]).map (MA.dec x.id)).map (maK l)):=fun k q a hq ha=>by
  unfold partKs
  by_cases hc:q
  ·rw [if_pos (hq.2 hc),if_pos hc];rfl
  ·rw [if_neg (fun e=>hc (hq.1 e)),if_neg hc,← ha];rfl
 unfold partsE
 rw [List.map_append,List.map_append,List.map_append,List.map_append]
 rw [p 7 _ (.nam x.names y.names) e7 (by show Kc.mk _ _ _ _ _=_;rw [show menX 7 y=namD y.id y.names from rfl,← h];rfl),p 8 _ (.bod x.body y.body) e8 (by show Kc.mk _ _ _ _ _=_;rw [show menX 8 y=bodD y.id y.body from rfl,← h];rfl),p 9 _ (.hed x.hd y.hd) e9 (by show Kc.mk _ _ _ _ _=_;rw [show menX 9 y=hedD y.id y.hd from rfl,← h];rfl)]
 congr
noncomputable def declKs (l:ByteArray) (a b:List Dx):List Kc:=(declE a b).map (maK l)
theorem declKs_nil (l:ByteArray):declKs l [] []=[]:=by unfold declKs;rw [declE];rfl
theorem declKs_rem0 (l:ByteArray) (x:Dx) (a:List Dx):declKs l (x::a) []=⟨6,l,⟨#[]⟩,[x],[]⟩::declKs l a []:=by unfold declKs;rw [declE];rfl
theorem declKs_add0 (l:ByteArray) (y:Dx) (b:List Dx):declKs l [] (y::b)=⟨5,l,⟨#[]⟩,[],[y]⟩::declKs l [] b:=by unfold declKs;rw [declE];rfl
theorem declKs_rem (l:ByteArray) {x y:Dx} (a b:List Dx) (h:x.id<y.id):declKs l (x::a) (y::b)=⟨6,l,⟨#[]⟩,[x],[]⟩::declKs l a (y::b):=by unfold declKs;rw [declE,if_pos h];rfl
theorem declKs_add (l:ByteArray) {x y:Dx} (a b:List Dx) (h:y.id<x.id):declKs l (x::a) (y::b)=⟨5,l,⟨#[]⟩,[],[y]⟩::declKs l (x::a) b:=by unfold declKs;rw [declE,if_neg (by omega),if_pos h];rfl
theorem declKs_both (l:ByteArray) {x y:Dx} (a b:List Dx) (h:x.id=y.id):declKs l (x::a) (y::b)=partKs l x y 7++partKs l x y 8++partKs l x y 9++declKs l a b:=by
 unfold declKs
 rw [declE,if_neg (by omega),if_neg (by omega),List.map_append,parts_eq l h]
end Go.Proofs.YtgcceepadlmelaaGreatDoor
namespace Go.Proofs.YtgcceepadlmelaaGreatDoor
open Go.RowKit
def upd (s:Nat→Bool) (i:Nat):Nat→Bool:=fun k=>if k=i then true else s k
@[simp] theorem upd_same (s:Nat→Bool) (i:Nat):upd s i i=true:=by simp [upd]
theorem upd_ne (s:Nat→Bool) {i k:Nat} (h:k≠i):upd s i k=s k:=by simp [upd,h]
def putAll (a:Act):List Nat→List Value→Act
 | k::ks,v::vs=>putAll (a.put (some k) v) ks vs
 | _,_=>a
def mixB (md:Region.Mode) (ops:Array Oper) (cs:List (Nat × List Nat)) (fin:Array Bool→Bool):Nat→Array Bool→Bool
 | 0,listed=>cs.all (fun c=>listed.getD c.1 false) && fin listed
 | n+1,listed=>!(Region.ready md ops listed).isEmpty && (Region.ready md ops listed).all fun i=>(cs.any fun c=>c.1 == i && c.2.all fun d=>listed.getD d false) && mixB md ops cs fin n (listed.setIfInBounds i true)
section
variable {P:Program} {ops:Array Oper} {Q:Exit→Act→World→Prop} {md:Region.Mode} {C:World→Prop}
theorem wpAnyH_mix {cs:List (Nat × List Nat)} {fin:Array Bool→Bool} {fuel0:Nat} {I:(Nat→Bool)→Act→World→Prop}
  (hstep:∀ c∈cs,∀ s a w,s c.1=false→(∀ d∈c.2,s d=true)→C w→I s a w→wpOp P ops Q c.1 (fun a' w'=>C w'∧I (upd s c.1) a' w') a w)
  (hend:∀ listed s a w,fin listed=true→(∀ c∈cs,s c.1=true)→C w→I s a w→wpAnyH P md ops Q C fuel0 listed a w) :
  ∀ (n:Nat) (listed:Array Bool) (s:Nat→Bool) (a:Act) (w:World),(∀ k,s k=listed.getD k false)→mixB md ops cs fin n listed=true→C w→I s a w→wpAnyH P md ops Q C (n+fuel0) listed a w
 | 0,listed,s,a,w,hs,hB,hC,hI=>by
  simp only [mixB,Bool.and_eq_true,List.all_eq_true] at hB
  rw [Nat.zero_add]
  exact hend listed s a w hB.2 (fun c hc=>by rw [hs];exact hB.1 c hc) hC hI
 | n+1,listed,s,a,w,hs,hB,hC,hI=>by
  simp only [mixB,Bool.and_eq_true,List.all_eq_true,List.any_eq_true,beq_iff_eq] at hB
  obtain ⟨hne,hall⟩:=hB
  rw [show n+1+fuel0=n+fuel0+1 by omega]
  refine wpAnyH_all rfl (by intro e;rw [e] at hne;simp at hne) (fun i hi=>?_)
  obtain ⟨⟨c,hc,rfl,hd⟩,hB'⟩:=hall i hi
  have h0:listed.getD c.1 true=false:=(mem_ready.1 hi).1
  have hlt:c.1<listed.size:=by
   rcases Nat.lt_or_ge c.1 listed.size with h | h
   ·exact h
   ·rw [Array.getD_eq_getD_getElem?,Array.getElem?_eq_none h] at h0
    cases h0
  have h1:listed.getD c.1 false=false:=by
   rw [Array.getD_eq_getD_getElem?,Array.getElem?_eq_getElem hlt] at h0 ⊢
   exact h0
  refine wpOp_mono (fun a' w' hh=>⟨hh.1,wpAnyH_mix hstep hend n _ (upd s c.1) a' w' ?_ hB' hh.1 hh.2⟩) (hstep c hc s a w (by rw [hs];exact h1) (fun d hdd=>by rw [hs];exact hd d hdd) hC hI)
  intro k
  by_cases e:k=c.1
  ·subst e
   rw [upd_same,Array.getD_eq_getD_getElem?,Array.getElem?_setIfInBounds_self_of_lt hlt]
   rfl
  ·rw [upd_ne s e,getD_set_ne false (Ne.symm e)]
   exact hs k
def MixGo (P:Program) (ops:Array Oper) (C:World→Prop) (Q:Exit→Act→World→Prop) (cs:List (Nat × List Nat)) (post:List (Nat × Bool)) (a:Act) (w:World):Prop :=
 ∃ I:(Nat→Bool)→Act→World→Prop,(∀ s,(∀ c∈cs,s c.1=false)→I s a w) ∧
  (∀ c∈cs,∀ s a w,s c.1=false→(∀ d∈c.2,s d=true)→C w→I s a w→wpOp P ops Q c.1 (fun a' w'=>C w'∧I (upd s c.1) a' w') a w) ∧
  (∀ s a w,(∀ c∈cs,s c.1=true)→C w→I s a w→seqRun P ops C Q (fun a w=>Q .normal a w) post a w)
theorem wp_region_mix {id:Nat} {a:Act} {w:World} {l:List Oper} (C:World→Prop) (pre:List (Nat × Bool)) (cs:List (Nat × List Nat)) (post:List (Nat × Bool)) (hm:P.follows .mixedOrders=true)
  (hB:(Region.noSelect l.toArray && decide (pre.length+(cs.length+post.length)=l.length) && (match seqB .any l.toArray pre (Array.replicate l.length false) with
   | some listed=>(cs.all fun c=>!listed.getD c.1 false) && mixB .any l.toArray cs (fun l1=>match seqB .any l.toArray post l1 with | some l2=>(Region.ready .any l.toArray l2).isEmpty | none=>false) cs.length listed
   | none=>false))=true)
  (hQ:∀ c d v a w,Q (.panic c) (Act.put a d v) w→Q (.panic c) a w) (hC:C w.drew)
  (h:seqRun P l.toArray C Q (MixGo P l.toArray C Q cs post) pre a w.drew):(Code.region id l.toArray true).wp P Q a w:=by
 simp only [Bool.and_eq_true,decide_eq_true_eq] at hB
 obtain ⟨⟨hs,hl⟩,hB⟩:=hB
 split at hB
 ·rename_i listed hsq
  simp only [Bool.and_eq_true,List.all_eq_true] at hB
  obtain ⟨hfresh,hmix⟩:=hB
  refine wp_region_held (S:=C) hm ?_
  have:=wpAnyH_of_seq (md:=.any) (P:=P) (fuel:=cs.length+post.length) hs hQ pre _ listed a w.drew hC hsq (fun a w hCw hq=>?_) h
  ·rw [hl] at this
   simpa using this
  ·obtain ⟨I,h0,h1,h2⟩:=hq
   refine wpAnyH_mix h1 ?_ cs.length listed (fun k=>listed.getD k false) a w (fun _=>rfl) hmix hCw (h0 _ (fun c hc=>by have:=hfresh c hc;revert this;cases listed.getD c.1 false <;> simp))
   intro l1 s a w hfin hall hCw hI
   split at hfin
   ·rename_i l2 hl2
    have:=wpAnyH_of_seq (md:=.any) (P:=P) (fuel:=0) hs hQ post _ l2 a w hCw hl2 (fun a w _ hq=>⟨by simpa using hfin,hq⟩) (h2 s a w hall hCw hI)
    simpa using this
   ·cases hfin
 ·cases hB
theorem mix_op {i:Nat} {o:Oper} {l:List Oper} (hi:l[i]?=some o) {a:Act} {w:World} {G:Act→World→Prop} (h:∀ K:Act→World→Prop,Hid (∀ a w,G a w→K a w)→wpList P l.toArray (Exit.then K Q) [o] a w):wpOp P l.toArray Q i G a w:=by
 have h1:=h G (fun _ _ hg=>hg)
 have hi':l.toArray[i]?=some o:=by simpa using hi
 unfold wpOp
 simp only [hi']
 unfold wpList at h1
 split
 ·rename_i hw
  rw [if_pos hw] at h1
  refine h1.imp ?_ (fun ⟨h2,b,v,h3⟩=>⟨h2,b,v,h3⟩)
  intro h2
  unfold Oper.wp at *
  generalize (execOp a.eval o).run P w=r at *
  cases r with
  | ok n w' =>
   cases n <;> simp only [Oper.upon] at h2 ⊢ <;>
    first
     | exact h2
     | exact Calls.mono h2 (fun e w'' he=>by cases e <;> exact he)
     | exact Rows.mono h2 (fun _ _ he=>he)
  | halt x w'=>cases x <;> simp only [Oper.upon] at h2 ⊢ <;> exact h2
 ·rename_i hw
  rw [if_neg hw] at h1
  exact h1
def MixSteps (P:Program) (l:List Oper) (C:World→Prop) (Q:Exit→Act→World→Prop) (a:Act) (slots:List Nat) (R:(Nat→Bool)→List Value→World→Prop):List (Nat × List Nat)→Prop
 | []=>True
 | c::cs=>(∀ s vs w,vs.length=slots.length→s c.1=false→(∀ d∈c.2,s d=true)→C w→R s vs w →
   wpOp P l.toArray Q c.1 (fun a' w'=>C w'∧∃ vs',vs'.length=slots.length∧a'=putAll a slots vs'∧R (upd s c.1) vs' w') (putAll a slots vs) w)∧MixSteps P l C Q a slots R cs
theorem mixSteps_mem {l:List Oper} {a:Act} {slots:List Nat} {R:(Nat→Bool)→List Value→World→Prop}:∀ {cs:List (Nat × List Nat)},MixSteps P l C Q a slots R cs→∀ c∈cs,∀ s vs w,vs.length=slots.length→s c.1=false→(∀ d∈c.2,s d=true)→C w→R s vs w →
   wpOp P l.toArray Q c.1 (fun a' w'=>C w'∧∃ vs',vs'.length=slots.length∧a'=putAll a slots vs'∧R (upd s c.1) vs' w') (putAll a slots vs) w
 | [],_,_,hc=>by cases hc
 | c0::cs,h,c,hc=>by
  rcases List.mem_cons.1 hc with rfl | hc
  ·exact h.1
  ·exact mixSteps_mem h.2 c hc
theorem mix_go {l:List Oper} {cs:List (Nat × List Nat)} {post:List (Nat × Bool)} {a:Act} {w:World} (slots:List Nat) (vs0:List Value) (R:(Nat→Bool)→List Value→World→Prop) (hl:vs0.length=slots.length) (h0:a=putAll a slots vs0)
  (hi:∀ s:Nat→Bool,(∀ c∈cs,s c.1=false)→R s vs0 w) (hs:MixSteps P l C Q a slots R cs)
  (he:∀ s vs w',vs.length=slots.length→(∀ c∈cs,s c.1=true)→C w'→R s vs w'→seqRun P l.toArray C Q (fun a w=>Q .normal a w) post (putAll a slots vs) w'):MixGo P l.toArray C Q cs post a w:=by
 refine ⟨fun s a' w'=>∃ vs,vs.length=slots.length∧a'=putAll a slots vs∧R s vs w',fun s hs0=>⟨vs0,hl,h0,hi s hs0⟩,?_,?_⟩
 ·rintro c hc s a' w' h1 h2 hC ⟨vs,hvl,rfl,hR⟩
  exact mixSteps_mem hs c hc s vs w' hvl h1 h2 hC hR
 ·rintro s a' w' hall hC ⟨vs,hvl,rfl,hR⟩
  exact he s vs w' hvl hall hC hR
end
end Go.Proofs.YtgcceepadlmelaaGreatDoor
