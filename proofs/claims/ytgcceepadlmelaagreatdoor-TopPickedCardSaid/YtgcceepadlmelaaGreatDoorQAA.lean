import Derived.Test.YtgcceepadlmelaaGreatDoorRows
import Derived.WalkKit
import Derived.ProofKit
import Derived.OpenShut
import Derived.SizedLaws
import Derived.WalkSpells
import Derived.WalkLawsBesides
import Derived.Laws.BytesArg
import Derived.ShutString
namespace Go.Proofs.YtgcceepadlmelaaGreatDoor
set_option maxRecDepth 100000
open Go.ChangeShapes Go.WideShapes Go.ChangeAt Go.RowKit
open Go.ChangeMaps (setBlock shut_map_nil open_string shut_string keptBut_setBlock frozen?_setBlock heap_setBlock_same)
theorem own:ownKnob Tryz.prog.godebug=none:=by kernel_rfl
theorem laidOut:laidOutB Tryz.prog=true:=by kernel_rfl
section
variable {H:Type} {enc:TypeId × Value→H} {W W':World}
def Arg (enc:TypeId × Value→H) (W:World) (t:TypeId) (v:Value):Prop :=
 (∃ base,Value.okWide Tryz.prog W .any base t v)∧∃ d p,DataW.Trod enc Tryz.prog W 0 (fun _=>true) true t v d p∧∀ x∈p,x.block<W.heap.size
def Args (enc:TypeId × Value→H) (W:World):List TypeId→List Value→Prop
 | [],[]=>True
 | t::ts,v::vs=>Arg enc W t v∧Args enc W ts vs
 | _,_=>False
theorem args_of {ts:List TypeId} {vs:List Value} {ds:List (DataW H)} {p:List MemPlace} {base:Nat} (h:DataW.TrodAll enc Tryz.prog W 0 (fun _=>true) true ts vs ds p)
  (hv:∀ (j:Nat) t v,ts[j]?=some t→vs[j]?=some v→Value.okWide Tryz.prog W .any base t v) (hlt:∀ x∈p,x.block<W.heap.size):Args enc W ts vs:=by
 induction ts generalizing vs ds p with
 | nil =>
  obtain ⟨rfl,rfl,rfl⟩:=trodAll_nil h
  exact True.intro
 | cons t ts ih =>
  obtain ⟨v,vs',d,ds',p1,q,rfl,rfl,rfl,h1,h2⟩:=trodAll_cons h
  exact ⟨⟨⟨base,hv 0 t v rfl rfl⟩,d,p1,h1,fun x hx=>hlt x (by simp [hx])⟩,ih h2 (fun j t v ht hv'=>hv (j+1) t v ht hv') (fun x hx=>hlt x (by simp [hx]))⟩
theorem trodAll_below {ts:List TypeId} {vs:List Value} {ds:List (DataW H)} {p:List MemPlace} (hr:ts.all (fun t=>Tryz.prog.readableRec t && decide (t<Tryz.prog.types.size))=true)
  (h:DataW.TrodAll enc Tryz.prog W 0 (fun _=>true) true ts vs ds p) (hb:Below W.heap.size W W') (hlt:∀ x∈p,x.block<W.heap.size) :
  DataW.TrodAll enc Tryz.prog W' 0 (fun b=>decide (b<W.heap.size)) true ts vs ds p:=by
 induction ts generalizing vs ds p with
 | nil =>
  obtain ⟨rfl,rfl,rfl⟩:=trodAll_nil h
  exact rfl
 | cons t ts ih =>
  obtain ⟨v,vs',d,ds',p1,q,rfl,rfl,rfl,h1,h2⟩:=trodAll_cons h
  rw [List.all_cons,Bool.and_eq_true,Bool.and_eq_true,decide_eq_true_eq] at hr
  exact trodAll_cons_mk (Below.trod laidOut hr.1.1 hr.1.2 h1 hb (fun x hx=>hlt x (by simp [hx]))) (ih hr.2 h2 (fun x hx=>hlt x (by simp [hx])))
theorem trodAll_len {ts:List TypeId} {vs:List Value} {ds:List (DataW H)} {p:List MemPlace} (h:DataW.TrodAll enc Tryz.prog W 0 (fun _=>true) true ts vs ds p):ds.length=ts.length:=by
 induction ts generalizing vs ds p with
 | nil =>
  obtain ⟨rfl,rfl,rfl⟩:=trodAll_nil h
  rfl
 | cons t ts ih =>
  obtain ⟨v,vs',d,ds',p1,q,rfl,rfl,rfl,h1,h2⟩:=trodAll_cons h
  simp [ih h2]
theorem Arg.int {t:TypeId} {v:Value} {k:IntKind} (ht:Tryz.prog.underlying t=some (.int k)) (h:Arg enc W t v):∃ n,v=.int k n∧(Lit.int k n).wf=true:=by
 obtain ⟨⟨base,hv⟩,d,p,hd,_⟩:=h
 obtain ⟨n,rfl,_,_,hw⟩:=open_int ht hv hd
 exact ⟨n,rfl,hw⟩
theorem Arg.string {t:TypeId} {v:Value} (ht:Tryz.prog.underlying t=some .string) (h:Arg enc W t v):∃ s,v=.string s∧s.size≤maxLen:=by
 obtain ⟨⟨base,hv⟩,d,p,hd,_⟩:=h
 obtain ⟨s,rfl,_,_,hs⟩:=open_string ht hv hd
 exact ⟨s,rfl,hs⟩
end
end Go.Proofs.YtgcceepadlmelaaGreatDoor
namespace Go.Proofs.YtgcceepadlmelaaGreatDoor
open Go.RowKit
theorem lid {p:Prop} (h:p):Hid p:=h
theorem ownsRow_row {w:World} {base:Nat} {e:TypeId} {size:Nat} {v:Value} {n:Nat} {xs:List Value} (h:w.ownsRow base e size v n xs):∀ k,v.ownBlock=some k→base≤k :=
 fun k hk=>(h.lt k hk).1
theorem wpList_append_new {P:Program} {ops:Array Oper} {rest:List Oper} {o:Oper} {a:Act} {Q:Exit→Act→World→Prop} {w:World} (us:Array Value) (hgd:o.guard=none) (s x:Operand) (t:TypeId)
  (ho:o.op=.call { callee:=.builtin .append,args:=#[s,x],argTypes:=#[t,t] })
  (base:Nat) (e:TypeId) (z:Value) (size bytes:Nat) (hinfo:(P.info? e).map (fun i=>(i.zero,i.size,i.bytes))=some (some z,size,bytes)) (ht:P.underlying t=some (.slice e)) (hzs:z.cells.size=size) (hsz:0<size)
  (v:Value) (n:Nat) (xs:List Value) (hown:w.ownsRow base e size v n xs) (hs:a.eval s=v)
  (hx:a.eval x=.slice (some ⟨w.heap.size,0,none⟩) 1 1) (hl:us.size=size) (h1:∀ u∈us.toList,u.oneCell'=true)
  (h63:n+1≤maxLen) (hbytes:(n+1)*bytes≤140737488355328) (hbase:base≤w.heap.size)
  (h:∀ v' w',w'.ownsRow base e size v' (n+1) (xs++us.toList)→Below base w w'→(¬ v'=.slice none 0 0)→wpList P ops Q rest (a.put o.dst v') w'):wpList P ops Q (o::rest) a (w.alloc (.cells us e)):=by
 obtain ⟨i,hi,hz0,hz1,hz2⟩:=info_parts hinfo
 refine wpList_append_own _ hgd s x t ho base e i z size bytes ht hi hz0 hz1 hz2 hzs hsz v n xs hs (hown.alloc _) ⟨w.heap.size,0,none⟩ 1 1 us.toList hx (by simp [hl]) ?_ h1 h63 hbytes (by simp;omega) ?_
 ·intro j u hu
  rw [Addr.add_lit]
  simp only [World.cell?,Nat.zero_add]
  rw [heap_alloc_new]
  simpa using hu
 ·intro v' w' hown' hg hn
  refine h v' w' hown' ?_ (fun e=>by have:=(hn.1 e).2;omega)
  exact ((Below.refl _ _).alloc hbase _).grown hg (by simp;omega) (fun k hk=>ownsRow_row hown k hk)
theorem wpList_make_new {P:Program} {ops:Array Oper} {rest:List Oper} {o:Oper} {a:Act} {Q:Exit→Act→World→Prop} {w:World} (hgd:o.guard=none) (l c:Operand) (t:TypeId)
  (ho:o.op=Op.makeSlice t l c) (base:Nat) (e:TypeId) (z:Value) (size bytes:Nat) (hinfo:(P.info? e).map (fun i=>(i.zero,i.size,i.bytes))=some (some z,size,bytes)) (ht:P.underlying t=some (.slice e))
  (n:Nat) (hl:a.eval l=.int .i64 0) (hc:a.eval c=.int .i64 (n:Int)) (hby:bytes*n≤281474976710656) (h63:n≤maxLen) (hbase:base≤w.heap.size)
  (h:∀ w',w'.ownsRow base e size (.slice (some ⟨w.heap.size,0,none⟩) 0 n) 0 []→Below base w w'→w.heap.size<w'.heap.size→wpList P ops Q rest (a.put o.dst (.slice (some ⟨w.heap.size,0,none⟩) 0 n)) w'):wpList P ops Q (o::rest) a w:=by
 obtain ⟨i,hi,hz0,hz1,hz2⟩:=info_parts hinfo
 refine wpList_make_own w hgd l c t ho base e i z size ht hi hz0 hz1 _ _ _ n hl hc rfl (by rw [hz2];exact hby) h63 hbase ?_
 intro w' hown hg
 have hw:w.heap.size<w'.heap.size:=(hown.lt w.heap.size rfl).2
 exact h w' hown ((Below.refl _ _).grown hg hbase (fun k hk=>by cases hk)) hw
def bstr (l:List UInt8):ByteArray:=⟨l.toArray⟩
@[simp] theorem bstr_size (l:List UInt8):(bstr l).size=l.length:=rfl
@[simp] theorem bstr_list (l:List UInt8):(bstr l).data.toList=l:=rfl
end Go.Proofs.YtgcceepadlmelaaGreatDoor
namespace Go.Proofs.YtgcceepadlmelaaGreatDoor
inductive Ex where
 | mk (kind:Int) (name more:ByteArray) (int den:Int) (sub:List Ex)
structure Dx where
 id:Int
 kind:Int
 pub:Bool
 names:List ByteArray
 doubt:Bool
 body:Ex
structure Mod where
 us:ByteArray→Bool
 ds:Int→Option Dx
abbrev St:=ByteArray→Option Mod
def Mod.none:Mod:=⟨fun _=>false,fun _=>Option.none⟩
abbrev Hd:=Int × Bool × Bool
abbrev Dx.hd (d:Dx):Hd:=(d.kind,d.pub,d.doubt)
inductive DA where
 | add (d:Dx)
 | rem (d:Dx)
 | nam (o n:List ByteArray)
 | bod (o n:Ex)
 | hed (o n:Hd)
def DA.part:DA→Int
 | .add _=>0
 | .rem _=>0
 | .nam _ _=>7
 | .bod _ _=>8
 | .hed _ _=>9
def DA.ap:DA→Option Dx→Option Dx→Prop
 | .add d,x,y=>x=Option.none∧y=some d
 | .rem d,x,y=>x=some d∧y=Option.none
 | .nam o n,x,y=>∃ d,x=some d∧d.names=o∧y=some { d with names:=n }
 | .bod o n,x,y=>∃ d,x=some d∧d.body=o∧y=some { d with body:=n }
 | .hed o n,x,y=>∃ d,x=some d∧d.hd=o∧y=some { d with kind:=n.1,pub:=n.2.1,doubt:=n.2.2 }
inductive MA where
 | use (u:ByteArray) (n:Bool)
 | dec (i:Int) (a:DA)
def updU (f:ByteArray→Bool) (u:ByteArray) (b:Bool):ByteArray→Bool:=fun y=>if y=u then b else f y
def updD (f:Int→Option Dx) (i:Int) (d:Option Dx):Int→Option Dx:=fun y=>if y=i then d else f y
def MA.ap:MA→Mod→Mod→Prop
 | .use u n,m,m'=>m.us u=!n∧m'={ m with us:=updU m.us u n }
 | .dec i a,m,m'=>∃ y,a.ap (m.ds i) y∧m'={ m with ds:=updD m.ds i y }
inductive Ac where
 | add
 | rem
 | mod (m:MA)
structure Ed where
 l:ByteArray
 a:Ac
def setM (s:St) (l:ByteArray) (m:Option Mod):St:=fun y=>if y=l then m else s y
def Ac.ap:Ac→Option Mod→Option Mod→Prop
 | .add,x,y=>x=Option.none∧y=some Mod.none
 | .rem,x,y=>x=some Mod.none∧y=Option.none
 | .mod a,x,y=>∃ m m',x=some m∧a.ap m m'∧y=some m'
def Ed.ap (e:Ed) (s t:St):Prop:=∃ y,e.a.ap (s e.l) y∧t=setM s e.l y
def MA.ind:MA→MA→Prop
 | .use u _,.use v _=>u≠v
 | .use _ _,.dec _ _=>True
 | .dec _ _,.use _ _=>True
 | .dec i a,.dec j b=>i≠j∨(a.part≠0∧b.part≠0∧a.part≠b.part)
def Ed.ind (x y:Ed):Prop:=x.l≠y.l∨∃ m n,x.a=.mod m∧y.a=.mod n∧m.ind n
theorem setM_comm {s:St} {l k:ByteArray} {x y:Option Mod} (h:l≠k):setM (setM s l x) k y=setM (setM s k y) l x:=by
 funext z
 unfold setM
 by_cases h1:z=k
 ·have:¬ z=l:=fun e=>h (e▸h1)
  simp [h1]
  intro e
  exact absurd e.symm h
 ·simp [h1]
theorem setM_twice {s:St} {l:ByteArray} {x y:Option Mod}:setM (setM s l x) l y=setM s l y:=by
 funext z
 unfold setM
 by_cases h1:z=l <;> simp [h1]
theorem setM_at {s:St} {l:ByteArray} {x:Option Mod}:setM s l x l=x:=by simp [setM]
theorem setM_off {s:St} {l k:ByteArray} {x:Option Mod} (h:k≠l):setM s l x k=s k:=by simp [setM,h]
theorem updD_at {f:Int→Option Dx} {i:Int} {x:Option Dx}:updD f i x i=x:=by simp [updD]
theorem updD_off {f:Int→Option Dx} {i j:Int} {x:Option Dx} (h:j≠i):updD f i x j=f j:=by simp [updD,h]
theorem updD_twice {f:Int→Option Dx} {i:Int} {x y:Option Dx}:updD (updD f i x) i y=updD f i y:=by
 funext z
 unfold updD
 by_cases h1:z=i <;> simp [h1]
theorem updD_comm {f:Int→Option Dx} {i j:Int} {x y:Option Dx} (h:i≠j):updD (updD f i x) j y=updD (updD f j y) i x:=by
 funext z
 unfold updD
 by_cases h1:z=j
 ·have:¬ z=i:=fun e=>h (e▸h1)
  simp [h1]
  intro e
  exact absurd e.symm h
 ·simp [h1]
theorem updU_comm {f:ByteArray→Bool} {i j:ByteArray} {x y:Bool} (h:i≠j):updU (updU f i x) j y=updU (updU f j y) i x:=by
 funext z
 unfold updU
 by_cases h1:z=j
 ·have:¬ z=i:=fun e=>h (e▸h1)
  simp [h1]
  intro e
  exact absurd e.symm h
 ·simp [h1]
theorem DA.comm {a b:DA} {x y z:Option Dx} (ha:a.part≠0) (hb:b.part≠0) (hab:a.part≠b.part) (h1:a.ap x y) (h2:b.ap y z):∃ y',b.ap x y'∧a.ap y' z:=by
 cases a <;> cases b <;> simp only [DA.part,ne_eq,not_true_eq_false] at ha hb hab <;>
  (obtain ⟨d,rfl,e,rfl⟩:=h1;obtain ⟨d',e',e2,rfl⟩:=h2;obtain rfl:=Option.some.inj e';exact ⟨_,⟨d,rfl,by simpa using e2,rfl⟩,_,rfl,e,rfl⟩)
theorem MA.comm {a b:MA} {x y z:Mod} (h:a.ind b) (h1:a.ap x y) (h2:b.ap y z):∃ y',b.ap x y'∧a.ap y' z:=by
 cases a with
 | use u n =>
  obtain ⟨p1,rfl⟩:=h1
  cases b with
  | use v m =>
   obtain ⟨p2,rfl⟩:=h2
   have huv:u≠v:=h
   refine ⟨_,⟨?_,rfl⟩,?_,?_⟩
   ·have:updU x.us u n v=x.us v:=by simp [updU,Ne.symm huv]
    rw [← this]
    exact p2
   ·show updU x.us v m u=_
    have:updU x.us v m u=x.us u:=by simp [updU,huv]
    rw [this,p1]
   ·show Mod.mk _ _=Mod.mk _ _
    rw [updU_comm huv]
  | dec j b =>
   obtain ⟨y,p2,rfl⟩:=h2
   exact ⟨_,⟨y,p2,rfl⟩,p1,rfl⟩
 | dec i a =>
  obtain ⟨w,p1,rfl⟩:=h1
  cases b with
  | use v m =>
   obtain ⟨p2,rfl⟩:=h2
   exact ⟨_,⟨p2,rfl⟩,w,p1,rfl⟩
  | dec j b =>
   obtain ⟨v,p2,rfl⟩:=h2
   by_cases hij:i=j
   ·subst hij
    rcases h with h | ⟨ha,hb,hab⟩
    ·exact absurd rfl h
    ·have p2':b.ap w v:=by
      have:updD x.ds i w i=w:=updD_at
      rw [← this]
      exact p2
     obtain ⟨y',q1,q2⟩:=DA.comm ha hb hab p1 p2'
     refine ⟨_,⟨y',q1,rfl⟩,v,?_,?_⟩
     ·show a.ap (updD x.ds i y' i) v
      rw [updD_at]
      exact q2
     ·show Mod.mk _ _=Mod.mk _ _
      rw [updD_twice,updD_twice]
   ·have p2':b.ap (x.ds j) v:=by
     have:updD x.ds i w j=x.ds j:=updD_off (Ne.symm hij)
     rw [← this]
     exact p2
    refine ⟨_,⟨v,p2',rfl⟩,w,?_,?_⟩
    ·show a.ap (updD x.ds j v i) w
     rw [updD_off hij]
     exact p1
    ·show Mod.mk _ _=Mod.mk _ _
     rw [updD_comm hij]
theorem Ed.comm {x y:Ed} {s t u:St} (h:x.ind y) (h1:x.ap s t) (h2:y.ap t u):∃ t',y.ap s t'∧x.ap t' u:=by
 obtain ⟨v,p1,rfl⟩:=h1
 obtain ⟨w,p2,rfl⟩:=h2
 by_cases hl:x.l=y.l
 ·rcases h with h | ⟨m,n,e1,e2,hmn⟩
  ·exact absurd hl h
  ·rw [e1] at p1
   rw [e2,← hl,setM_at] at p2
   obtain ⟨a,b,q1,q2,rfl⟩:=p1
   obtain ⟨a',b',q3,q4,rfl⟩:=p2
   obtain rfl:=Option.some.inj q3
   obtain ⟨c,r1,r2⟩:=MA.comm hmn q2 q4
   refine ⟨setM s x.l (some c),⟨some c,?_,by rw [hl]⟩,some b',?_,?_⟩
   ·rw [e2,← hl]
    exact ⟨a,c,q1,r1,rfl⟩
   ·rw [e1,setM_at]
    exact ⟨c,b',rfl,r2,rfl⟩
   ·rw [hl,setM_twice,setM_twice]
 ·rw [setM_off (Ne.symm hl)] at p2
  refine ⟨_,⟨w,p2,rfl⟩,v,?_,?_⟩
  ·rw [setM_off hl]
   exact p1
  ·rw [setM_comm hl]
def apL:List Ed→St→St→Prop
 | [],s,t=>s=t
 | e::l,s,t=>∃ u,e.ap s u∧apL l u t
theorem apL_append {l m:List Ed} {s t:St}:apL (l++m) s t↔∃ u,apL l s u∧apL m u t:=by
 induction l generalizing s with
 | nil=>exact ⟨fun h=>⟨s,rfl,h⟩,fun ⟨u,h1,h2⟩=>by cases h1;exact h2⟩
 | cons e l ih =>
  constructor
  ·rintro ⟨u,h1,h2⟩
   obtain ⟨v,h3,h4⟩:=ih.1 h2
   exact ⟨v,⟨u,h1,h3⟩,h4⟩
  ·rintro ⟨v,⟨u,h1,h3⟩,h4⟩
   exact ⟨u,h1,ih.2 ⟨v,h3,h4⟩⟩
theorem apL_swap {l m:List Ed} {x y:Ed} {s t:St} (hxy:x.ind y) (h:apL (l++x::y::m) s t):apL (l++y::x::m) s t:=by
 rw [apL_append] at h ⊢
 obtain ⟨u,h1,v,h2,w,h3,h4⟩:=h
 obtain ⟨v',h5,h6⟩:=Ed.comm hxy h2 h3
 exact ⟨u,h1,v',h5,w,h6,h4⟩
end Go.Proofs.YtgcceepadlmelaaGreatDoor
namespace Go.Proofs.YtgcceepadlmelaaGreatDoor
def DA.inv:DA→DA
 | .add d=>.rem d
 | .rem d=>.add d
 | .nam o n=>.nam n o
 | .bod o n=>.bod n o
 | .hed o n=>.hed n o
def MA.inv:MA→MA
 | .use u n=>.use u (!n)
 | .dec i a=>.dec i a.inv
def Ac.inv:Ac→Ac
 | .add=>.rem
 | .rem=>.add
 | .mod m=>.mod m.inv
def Ed.inv (e:Ed):Ed:=⟨e.l,e.a.inv⟩
theorem DA.ap_inv {a:DA} {x y:Option Dx} (h:a.ap x y):a.inv.ap y x:=by
 cases a with
 | add d=>exact ⟨h.2,h.1⟩
 | rem d=>exact ⟨h.2,h.1⟩
 | nam o n =>
  obtain ⟨d,rfl,rfl,rfl⟩:=h
  exact ⟨_,rfl,rfl,rfl⟩
 | bod o n =>
  obtain ⟨d,rfl,rfl,rfl⟩:=h
  exact ⟨_,rfl,rfl,rfl⟩
 | hed o n =>
  obtain ⟨d,rfl,rfl,rfl⟩:=h
  exact ⟨_,rfl,rfl,rfl⟩
theorem MA.ap_inv {a:MA} {x y:Mod} (h:a.ap x y):a.inv.ap y x:=by
 cases a with
 | use u n =>
  obtain ⟨h1,rfl⟩:=h
  refine ⟨by simp [updU],?_⟩
  show x=Mod.mk _ _
  have:updU (updU x.us u n) u (!n)=x.us:=by
   funext z
   unfold updU
   by_cases e:z=u
   ·subst e
    simp [h1]
   ·simp [e]
  show x=Mod.mk (updU (updU x.us u n) u (!n)) x.ds
  rw [this]
 | dec i a =>
  obtain ⟨y,h1,rfl⟩:=h
  refine ⟨x.ds i,?_,?_⟩
  ·show a.inv.ap (updD x.ds i y i) (x.ds i)
   rw [updD_at]
   exact DA.ap_inv h1
  ·have:updD (updD x.ds i y) i (x.ds i)=x.ds:=by
    rw [updD_twice]
    funext z
    unfold updD
    by_cases e:z=i
    ·subst e;simp
    ·simp [e]
   show x=Mod.mk x.us (updD (updD x.ds i y) i (x.ds i))
   rw [this]
theorem Ac.ap_inv {a:Ac} {x y:Option Mod} (h:a.ap x y):a.inv.ap y x:=by
 cases a with
 | add=>exact ⟨h.2,h.1⟩
 | rem=>exact ⟨h.2,h.1⟩
 | mod m =>
  obtain ⟨p,q,rfl,h2,rfl⟩:=h
  exact ⟨q,p,rfl,MA.ap_inv h2,rfl⟩
theorem Ed.ap_inv {e:Ed} {s t:St} (h:e.ap s t):e.inv.ap t s:=by
 obtain ⟨y,h1,rfl⟩:=h
 refine ⟨s e.l,?_,?_⟩
 ·show e.a.inv.ap (setM s e.l y e.l) (s e.l)
  rw [setM_at]
  exact Ac.ap_inv h1
 ·show s=setM (setM s e.l y) e.l (s e.l)
  rw [setM_twice]
  funext z
  unfold setM
  by_cases e':z=e.l
  ·subst e';simp
  ·simp [e']
theorem apL_inv:∀ {l:List Ed} {s t:St},apL l s t→apL (l.reverse.map Ed.inv) t s
 | [],_,_,h=>h.symm
 | e::l,s,t,⟨u,h1,h2⟩=>by
  rw [List.reverse_cons,List.map_append,apL_append]
  exact ⟨u,apL_inv h2,s,Ed.ap_inv h1,rfl⟩
theorem apL_back {m:List Ed} {x:Ed} {s t:St}:∀ {p l:List Ed},(∀ y∈p,x.ind y)→apL (l++x::p++m) s t→apL (l++p++x::m) s t
 | [],l,_,h=>by simpa using h
 | y::p,l,hp,h=>by
  have h2:apL (l++x::y::(p++m)) s t:=by simpa using h
  have h3:=apL_swap (hp y (List.mem_cons_self ..)) h2
  have h4:apL ((l++[y])++x::p++m) s t:=by simpa using h3
  have h5:=apL_back (p:=p) (fun z hz=>hp z (List.mem_cons_of_mem _ hz)) h4
  simpa using h5
abbrev pickd (l:List (Ed × Bool)):List Ed:=(l.filter (·.2)).map (·.1)
abbrev restd (l:List (Ed × Bool)):List Ed:=(l.filter (!·.2)).map (·.1)
theorem apL_pick:∀ {l:List (Ed × Bool)} {s t:St},l.Pairwise (fun x y=>x.2=false→y.2=true→x.1.ind y.1)→apL (l.map (·.1)) s t→apL (pickd l++restd l) s t
 | [],_,_,_,h=>h
 | (e,b)::l,s,t,hp,⟨u,h1,h2⟩=>by
  rw [List.pairwise_cons] at hp
  have h3:=apL_pick hp.2 h2
  cases b with
  | true=>exact ⟨u,h1,h3⟩
  | false =>
   have h4:apL ([]++e::pickd l++restd l) s t:=⟨u,h1,h3⟩
   have h5:=apL_back (p:=pickd l) (l:=[]) (fun y hy=>by
    obtain ⟨z,hz,rfl⟩:=List.mem_map.1 hy
    rw [List.mem_filter] at hz
    exact hp.1 z hz.1 rfl hz.2) h4
   simpa [pickd,restd] using h5
def restL {α:Type} (eq:α→α→Bool):List α→List α→List α
 | [],_=>[]
 | x::l,[]=>x::restL eq l []
 | x::l,y::p=>if eq x y=true then restL eq l p else x::restL eq l (y::p)
theorem restL_pick {α:Type} {eq:α→α→Bool}:∀ {l:List (α × Bool)},(∀ x y,x∈l.map (·.1)→y∈l.map (·.1)→(eq x y=true↔x=y))→(l.map (·.1)).Nodup→restL eq (l.map (·.1)) ((l.filter (·.2)).map (·.1))=(l.filter (!·.2)).map (·.1)
 | [],_,_=>rfl
 | (x,true)::l,he,hn=>by
  rw [List.map_cons,List.nodup_cons] at hn
  have ih:=restL_pick (l:=l) (fun a b ha hb=>he a b (List.mem_cons_of_mem _ ha) (List.mem_cons_of_mem _ hb)) hn.2
  show (if eq x x=true then _ else _)=_
  rw [if_pos ((he x x (List.mem_cons_self ..) (List.mem_cons_self ..)).2 rfl)]
  exact ih
 | (x,false)::l,he,hn=>by
  rw [List.map_cons,List.nodup_cons] at hn
  have ih:=restL_pick (l:=l) (fun a b ha hb=>he a b (List.mem_cons_of_mem _ ha) (List.mem_cons_of_mem _ hb)) hn.2
  show restL eq (x::l.map (·.1)) ((l.filter (·.2)).map (·.1))=x::(l.filter (!·.2)).map (·.1)
  cases hp:(l.filter (·.2)).map (·.1) with
  | nil =>
   rw [hp] at ih
   show x::restL eq _ []=_
   rw [ih]
  | cons y p =>
   have hy:y∈l.map (·.1):=by
    have:y∈(l.filter (·.2)).map (·.1):=by rw [hp];exact List.mem_cons_self ..
    obtain ⟨z,hz,rfl⟩:=List.mem_map.1 this
    exact List.mem_map.2 ⟨z,(List.mem_filter.1 hz).1,rfl⟩
   show (if eq x y=true then _ else _)=_
   rw [if_neg (fun h=>hn.1 (by rw [(he x y (List.mem_cons_self ..) (List.mem_cons_of_mem _ hy)).1 h];exact hy)),← hp,ih]
end Go.Proofs.YtgcceepadlmelaaGreatDoor
namespace Go.Proofs.YtgcceepadlmelaaGreatDoor
section
set_option linter.unusedSectionVars false
variable {α κ:Type} [DecidableEq κ]
structure LtK (lt:κ→κ→Bool):Prop where
 irr:∀ a,lt a a=false
 tr:∀ {a b c},lt a b=true→lt b c=true→lt a c=true
 tot:∀ a b,lt a b=true∨a=b∨lt b a=true
def AscK (k:α→κ) (lt:κ→κ→Bool) (l:List α):Prop:=l.Pairwise fun x y=>lt (k x) (k y)=true
def fnd (k:α→κ) (l:List α) (y:κ):Option α:=l.find? fun x=>decide (k x=y)
def idxK (k:α→κ) (lt:κ→κ→Bool) (l:List α) (y:κ):Nat:=(l.takeWhile fun x=>lt (k x) y).length
variable {k:α→κ} {lt:κ→κ→Bool}
theorem fnd_key {l:List α} {y:κ} {x:α} (h:fnd k l y=some x):k x=y∧x∈l:=⟨by have:=List.find?_some h;simpa using this,List.mem_of_find?_eq_some h⟩
theorem fnd_none {l:List α} {y:κ}:fnd k l y=none↔∀ x∈l,k x≠y:=by
 unfold fnd
 rw [List.find?_eq_none]
 simp
theorem fnd_append {p s:List α} {y:κ}:fnd k (p++s) y=(fnd k p y).or (fnd k s y):=List.find?_append
theorem fnd_cons {x:α} {s:List α} {y:κ}:fnd k (x::s) y=if k x=y then some x else fnd k s y:=by
 unfold fnd
 rw [List.find?_cons]
 by_cases h:k x=y <;> simp [h]
theorem AscK.ne (hl:LtK lt) {l:List α} (h:AscK k lt l):l.Pairwise fun x y=>k x≠k y:=List.Pairwise.imp (fun {a b} hab e=>by rw [e,hl.irr] at hab;cases hab) h
theorem split_key (hl:LtK lt) {l:List α} (h:AscK k lt l) (y:κ):(∀ x∈l.take (idxK k lt l y),lt (k x) y=true)∧(∀ x∈l.drop (idxK k lt l y),lt (k x) y=false):=by
 induction l with
 | nil=>exact ⟨by simp,by simp⟩
 | cons a l ih =>
  unfold idxK
  by_cases e:lt (k a) y=true
  ·rw [List.takeWhile_cons_of_pos (by simpa using e)]
   obtain ⟨h1,h2⟩:=ih (List.pairwise_cons.1 h).2
   refine ⟨fun x hx=>?_,h2⟩
   rcases List.mem_cons.1 hx with rfl | hx
   ·exact e
   ·exact h1 x hx
  ·rw [List.takeWhile_cons_of_neg (by simpa using e)]
   refine ⟨by simp,fun x hx=>?_⟩
   rcases List.mem_cons.1 hx with rfl | hx
   ·simpa using e
   ·cases hf:lt (k x) y with
    | false=>rfl
    | true=>exact absurd (hl.tr ((List.pairwise_cons.1 h).1 x hx) hf) e
theorem idx_le {l:List α} {y:κ}:idxK k lt l y≤l.length:=by
 unfold idxK
 exact (List.takeWhile_sublist _).length_le
theorem fnd_at (hl:LtK lt) {l:List α} (h:AscK k lt l) (y:κ):fnd k l y=if h':idxK k lt l y<l.length then (if k l[idxK k lt l y]=y then some l[idxK k lt l y] else none) else none:=by
 obtain ⟨h1,h2⟩:=split_key hl h y
 have e:fnd k l y=fnd k (l.drop (idxK k lt l y)) y:=by
  conv=>lhs;rw [← List.take_append_drop (idxK k lt l y) l]
  rw [fnd_append,fnd_none.2 (fun x hx e=>by have:=h1 x hx;rw [e,hl.irr] at this;cases this)]
  rfl
 rw [e]
 by_cases h':idxK k lt l y<l.length
 ·rw [dif_pos h',List.drop_eq_getElem_cons h',fnd_cons]
  by_cases e2:k l[idxK k lt l y]=y
  ·rw [if_pos e2,if_pos e2]
  ·rw [if_neg e2,if_neg e2,fnd_none]
   intro x hx e3
   have hlt:lt y (k l[idxK k lt l y])=true:=by
    have h3:=h2 l[idxK k lt l y] (by rw [List.drop_eq_getElem_cons h'];exact List.mem_cons_self ..)
    rcases hl.tot (k l[idxK k lt l y]) y with h4 | h4 | h4
    ·rw [h3] at h4;cases h4
    ·exact absurd h4 e2
    ·exact h4
   have hp:(l.drop (idxK k lt l y)).Pairwise fun x y=>lt (k x) (k y)=true:=List.Pairwise.sublist (List.drop_sublist _ _) h
   rw [List.drop_eq_getElem_cons h',List.pairwise_cons] at hp
   have:=hl.tr hlt (hp.1 x hx)
   rw [e3,hl.irr] at this
   cases this
 ·rw [dif_neg h',List.drop_of_length_le (by omega)]
  rfl
def insK (k:α→κ) (lt:κ→κ→Bool) (l:List α) (x:α):List α:=l.take (idxK k lt l (k x))++x::l.drop (idxK k lt l (k x))
theorem insK_asc (hl:LtK lt) {l:List α} (h:AscK k lt l) {x:α} (hx:fnd k l (k x)=none):AscK k lt (insK k lt l x):=by
 obtain ⟨h1,h2⟩:=split_key hl h (k x)
 rw [fnd_none] at hx
 have hd:∀ y∈l.drop (idxK k lt l (k x)),lt (k x) (k y)=true:=fun y hy=>by
  rcases hl.tot (k y) (k x) with h4 | h4 | h4
  ·rw [h2 y hy] at h4;cases h4
  ·exact absurd h4 (hx y (List.mem_of_mem_drop hy))
  ·exact h4
 unfold insK AscK
 rw [List.pairwise_append,List.pairwise_cons]
 refine ⟨List.Pairwise.sublist (List.take_sublist _ _) h,⟨hd,List.Pairwise.sublist (List.drop_sublist _ _) h⟩,fun a ha b hb=>?_⟩
 rcases List.mem_cons.1 hb with rfl | hb
 ·exact h1 a ha
 ·exact hl.tr (h1 a ha) (hd b hb)
theorem insK_fnd {l:List α} {x:α} (hx:fnd k l (k x)=none) (y:κ):fnd k (insK k lt l x) y=if y=k x then some x else fnd k l y:=by
 rw [fnd_none] at hx
 unfold insK
 rw [fnd_append,fnd_cons]
 by_cases e:y=k x
 ·subst e
  rw [fnd_none.2 (fun z hz=>hx z (List.mem_of_mem_take hz))]
  simp
 ·have e':¬ k x=y:=fun h=>e h.symm
  rw [if_neg e',if_neg e,← fnd_append,List.take_append_drop]
theorem insK_len {l:List α} {x:α}:(insK k lt l x).length=l.length+1:=by
 unfold insK
 rw [List.length_append,List.length_cons,List.length_take,List.length_drop]
 have:=idx_le (k:=k) (lt:=lt) (l:=l) (y:=k x)
 omega
theorem eraseIdx_fnd (hl:LtK lt) {l:List α} (h:AscK k lt l) {i:Nat} (hi:i<l.length) (y:κ):fnd k (l.take i++l.drop (i+1)) y=if y=k l[i] then none else fnd k l y:=by
 have hs:l=l.take i++l[i]::l.drop (i+1):=by rw [List.getElem_cons_drop,List.take_append_drop]
 have hne:=h.ne hl
 rw [hs,List.pairwise_append,List.pairwise_cons] at hne
 by_cases e:y=k l[i]
 ·subst e
  rw [if_pos rfl,fnd_none]
  intro x hx
  rcases List.mem_append.1 hx with hx | hx
  ·exact hne.2.2 x hx _ (List.mem_cons_self ..)
  ·exact fun e=>hne.2.1.1 x hx e.symm
 ·rw [if_neg e]
  conv=>rhs;rw [hs]
  have e':¬ k l[i]=y:=fun h=>e h.symm
  rw [fnd_append,fnd_append,fnd_cons,if_neg e']
theorem erase_asc {l:List α} (h:AscK k lt l) (i:Nat):AscK k lt (l.take i++l.drop (i+1)):=by
 refine List.Pairwise.sublist ?_ h
 conv=>rhs;rw [← List.take_append_drop i l]
 refine (List.Sublist.refl _).append ?_
 rw [← List.drop_drop]
 exact List.drop_sublist _ _
theorem set_asc {l:List α} (h:AscK k lt l) {i:Nat} (hi:i<l.length) {x:α} (hx:k x=k l[i]):AscK k lt (l.set i x):=by
 unfold AscK
 rw [List.pairwise_iff_getElem]
 intro a b ha hb hab
 rw [List.length_set] at ha hb
 have:=List.pairwise_iff_getElem.1 h a b ha hb hab
 rw [List.getElem_set,List.getElem_set]
 by_cases h1:i=a
 ·subst h1
  have h2:¬ i=b:=by omega
  rw [if_pos rfl,if_neg h2,hx]
  exact this
 ·by_cases h2:i=b
  ·subst h2
   rw [if_neg h1,if_pos rfl,hx]
   exact this
  ·rw [if_neg h1,if_neg h2]
   exact this
theorem set_fnd (hl:LtK lt) {l:List α} (h:AscK k lt l) {i:Nat} (hi:i<l.length) {x:α} (hx:k x=k l[i]) (y:κ):fnd k (l.set i x) y=if y=k x then some x else fnd k l y:=by
 have hs:l=l.take i++l[i]::l.drop (i+1):=by rw [List.getElem_cons_drop,List.take_append_drop]
 have hne:=h.ne hl
 rw [hs,List.pairwise_append,List.pairwise_cons] at hne
 rw [List.set_eq_take_append_cons_drop,if_pos hi,fnd_append,fnd_cons]
 by_cases e:y=k x
 ·subst e
  rw [fnd_none.2 (fun z hz=>by rw [hx];exact hne.2.2 z hz _ (List.mem_cons_self ..))]
  simp
 ·have e':¬ k x=y:=fun h=>e h.symm
  rw [if_neg e',if_neg e]
  conv=>rhs;rw [hs]
  rw [fnd_append,fnd_cons,if_neg (by rw [← hx];exact e')]
theorem asc_uniq (hl:LtK lt):∀ {l m:List α},AscK k lt l→AscK k lt m→(∀ y,fnd k l y=fnd k m y)→l=m
 | [],[],_,_,_=>rfl
 | [],b::m,_,_,h=>by
  have:=h (k b)
  rw [fnd_cons,if_pos rfl] at this
  cases this
 | a::l,[],_,_,h=>by
  have:=h (k a)
  rw [fnd_cons,if_pos rfl] at this
  cases this
 | a::l,b::m,ha,hb,h=>by
  have hpa:=List.pairwise_cons.1 ha
  have hpb:=List.pairwise_cons.1 hb
  have e:a=b:=by
   have h1:=h (k a)
   have h2:=h (k b)
   rw [fnd_cons,if_pos rfl] at h1
   rw [fnd_cons (x:=b),if_pos rfl] at h2
   obtain ⟨_,m1⟩:=fnd_key h1.symm
   obtain ⟨_,m2⟩:=fnd_key h2
   rcases List.mem_cons.1 m1 with e | m1
   ·exact e
   ·rcases List.mem_cons.1 m2 with e | m2
    ·exact e.symm
    ·have h3:=hl.tr (hpb.1 a m1) (hpa.1 b m2)
     rw [hl.irr] at h3
     cases h3
  subst e
  congr 1
  refine asc_uniq hl hpa.2 hpb.2 fun y=>?_
  have h1:=h y
  rw [fnd_cons,fnd_cons] at h1
  by_cases e:k a=y
  ·subst e
   rw [fnd_none.2 (fun x hx e=>by have:=hpa.1 x hx;rw [e,hl.irr] at this;cases this),fnd_none.2 (fun x hx e=>by have:=hpb.1 x hx;rw [e,hl.irr] at this;cases this)]
  ·rwa [if_neg e,if_neg e] at h1
end
end Go.Proofs.YtgcceepadlmelaaGreatDoor
namespace Go.Proofs.YtgcceepadlmelaaGreatDoor
structure Mx where
 label:ByteArray
 uses:List ByteArray
 decls:List Dx
def ltL (a b:ByteArray):Bool:=Op.bytesLess a.data.toList b.data.toList
def ltI (a b:Int):Bool:=decide (a<b)
theorem ltI_k:LtK ltI:=⟨fun a=>by simp [ltI],fun {a b c} h g=>by simp only [ltI,decide_eq_true_eq] at *;omega,fun a b=>by simp only [ltI,decide_eq_true_eq];omega⟩
theorem bl_irr:∀ a:List UInt8,Op.bytesLess a a=false
 | []=>rfl
 | x::a=>by
  unfold Op.bytesLess
  simp [bl_irr a,UInt8.lt_irrefl]
theorem bl_tot:∀ a b:List UInt8,Op.bytesLess a b=true∨a=b∨Op.bytesLess b a=true
 | [],[]=>.inr (.inl rfl)
 | [],_::_=>.inl rfl
 | _::_,[]=>.inr (.inr rfl)
 | x::a,y::b=>by
  unfold Op.bytesLess
  by_cases h1:x<y
  ·simp [h1]
  ·by_cases h2:y<x
   ·simp [h2]
   ·have e:x=y:=UInt8.le_antisymm (UInt8.not_lt.1 h2) (UInt8.not_lt.1 h1)
    subst e
    rcases bl_tot a b with h | h | h
    ·simp [h]
    ·simp [h]
    ·simp [h]
theorem bl_tr:∀ {a b c:List UInt8},Op.bytesLess a b=true→Op.bytesLess b c=true→Op.bytesLess a c=true
 | [],[],_,h,_=>by cases h
 | [],_::_,[],_,h=>by cases h
 | [],_::_,_::_,_,_=>rfl
 | _::_,[],_,h,_=>by cases h
 | _::_,_::_,[],_,h=>by cases h
 | x::a,y::b,z::c,h1,h2=>by
  unfold Op.bytesLess at *
  simp only [Bool.or_eq_true,Bool.and_eq_true,decide_eq_true_eq,beq_iff_eq] at *
  rcases h1 with h1 | ⟨rfl,h1⟩
  ·rcases h2 with h2 | ⟨rfl,_⟩
   ·exact .inl (UInt8.lt_trans h1 h2)
   ·exact .inl h1
  ·rcases h2 with h2 | ⟨rfl,h2⟩
   ·exact .inl h2
   ·exact .inr ⟨rfl,bl_tr h1 h2⟩
theorem bytes_inj {a b:ByteArray} (h:a.data.toList=b.data.toList):a=b:=by
 cases a;cases b
 exact congrArg _ (Array.toList_inj.1 h)
theorem ltL_k:LtK ltL:=⟨fun _=>bl_irr _,fun h g=>bl_tr h g,fun a b=>(bl_tot a.data.toList b.data.toList).imp id (Or.imp bytes_inj id)⟩
abbrev AscU (l:List ByteArray):Prop:=AscK (fun x:ByteArray=>x) ltL l
abbrev AscD (l:List Dx):Prop:=AscK Dx.id ltI l
abbrev AscM (l:List Mx):Prop:=AscK Mx.label ltL l
abbrev fndU (l:List ByteArray) (y:ByteArray):=fnd (fun x:ByteArray=>x) l y
abbrev fndD (l:List Dx) (i:Int):=fnd Dx.id l i
abbrev fndM (l:List Mx) (y:ByteArray):=fnd Mx.label l y
structure OkM (m:Mx):Prop where
 us:AscU m.uses
 ds:AscD m.decls
structure OkL (l:List Mx):Prop where
 asc:AscM l
 ok:∀ m∈l,OkM m
def modOf (m:Mx):Mod:=⟨fun u=>(fndU m.uses u).isSome,fun i=>fndD m.decls i⟩
def absM (l:List Mx):St:=fun y=>(fndM l y).map modOf
theorem fndU_key {l:List ByteArray} {y x:ByteArray} (h:fndU l y=some x):x=y:=(fnd_key h).1
theorem modOf_inj {m n:Mx} (hm:OkM m) (hn:OkM n) (hl:m.label=n.label) (h:modOf m=modOf n):m=n:=by
 have h1:m.uses=n.uses:=asc_uniq ltL_k hm.us hn.us fun y=>by
  have:=congrFun (congrArg Mod.us h) y
  have:(fndU m.uses y).isSome=(fndU n.uses y).isSome:=this
  cases e1:fndU m.uses y with
  | none =>
   cases e2:fndU n.uses y with
   | none=>exact e1.trans e2.symm
   | some b=>rw [e1,e2] at this;cases this
  | some a =>
   cases e2:fndU n.uses y with
   | none=>rw [e1,e2] at this;cases this
   | some b =>
    have k1:=fndU_key e1
    have k2:=fndU_key e2
    rw [k1] at e1
    rw [k2] at e2
    exact e1.trans e2.symm
 have h2:m.decls=n.decls:=asc_uniq ltI_k hm.ds hn.ds fun y=>congrFun (congrArg Mod.ds h) y
 cases m;cases n
 simp only at h1 h2 hl
 rw [h1,h2,hl]
theorem absM_inj {l k:List Mx} (hl:OkL l) (hk:OkL k) (h:absM l=absM k):l=k :=
 asc_uniq ltL_k hl.asc hk.asc fun y=>by
  have:(fndM l y).map modOf=(fndM k y).map modOf:=congrFun h y
  show fndM l y=fndM k y
  cases e1:fndM l y with
  | none =>
   cases e2:fndM k y with
   | none=>rfl
   | some b=>rw [e1,e2] at this;cases this
  | some a =>
   cases e2:fndM k y with
   | none=>rw [e1,e2] at this;cases this
   | some b =>
    rw [e1,e2] at this
    have e3:=Option.some.inj this
    obtain ⟨k1,m1⟩:=fnd_key e1
    obtain ⟨k2,m2⟩:=fnd_key e2
    rw [modOf_inj (hl.ok _ m1) (hk.ok _ m2) (k1.trans k2.symm) e3]
def oneD (l:List Dx) (i:Int):DA→List Dx
 | .add d=>insK Dx.id ltI l d
 | .rem _=>l.take (idxK Dx.id ltI l i)++l.drop (idxK Dx.id ltI l i+1)
 | .nam _ n=>match fndD l i with | some d=>l.set (idxK Dx.id ltI l i) { d with names:=n } | none=>l
 | .bod _ n=>match fndD l i with | some d=>l.set (idxK Dx.id ltI l i) { d with body:=n } | none=>l
 | .hed _ n=>match fndD l i with | some d=>l.set (idxK Dx.id ltI l i) { d with kind:=n.1,pub:=n.2.1,doubt:=n.2.2 } | none=>l
def oneU (l:List ByteArray) (u:ByteArray):Bool→List ByteArray
 | true=>insK (fun x:ByteArray=>x) ltL l u
 | false=>l.take (idxK (fun x:ByteArray=>x) ltL l u)++l.drop (idxK (fun x:ByteArray=>x) ltL l u+1)
def oneA (m:Mx):MA→Mx
 | .use u n=>{ m with uses:=oneU m.uses u n }
 | .dec i a=>{ m with decls:=oneD m.decls i a }
def DA.fit (i:Int):DA→Prop
 | .add d=>d.id=i
 | .rem d=>d.id=i
 | _=>True
theorem at_some {α κ:Type} [DecidableEq κ] {k:α→κ} {lt:κ→κ→Bool} (hl:LtK lt) {l:List α} (h:AscK k lt l) {y:κ} {x:α} (hx:fnd k l y=some x):∃ hi:idxK k lt l y<l.length,l[idxK k lt l y]=x∧k x=y:=by
 have h1:=fnd_at hl h y
 rw [hx] at h1
 split at h1
 ·rename_i hi
  split at h1
  ·exact ⟨hi,(Option.some.inj h1).symm,(fnd_key hx).1⟩
  ·cases h1
 ·cases h1
theorem oneD_set {l:List Dx} (h:AscD l) {i:Int} {d d':Dx} (hd:fndD l i=some d) (he:d'.id=d.id):AscD (l.set (idxK Dx.id ltI l i) d')∧(fun j=>fndD (l.set (idxK Dx.id ltI l i) d') j)=updD (fun j=>fndD l j) i (some d'):=by
 obtain ⟨hi,e1,e2⟩:=at_some ltI_k h hd
 have hk:d'.id=(l[idxK Dx.id ltI l i]).id:=by rw [e1,he]
 refine ⟨set_asc h hi hk,?_⟩
 funext j
 rw [show fndD (l.set (idxK Dx.id ltI l i) d') j=_ from set_fnd ltI_k h hi hk j]
 unfold updD
 rw [he,e2]
theorem oneD_ap {l:List Dx} (h:AscD l) {i:Int} {a:DA} (hf:a.fit i) {y:Option Dx} (ha:a.ap (fndD l i) y):AscD (oneD l i a)∧(fun j=>fndD (oneD l i a) j)=updD (fun j=>fndD l j) i y:=by
 cases a with
 | add d =>
  obtain ⟨h1,rfl⟩:=ha
  obtain rfl:d.id=i:=hf
  refine ⟨insK_asc ltI_k h h1,?_⟩
  funext j
  exact insK_fnd h1 j
 | rem d =>
  obtain ⟨h1,rfl⟩:=ha
  obtain ⟨hi,e1,e2⟩:=at_some ltI_k h h1
  refine ⟨erase_asc h _,?_⟩
  funext j
  have:=eraseIdx_fnd ltI_k h hi j
  rw [e1,e2] at this
  exact this
 | nam o n =>
  obtain ⟨d,h1,_,rfl⟩:=ha
  simp only [oneD,h1]
  exact oneD_set h h1 rfl
 | bod o n =>
  obtain ⟨d,h1,_,rfl⟩:=ha
  simp only [oneD,h1]
  exact oneD_set h h1 rfl
 | hed o n =>
  obtain ⟨d,h1,_,rfl⟩:=ha
  simp only [oneD,h1]
  exact oneD_set h h1 rfl
theorem oneU_ap {l:List ByteArray} (h:AscU l) {u:ByteArray} {n:Bool} (hu:(fndU l u).isSome=!n):AscU (oneU l u n)∧(fun v=>(fndU (oneU l u n) v).isSome)=updU (fun v=>(fndU l v).isSome) u n:=by
 cases n with
 | true =>
  have h1:fndU l u=none:=by cases e:fndU l u <;> simp [e] at hu ⊢
  refine ⟨insK_asc ltL_k h h1,?_⟩
  funext v
  rw [show fndU (oneU l u true) v=_ from insK_fnd h1 v]
  unfold updU
  by_cases e:v=u <;> simp [e]
 | false =>
  obtain ⟨x,h1⟩:=Option.isSome_iff_exists.1 hu
  obtain ⟨hi,e1,e2⟩:=at_some ltL_k h h1
  refine ⟨erase_asc h _,?_⟩
  funext v
  have:=eraseIdx_fnd ltL_k h hi v
  rw [e1,e2] at this
  rw [show fndU (oneU l u false) v=_ from this]
  unfold updU
  by_cases e:v=u <;> simp [e]
def MA.fit:MA→Prop
 | .use _ _=>True
 | .dec i a=>a.fit i
theorem oneA_ap {m:Mx} (h:OkM m) {a:MA} (hf:a.fit) {t:Mod} (ha:a.ap (modOf m) t):OkM (oneA m a)∧modOf (oneA m a)=t:=by
 cases a with
 | use u n =>
  obtain ⟨h1,rfl⟩:=ha
  obtain ⟨h2,h3⟩:=oneU_ap h.us (u:=u) (n:=n) h1
  exact ⟨⟨h2,h.ds⟩,by unfold modOf oneA;rw [h3]⟩
 | dec i a =>
  obtain ⟨y,h1,rfl⟩:=ha
  obtain ⟨h2,h3⟩:=oneD_ap h.ds hf h1
  exact ⟨⟨h.us,h2⟩,by unfold modOf oneA;rw [h3]⟩
def oneE (l:List Mx) (e:Ed):List Mx:=match e.a with
 | .add=>insK Mx.label ltL l ⟨e.l,[],[]⟩
 | .rem=>l.take (idxK Mx.label ltL l e.l)++l.drop (idxK Mx.label ltL l e.l+1)
 | .mod a=>match fndM l e.l with | some m=>l.set (idxK Mx.label ltL l e.l) (oneA m a) | none=>l
def Ed.fit (e:Ed):Prop:=∀ a,e.a=.mod a→a.fit
theorem oneA_label (m:Mx) (a:MA):(oneA m a).label=m.label:=by cases a <;> rfl
theorem mod_none_of {m:Mx} (h:modOf m=Mod.none):m.uses=[]∧m.decls=[]:=by
 constructor
 ·cases hu:m.uses with
  | nil=>rfl
  | cons a l =>
   have:=congrFun (congrArg Mod.us h) a
   have:(fndU m.uses a).isSome=false:=this
   rw [hu,show fndU (a::l) a=_ from fnd_cons] at this
   simp at this
 ·cases hu:m.decls with
  | nil=>rfl
  | cons a l =>
   have:=congrFun (congrArg Mod.ds h) a.id
   have:fndD m.decls a.id=none:=this
   rw [hu,show fndD (a::l) a.id=_ from fnd_cons] at this
   simp at this
theorem oneE_ap {l:List Mx} (h:OkL l) {e:Ed} (hf:e.fit) {t:St} (ha:e.ap (absM l) t):OkL (oneE l e)∧absM (oneE l e)=t:=by
 obtain ⟨y,h1,rfl⟩:=ha
 obtain ⟨lb,a⟩:=e
 simp only at h1 hf
 cases a with
 | add =>
  obtain ⟨h2,rfl⟩:=h1
  have h3:fndM l lb=none:=by
   have:(fndM l lb).map modOf=none:=h2
   simpa using this
  refine ⟨⟨insK_asc ltL_k h.asc h3,fun m hm=>?_⟩,?_⟩
  ·have hm:m∈l.take _++_:=hm
   rcases List.mem_append.1 hm with hm | hm
   ·exact h.ok m (List.mem_of_mem_take hm)
   ·rcases List.mem_cons.1 hm with rfl | hm
    ·exact ⟨List.Pairwise.nil,List.Pairwise.nil⟩
    ·exact h.ok m (List.mem_of_mem_drop hm)
  ·funext z
   show (fndM (insK Mx.label ltL l ⟨lb,[],[]⟩) z).map modOf=_
   rw [show fndM (insK Mx.label ltL l ⟨lb,[],[]⟩) z=_ from insK_fnd h3 z]
   unfold setM
   by_cases e:z=lb
   ·rw [if_pos e,if_pos e]
    rfl
   ·rw [if_neg e,if_neg e]
    rfl
 | rem =>
  obtain ⟨h2,rfl⟩:=h1
  obtain ⟨m,hm,h3⟩:=Option.map_eq_some_iff.1 (show (fndM l lb).map modOf=some Mod.none from h2)
  obtain ⟨hi,e1,e2⟩:=at_some ltL_k h.asc hm
  refine ⟨⟨erase_asc h.asc _,fun m hm=>?_⟩,?_⟩
  ·have hm:m∈l.take _++_:=hm
   rcases List.mem_append.1 hm with hm | hm
   ·exact h.ok m (List.mem_of_mem_take hm)
   ·exact h.ok m (List.mem_of_mem_drop hm)
  ·funext z
   have:=eraseIdx_fnd ltL_k h.asc hi z
   rw [e1,e2] at this
   show (fndM (l.take _++l.drop _) z).map modOf=_
   rw [show fndM (l.take (idxK Mx.label ltL l lb)++l.drop (idxK Mx.label ltL l lb+1)) z=_ from this]
   unfold setM
   by_cases e:z=lb
   ·rw [if_pos e,if_pos e]
    rfl
   ·rw [if_neg e,if_neg e]
    rfl
 | mod a =>
  obtain ⟨p,q,h2,h3,rfl⟩:=h1
  obtain ⟨m,hm,rfl⟩:=Option.map_eq_some_iff.1 (show (fndM l lb).map modOf=some p from h2)
  obtain ⟨hi,e1,e2⟩:=at_some ltL_k h.asc hm
  obtain ⟨g1,g2⟩:=oneA_ap (h.ok m (fnd_key hm).2) (hf a rfl) h3
  have hk:(oneA m a).label=(l[idxK Mx.label ltL l lb]).label:=by rw [e1,oneA_label]
  have e3:oneE l ⟨lb,.mod a⟩=l.set (idxK Mx.label ltL l lb) (oneA m a):=by simp only [oneE,hm]
  rw [e3]
  refine ⟨⟨set_asc h.asc hi hk,fun x hx=>?_⟩,?_⟩
  ·rcases List.mem_or_eq_of_mem_set hx with hx | rfl
   ·exact h.ok x hx
   ·exact g1
  ·funext z
   show (fndM (l.set _ (oneA m a)) z).map modOf=_
   rw [show fndM (l.set (idxK Mx.label ltL l lb) (oneA m a)) z=_ from set_fnd ltL_k h.asc hi hk z]
   unfold setM
   rw [oneA_label,e2]
   by_cases e:z=lb
   ·rw [if_pos e,if_pos e,← g2]
    rfl
   ·rw [if_neg e,if_neg e]
    rfl
end Go.Proofs.YtgcceepadlmelaaGreatDoor
