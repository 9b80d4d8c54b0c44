import Derived.Test.YtgcceepadlmelaaGreatDoorQAA
import Derived.OrdersHeld
import Derived.BigQuiet
import Derived.WalkKit
import Derived.Laws.IdiomCopy
import Derived.Laws.AppendOwn
namespace Go.Proofs.YtgcceepadlmelaaGreatDoor
open Classical
def maL:List MA→Mod→Mod→Prop
 | [],s,t=>s=t
 | e::l,s,t=>∃ u,e.ap s u∧maL l u t
theorem maL_append {l m:List MA} {s t:Mod}:maL (l++m) s t↔∃ u,maL l s u∧maL m u t:=by
 induction l generalizing s with
 | nil=>exact ⟨fun h=>⟨s,rfl,h⟩,fun ⟨u,h1,h2⟩=>by cases h1;exact h2⟩
 | cons e l ih =>
  constructor
  ·rintro ⟨u,h1,h2⟩
   obtain ⟨v,h3,h4⟩:=ih.1 h2
   exact ⟨v,⟨u,h1,h3⟩,h4⟩
  ·rintro ⟨v,⟨u,h1,h3⟩,h4⟩
   exact ⟨u,h1,ih.2 ⟨v,h3,h4⟩⟩
noncomputable def partsE (x y:Dx):List DA:=(if x.names=y.names then [] else [.nam x.names y.names])++(if x.body=y.body then [] else [.bod x.body y.body])++(if x.hd=y.hd then [] else [.hed x.hd y.hd])
noncomputable def declE:List Dx→List Dx→List MA
 | [],[]=>[]
 | x::a,[]=>.dec x.id (.rem x)::declE a []
 | [],y::b=>.dec y.id (.add y)::declE [] b
 | x::a,y::b=>if x.id<y.id then .dec x.id (.rem x)::declE a (y::b) else if y.id<x.id then .dec y.id (.add y)::declE (x::a) b else (partsE x y).map (.dec x.id)++declE a b
termination_by a b=>a.length+b.length
theorem parts_lead {x y:Dx} (h:x.id=y.id) {m:Mod} (hm:m.ds x.id=some x):maL ((partsE x y).map (.dec x.id)) m { m with ds:=updD m.ds x.id (some y) }:=by
 have h1:maL ((if x.names=y.names then [] else [DA.nam x.names y.names]).map (.dec x.id)) m { m with ds:=updD m.ds x.id (some { x with names:=y.names }) }:=by
  split
  ·rename_i e
   show m=_
   have:updD m.ds x.id (some { x with names:=y.names })=m.ds:=by
    funext j
    unfold updD
    by_cases ej:j=x.id
    ·rw [if_pos ej,ej,hm,← e]
    ·rw [if_neg ej]
   rw [this]
  ·exact ⟨_,⟨_,⟨x,hm,rfl,rfl⟩,rfl⟩,rfl⟩
 have h2:maL ((if x.body=y.body then [] else [DA.bod x.body y.body]).map (.dec x.id)) { m with ds:=updD m.ds x.id (some { x with names:=y.names }) } { m with ds:=updD m.ds x.id (some { x with names:=y.names,body:=y.body }) }:=by
  split
  ·rename_i e
   show _=_
   rw [← e]
  ·exact ⟨_,⟨_,⟨{ x with names:=y.names },updD_at,rfl,rfl⟩,rfl⟩,by show Mod.mk _ _=Mod.mk _ _;rw [updD_twice]⟩
 have h3:maL ((if x.hd=y.hd then [] else [DA.hed x.hd y.hd]).map (.dec x.id)) { m with ds:=updD m.ds x.id (some { x with names:=y.names,body:=y.body }) } { m with ds:=updD m.ds x.id (some y) }:=by
  have hy:({ x with names:=y.names,body:=y.body,kind:=y.hd.1,pub:=y.hd.2.1,doubt:=y.hd.2.2 }:Dx)=y:=by cases x;cases y;simp only at h;subst h;rfl
  split
  ·rename_i e
   show _=_
   have:({ x with names:=y.names,body:=y.body }:Dx)=y:=by
    rw [← hy,← e]
   rw [this]
  ·exact ⟨_,⟨_,⟨{ x with names:=y.names,body:=y.body },updD_at,rfl,rfl⟩,rfl⟩,by show Mod.mk _ _=Mod.mk _ _;rw [updD_twice,hy]⟩
 unfold partsE
 rw [List.map_append,List.map_append,maL_append]
 exact ⟨_,maL_append.2 ⟨_,h1,h2⟩,h3⟩
theorem fndD_cons (x:Dx) (l:List Dx) (i:Int):fndD (x::l) i=if x.id=i then some x else fndD l i:=fnd_cons
theorem fndD_tail {x:Dx} {l:List Dx} (h:AscD (x::l)) {i:Int} (hi:i≤x.id):fndD l i=none:=by
 rw [show fndD l i=fnd Dx.id l i from rfl,fnd_none]
 intro y hy e
 have:=(List.pairwise_cons.1 h).1 y hy
 simp only [ltI,decide_eq_true_eq] at this
 omega
theorem declE_lead:∀ (a b:List Dx) (F:Int→Option Dx) (us:ByteArray→Bool),AscD a→AscD b→(∀ i,(fndD a i).isSome∨(fndD b i).isSome→F i=none) →
  maL (declE a b) ⟨us,fun i=>(fndD a i).or (F i)⟩ ⟨us,fun i=>(fndD b i).or (F i)⟩
 | [],[],F,us,_,_,_=>by rw [declE];rfl
 | x::a,[],F,us,ha,hb,hF=>by
  rw [declE]
  refine ⟨⟨us,fun i=>(fndD a i).or (F i)⟩,⟨none,⟨?_,rfl⟩,?_⟩,declE_lead a [] F us (List.pairwise_cons.1 ha).2 hb (fun i hi=>hF i ?_)⟩
  ·show (fndD (x::a) x.id).or (F x.id)=some x
   rw [fndD_cons,if_pos rfl]
   rfl
  ·show Mod.mk _ _=Mod.mk _ _
   congr 1
   funext j
   show _=updD (fun i=>(fndD (x::a) i).or (F i)) x.id none j
   unfold updD
   by_cases e:j=x.id
   ·rw [if_pos e,e,fndD_tail ha (Int.le_refl _),hF x.id (.inl (by rw [fndD_cons,if_pos rfl];rfl))]
    rfl
   ·rw [if_neg e]
    show (fndD a j).or (F j)=(fndD (x::a) j).or (F j)
    rw [fndD_cons,if_neg (fun h=>e h.symm)]
  ·rcases hi with hi | hi
   ·left
    rw [fndD_cons]
    split
    ·rfl
    ·exact hi
   ·cases hi
 | [],y::b,F,us,ha,hb,hF=>by
  rw [declE]
  have h1:=declE_lead [] b (updD F y.id (some y)) us ha (List.pairwise_cons.1 hb).2 (fun i hi=>by
   have hne:i≠y.id:=fun e=>by
    rcases hi with hi | hi
    ·cases hi
    ·rw [e,fndD_tail hb (Int.le_refl _)] at hi;cases hi
   rw [updD_off hne]
   refine hF i (.inr ?_)
   rcases hi with hi | hi
   ·cases hi
   ·rw [fndD_cons,if_neg (fun e=>hne e.symm)]
    exact hi)
  have e1:(fun i=>(fndD [] i).or (updD F y.id (some y) i))=updD (fun i=>(fndD [] i).or (F i)) y.id (some y):=by
   funext j
   unfold updD
   by_cases e:j=y.id <;> simp [e] <;> rfl
  have e2:(fun i=>(fndD b i).or (updD F y.id (some y) i))=fun i=>(fndD (y::b) i).or (F i):=by
   funext j
   unfold updD
   rw [fndD_cons]
   by_cases e:j=y.id
   ·rw [if_pos e,if_pos e.symm,e,fndD_tail hb (Int.le_refl _)]
    rfl
   ·rw [if_neg e,if_neg (fun h=>e h.symm)]
  rw [e1,e2] at h1
  refine ⟨_,⟨some y,⟨?_,rfl⟩,rfl⟩,h1⟩
  show (fndD [] y.id).or (F y.id)=none
  rw [hF y.id (.inr (by rw [fndD_cons,if_pos rfl];rfl))]
  rfl
 | x::a,y::b,F,us,ha,hb,hF=>by
  rw [declE]
  split
  ·rename_i hlt
   refine ⟨⟨us,fun i=>(fndD a i).or (F i)⟩,⟨none,⟨?_,rfl⟩,?_⟩,declE_lead a (y::b) F us (List.pairwise_cons.1 ha).2 hb (fun i hi=>hF i ?_)⟩
   ·show (fndD (x::a) x.id).or (F x.id)=some x
    rw [fndD_cons,if_pos rfl]
    rfl
   ·show Mod.mk _ _=Mod.mk _ _
    congr 1
    funext j
    show _=updD (fun i=>(fndD (x::a) i).or (F i)) x.id none j
    unfold updD
    by_cases e:j=x.id
    ·rw [if_pos e,e,fndD_tail ha (Int.le_refl _),hF x.id (.inl (by rw [fndD_cons,if_pos rfl];rfl))]
     rfl
    ·rw [if_neg e]
     show (fndD a j).or (F j)=(fndD (x::a) j).or (F j)
     rw [fndD_cons,if_neg (fun h=>e h.symm)]
   ·rcases hi with hi | hi
    ·left
     rw [fndD_cons]
     split
     ·rfl
     ·exact hi
    ·exact .inr hi
  ·rename_i hn1
   split
   ·rename_i hlt
    have hxa:fndD (x::a) y.id=none:=by
     rw [fndD_cons,if_neg (by omega),fndD_tail ha (by omega)]
    have h1:=declE_lead (x::a) b (updD F y.id (some y)) us ha (List.pairwise_cons.1 hb).2 (fun i hi=>by
     have hne:i≠y.id:=fun e=>by
      rcases hi with hi | hi
      ·rw [e,hxa] at hi;cases hi
      ·rw [e,fndD_tail hb (Int.le_refl _)] at hi;cases hi
     rw [updD_off hne]
     refine hF i ?_
     rcases hi with hi | hi
     ·exact .inl hi
     ·right
      rw [fndD_cons,if_neg (fun e=>hne e.symm)]
      exact hi)
    have e1:(fun i=>(fndD (x::a) i).or (updD F y.id (some y) i))=updD (fun i=>(fndD (x::a) i).or (F i)) y.id (some y):=by
     funext j
     unfold updD
     by_cases e:j=y.id
     ·rw [if_pos e,if_pos e,e,hxa]
      rfl
     ·rw [if_neg e,if_neg e]
    have e2:(fun i=>(fndD b i).or (updD F y.id (some y) i))=fun i=>(fndD (y::b) i).or (F i):=by
     funext j
     unfold updD
     rw [fndD_cons]
     by_cases e:j=y.id
     ·rw [if_pos e,if_pos e.symm,e,fndD_tail hb (Int.le_refl _)]
      rfl
     ·rw [if_neg e,if_neg (fun h=>e h.symm)]
    rw [e1,e2] at h1
    refine ⟨_,⟨some y,⟨?_,rfl⟩,rfl⟩,h1⟩
    show (fndD (x::a) y.id).or (F y.id)=none
    rw [hxa,hF y.id (.inr (by rw [fndD_cons,if_pos rfl];rfl))]
    rfl
   ·rename_i hn2
    have hid:x.id=y.id:=by omega
    have h1:=declE_lead a b (updD F x.id (some y)) us (List.pairwise_cons.1 ha).2 (List.pairwise_cons.1 hb).2 (fun i hi=>by
     have hne:i≠x.id:=fun e=>by
      rcases hi with hi | hi
      ·rw [e,fndD_tail ha (Int.le_refl _)] at hi;cases hi
      ·rw [e,fndD_tail hb (by omega)] at hi;cases hi
     rw [updD_off hne]
     refine hF i ?_
     rcases hi with hi | hi
     ·left
      rw [fndD_cons,if_neg (fun e=>hne e.symm)]
      exact hi
     ·right
      rw [fndD_cons,if_neg (fun e=>hne (by omega))]
      exact hi)
    have e1:(fun i=>(fndD a i).or (updD F x.id (some y) i))=updD (fun i=>(fndD (x::a) i).or (F i)) x.id (some y):=by
     funext j
     unfold updD
     show (fndD a j).or (if j=x.id then some y else F j)=if j=x.id then some y else (fndD (x::a) j).or (F j)
     rw [fndD_cons]
     by_cases e:j=x.id
     ·rw [if_pos e,if_pos e,e,fndD_tail ha (Int.le_refl _)]
      rfl
     ·rw [if_neg e,if_neg e,if_neg (fun h=>e h.symm)]
    have e2:(fun i=>(fndD b i).or (updD F x.id (some y) i))=fun i=>(fndD (y::b) i).or (F i):=by
     funext j
     unfold updD
     rw [fndD_cons]
     by_cases e:j=x.id
     ·rw [if_pos e,if_pos (by omega),e,fndD_tail hb (by omega)]
      rfl
     ·rw [if_neg e,if_neg (fun h=>e (by omega))]
    rw [e1,e2] at h1
    rw [maL_append]
    refine ⟨_,parts_lead hid ?_,h1⟩
    show (fndD (x::a) x.id).or (F x.id)=some x
    rw [fndD_cons,if_pos rfl]
    rfl
termination_by a b=>a.length+b.length
def useE (n:Bool) (us others:List ByteArray):List MA:=(us.filter fun u=>!(fndU others u).isSome).map fun u=>.use u n
theorem fndU_mem {l:List ByteArray} {u:ByteArray}:(fndU l u).isSome=true↔u∈l:=by
 constructor
 ·intro h
  obtain ⟨x,hx⟩:=Option.isSome_iff_exists.1 h
  rw [← (fnd_key hx).1]
  exact (fnd_key hx).2
 ·intro h
  cases e:fndU l u with
  | some x=>rfl
  | none=>exact absurd rfl (fnd_none.1 e u h)
theorem fndU_not {l:List ByteArray} {u:ByteArray}:(fndU l u).isSome=false↔u∉l:=by
 rw [← fndU_mem]
 cases (fndU l u).isSome <;> simp
theorem useL_lead (n:Bool) (D:Int→Option Dx):∀ (us:List ByteArray) (f g:ByteArray→Bool),us.Nodup→(∀ u∈us,f u=!n)→(∀ v,v∈us→g v=n)→(∀ v,v∉us→g v=f v)→maL (us.map fun u=>.use u n) ⟨f,D⟩ ⟨g,D⟩
 | [],f,g,_,_,_,h=>by
  show Mod.mk _ _=Mod.mk _ _
  rw [funext fun v=>h v (by simp)]
 | u::us,f,g,hn,hf,hg1,hg2=>by
  rw [List.nodup_cons] at hn
  refine ⟨⟨updU f u n,D⟩,⟨hf u (List.mem_cons_self ..),rfl⟩,?_⟩
  refine useL_lead n D us (updU f u n) g hn.2 (fun v hv=>?_) (fun v hv=>hg1 v (List.mem_cons_of_mem _ hv)) (fun v hv=>?_)
  ·have:v≠u:=fun e=>hn.1 (e▸hv)
   unfold updU
   rw [if_neg this]
   exact hf v (List.mem_cons_of_mem _ hv)
  ·unfold updU
   by_cases e:v=u
   ·rw [if_pos e,e]
    exact hg1 u (List.mem_cons_self ..)
   ·rw [if_neg e]
    exact hg2 v (fun h=>by rcases List.mem_cons.1 h with h | h;exact e h;exact hv h)
end Go.Proofs.YtgcceepadlmelaaGreatDoor
namespace Go.Proofs.YtgcceepadlmelaaGreatDoor
open Go.RowKit
def Sl (w:World) (size:Nat) (ao:Option Addr) (n:Nat) (xs:List Value):Prop :=
 xs.length=n*size∧(n=0∨∃ b o,ao=some ⟨b,o,none⟩∧b<w.heap.size∧∀ j u,xs[j]?=some u→w.cell? ⟨b,o+j,none⟩=some u)
section
variable {w w':World} {size n:Nat} {ao:Option Addr} {xs:List Value}
theorem Sl.nil:Sl w size ao 0 []:=⟨by simp,.inl rfl⟩
theorem Sl.at_ {k:Nat} (h:Sl w size ao n xs) (hk:k<n):∃ b o,ao=some ⟨b,o,none⟩∧b<w.heap.size∧∀ j u,xs[j]?=some u→w.cell? ⟨b,o+j,none⟩=some u:=h.2.resolve_left (by omega)
theorem Sl.len (h:Sl w size ao n xs):xs.length=n*size:=h.1
theorem Sl.below (h:Sl w size ao n xs) (hb:Below w.heap.size w w'):Sl w' size ao n xs :=
 ⟨h.1,h.2.imp id fun ⟨b,o,e,hlt,hc⟩=>⟨b,o,e,Nat.lt_of_lt_of_le hlt hb.size,fun j u hu=>(hb.cell (p:=⟨b,o+j,none⟩) hlt).trans (hc j u hu)⟩⟩
theorem Sl.drew (h:Sl w size ao n xs):Sl w.drew size ao n xs:=h
theorem Sl.alloc (h:Sl w size ao n xs) (ob:Obj):Sl (w.alloc ob) size ao n xs:=h.below ((Below.refl _ _).alloc (Nat.le_refl _) _)
theorem Sl.of_own {base:Nat} {e:TypeId} {v:Value} (h:w.ownsRow base e size v n xs):∃ ao cap,v=.slice ao n cap∧n≤cap∧cap≤maxLen∧Sl w size ao n xs:=by
 have h1:=h.1
 rcases h.2 with ⟨rfl,rfl⟩ | ⟨g,cap,cur,rfl,hg,hc,hn,hm,hsz,htk⟩
 ·exact ⟨none,0,rfl,Nat.le_refl _,by simp [maxLen],h1,.inl rfl⟩
 ·exact ⟨some ⟨g,0,none⟩,cap,rfl,hn,hm,h1,.inr ⟨g,0,rfl,(h.lt g rfl).2,fun j u hu=>by
   have hj:j<xs.length:=by
    rcases Nat.lt_or_ge j xs.length with h' | h'
    ·exact h'
    ·rw [List.getElem?_eq_none h'] at hu;cases hu
   rw [Nat.zero_add]
   exact (h.cellAt j (by omega)).trans hu⟩⟩
theorem Sl.take (h:Sl w size ao n xs) {k:Nat} (hk:k≤n):Sl w size ao k (xs.take (k*size)):=by
 refine ⟨?_,?_⟩
 ·rw [List.length_take,h.1]
  have:=Nat.mul_le_mul_right size hk
  omega
 ·rcases Nat.eq_zero_or_pos k with rfl | hp
  ·exact .inl rfl
  ·obtain ⟨b,o,e,hlt,hc⟩:=h.at_ (k:=0) (by omega)
   refine .inr ⟨b,o,e,hlt,fun j u hu=>hc j u ?_⟩
   rw [List.getElem?_take] at hu
   split at hu
   ·exact hu
   ·cases hu
theorem Sl.drop (h:Sl w size ao n xs) {k c:Nat} (hk:k≤n) (hc:n≤c):Sl w size (if c=k then ao else ao.map (·.add (k*size))) (n-k) (xs.drop (k*size)):=by
 refine ⟨by rw [List.length_drop,h.1,Nat.sub_mul],?_⟩
 rcases Nat.eq_zero_or_pos (n-k) with h0 | hp
 ·exact .inl h0
 ·obtain ⟨b,o,rfl,hlt,hx⟩:=h.at_ (k:=0) (by omega)
  rw [if_neg (by omega)]
  refine .inr ⟨b,o+k*size,?_,hlt,fun j u hu=>?_⟩
  ·simp only [Option.map_some,Addr.add_lit]
  ·rw [Nat.add_assoc]
   exact hx _ u (by rw [← hu,List.getElem?_drop])
end
theorem ret_bool {a b:Bool} (h:a=b):Ending.returned (.bool a)=.returned (.bool b):=by rw [h]
theorem str_beq (a b:ByteArray):(a.toList == b.toList)=decide (a=b):=by
 rw [ByteArray.toList_eq,ByteArray.toList_eq]
 by_cases h:a=b
 ·subst h;simp
 ·rw [decide_eq_false h,beq_eq_false_iff_ne]
  intro e
  apply h
  cases a;cases b
  congr 1
  exact Array.toList_inj.1 e
theorem str_eq {a b:ByteArray} (h:a=b):(a.toList == b.toList)=true:=by rw [str_beq];simpa using h
theorem str_ne {a b:ByteArray} (h:¬ a=b):(a.toList == b.toList)=false:=by rw [str_beq];simpa using h
def svals (l:List ByteArray):List Value:=l.map Value.string
theorem svals_at {l:List ByteArray} {k:Nat} (h:k<l.length):(svals l)[k]?=some (.string l[k]):=by simp [svals,h]
theorem svals_length (l:List ByteArray):(svals l).length=l.length:=by simp [svals]
end Go.Proofs.YtgcceepadlmelaaGreatDoor
namespace Go.Proofs.YtgcceepadlmelaaGreatDoor
open Go.RowKit
def floatB (o:Oper):Bool :=
 match o.op with
 | .move _ | .pick .. | .build .. | .load .. | .binOp .. | .unOp .. | .convert .. | .makeInterface .. | .slice .. | .fieldAddr .. | .field .. | .indexAddr .. | .index .. | .extract .. | .lookup .. | .nilCheck _=>true
 | .call c=>match c.callee with
  | .builtin .len=>true
  | .builtin .cap=>true
  | _=>false
 | _=>false
theorem value_of_map {P:Program} {s:Sem Value} {w w':World} {u:Next} (h:(do let x ← s;pure (Next.value x):Sem Next).run P w=.ok u w'):∃ v,u=.value v:=by
 rw [Sem.run_bind] at h
 cases hs:s.run P w with
 | ok v w1=>rw [hs] at h;simp only [Result.andThen_ok,Sem.run_pure,Result.ok.injEq] at h;exact ⟨v,h.1.symm⟩
 | halt x w1=>rw [hs] at h;simp [Result.andThen] at h
theorem value_of_float {P:Program} {o:Oper} (hf:floatB o=true) {ρ:Operand→Value} {w w':World} {u:Next} (h:(execOp ρ o).run P w=.ok u w'):∃ v,u=.value v:=by
 unfold floatB at hf
 unfold execOp at h
 split at hf <;> rename_i ho
 all_goals first
  | (cases hf;done)
  | (rw [ho] at h;exact value_of_map h)
  | (rw [ho] at h;simp only [Sem.run_pure,Result.ok.injEq] at h;exact ⟨_,h.1.symm⟩)
  | skip
 ·rw [ho] at h
  simp only [Sem.run_bind] at h
  generalize Sem.run P (asBool _) w=r at h
  cases r with
  | ok v w1=>simp only [Result.andThen_ok,Sem.run_pure,Result.ok.injEq] at h;exact ⟨_,h.1.symm⟩
  | halt x w1=>simp [Result.andThen] at h
 ·rw [ho] at h
  simp only at h
  split at h
  all_goals first
   | (simp only [Sem.run_pure,Result.ok.injEq] at h;exact ⟨_,h.1.symm⟩)
   | (cases h;done)
   | (split at h
      all_goals first
       | (simp only [Sem.run_pure,Result.ok.injEq] at h;exact ⟨_,h.1.symm⟩)
       | (cases h;done)
       | (simp only [Sem.run_bind] at h
          generalize Sem.run _ program w=r at h
          cases r with
          | halt x w1=>simp [Result.andThen] at h
          | ok v w1 =>
           simp only [Result.andThen_ok] at h
           generalize Sem.run _ (nilAhead _ _ _ _) w1=r at h
           cases r with
           | halt x w2=>simp [Result.andThen] at h
           | ok v w2 =>
            simp only [Result.andThen_ok] at h
            split at h
            ·simp only [Sem.run_bind] at h
             generalize Sem.run _ (unsupported _) w2=r at h
             cases r with
             | ok v w3=>simp only [Result.andThen_ok,Sem.run_pure,Result.ok.injEq] at h;exact ⟨_,h.1.symm⟩
             | halt x w3=>simp [Result.andThen] at h
            ·simp only [Sem.run_pure,Result.ok.injEq] at h
             exact ⟨_,h.1.symm⟩))
 ·rw [ho] at h
  simp only at h
  split at hf
  ·rename_i hc
   simp only [resolve,hc,Sem.run_bind,Sem.run_pure,Result.andThen_ok,invoke,builtin] at h
   exact value_of_map (s:=Builtin.len_ _ _ _) (by rw [Sem.run_bind];exact h)
  ·rename_i hc
   simp only [resolve,hc,Sem.run_bind,Sem.run_pure,Result.andThen_ok,invoke,builtin] at h
   exact value_of_map (s:=Builtin.cap_ _ _ _) (by rw [Sem.run_bind];exact h)
  ·cases hf
section
variable {P:Program} {ops:Array Oper} {Q:Exit→Act→World→Prop} {md:Region.Mode} {C:World→Prop}
theorem yieldsIf_of_quiet {o:Oper} {a:Act} {K:Act→Prop} (hf:floatB o=true) (hw:Region.wanted o (yielded ops a.tmps)=true) (h:o.quiet P a C K):∃ v,YieldsIf P ops C o v a∧K (a.put o.dst v):=by
 obtain ⟨v,h1,h2⟩:=h
 refine ⟨v,.inl ⟨hw,fun w hCw=>?_⟩,h2⟩
 have h3:=h1 w hCw
 unfold Oper.quietAt at h3
 cases hr:(execOp a.eval o).run P w with
 | ok u w' =>
  obtain ⟨v',rfl⟩:=value_of_float hf hr
  rw [hr] at h3
  obtain ⟨rfl,rfl⟩:=h3
  rfl
 | halt x w'=>rw [hr] at h3;exact h3.elim
def seqRun (P:Program) (ops:Array Oper) (C:World→Prop) (Q:Exit→Act→World→Prop) (E:Act→World→Prop):List (Nat × Bool)→Act→World→Prop
 | [],a,w=>E a w
 | (i,true)::rest,a,w=>∃ o,ops[i]?=some o∧∃ v,YieldsIf P ops C o v a∧seqRun P ops C Q E rest (a.put o.dst v) w
 | (i,false)::rest,a,w=>wpOp P ops Q i (fun a' w'=>C w'∧seqRun P ops C Q E rest a' w') a w
def seqB (md:Region.Mode) (ops:Array Oper):List (Nat × Bool)→Array Bool→Option (Array Bool)
 | [],listed=>some listed
 | (i,true)::rest,listed=>if (Region.ready md ops listed).contains i && Region.free md ops listed i then seqB md ops rest (listed.setIfInBounds i true) else none
 | (i,false)::rest,listed=>if Region.ready md ops listed=[i] then seqB md ops rest (listed.setIfInBounds i true) else none
theorem wpAnyH_of_seq (hs:Region.noSelect ops=true) (hQ:∀ c d v a w,Q (.panic c) (Act.put a d v) w→Q (.panic c) a w) {fuel:Nat} {E:Act→World→Prop}:∀ (ord:List (Nat × Bool)) (listed listed':Array Bool) (a:Act) (w:World),C w →
  seqB md ops ord listed=some listed'→(∀ a w,C w→E a w→wpAnyH P md ops Q C fuel listed' a w)→seqRun P ops C Q E ord a w→wpAnyH P md ops Q C (ord.length+fuel) listed a w
 | [],listed,listed',a,w,hC,hB,hE,h=>by
  cases hB
  rw [List.length_nil,Nat.zero_add]
  exact hE a w hC h
 | (i,true)::rest,listed,listed',a,w,hC,hB,hE,h=>by
  simp only [seqB] at hB
  split at hB
  ·rename_i hc
   rw [Bool.and_eq_true] at hc
   obtain ⟨o,ho,v,hy,hr⟩:=h
   rw [show ((i,true)::rest).length+fuel=rest.length+fuel+1 by simp only [List.length_cons];omega]
   exact wpAnyH_take ho hs hc.2 hc.1 (fun c a w hq=>hQ c _ _ a w hq) hy hC (wpAnyH_of_seq hs hQ rest _ listed' _ w hC hB hE hr)
  ·cases hB
 | (i,false)::rest,listed,listed',a,w,hC,hB,hE,h=>by
  simp only [seqB] at hB
  split at hB
  ·rename_i hc
   rw [show ((i,false)::rest).length+fuel=rest.length+fuel+1 by simp only [List.length_cons];omega]
   refine wpAnyH_all hc (by simp) (fun j hj=>?_)
   obtain rfl:j=i:=by simpa using hj
   exact wpOp_mono (fun a' w' hh=>⟨hh.1,wpAnyH_of_seq hs hQ rest _ listed' a' w' hh.1 hB hE hh.2⟩) h
  ·cases hB
theorem wp_region_seq {id:Nat} {a:Act} {w:World} {l:List Oper} (C:World→Prop) (ord:List (Nat × Bool)) (hm:P.follows .mixedOrders=true)
  (hB:(Region.noSelect l.toArray && decide (ord.length=l.length) && (match seqB .any l.toArray ord (Array.replicate l.length false) with | some listed=>(Region.ready .any l.toArray listed).isEmpty | none=>false))=true)
  (hQ:∀ c d v a w,Q (.panic c) (Act.put a d v) w→Q (.panic c) a w) (hC:C w.drew)
  (h:seqRun P l.toArray C Q (fun a w=>Q .normal a w) ord a w.drew):(Code.region id l.toArray true).wp P Q a w:=by
 simp only [Bool.and_eq_true,decide_eq_true_eq] at hB
 obtain ⟨⟨hs,hl⟩,hB⟩:=hB
 split at hB
 ·rename_i listed hsq
  refine wp_region_held (S:=C) hm ?_
  have:=wpAnyH_of_seq (md:=.any) (P:=P) (fuel:=0) hs hQ ord _ listed a w.drew hC hsq (fun a w _ hq=>⟨by simpa using hB,hq⟩) h
  rw [hl] at this
  simpa using this
 ·cases hB
theorem seq_nil {E:Act→World→Prop} {a:Act} {w:World} (h:E a w):seqRun P ops C Q E [] a w:=h
theorem seq_float {i:Nat} {o:Oper} {l:List Oper} {rest:List (Nat × Bool)} {E:Act→World→Prop} {a:Act} {w:World} (hi:l[i]?=some o) (hf:floatB o=true) (hw:Region.wanted o (yielded l.toArray a.tmps)=true)
  (h:∀ K:Act→Prop,(∀ a,seqRun P l.toArray C Q E rest a w→K a)→o.quiet P a C K):seqRun P l.toArray C Q E ((i,true)::rest) a w:=by
 obtain ⟨v,hy,hk⟩:=yieldsIf_of_quiet hf hw (h _ (fun _ h=>h))
 exact ⟨o,by simpa using hi,v,hy,hk⟩
theorem seq_skip {i:Nat} {o:Oper} {l:List Oper} {rest:List (Nat × Bool)} {E:Act→World→Prop} {a:Act} {w:World} (hi:l[i]?=some o) (hw:Region.wanted o (yielded l.toArray a.tmps)=false)
  (h:seqRun P l.toArray C Q E rest (a.put o.dst undef) w):seqRun P l.toArray C Q E ((i,true)::rest) a w :=
 ⟨o,by simpa using hi,undef,.inr ⟨hw,rfl⟩,h⟩
theorem seq_chain {i:Nat} {o:Oper} {l:List Oper} {rest:List (Nat × Bool)} {E:Act→World→Prop} {a:Act} {w:World} (hi:l[i]?=some o)
  (h:∀ K:Act→World→Prop,Hid (∀ a w,C w→seqRun P l.toArray C Q E rest a w→K a w)→wpList P l.toArray (Exit.then K Q) [o] a w):seqRun P l.toArray C Q E ((i,false)::rest) a w:=by
 have h1:=h (fun a' w'=>C w'∧seqRun P l.toArray C Q E rest a' w') (fun _ _ hC hs=>⟨hC,hs⟩)
 have hi':l.toArray[i]?=some o:=by simpa using hi
 unfold seqRun wpOp
 simp only [hi']
 unfold wpList at h1
 split
 ·rename_i hw
  rw [if_pos hw] at h1
  refine h1.imp ?_ (fun ⟨h2,b,v,h3⟩=>⟨h2,b,v,h3⟩)
  intro h2
  unfold Oper.wp at *
  generalize (execOp a.eval o).run P w=r at *
  cases r with
  | ok n w' =>
   cases n <;> simp only [Oper.upon] at h2 ⊢ <;>
    first
     | exact h2
     | exact Calls.mono h2 (fun e w'' he=>by cases e <;> exact he)
     | exact Rows.mono h2 (fun _ _ he=>he)
  | halt x w'=>cases x <;> simp only [Oper.upon] at h2 ⊢ <;> exact h2
 ·rename_i hw
  rw [if_neg hw] at h1
  exact h1
end
theorem bc {B:Nat} {W w1:World} (hb:Below B W w1) {b:Nat} (h:b<B) (o:Nat):w1.cell? ⟨b,o,none⟩=W.cell? ⟨b,o,none⟩:=hb.cell (p:=⟨b,o,none⟩) h
theorem ba (w:World) (o:Obj):Below w.heap.size w (w.alloc o):=(Below.refl _ _).alloc (Nat.le_refl _) o
def Since (B:Nat) (W:World):Type:={ w':World // Below B W w' }
instance {B:Nat} {W:World}:Nonempty (Since B W):=⟨⟨W,Below.refl _ _⟩⟩
def Since.world {B:Nat} {W:World} (x:Since B W):World:=x.1
@[simp,go_sem] theorem Since.cell {B:Nat} {W:World} (x:Since B W) (b o:Nat) (h:b<B):x.world.cell? ⟨b,o,none⟩=W.cell? ⟨b,o,none⟩:=x.2.cell (p:=⟨b,o,none⟩) h
@[simp,go_sem] theorem Since.frozen {B:Nat} {W:World} (x:Since B W) (b o:Nat) (h:b<B):x.world.frozen? ⟨b,o,none⟩=W.frozen? ⟨b,o,none⟩:=x.2.frozen (p:=⟨b,o,none⟩) h
theorem since {B:Nat} {W w':World} (h:Below B W w'):∃ x:Since B W,w'=x.world:=⟨⟨w',h⟩,rfl⟩
def KeptX (B X:Nat) (W w':World):Prop:=∀ k,k<B→k≠X→w'.heap[k]?=W.heap[k]?
theorem KeptX.refl (B X:Nat) (W:World):KeptX B X W W:=fun _ _ _=>rfl
theorem KeptX.drew {B X:Nat} {W w':World} (h:KeptX B X W w'):KeptX B X W w'.drew:=h
theorem KeptX.below {B X:Nat} {W w1 w2:World} (h:KeptX B X W w1) (hb:Below B w1 w2):KeptX B X W w2:=fun k hk hx=>(hb.block k hk).trans (h k hk hx)
theorem KeptX.alloc {B X:Nat} {W w':World} (h:KeptX B X W w') (hB:B≤w'.heap.size) (o:Obj):KeptX B X W (w'.alloc o):=h.below ((Below.refl _ _).alloc hB o)
theorem KeptX.setCell {B X:Nat} {W w':World} (h:KeptX B X W w') {p:Addr} (hp:p.block=X∨B≤p.block) (u:Value):KeptX B X W (w'.setCell p u):=fun k hk hx =>
 (Below.heap_setCell _ _ _ _ (by omega)).trans (h k hk hx)
def SinceX (B X:Nat) (W:World):Type:={ w':World // KeptX B X W w' }
instance {B X:Nat} {W:World}:Nonempty (SinceX B X W):=⟨⟨W,KeptX.refl _ _ _⟩⟩
def SinceX.world {B X:Nat} {W:World} (x:SinceX B X W):World:=x.1
theorem SinceX.cell {B X:Nat} {W:World} (b o:Nat) (h:b<B) (hx:b≠X) {v:Option Value} (hv:W.cell? ⟨b,o,none⟩=v):∀ x:SinceX B X W,x.world.cell? ⟨b,o,none⟩=v:=fun x=>by
 rw [← hv]
 exact World.cell?_of_block (w:=W) (a:=⟨b,o,none⟩) (x.2 b h hx)
theorem sincex {B X:Nat} {W w':World} (h:KeptX B X W w'):∃ x:SinceX B X W,w'=x.world:=⟨⟨w',h⟩,rfl⟩
section
variable {P:Program} {C:World→Prop} {Q:Exit→Act→World→Prop}
theorem q1 {α:Type} {l:List α} {i:Nat} {a:α}:l.toArray.setIfInBounds i a=(l.set i a).toArray:=List.setIfInBounds_toArray ..
theorem q2 {α:Type} {x:α} {l:List α} {i:Nat} {a:α}:(x::l).set (i+1) a=x::l.set i a:=List.set_cons_succ ..
theorem q3 {α:Type} {x:α} {l:List α} {a:α}:(x::l).set 0 a=a::l:=List.set_cons_zero ..
theorem qk {i:Nat} {o:Oper} {l:List Oper} {rest:List (Nat × Bool)} {E:Act→World→Prop} {a:Act} {w:World} (h:seqRun P l.toArray C Q E rest (a.put o.dst undef) w) (hi:l[i]?=some o:=by rfl) (hw:Region.wanted o (yielded l.toArray a.tmps)=false:=by rfl):seqRun P l.toArray C Q E ((i,true)::rest) a w:=seq_skip hi hw h
theorem qf {i:Nat} {o:Oper} {l:List Oper} {rest:List (Nat × Bool)} {E:Act→World→Prop} {a:Act} {w:World} (h:∀ K:Act→Prop,(∀ a,seqRun P l.toArray C Q E rest a w→K a)→o.quiet P a C K) (hi:l[i]?=some o:=by rfl) (hf:floatB o=true:=by rfl) (hw:Region.wanted o (yielded l.toArray a.tmps)=true:=by rfl):seqRun P l.toArray C Q E ((i,true)::rest) a w:=seq_float hi hf hw h
theorem qc {i:Nat} {o:Oper} {l:List Oper} {rest:List (Nat × Bool)} {E:Act→World→Prop} {a:Act} {w:World} (h:∀ K:Act→World→Prop,Hid (∀ a w,C w→seqRun P l.toArray C Q E rest a w→K a w)→wpList P l.toArray (Exit.then K Q) [o] a w) (hi:l[i]?=some o:=by rfl):seqRun P l.toArray C Q E ((i,false)::rest) a w:=seq_chain hi h
theorem qs {id:Nat} {a:Act} {w:World} {l:List Oper} (C:World→Prop) (ord:List (Nat × Bool)) (hC:C w.drew) (h:seqRun P l.toArray C Q (fun a w=>Q .normal a w) ord a w.drew) (hm:P.follows .mixedOrders=true:=by kernel_rfl)
  (hB:(Region.noSelect l.toArray && decide (ord.length=l.length) && (match seqB .any l.toArray ord (Array.replicate l.length false) with | some listed=>(Region.ready .any l.toArray listed).isEmpty | none=>false))=true:=by kernel_rfl)
  (hQ:∀ c d v a w,Q (.panic c) (Act.put a d v) w→Q (.panic c) a w:=by intro c d v a w h;first | (cases d <;> exact h) | cases h.1):(Code.region id l.toArray true).wp P Q a w:=wp_region_seq C ord hm hB hQ hC h
theorem qd {id:Nat} {a:Act} {w:World} {l:List Oper} (C:World→Prop) (ord:List (Nat × Bool)) (h:seqRun P l.toArray C Q (fun a w=>Q .normal a w) ord a w.drew) (hC:C w.drew:=by first | exact since (Below.refl _ _).drew | exact since (Below.refl _ _).drew.drew | exact since (Below.refl _ _).drew.drew.drew) (hm:P.follows .mixedOrders=true:=by kernel_rfl)
  (hB:(Region.noSelect l.toArray && decide (ord.length=l.length) && (match seqB .any l.toArray ord (Array.replicate l.length false) with | some listed=>(Region.ready .any l.toArray listed).isEmpty | none=>false))=true:=by kernel_rfl)
  (hQ:∀ c d v a w,Q (.panic c) (Act.put a d v) w→Q (.panic c) a w:=by intro c d v a w h;first | (cases d <;> exact h) | cases h.1):(Code.region id l.toArray true).wp P Q a w:=wp_region_seq C ord hm hB hQ hC h
end
end Go.Proofs.YtgcceepadlmelaaGreatDoor
namespace Go.Proofs.YtgcceepadlmelaaGreatDoor
open Go.RowKit
def KeptY (B X:Nat) (W w':World):Prop:=∀ k,k<B→k≠X→k≠X+1→w'.heap[k]?=W.heap[k]?
theorem KeptY.refl (B X:Nat) (W:World):KeptY B X W W:=fun _ _ _ _=>rfl
theorem KeptY.drew {B X:Nat} {W w':World} (h:KeptY B X W w'):KeptY B X W w'.drew:=h
theorem KeptY.below {B X:Nat} {W w1 w2:World} (h:KeptY B X W w1) (hb:Below B w1 w2):KeptY B X W w2:=fun k hk hx hy=>(hb.block k hk).trans (h k hk hx hy)
theorem KeptY.setCell {B X:Nat} {W w':World} (h:KeptY B X W w') {p:Addr} (hp:p.block=X∨p.block=X+1) (u:Value):KeptY B X W (w'.setCell p u):=fun k hk hx hy =>
 (Below.heap_setCell _ _ _ _ (by omega)).trans (h k hk hx hy)
def SinceY (B X:Nat) (W:World):Type:={ w':World // KeptY B X W w' }
instance {B X:Nat} {W:World}:Nonempty (SinceY B X W):=⟨⟨W,KeptY.refl _ _ _⟩⟩
def SinceY.world {B X:Nat} {W:World} (x:SinceY B X W):World:=x.1
theorem SinceY.cell {B X:Nat} {W:World} {b o:Nat} (h:b<B) (hx:b≠X) (hy:b≠X+1) {v:Option Value} (hv:W.cell? ⟨b,o,none⟩=v):∀ x:SinceY B X W,x.world.cell? ⟨b,o,none⟩=v:=fun x=>by
 rw [← hv]
 exact World.cell?_of_block (w:=W) (a:=⟨b,o,none⟩) (x.2 b h hx hy)
theorem row_cell {w:World} {k:Nat} {cs:Array Value} {ty:TypeId} (h:w.heap[k]?=some (.cells cs ty (0,0))) (j:Nat):w.cell? ⟨k,j,none⟩=cs[j]?:=cell_of_row _ _ _ cs ty (0,0) h
theorem row_fz {w:World} {k:Nat} {cs:Array Value} {ty:TypeId} (h:w.heap[k]?=some (.cells cs ty (0,0))) (j:Nat):w.frozen? ⟨k,j,none⟩=false:=by simp [World.frozen?,h]
theorem row_set {w:World} {k:Nat} {cs:Array Value} {ty:TypeId} (h:w.heap[k]?=some (.cells cs ty (0,0))) (j:Nat) (v:Value):(w.setCell ⟨k,j,none⟩ v).heap[k]?=some (.cells (cs.setIfInBounds j v) ty (0,0)):=heap_setCell_same w k j cs ty v h
theorem row_other {w:World} {k b j:Nat} {v:Value} {x:Option Obj} (h:w.heap[k]?=x) (hk:k≠b):(w.setCell ⟨b,j,none⟩ v).heap[k]?=x:=(Below.heap_setCell _ _ _ _ hk).trans h
theorem row_lt {w:World} {k:Nat} {x:Obj} (h:w.heap[k]?=some x):k<w.heap.size:=(Array.getElem?_eq_some_iff.1 h).1
end Go.Proofs.YtgcceepadlmelaaGreatDoor
namespace Go.Proofs.YtgcceepadlmelaaGreatDoor
open Go.RowKit
def layAt:Array Value→Nat→List Value→Array Value
 | d,_,[]=>d
 | d,k,x::r=>layAt (d.setIfInBounds k x) (k+1) r
theorem layAt_size:∀ (xs:List Value) (d:Array Value) (k:Nat),(layAt d k xs).size=d.size
 | [],_,_=>rfl
 | x::r,d,k=>by rw [layAt,layAt_size r];simp
theorem layAt_get?:∀ (xs:List Value) (d:Array Value) (k j:Nat),k+xs.length≤d.size→(layAt d k xs)[j]?=if k≤j∧j<k+xs.length then xs[j-k]? else d[j]?
 | [],d,k,j,_=>by rw [layAt,if_neg (by simp only [List.length_nil];omega)]
 | x::r,d,k,j,h=>by
  have hl:k+(r.length+1)≤d.size:=by simpa using h
  rw [layAt,layAt_get? r _ (k+1) j (by simp;omega)]
  simp only [List.length_cons]
  by_cases h1:j=k
  ·subst h1
   rw [if_neg (by omega),if_pos (by omega),Nat.sub_self,Array.getElem?_setIfInBounds]
   simp
   omega
  ·by_cases h2:k+1≤j∧j<k+1+r.length
   ·rw [if_pos h2,if_pos (by omega),show j-k=(j-(k+1))+1 by omega,List.getElem?_cons_succ]
   ·rw [if_neg h2,if_neg (by omega),Array.getElem?_setIfInBounds,if_neg (by omega)]
theorem row_setCells {g:Nat} {ty:TypeId}:∀ (vs:List Value) (o:Nat) (w:World) (cur:Array Value),w.heap[g]?=some (.cells cur ty (0,0))→(w.setCells g o vs).heap[g]?=some (.cells (layAt cur o vs) ty (0,0))
 | [],_,_,_,h=>h
 | v::r,o,w,cur,h=>by rw [World.setCells,layAt];exact row_setCells r (o+1) _ _ (row_set h o v)
theorem below_cells {B b:Nat} {a:World} (hb:B≤b):∀ (vs:List Value) (o:Nat) (w:World),Below B a w→Below B a (w.setCells b o vs)
 | [],_,_,h=>h
 | v::r,o,_,h=>below_cells hb r (o+1) _ (h.setCell (p:=⟨b,o,none⟩) hb v)
theorem layAt_take {cur:Array Value} {vs:List Value} {o:Nat} (h:o+vs.length≤cur.size):(layAt cur o vs).toList.take o=cur.toList.take o:=by
 apply List.ext_getElem?
 intro t
 rw [List.getElem?_take,List.getElem?_take]
 by_cases ht:t<o
 ·rw [if_pos ht,if_pos ht]
  have:=layAt_get? vs cur o t h
  rw [if_neg (by omega)] at this
  simpa using this
 ·rw [if_neg ht,if_neg ht]
theorem layAt_more {cur:Array Value} {vs:List Value} {o:Nat} (h:o+vs.length≤cur.size):(layAt cur o vs).toList.take (o+vs.length)=cur.toList.take o++vs:=by
 apply List.ext_getElem?
 intro t
 rw [List.getElem?_take]
 have hl:(cur.toList.take o).length=o:=by simp;omega
 by_cases ht:t<o+vs.length
 ·rw [if_pos ht]
  have:=layAt_get? vs cur o t h
  rw [Array.getElem?_toList,this]
  by_cases h2:t<o
  ·rw [if_neg (by omega),List.getElem?_append_left (by omega),List.getElem?_take,if_pos h2]
   simp
  ·rw [if_pos (by omega),List.getElem?_append_right (by omega),hl]
 ·rw [if_neg ht,List.getElem?_eq_none]
  rw [List.length_append,hl]
  omega
section
variable {α:Type} {sz:Nat} {enc:α→List Value}
theorem flat_length (he:∀ x,(enc x).length=sz) (l:List α):(l.flatMap enc).length=l.length*sz:=by
 induction l with
 | nil=>simp
 | cons a l ih=>simp [he,ih,Nat.add_mul];omega
theorem flat_take (he:∀ x,(enc x).length=sz):∀ (l:List α) (k:Nat),(l.flatMap enc).take (k*sz)=(l.take k).flatMap enc
 | [],k=>by simp
 | a::l,0=>by simp
 | a::l,k+1=>by
  rw [List.flatMap_cons,List.take_succ_cons,List.flatMap_cons,Nat.add_mul,Nat.one_mul,Nat.add_comm (k*sz),← flat_take he l k,← he a,List.take_append,List.take_of_length_le (by omega)]
  simp
theorem flat_at (he:∀ x,(enc x).length=sz) {l:List α} {k:Nat} (hk:k<l.length) {t:Nat} (ht:t<sz):(l.flatMap enc)[k*sz+t]?=(enc l[k])[t]?:=by
 induction l generalizing k with
 | nil=>simp at hk
 | cons a l ih =>
  cases k with
  | zero=>simp [List.getElem?_append_left (show t<(enc a).length by rw [he];exact ht)]
  | succ k =>
   rw [List.flatMap_cons,Nat.add_mul,Nat.one_mul,List.getElem?_append_right (by rw [he];omega),he,show k*sz+sz+t-sz=k*sz+t by omega]
   simpa using ih (k:=k) (by simpa using hk)
structure DelInv (enc:α→List Value) (sz:Nat) (l:List α) (p:α→Bool) (i j:Nat) (cur:Array Value):Prop where
 room:l.length*sz≤cur.size
 len:((l.take j).filter fun x=>!p x).length=i
 lt:i<j
 low:cur.toList.take (i*sz)=((l.take j).filter fun x=>!p x).flatMap enc
 high:∀ t,j*sz≤t→t<l.length*sz→cur[t]?=(l.flatMap enc)[t]?
theorem DelInv.start (he:∀ x,(enc x).length=sz) {l:List α} {p:α→Bool} {k:Nat} {cur:Array Value} (hk:k<l.length) (hn:(l.take k).any p=false) (hp:p l[k]=true) (hr:l.length*sz≤cur.size) (hc:cur.toList.take (l.length*sz)=l.flatMap enc):DelInv enc sz l p k (k+1) cur:=by
 have hf:(l.take (k+1)).filter (fun x=>!p x)=l.take k:=by
  rw [List.take_succ_eq_append_getElem hk,List.filter_append,List.filter_eq_self.2 (fun y hy=>by have:=List.any_eq_false.1 hn y hy;simpa using this)]
  simp [hp]
 refine ⟨hr,?_,Nat.lt_succ_self _,?_,?_⟩
 ·rw [hf,List.length_take];omega
 ·rw [hf,← flat_take he,← hc,List.take_take,Nat.min_eq_left (Nat.mul_le_mul_right _ (by omega))]
 ·intro t _ ht
  rw [← hc,List.getElem?_take,if_pos ht]
  simp
theorem DelInv.skip {l:List α} {p:α→Bool} {i j:Nat} {cur:Array Value} (h:DelInv enc sz l p i j cur) (hj:j<l.length) (hp:p l[j]=true):DelInv enc sz l p i (j+1) cur:=by
 have hf:(l.take (j+1)).filter (fun x=>!p x)=(l.take j).filter (fun x=>!p x):=by
  rw [List.take_succ_eq_append_getElem hj,List.filter_append]
  simp [hp]
 refine ⟨h.room,by rw [hf];exact h.len,by have:=h.lt;omega,by rw [hf];exact h.low,fun t h1 h2=>h.high t ?_ h2⟩
 rw [Nat.add_mul] at h1
 omega
theorem DelInv.fits {l:List α} {p:α→Bool} {i j:Nat} {cur:Array Value} (h:DelInv enc sz l p i j cur) (hj:j<l.length):i*sz+sz≤j*sz∧j*sz+sz≤l.length*sz:=by
 have a:=Nat.mul_le_mul_right sz (show i+1≤j from h.lt)
 have b:=Nat.mul_le_mul_right sz (show j+1≤l.length from hj)
 rw [Nat.add_mul,Nat.one_mul] at a b
 exact ⟨a,b⟩
theorem DelInv.keep (he:∀ x,(enc x).length=sz) {l:List α} {p:α→Bool} {i j:Nat} {cur:Array Value} (h:DelInv enc sz l p i j cur) (hj:j<l.length) (hp:p l[j]=false):DelInv enc sz l p (i+1) (j+1) (layAt cur (i*sz) (enc l[j])):=by
 have hf:(l.take (j+1)).filter (fun x=>!p x)=(l.take j).filter (fun x=>!p x)++[l[j]]:=by
  rw [List.take_succ_eq_append_getElem hj,List.filter_append]
  simp [hp]
 obtain ⟨a,b⟩:=h.fits hj
 have hr:=h.room
 have hl:i*sz+(enc l[j]).length≤cur.size:=by rw [he];omega
 refine ⟨by rw [layAt_size];exact hr,by rw [hf,List.length_append,h.len];rfl,by have:=h.lt;omega,?_,?_⟩
 ·rw [hf,List.flatMap_append,Nat.add_mul,Nat.one_mul,← h.low]
  have:=layAt_more (vs:=enc l[j]) hl
  rw [he] at this
  rw [this]
  simp
 ·intro t h1 h2
  rw [Nat.add_mul,Nat.one_mul] at h1
  rw [layAt_get? _ _ _ _ hl,if_neg (by rw [he];omega)]
  exact h.high t (by omega) h2
theorem DelInv.cells (he:∀ x,(enc x).length=sz) {l:List α} {p:α→Bool} {i j:Nat} {cur:Array Value} (h:DelInv enc sz l p i j cur) (hj:j<l.length) {t:Nat} (ht:t<sz):cur[j*sz+t]?=(enc l[j])[t]?:=by
 obtain ⟨a,b⟩:=h.fits hj
 rw [h.high _ (by omega) (by omega),flat_at he hj ht]
theorem DelInv.done {l:List α} {p:α→Bool} {i:Nat} {cur:Array Value} (h:DelInv enc sz l p i l.length cur) (vs:List Value) (hv:i*sz+vs.length≤cur.size):(l.filter fun x=>!p x).length=i∧(layAt cur (i*sz) vs).toList.take (i*sz)=(l.filter fun x=>!p x).flatMap enc:=by
 have e:l.take l.length=l:=List.take_of_length_le (Nat.le_refl _)
 have h1:=h.len
 have h2:=h.low
 rw [e] at h1 h2
 exact ⟨h1,by rw [layAt_take hv];exact h2⟩
end
theorem zeroCells_all {zs:Array Value} {n:Nat} {q:Value→Prop} (hz:∀ (k:Nat) (h:k<zs.size),q zs[k]):∀ v∈(Builtin.zeroCells zs n).toList,q v:=by
 intro v hv
 simp only [Builtin.zeroCells,Array.toList_map,List.mem_map,Array.mem_toList_iff,Array.mem_range] at hv
 obtain ⟨k,hk,rfl⟩:=hv
 have hp:0<zs.size:=by
  rcases Nat.eq_zero_or_pos zs.size with h0 | h0
  ·rw [h0,Nat.mul_zero] at hk;omega
  ·exact h0
 have hm:=Nat.mod_lt k hp
 rw [getElem!_pos zs (k % zs.size) hm]
 exact hz _ hm
theorem zeroCells_length (zs:Array Value) (n:Nat):(Builtin.zeroCells zs n).toList.length=n*zs.size:=by simp [Builtin.zeroCells]
theorem run_clear_cells {P:Program} (w:World) (t e ty:TypeId) (z:Value) (ht:P.underlying t=some (.slice e)) (hv:∀ w,(zeroValue e).run P w=.ok z w) (h1:∀ (k:Nat) (h:k<z.cells.size),(z.cells[k]).oneCell'=true) (b o n c:Nat) (hn:0<n)
  (hc:∀ j,j<n*z.cells.size→(w.cell? ⟨b,o+j,none⟩).isSome=true) (hf:∀ j,j<n*z.cells.size→w.frozen? ⟨b,o+j,none⟩=false) :
  (Builtin.clear_ #[t] ty #[.slice (some ⟨b,o,none⟩) n c]).run P w=.ok (.tuple #[]) (w.setCells b o (Builtin.zeroCells z.cells n).toList):=by
 have hl:=zeroCells_length z.cells n
 have hst:=run_storeCells_cells (P:=P) b o (Builtin.zeroCells z.cells n).toList 0 w (by rw [hl];simpa using hc) (by rw [hl];simpa using hf) (zeroCells_all h1)
 simp only [Nat.add_zero] at hst
 obtain ⟨m,rfl⟩:∃ m,n=m+1:=⟨n-1,by omega⟩
 simp [Builtin.clear_,run_underlying ht,hv,hst]
end Go.Proofs.YtgcceepadlmelaaGreatDoor
