import Derived.Test.YtgcceepadlmelaaGreatDoorQAB
namespace Go.Proofs.YtgcceepadlmelaaGreatDoor
def pairsM:List Mx→List Mx→List (ByteArray × Option Mx × Option Mx)
 | [],[]=>[]
 | x::a,[]=>(x.label,some x,none)::pairsM a []
 | [],y::b=>(y.label,none,some y)::pairsM [] b
 | x::a,y::b=>if ltL x.label y.label=true then (x.label,some x,none)::pairsM a (y::b) else if ltL y.label x.label=true then (y.label,none,some y)::pairsM (x::a) b else (x.label,some x,some y)::pairsM a b
termination_by a b=>a.length+b.length
theorem fndM_cons (x:Mx) (l:List Mx) (y:ByteArray):fndM (x::l) y=if x.label=y then some x else fndM l y:=fnd_cons
theorem fndM_less {x:ByteArray} {l:List Mx} (h:∀ m∈l,ltL x m.label=true):fndM l x=none:=by
 rw [show fndM l x=fnd Mx.label l x from rfl,fnd_none]
 intro y hy e
 have:=h y hy
 rw [e,ltL_k.irr] at this
 cases this
structure PairOk (a b:List Mx) (P:List (ByteArray × Option Mx × Option Mx)):Prop where
 asc:P.Pairwise fun p q=>ltL p.1 q.1=true
 at_:∀ p∈P,p.2.1=fndM a p.1∧p.2.2=fndM b p.1∧((fndM a p.1).isSome=true∨(fndM b p.1).isSome=true)
 all:∀ y,(fndM a y).isSome=true∨(fndM b y).isSome=true→y∈P.map (·.1)
theorem pairs_ok:∀ a b:List Mx,AscM a→AscM b→PairOk a b (pairsM a b)
 | [],[],_,_=>by
  rw [pairsM]
  exact ⟨List.Pairwise.nil,(fun p h=>by cases h),(fun y h=>by rcases h with h | h <;> cases h)⟩
 | x::a,[],ha,hb=>by
  rw [pairsM]
  have ih:=pairs_ok a [] (List.pairwise_cons.1 ha).2 hb
  have hx:=(List.pairwise_cons.1 ha).1
  have hlt:∀ p∈pairsM a [],ltL x.label p.1=true:=fun p hp=>by
   obtain ⟨_,_,h⟩:=ih.at_ p hp
   rcases h with h | h
   ·obtain ⟨m,hm⟩:=Option.isSome_iff_exists.1 h
    rw [← (fnd_key hm).1]
    exact hx m (fnd_key hm).2
   ·cases h
  refine ⟨List.pairwise_cons.2 ⟨hlt,ih.asc⟩,fun p hp=>?_,fun y hy=>?_⟩
  ·rcases List.mem_cons.1 hp with rfl | hp
   ·refine ⟨by rw [fndM_cons,if_pos rfl],rfl,.inl ?_⟩
    rw [fndM_cons,if_pos rfl]
    rfl
   ·have hne:¬ x.label=p.1:=fun e=>by have:=hlt p hp;rw [e,ltL_k.irr] at this;cases this
    rw [fndM_cons,if_neg hne]
    exact ih.at_ p hp
  ·rw [fndM_cons] at hy
   by_cases e:x.label=y
   ·rw [← e];exact List.mem_cons_self ..
   ·rw [if_neg e] at hy
    exact List.mem_cons_of_mem _ (ih.all y hy)
 | [],y::b,ha,hb=>by
  rw [pairsM]
  have ih:=pairs_ok [] b ha (List.pairwise_cons.1 hb).2
  have hx:=(List.pairwise_cons.1 hb).1
  have hlt:∀ p∈pairsM [] b,ltL y.label p.1=true:=fun p hp=>by
   obtain ⟨_,_,h⟩:=ih.at_ p hp
   rcases h with h | h
   ·cases h
   ·obtain ⟨m,hm⟩:=Option.isSome_iff_exists.1 h
    rw [← (fnd_key hm).1]
    exact hx m (fnd_key hm).2
  refine ⟨List.pairwise_cons.2 ⟨hlt,ih.asc⟩,fun p hp=>?_,fun z hz=>?_⟩
  ·rcases List.mem_cons.1 hp with rfl | hp
   ·refine ⟨rfl,by rw [fndM_cons,if_pos rfl],.inr ?_⟩
    rw [fndM_cons,if_pos rfl]
    rfl
   ·have hne:¬ y.label=p.1:=fun e=>by have:=hlt p hp;rw [e,ltL_k.irr] at this;cases this
    rw [fndM_cons,if_neg hne]
    exact ih.at_ p hp
  ·rw [fndM_cons] at hz
   by_cases e:y.label=z
   ·rw [← e];exact List.mem_cons_self ..
   ·rw [if_neg e] at hz
    exact List.mem_cons_of_mem _ (ih.all z hz)
 | x::a,y::b,ha,hb=>by
  rw [pairsM]
  have hxa:=(List.pairwise_cons.1 ha).1
  have hyb:=(List.pairwise_cons.1 hb).1
  split
  ·rename_i hxy
   have hx:∀ m∈y::b,ltL x.label m.label=true:=fun m hm=>by
    rcases List.mem_cons.1 hm with rfl | hm
    ·exact hxy
    ·exact ltL_k.tr hxy (hyb m hm)
   have ih:=pairs_ok a (y::b) (List.pairwise_cons.1 ha).2 hb
   have hlt:∀ p∈pairsM a (y::b),ltL x.label p.1=true:=fun p hp=>by
    obtain ⟨_,_,h⟩:=ih.at_ p hp
    rcases h with h | h
    ·obtain ⟨m,hm⟩:=Option.isSome_iff_exists.1 h
     rw [← (fnd_key hm).1]
     exact hxa m (fnd_key hm).2
    ·obtain ⟨m,hm⟩:=Option.isSome_iff_exists.1 h
     rw [← (fnd_key hm).1]
     exact hx m (fnd_key hm).2
   refine ⟨List.pairwise_cons.2 ⟨hlt,ih.asc⟩,fun p hp=>?_,fun z hz=>?_⟩
   ·rcases List.mem_cons.1 hp with rfl | hp
    ·refine ⟨by rw [fndM_cons,if_pos rfl],(fndM_less hx).symm,.inl ?_⟩
     rw [fndM_cons,if_pos rfl]
     rfl
    ·have hne:¬ x.label=p.1:=fun e=>by have:=hlt p hp;rw [e,ltL_k.irr] at this;cases this
     rw [fndM_cons x,if_neg hne]
     exact ih.at_ p hp
   ·rw [fndM_cons x] at hz
    by_cases e:x.label=z
    ·rw [← e];exact List.mem_cons_self ..
    ·rw [if_neg e] at hz
     exact List.mem_cons_of_mem _ (ih.all z hz)
  ·rename_i hn1
   split
   ·rename_i hyx
    have hy:∀ m∈x::a,ltL y.label m.label=true:=fun m hm=>by
     rcases List.mem_cons.1 hm with rfl | hm
     ·exact hyx
     ·exact ltL_k.tr hyx (hxa m hm)
    have ih:=pairs_ok (x::a) b ha (List.pairwise_cons.1 hb).2
    have hlt:∀ p∈pairsM (x::a) b,ltL y.label p.1=true:=fun p hp=>by
     obtain ⟨_,_,h⟩:=ih.at_ p hp
     rcases h with h | h
     ·obtain ⟨m,hm⟩:=Option.isSome_iff_exists.1 h
      rw [← (fnd_key hm).1]
      exact hy m (fnd_key hm).2
     ·obtain ⟨m,hm⟩:=Option.isSome_iff_exists.1 h
      rw [← (fnd_key hm).1]
      exact hyb m (fnd_key hm).2
    refine ⟨List.pairwise_cons.2 ⟨hlt,ih.asc⟩,fun p hp=>?_,fun z hz=>?_⟩
    ·rcases List.mem_cons.1 hp with rfl | hp
     ·refine ⟨(fndM_less hy).symm,by rw [fndM_cons y,if_pos rfl],.inr ?_⟩
      rw [fndM_cons y,if_pos rfl]
      rfl
     ·have hne:¬ y.label=p.1:=fun e=>by have:=hlt p hp;rw [e,ltL_k.irr] at this;cases this
      rw [fndM_cons y,if_neg hne]
      exact ih.at_ p hp
    ·rw [fndM_cons y] at hz
     by_cases e:y.label=z
     ·rw [← e];exact List.mem_cons_self ..
     ·rw [if_neg e] at hz
      exact List.mem_cons_of_mem _ (ih.all z hz)
   ·rename_i hn2
    have hid:x.label=y.label:=by
     rcases ltL_k.tot x.label y.label with h | h | h
     ·exact absurd h hn1
     ·exact h
     ·exact absurd h hn2
    have ih:=pairs_ok a b (List.pairwise_cons.1 ha).2 (List.pairwise_cons.1 hb).2
    have hlt:∀ p∈pairsM a b,ltL x.label p.1=true:=fun p hp=>by
     obtain ⟨_,_,h⟩:=ih.at_ p hp
     rcases h with h | h
     ·obtain ⟨m,hm⟩:=Option.isSome_iff_exists.1 h
      rw [← (fnd_key hm).1]
      exact hxa m (fnd_key hm).2
     ·obtain ⟨m,hm⟩:=Option.isSome_iff_exists.1 h
      rw [← (fnd_key hm).1,hid]
      exact hyb m (fnd_key hm).2
    refine ⟨List.pairwise_cons.2 ⟨hlt,ih.asc⟩,fun p hp=>?_,fun z hz=>?_⟩
    ·rcases List.mem_cons.1 hp with rfl | hp
     ·refine ⟨by rw [fndM_cons x,if_pos rfl],by rw [fndM_cons y,if_pos hid.symm],.inl ?_⟩
      rw [fndM_cons x,if_pos rfl]
      rfl
     ·have hne:¬ x.label=p.1:=fun e=>by have:=hlt p hp;rw [e,ltL_k.irr] at this;cases this
      rw [fndM_cons x,fndM_cons y,if_neg hne,if_neg (by rw [← hid];exact hne)]
      exact ih.at_ p hp
    ·rw [fndM_cons x,fndM_cons y] at hz
     by_cases e:x.label=z
     ·rw [← e];exact List.mem_cons_self ..
     ·rw [if_neg e,if_neg (by rw [← hid];exact e)] at hz
      exact List.mem_cons_of_mem _ (ih.all z hz)
termination_by a b=>a.length+b.length
def acL:List Ac→Option Mod→Option Mod→Prop
 | [],s,t=>s=t
 | e::l,s,t=>∃ u,e.ap s u∧acL l u t
theorem acL_mod:∀ {l:List MA} {m m':Mod},maL l m m'→acL (l.map .mod) (some m) (some m')
 | [],_,_,h=>by rw [show _=_ from h];rfl
 | _::_,m,_,⟨u,h1,h2⟩=>⟨some u,⟨m,u,rfl,h1,rfl⟩,acL_mod h2⟩
theorem acL_ap {k:ByteArray}:∀ {l:List Ac} {S:St} {y:Option Mod},acL l (S k) y→apL (l.map (Ed.mk k)) S (setM S k y)
 | [],S,y,h=>by
  have h:S k=y:=h
  show S=setM S k y
  rw [← h]
  funext z
  unfold setM
  by_cases e:z=k
  ·rw [if_pos e,e]
  ·rw [if_neg e]
 | a::l,S,y,⟨u,h1,h2⟩=>by
  refine ⟨setM S k u,⟨u,h1,rfl⟩,?_⟩
  have h3:=acL_ap (k:=k) (l:=l) (S:=setM S k u) (y:=y) (by rw [setM_at];exact h2)
  rw [setM_twice] at h3
  exact h3
abbrev PrM:=ByteArray × Option Mx × Option Mx
def flatE (f:Option Mx→Option Mx→List Ac) (P:List PrM):List Ed:=P.flatMap fun p=>(f p.2.1 p.2.2).map (Ed.mk p.1)
theorem phase {f:Option Mx→Option Mx→List Ac}:∀ {P:List PrM} {S T:St},(P.map (·.1)).Nodup→(∀ p∈P,acL (f p.2.1 p.2.2) (S p.1) (T p.1))→(∀ y,y∉P.map (·.1)→S y=T y)→apL (flatE f P) S T
 | [],S,T,_,_,h=>by
  show S=T
  funext y
  exact h y (by simp)
 | p::P,S,T,hn,h1,h2=>by
  rw [List.map_cons,List.nodup_cons] at hn
  show apL ((f p.2.1 p.2.2).map (Ed.mk p.1)++flatE f P) S T
  rw [apL_append]
  refine ⟨_,acL_ap (h1 p (List.mem_cons_self ..)),phase hn.2 (fun q hq=>?_) (fun y hy=>?_)⟩
  ·rw [setM_off (fun e=>hn.1 (by rw [← e];exact List.mem_map.2 ⟨q,hq,rfl⟩))]
   exact h1 q (List.mem_cons_of_mem _ hq)
  ·by_cases e:y=p.1
   ·rw [e,setM_at]
   ·rw [setM_off e]
    exact h2 y (by rw [List.map_cons,List.mem_cons];exact fun h=>h.elim e hy)
def uO (o:Option Mx):List ByteArray:=match o with | some m=>m.uses | none=>[]
def dO (o:Option Mx):List Dx:=match o with | some m=>m.decls | none=>[]
def usF (o:Option Mx):ByteArray→Bool:=fun u=>(fndU (uO o) u).isSome
def dsF (o:Option Mx):Int→Option Dx:=fun i=>fndD (dO o) i
def ph1 (A _B:Option Mx):List Ac:=if A.isSome=true then [] else [.add]
def ph2 (A B:Option Mx):List Ac:=(useE true (uO B) (uO A)).map .mod
noncomputable def ph3 (A B:Option Mx):List Ac:=(declE (dO A) (dO B)).map .mod
def ph4 (A B:Option Mx):List Ac:=(useE false (uO A) (uO B)).map .mod
def ph5 (_A B:Option Mx):List Ac:=if B.isSome=true then [] else [.rem]
noncomputable def diffE (a b:List Mx):List Ed:=flatE ph1 (pairsM a b)++(flatE ph2 (pairsM a b)++(flatE ph3 (pairsM a b)++(flatE ph4 (pairsM a b)++flatE ph5 (pairsM a b))))
theorem ascU_nodup {l:List ByteArray} (h:AscU l):l.Nodup:=h.ne ltL_k
theorem use_lead (n:Bool) {X Y:List ByteArray} (hX:AscU X) (D:Int→Option Dx) (f g:ByteArray→Bool) (hf:∀ u∈X,u∉Y→f u=!n) (hg:∀ u,u∈X→u∉Y→g u=n) (hg2:∀ u,¬ (u∈X∧u∉Y)→g u=f u):maL (useE n X Y) ⟨f,D⟩ ⟨g,D⟩:=by
 have hm:∀ u,u∈X.filter (fun u=>!(fndU Y u).isSome)↔(u∈X∧u∉Y):=fun u=>by
  rw [List.mem_filter,Bool.not_eq_true',fndU_not]
 exact useL_lead n D _ f g (List.Nodup.sublist List.filter_sublist (ascU_nodup hX)) (fun u hu=>hf u ((hm u).1 hu).1 ((hm u).1 hu).2) (fun u hu=>hg u ((hm u).1 hu).1 ((hm u).1 hu).2) (fun u hu=>hg2 u (fun h=>hu ((hm u).2 h)))
theorem asc_uO {l:List Mx} (h:OkL l) (y:ByteArray):AscU (uO (fndM l y))∧AscD (dO (fndM l y)):=by
 cases e:fndM l y with
 | none=>exact ⟨List.Pairwise.nil,List.Pairwise.nil⟩
 | some m=>exact ⟨(h.ok m (fnd_key e).2).us,(h.ok m (fnd_key e).2).ds⟩
theorem diff_lead {a b:List Mx} (ha:OkL a) (hb:OkL b):apL (diffE a b) (absM a) (absM b):=by
 have hP:=pairs_ok a b ha.asc hb.asc
 have hn:((pairsM a b).map (·.1)).Nodup:=by
  unfold List.Nodup
  rw [List.pairwise_map]
  exact hP.asc.imp fun h e=>by rw [e,ltL_k.irr] at h;cases h
 have off:∀ (S T:Option Mx→Option Mx→Option Mod),S none none=none→T none none=none→∀ y,y∉(pairsM a b).map (·.1)→S (fndM a y) (fndM b y)=T (fndM a y) (fndM b y):=fun S T h1 h2 y hy=>by
  have e1:fndM a y=none:=by cases e:fndM a y with | none=>rfl | some m=>exact absurd (hP.all y (.inl (by rw [e];rfl))) hy
  have e2:fndM b y=none:=by cases e:fndM b y with | none=>rfl | some m=>exact absurd (hP.all y (.inr (by rw [e];rfl))) hy
  rw [e1,e2,h1,h2]
 have step:∀ (f:Option Mx→Option Mx→List Ac) (S T:Option Mx→Option Mx→Option Mod),S none none=none→T none none=none→(∀ A B:Option Mx,(A.isSome=true∨B.isSome=true)→AscU (uO A)→AscU (uO B)→AscD (dO A)→AscD (dO B)→acL (f A B) (S A B) (T A B))→apL (flatE f (pairsM a b)) (fun y=>S (fndM a y) (fndM b y)) (fun y=>T (fndM a y) (fndM b y)):=fun f S T h1 h2 h=>by
  refine phase hn (fun p hp=>?_) (off S T h1 h2)
  obtain ⟨e1,e2,e3⟩:=hP.at_ p hp
  have:=h p.2.1 p.2.2 (by rw [e1,e2];exact e3) (by rw [e1];exact (asc_uO ha _).1) (by rw [e2];exact (asc_uO hb _).1) (by rw [e1];exact (asc_uO ha _).2) (by rw [e2];exact (asc_uO hb _).2)
  rw [e1,e2] at this ⊢
  exact this
 let one:Option Mx→Option Mx→Mod→Option Mod:=fun A B m=>if A.isSome=true∨B.isSome=true then some m else none
 have hone:∀ m,one none none m=none:=fun m=>by simp [one]
 have hon:∀ A B m,(A.isSome=true∨B.isSome=true)→one A B m=some m:=fun A B m h=>by simp [one,h]
 have p1:=step ph1 (fun A _=>A.map modOf) (fun A B=>one A B ⟨usF A,dsF A⟩) rfl (hone _) (fun A B h _ _ _ _=>by
  simp only [hon A B _ h]
  cases A with
  | some m=>exact rfl
  | none=>exact ⟨some Mod.none,⟨rfl,rfl⟩,rfl⟩)
 have p2:=step ph2 (fun A B=>one A B ⟨usF A,dsF A⟩) (fun A B=>one A B ⟨fun u=>usF A u || usF B u,dsF A⟩) (hone _) (hone _) (fun A B h _ hB _ _=>by
  simp only [hon A B _ h]
  refine acL_mod (use_lead true hB _ _ _ (fun u _ hu=>?_) (fun u hu _=>?_) (fun u hu=>?_))
  ·exact fndU_not.2 hu
  ·show (usF A u || usF B u)=true
   unfold usF
   rw [fndU_mem.2 hu,Bool.or_true]
  ·show (usF A u || usF B u)=usF A u
   unfold usF
   cases e:(fndU (uO A) u).isSome with
   | true=>rfl
   | false =>
    rw [Bool.false_or]
    exact fndU_not.2 (fun h=>hu ⟨h,fndU_not.1 e⟩))
 have p3:=step ph3 (fun A B=>one A B ⟨fun u=>usF A u || usF B u,dsF A⟩) (fun A B=>one A B ⟨fun u=>usF A u || usF B u,dsF B⟩) (hone _) (hone _) (fun A B h _ _ hA hB=>by
  simp only [hon A B _ h]
  have:=declE_lead (dO A) (dO B) (fun _=>none) (fun u=>usF A u || usF B u) hA hB (fun _ _=>rfl)
  simp only [Option.or_none] at this
  exact acL_mod this)
 have p4:=step ph4 (fun A B=>one A B ⟨fun u=>usF A u || usF B u,dsF B⟩) (fun A B=>one A B ⟨usF B,dsF B⟩) (hone _) (hone _) (fun A B h hA _ _ _=>by
  simp only [hon A B _ h]
  refine acL_mod (use_lead false hA _ _ _ (fun u hu _=>?_) (fun u _ hu=>?_) (fun u hu=>?_))
  ·show (usF A u || usF B u)=true
   unfold usF
   rw [fndU_mem.2 hu]
   rfl
  ·exact fndU_not.2 hu
  ·show usF B u=(usF A u || usF B u)
   unfold usF
   cases e:(fndU (uO B) u).isSome with
   | true=>rw [Bool.or_true]
   | false =>
    rw [Bool.or_false]
    exact (fndU_not.2 (fun h=>hu ⟨h,fndU_not.1 e⟩)).symm)
 have p5:=step ph5 (fun A B=>one A B ⟨usF B,dsF B⟩) (fun _ B=>B.map modOf) (hone _) rfl (fun A B h _ _ _ _=>by
  simp only [hon A B _ h]
  cases B with
  | some m=>exact rfl
  | none=>exact ⟨none,⟨rfl,rfl⟩,rfl⟩)
 unfold diffE
 rw [apL_append]
 refine ⟨_,p1,?_⟩
 rw [apL_append]
 refine ⟨_,p2,?_⟩
 rw [apL_append]
 refine ⟨_,p3,?_⟩
 rw [apL_append]
 exact ⟨_,p4,p5⟩
end Go.Proofs.YtgcceepadlmelaaGreatDoor
