import Derived.Test.YtgcceepadlmelaaGreatDoorEdVld
import Derived.Test.YtgcceepadlmelaaGreatDoorQAO
import Derived.Test.YtgcceepadlmelaaGreatDoorQAP
import Derived.Test.YtgcceepadlmelaaGreatDoorQAQ
import Derived.Test.YtgcceepadlmelaaGreatDoorEdChg7
namespace Go.Proofs.YtgcceepadlmelaaGreatDoor
section
set_option linter.unusedSectionVars false
variable {α β κ:Type} [DecidableEq κ] {f:α→β} {k:α→κ} {k':β→κ} {lt:κ→κ→Bool}
theorem asc_mapK (hk:∀ a,k' (f a)=k a) {l:List α}:AscK k' lt (l.map f)↔AscK k lt l:=by
 unfold AscK
 rw [List.pairwise_map]
 simp only [hk]
theorem fnd_mapK (hk:∀ a,k' (f a)=k a) {l:List α} {y:κ}:fnd k' (l.map f) y=(fnd k l y).map f:=by
 unfold fnd
 rw [List.find?_map]
 congr 2
 funext a
 simp [hk]
theorem idx_mapK (hk:∀ a,k' (f a)=k a) {l:List α} {y:κ}:idxK k' lt (l.map f) y=idxK k lt l y:=by
 unfold idxK
 rw [List.takeWhile_map,List.length_map]
 congr 2
 funext a
 simp [hk]
theorem ins_mapK (hk:∀ a,k' (f a)=k a) {l:List α} {x:α}:insK k' lt (l.map f) (f x)=(insK k lt l x).map f:=by
 unfold insK
 rw [idx_mapK hk,hk]
 simp
end
theorem mx_lab (m:Mw):m.x.label=m.label:=rfl
theorem dx_id (d:Dw):d.x.id=d.id:=rfl
def VdX (T:List Mx):Prop:=∀ m∈T,∀ d∈m.decls,declX m.label d
def LenX (T:List Mx) (k:Nat):Prop:=T.length≤k∧∀ m∈T,m.uses.length≤k∧m.decls.length≤k
theorem mem_insK {α κ:Type} {k:α→κ} {lt:κ→κ→Bool} {l:List α} {x y:α} (h:y∈insK k lt l x):y=x∨y∈l:=by
 unfold insK at h
 rcases List.mem_append.1 h with h | h
 ·exact .inr (List.mem_of_mem_take h)
 ·rcases List.mem_cons.1 h with h | h
  ·exact .inl h
  ·exact .inr (List.mem_of_mem_drop h)
theorem mem_era {α:Type} {l:List α} {i:Nat} {y:α} (h:y∈l.take i++l.drop (i+1)):y∈l:=by
 rcases List.mem_append.1 h with h | h
 ·exact List.mem_of_mem_take h
 ·exact List.mem_of_mem_drop h
theorem era_len {α:Type} {l:List α} {i:Nat}:(l.take i++l.drop (i+1)).length≤l.length:=by
 rw [List.length_append,List.length_take,List.length_drop]
 omega
theorem declX_new {l:ByteArray} {d:Dx} (h:declX l d) {d':Dx} (h1:d'.id=d.id) (h2:kindV d'.kind) (h3:namesE d'.names=0) (h4:bodyX l d'.body):declX l d':=by
 obtain ⟨b,hb,hbw⟩:=h4
 refine ⟨⟨d'.id,d'.kind,d'.pub,none,d'.names,0,d'.doubt,b⟩,?_,?_⟩
 ·unfold Dw.x
  simp only
  rw [hb]
 ·exact ⟨by rw [show ({ id:=d'.id,kind:=d'.kind,pub:=d'.pub,na:=none,names:=d'.names,ncap:=0,doubt:=d'.doubt,body:=b }:Dw).id=d.id from h1];exact declX_id h,h2,h3,hbw⟩
theorem oneD_vd {l:ByteArray} {ds:List Dx} (h:∀ d∈ds,declX l d) {i:Int} {a:DA} (ha:a.vld l i):∀ d∈oneD ds i a,declX l d:=by
 have hs:∀ {d d':Dx},fndD ds i=some d→declX l d'→∀ x∈ds.set (idxK Dx.id ltI ds i) d',declX l x:=fun {d d'} _ h2 x hx=>by
  rcases List.mem_or_eq_of_mem_set hx with hx | rfl
  ·exact h x hx
  ·exact h2
 intro d hd
 cases a with
 | add x =>
  rcases mem_insK (show d∈insK Dx.id ltI ds x from hd) with rfl | h2
  ·exact ha.1
  ·exact h d h2
 | rem x=>exact h d (mem_era (show d∈ds.take _++ds.drop _ from hd))
 | nam o n =>
  simp only [oneD] at hd
  cases e:fndD ds i with
  | none=>rw [e] at hd;exact h d hd
  | some x =>
   rw [e] at hd
   have hx:=h x (fnd_key e).2
   obtain ⟨p1,p2,p3,p4⟩:=declX_parts hx
   exact hs e (declX_new hx (d':={ x with names:=n }) rfl p2 ha.2.2.1 p4) d hd
 | bod o n =>
  simp only [oneD] at hd
  cases e:fndD ds i with
  | none=>rw [e] at hd;exact h d hd
  | some x =>
   rw [e] at hd
   have hx:=h x (fnd_key e).2
   obtain ⟨p1,p2,p3,p4⟩:=declX_parts hx
   exact hs e (declX_new hx (d':={ x with body:=n }) rfl p2 p3 ha.2.2.1) d hd
 | hed o n =>
  simp only [oneD] at hd
  cases e:fndD ds i with
  | none=>rw [e] at hd;exact h d hd
  | some x =>
   rw [e] at hd
   have hx:=h x (fnd_key e).2
   obtain ⟨p1,p2,p3,p4⟩:=declX_parts hx
   exact hs e (declX_new hx (d':={ x with kind:=n.1,pub:=n.2.1,doubt:=n.2.2 }) rfl ha.2.2.1 p3 p4) d hd
theorem oneE_vd {T:List Mx} (h:VdX T) {E:Ed} (hE:E.vld):VdX (oneE T E):=by
 obtain ⟨lb,a⟩:=E
 intro m hm d hd
 cases a with
 | add =>
  rcases mem_insK (show m∈insK Mx.label ltL T ⟨lb,[],[]⟩ from hm) with rfl | h2
  ·cases hd
  ·exact h m h2 d hd
 | rem=>exact h m (mem_era (show m∈T.take _++T.drop _ from hm)) d hd
 | mod a =>
  simp only [oneE] at hm
  cases e:fndM T lb with
  | none=>rw [e] at hm;exact h m hm d hd
  | some x =>
   rw [e] at hm
   obtain ⟨hl,hx⟩:=fnd_key e
   rcases List.mem_or_eq_of_mem_set hm with hm | rfl
   ·exact h m hm d hd
   ·cases a with
    | use u n=>exact h x hx d hd
    | dec i a =>
     have h2:=hE.2
     rw [← hl] at h2
     exact oneD_vd (h x hx) (i:=i) (a:=a) h2 d hd
theorem oneE_len {T:List Mx} {k:Nat} (h:LenX T k) (E:Ed):LenX (oneE T E) (k+1):=by
 obtain ⟨lb,a⟩:=E
 obtain ⟨h1,h2⟩:=h
 have h2':∀ m∈T,m.uses.length≤k+1∧m.decls.length≤k+1:=fun m hm=>⟨Nat.le_succ_of_le (h2 m hm).1,Nat.le_succ_of_le (h2 m hm).2⟩
 cases a with
 | add =>
  refine ⟨by show (insK Mx.label ltL T ⟨lb,[],[]⟩).length≤_;rw [insK_len];omega,fun m hm=>?_⟩
  rcases mem_insK (show m∈insK Mx.label ltL T ⟨lb,[],[]⟩ from hm) with rfl | h3
  ·simp
  ·exact h2' m h3
 | rem=>exact ⟨Nat.le_trans era_len (by omega),fun m hm=>h2' m (mem_era (show m∈T.take _++T.drop _ from hm))⟩
 | mod a =>
  simp only [oneE]
  cases e:fndM T lb with
  | none=>exact ⟨by simp only;omega,h2'⟩
  | some x =>
   simp only
   obtain ⟨hl,hx⟩:=fnd_key e
   obtain ⟨hu,hd⟩:=h2 x hx
   refine ⟨by rw [List.length_set];omega,fun m hm=>?_⟩
   rcases List.mem_or_eq_of_mem_set hm with hm | rfl
   ·exact h2' m hm
   ·cases a with
    | use u n =>
     refine ⟨?_,Nat.le_succ_of_le hd⟩
     show (oneU x.uses u n).length≤_
     cases n with
     | true=>show (insK (fun x:ByteArray=>x) ltL x.uses u).length≤_;rw [insK_len];omega
     | false=>exact Nat.le_trans era_len (by omega)
    | dec i a =>
     refine ⟨Nat.le_succ_of_le hu,?_⟩
     show (oneD x.decls i a).length≤_
     cases a with
     | add d=>show (insK Dx.id ltI x.decls d).length≤_;rw [insK_len];omega
     | rem d=>exact Nat.le_trans era_len (by omega)
     | nam o n=>simp only [oneD];split <;> (try rw [List.length_set]) <;> omega
     | bod o n=>simp only [oneD];split <;> (try rw [List.length_set]) <;> omega
     | hed o n=>simp only [oneD];split <;> (try rw [List.length_set]) <;> omega
end Go.Proofs.YtgcceepadlmelaaGreatDoor
namespace Go.Proofs.YtgcceepadlmelaaGreatDoor
open Go.RowKit
theorem IM.block {w w':World} {b n:Nat} {f:MI} (h:IM w b n f) (hb:w'.heap[b]?=w.heap[b]?):IM w' b n f:=by
 obtain ⟨D,h1,⟨es,clock,h2,h3,h4,h5⟩⟩:=h
 exact ⟨D,h1,⟨es,clock,hb.trans h2,h3,h4,h5⟩⟩
structure EffO (w:World) (v:Value) (L:List Mw) (mb s6 s7 s8 s9:Nat):Prop where
 eff:EffM 0 w mb s6 s7 s8 s9
 ap:∀ k,k=mb∨k=s6∨k=s7∨k=s8∨k=s9→k∉obs v∧k∉L.flatMap blkM
theorem EffO.step {w w':World} {v v':Value} {L L':List Mw} {mb s6 s7 s8 s9:Nat} (h:EffO w v L mb s6 s7 s8 s9) (hs:Stp w w' v v' L L'):EffO w' v' L' mb s6 s7 s8 s9:=by
 have hlt:∀ k,k=mb∨k=s6∨k=s7∨k=s8∨k=s9→k<w.heap.size:=fun k hk=>by
  rcases hk with rfl | rfl | rfl | rfl | rfl
  ·exact h.eff.map.lt
  ·exact row_lt h.eff.c6
  ·exact row_lt h.eff.c7
  ·exact row_lt h.eff.c8
  ·exact row_lt h.eff.c9
 have hk:∀ k,k=mb∨k=s6∨k=s7∨k=s8∨k=s9→w'.heap[k]?=w.heap[k]?:=fun k hk=>hs.fr k (hlt k hk) (h.ap k hk).1 (h.ap k hk).2
 refine ⟨⟨h.eff.map.block (hk _ (.inl rfl)),(hk _ (.inr (.inl rfl))).trans h.eff.c6,(hk _ (.inr (.inr (.inl rfl)))).trans h.eff.c7,(hk _ (.inr (.inr (.inr (.inl rfl))))).trans h.eff.c8,(hk _ (.inr (.inr (.inr (.inr rfl))))).trans h.eff.c9,by omega⟩,fun k hkk=>⟨fun hm=>?_,fun hm=>?_⟩⟩
 ·rcases hs.bl k (.inl hm) with h1 | h1
  ·exact h1.elim (h.ap k hkk).1 (h.ap k hkk).2
  ·have:=hlt k hkk
   omega
 ·rcases hs.bl k (.inr hm) with h1 | h1
  ·exact h1.elim (h.ap k hkk).1 (h.ap k hkk).2
  ·have:=hlt k hkk
   omega
def OneR (w0 w:World) (v:Value) (L:List Mw) (T:List Mx) (E:Ed) (r:Ending) (w':World):Prop :=
 ∃ v' L',r=.returned (.tuple #[v',.int .i64 0])∧MO w0 w' v' L'∧Stp w w' v v' L L'∧L'.map Mw.x=oneE T E
theorem one_slice {w:World} {d:Dw} {ao:Option Addr} {n c:Nat} (h:DLA w ao n c [d]):∃ b o,ao=some ⟨b,o,none⟩∧n=1:=by
 have hl:=h.len
 have h1:n=1:=by simp at hl;omega
 subst h1
 obtain ⟨b,o,e,_⟩:=h.sl.at_ (k:=0) (by omega)
 exact ⟨b,o,e,rfl⟩
theorem one_any (w0 w:World) (v:Value) (L:List Mw) (e:Kw) (E:Ed) (T:List Mx) (mb s6 s7 s8 s9:Nat) (hT:L.map Mw.x=T) (hE:e.x=E.k) (hv:E.vld) (h:MO w0 w v L) (he:KwA w0 e) (hok:OkL T) (hvd:VdX T) (hlen:LenX T 100000) (t:St) (hap:E.ap (absM T) t) (heff:EffO w v L mb s6 s7 s8 s9) :
  Calls Tryz.prog 28 #[v,.agg (kca e),.map (some mb)] w (OneR w0 w v L T E):=by
 have hTl:T.length=L.length:=by rw [← hT,List.length_map]
 have hn:L.length≤100000:=by have:=hlen.1;omega
 have hA:AscK Mw.label ltL L:=(asc_mapK mx_lab).1 (by rw [hT];exact hok.asc)
 have hfm:∀ y,fndM T y=(fnd Mw.label L y).map Mw.x:=fun y=>by rw [← hT];exact fnd_mapK mx_lab
 have hix:∀ y,idxK Mx.label ltL T y=idxK Mw.label ltL L y:=fun y=>by rw [← hT];exact idx_mapK mx_lab
 obtain ⟨kind,pack,text,oa,old,oc,na,new,nc⟩:=e
 obtain ⟨lb,ac⟩:=E
 obtain ⟨y,h1,-⟩:=hap
 simp only at h1
 unfold Kw.x at hE
 simp only at hE
 cases ac with
 | add =>
  injection hE with e1 e2 e3 e4 e5
  simp only at e1 e2 e3 e4 e5
  subst e1 e2 e3
  obtain rfl:=mx_nil e4
  obtain rfl:=mx_nil e5
  have h2:(fndM T pack).map modOf=none:=h1.1
  have hf:(fnd Mw.label L pack).isSome=false:=by
   rw [hfm] at h2
   cases e:fnd Mw.label L pack with
   | none=>rfl
   | some m=>rw [e] at h2;cases h2
  refine (one1_any w0 w L v (.map (some mb)) pack ⟨#[]⟩ oa na 0 oc 0 nc _ h hA hn rfl hf he.pack).mono ?_
  rintro r w' ⟨v',rfl,hm,hs⟩
  refine ⟨v',_,rfl,hm,hs,?_⟩
  show _=insK Mx.label ltL T ⟨pack,[],[]⟩
  unfold insK
  rw [hix,← hT]
  simp [Mw.x]
 | rem =>
  injection hE with e1 e2 e3 e4 e5
  simp only at e1 e2 e3 e4 e5
  subst e1 e2 e3
  obtain rfl:=mx_nil e4
  obtain rfl:=mx_nil e5
  have h2:(fndM T pack).map modOf=some Mod.none:=h1.1
  obtain ⟨m,hm,hm2⟩:∃ m,fnd Mw.label L pack=some m∧modOf m.x=Mod.none:=by
   rw [hfm] at h2
   cases e:fnd Mw.label L pack with
   | none=>rw [e] at h2;cases h2
   | some m=>rw [e] at h2;exact ⟨m,rfl,Option.some.inj h2⟩
  obtain ⟨hil,hLi,_⟩:=at_some ltL_k hA hm
  obtain ⟨u1,u2⟩:=mod_none_of hm2
  have hu2:m.decls=[]:=mx_nil u2
  refine (one2_any w0 w L v (.map (some mb)) pack ⟨#[]⟩ oa na 0 oc 0 nc _ h hA hn rfl hil (by rw [hm];rfl) (by rw [hLi];exact u1) (by rw [hLi];exact hu2)).mono ?_
  rintro r w' ⟨v',rfl,hm,hs⟩
  refine ⟨v',_,rfl,hm,hs,?_⟩
  show _=T.take (idxK Mx.label ltL T pack)++T.drop (idxK Mx.label ltL T pack+1)
  rw [hix,← hT]
  simp
 | mod a =>
  obtain ⟨p,q,h2,h3,-⟩:=h1
  obtain ⟨m,hm,hm2⟩:∃ m,fnd Mw.label L lb=some m∧modOf m.x=p:=by
   have h2':(fndM T lb).map modOf=some p:=h2
   rw [hfm] at h2'
   cases e:fnd Mw.label L lb with
   | none=>rw [e] at h2';cases h2'
   | some m=>rw [e] at h2';exact ⟨m,rfl,Option.some.inj h2'⟩
  obtain ⟨hil0,hLi0,_⟩:=at_some ltL_k hA hm
  have hmT:m.x∈T:=by rw [← hT];exact List.mem_map.2 ⟨m,(fnd_key hm).2,rfl⟩
  have hom:=hok.ok _ hmT
  have hul:m.uses.length≤100000:=(hlen.2 _ hmT).1
  have hdl:m.decls.length≤100000:=by have:=(hlen.2 _ hmT).2;rw [show m.x.decls=m.decls.map Dw.x from rfl,List.length_map] at this;exact this
  have hAd:AscK Dw.id ltI m.decls:=(asc_mapK dx_id).1 hom.ds
  have hvm:∀ d∈m.decls,declW m.label d:=fun d hd=>declX_all (hvd _ hmT d.x (List.mem_map.2 ⟨d,hd,rfl⟩)) rfl
  have hfd:∀ i,fndD m.x.decls i=(fnd Dw.id m.decls i).map Dw.x:=fun i=>fnd_mapK dx_id
  have hid:∀ d∈m.decls,1≤d.id∧d.id≤999999:=fun d hd=>(hvm d hd).1
  have hcn:∀ d∈m.decls,cntE d.body≤1000:=fun d hd=>okW_few (hvm d hd).2.2.2.1
  obtain ⟨g,cap,rfl⟩:∃ g cap,v=.slice (some ⟨g,0,none⟩) L.length cap:=by
   rcases h.own.2 with ⟨_,h0⟩ | ⟨g,cap,cur,e,_⟩
   ·omega
   ·exact ⟨g,cap,e⟩
  have him:=heff.eff.map
  have hso:∀ s,s=s7∨s=s8∨s=s9→s∉L.flatMap blkM:=fun s hs=>(heff.ap s (by rcases hs with h | h | h <;> simp [h])).2
  obtain ⟨i,hi,hil,hLi⟩:∃ i,idxK Mw.label ltL L lb=i∧∃ hil:i<L.length,L[i]=m:=⟨_,rfl,hil0,hLi0⟩
  have hfs:(fnd Mw.label L lb).isSome=true:=by rw [hm];rfl
  have fin:∀ {a':MA} {X:Mx} {c:Array Value},a=a'→X=oneA m.x a'→Calls Tryz.prog 28 #[.slice (some ⟨g,0,none⟩) L.length cap,.agg c,.map (some mb)] w (OneP w0 w g cap L i X)→Calls Tryz.prog 28 #[.slice (some ⟨g,0,none⟩) L.length cap,.agg c,.map (some mb)] w (OneR w0 w (.slice (some ⟨g,0,none⟩) L.length cap) L T ⟨lb,.mod a⟩):=fun {a' X c} ha hX hc=>by
   refine hc.mono ?_
   rintro r w' ⟨rfl,m',hmx,hmo,hst⟩
   refine ⟨_,_,rfl,hmo,hst,?_⟩
   have e3:oneE T ⟨lb,.mod a⟩=T.set (idxK Mx.label ltL T lb) (oneA m.x a):=by
    have e4:fndM T lb=some m.x:=by rw [hfm,hm];rfl
    simp only [oneE,e4]
   rw [e3,hix,hi,← hT,List.map_set,hmx,ha,hX]
  have hLm:L[i]=m:=hLi
  cases a with
  | use u n =>
   obtain ⟨h4,-⟩:=h3
   rw [← hm2] at h4
   have h5:(fndU m.uses u).isSome=!n:=h4
   have key:∀ {kd:Int} {tx:ByteArray},kd=kind→tx=text→tx=u→old=[]→new=[]→pack=lb→(n=true→kd=3)→(n=false→kd=4)→Calls Tryz.prog 28 #[.slice (some ⟨g,0,none⟩) L.length cap,.agg (kca ⟨kind,pack,text,oa,old,oc,na,new,nc⟩),.map (some mb)] w (OneR w0 w (.slice (some ⟨g,0,none⟩) L.length cap) L T ⟨lb,.mod (.use u n)⟩):=fun {kd tx} p1 p2 p3 p4 p5 p6 p7 p8=>by
    subst p1 p2 p3 p4 p5 p6
    cases n with
    | true =>
     obtain rfl:=p7 rfl
     exact fin rfl rfl (oneU_any 3 _ (.inl ⟨rfl,rfl⟩) w0 w L g cap pack tx oa na 0 oc 0 nc mb i ⟨m.label,insK (fun x:ByteArray=>x) ltL m.uses tx,m.decls.map Dw.x⟩ h hA hn hi hil hfs _ him rfl
      (fun V hb=>by
       have hc:=eff1_any w0 V L g cap i ⟨3,pack,tx,oa,[],oc,na,[],nc⟩ hil (h.below hb) he (by rw [hLm];exact hom.us) (by rw [hLm];exact h5) (by rw [hLm];exact hul)
       rw [hLm] at hc
       exact hc))
    | false =>
     obtain rfl:=p8 rfl
     exact fin rfl rfl (oneU_any 4 _ (.inr (.inl ⟨rfl,rfl⟩)) w0 w L g cap pack tx oa na 0 oc 0 nc mb i ⟨m.label,oneU m.uses tx false,m.decls.map Dw.x⟩ h hA hn hi hil hfs _ him rfl
      (fun V hb=>by
       have hc:=eff2_any w0 V L g cap i ⟨4,pack,tx,oa,[],oc,na,[],nc⟩ hil (h.below hb) he (by rw [hLm];exact hom.us) (by rw [hLm];exact h5) (by rw [hLm];exact hul)
       rw [hLm] at hc
       exact hc))
   cases n
   ·injection hE with e1 e2 e3 e4 e5
    exact key (kd:=kind) (tx:=text) rfl rfl e3 (mx_nil e4) (mx_nil e5) e2 (fun h=>by cases h) (fun _=>e1)
   ·injection hE with e1 e2 e3 e4 e5
    exact key (kd:=kind) (tx:=text) rfl rfl e3 (mx_nil e4) (mx_nil e5) e2 (fun _=>e1) (fun h=>by cases h)
  | dec j a =>
   obtain ⟨z,h4,-⟩:=h3
   rw [← hm2] at h4
   have h4':a.ap (fndD m.x.decls j) z:=h4
   have hvl:a.vld lb j:=hv.2
   have hfit:=Ed.vld_fit hv _ rfl
   cases a with
   | add d =>
    injection hE with e1 e2 e3 e4 e5
    simp only at e1 e2 e3 e4 e5
    subst e1 e2 e3
    obtain rfl:=mx_nil e4
    obtain ⟨nw,rfl,e6⟩:=mx_one e5
    obtain ⟨nb,no,rfl,_⟩:=one_slice he.new
    have hdj:d.id=j:=hfit
    have hnj:nw.id=j:=by rw [← hdj,← e6];rfl
    have h6:(fnd Dw.id m.decls nw.id).isSome=false:=by
     have:=h4'.1
     rw [hfd,← hnj] at this
     cases e:fnd Dw.id m.decls nw.id with
     | none=>rfl
     | some x=>rw [e] at this;cases this
    refine fin rfl ?_ (oneU_any 5 _ (.inr (.inr ⟨rfl,rfl⟩)) w0 w L g cap pack ⟨#[]⟩ oa (some ⟨nb,no,none⟩) 0 oc 1 nc mb i ⟨m.label,m.uses,(insK Dw.id ltI m.decls nw).map Dw.x⟩ h hA hn hi hil hfs _ him rfl
     (fun V hb=>by
      have hc:=eff3_any w0 V L g cap i ⟨5,pack,⟨#[]⟩,oa,[],oc,some ⟨nb,no,none⟩,[nw],nc⟩ nw rfl hil (h.below hb) he (by rw [hLm];exact hAd) (by rw [hLm];exact h6) (by rw [hLm];exact hdl) (by rw [hLm];exact hid) (declX_all hvl.1 e6).1
      rw [hLm] at hc
      exact hc))
    show Mx.mk m.label m.uses _=Mx.mk m.label m.uses (insK Dx.id ltI m.x.decls d)
    rw [← e6,show m.x.decls=m.decls.map Dw.x from rfl,ins_mapK dx_id]
   | rem d =>
    injection hE with e1 e2 e3 e4 e5
    simp only at e1 e2 e3 e4 e5
    subst e1 e2 e3
    obtain rfl:=mx_nil e5
    obtain ⟨ow,rfl,e6⟩:=mx_one e4
    obtain ⟨ob,oo,rfl,_⟩:=one_slice he.old
    have hdj:d.id=j:=hfit
    have hoj:ow.id=j:=by rw [← hdj,← e6];rfl
    obtain ⟨x,hx,hxx⟩:∃ x,fnd Dw.id m.decls ow.id=some x∧x.x=d:=by
     have:=h4'.1
     rw [hfd,← hoj] at this
     cases e:fnd Dw.id m.decls ow.id with
     | none=>rw [e] at this;cases this
     | some x=>rw [e] at this;exact ⟨x,rfl,Option.some.inj this⟩
    refine fin rfl ?_ (oneD_any 6 _ (.inl ⟨rfl,rfl⟩) w0 w L g cap pack ⟨#[]⟩ (some ⟨ob,oo,none⟩) na 1 oc 0 nc mb i s6 ⟨m.label,m.uses,(m.decls.take (idxK Dw.id ltI m.decls ow.id)++m.decls.drop (idxK Dw.id ltI m.decls ow.id+1)).map Dw.x⟩ h hA hn hi hil hfs _ him rfl
     (fun V hb=>by
      have hc:=chg6_any w0 V L g cap i pack ⟨#[]⟩ ob oo oc ow na [] nc x s6 hil (h.below hb) he ((hb.block _ (row_lt heff.eff.c6)).trans heff.eff.c6) (by rw [hLm];exact hAd) (by rw [hLm];exact hx) (by rw [show menW 6 x=x from rfl,hxx,e6]) (hcn x (fnd_key hx).2) (by rw [hLm];exact hdl) (by rw [hLm];exact hid) (declX_all hvl.1 e6).1
      rw [hLm] at hc
      exact hc))
    show Mx.mk m.label m.uses _=Mx.mk m.label m.uses (m.x.decls.take (idxK Dx.id ltI m.x.decls j)++m.x.decls.drop (idxK Dx.id ltI m.x.decls j+1))
    rw [show m.x.decls=m.decls.map Dw.x from rfl,idx_mapK dx_id,hoj]
    simp
   | nam o n =>
    injection hE with e1 e2 e3 e4 e5
    simp only at e1 e2 e3 e4 e5
    subst e1 e2 e3
    obtain ⟨ow,rfl,e6⟩:=mx_one e4
    obtain ⟨nw,rfl,e7⟩:=mx_one e5
    obtain ⟨ob,oo,rfl,_⟩:=one_slice he.old
    obtain ⟨nb,no,rfl,_⟩:=one_slice he.new
    have hoj:ow.id=j:=congrArg Dx.id e6
    have hnn:nw.names=n:=congrArg Dx.names e7
    obtain ⟨d,hd1,hd2,-⟩:=h4'
    obtain ⟨x,hx,hxx⟩:∃ x,fnd Dw.id m.decls ow.id=some x∧x.x=d:=by
     rw [hfd,← hoj] at hd1
     cases e:fnd Dw.id m.decls ow.id with
     | none=>rw [e] at hd1;cases hd1
     | some x=>rw [e] at hd1;exact ⟨x,rfl,Option.some.inj hd1⟩
    have hxi:x.id=j:=by rw [← hoj];exact (fnd_key hx).1
    refine fin rfl ?_ (oneD_any 7 _ (.inr (.inl ⟨rfl,rfl⟩)) w0 w L g cap pack ⟨#[]⟩ (some ⟨ob,oo,none⟩) (some ⟨nb,no,none⟩) 1 oc 1 nc mb i s7 ⟨m.label,m.uses,(m.decls.set (idxK Dw.id ltI m.decls ow.id) (⟨x.id,x.kind,x.pub,nw.na,nw.names,nw.ncap,x.doubt,x.body⟩:Dw)).map Dw.x⟩ h hA hn hi hil hfs _ him rfl
     (fun V hb=>by
      have hc:=chg7_any w0 V L g cap i pack ⟨#[]⟩ ob oo oc ow nb no nc nw x s7 hil (h.below hb) he ((hb.block _ (row_lt heff.eff.c7)).trans heff.eff.c7) (hso s7 (by simp)) (by rw [hLm];exact hAd) (by rw [hLm];exact hx) (by rw [menW_x,e6,hxx];show namD d.id d.names=_;rw [hd2,← hxx,show x.x.id=x.id from rfl,hxi]) (hcn x (fnd_key hx).2) (by rw [hLm];exact hdl) (by rw [hLm];exact hid) (by rw [hoj];exact hvl.1)
      rw [hLm] at hc
      exact hc))
    have e8:fndD m.x.decls j=some x.x:=by rw [hfd,← hoj,hx];rfl
    show Mx.mk m.label m.uses _=Mx.mk m.label m.uses (oneD m.x.decls j (.nam o n))
    simp only [oneD,e8]
    rw [show m.x.decls=m.decls.map Dw.x from rfl,idx_mapK dx_id,hoj,List.map_set,← hnn]
    rfl
   | bod o n =>
    injection hE with e1 e2 e3 e4 e5
    simp only at e1 e2 e3 e4 e5
    subst e1 e2 e3
    obtain ⟨ow,rfl,e6⟩:=mx_one e4
    obtain ⟨nw,rfl,e7⟩:=mx_one e5
    obtain ⟨ob,oo,rfl,_⟩:=one_slice he.old
    obtain ⟨nb,no,rfl,_⟩:=one_slice he.new
    have hoj:ow.id=j:=congrArg Dx.id e6
    have hnn:nw.body.x=n:=congrArg Dx.body e7
    obtain ⟨d,hd1,hd2,-⟩:=h4'
    obtain ⟨x,hx,hxx⟩:∃ x,fnd Dw.id m.decls ow.id=some x∧x.x=d:=by
     rw [hfd,← hoj] at hd1
     cases e:fnd Dw.id m.decls ow.id with
     | none=>rw [e] at hd1;cases hd1
     | some x=>rw [e] at hd1;exact ⟨x,rfl,Option.some.inj hd1⟩
    have hxi:x.id=j:=by rw [← hoj];exact (fnd_key hx).1
    refine fin rfl ?_ (oneD_any 8 _ (.inr (.inr (.inl ⟨rfl,rfl⟩))) w0 w L g cap pack ⟨#[]⟩ (some ⟨ob,oo,none⟩) (some ⟨nb,no,none⟩) 1 oc 1 nc mb i s8 ⟨m.label,m.uses,(m.decls.set (idxK Dw.id ltI m.decls ow.id) (⟨x.id,x.kind,x.pub,x.na,x.names,x.ncap,x.doubt,nw.body⟩:Dw)).map Dw.x⟩ h hA hn hi hil hfs _ him rfl
     (fun V hb=>by
      have hc:=chg8_any w0 V L g cap i pack ⟨#[]⟩ ob oo oc ow nb no nc nw x s8 hil (h.below hb) he ((hb.block _ (row_lt heff.eff.c8)).trans heff.eff.c8) (hso s8 (by simp)) (by rw [hLm];exact hAd) (by rw [hLm];exact hx) (by rw [menW_x,e6,hxx];show bodD d.id d.body=_;rw [hd2,← hxx,show x.x.id=x.id from rfl,hxi]) (hcn x (fnd_key hx).2) (by rw [hLm];exact hdl) (by rw [hLm];exact hid) (by rw [hoj];exact hvl.1)
      rw [hLm] at hc
      exact hc))
    have e8:fndD m.x.decls j=some x.x:=by rw [hfd,← hoj,hx];rfl
    show Mx.mk m.label m.uses _=Mx.mk m.label m.uses (oneD m.x.decls j (.bod o n))
    simp only [oneD,e8]
    rw [show m.x.decls=m.decls.map Dw.x from rfl,idx_mapK dx_id,hoj,List.map_set,← hnn]
    rfl
   | hed o n =>
    injection hE with e1 e2 e3 e4 e5
    simp only at e1 e2 e3 e4 e5
    subst e1 e2 e3
    obtain ⟨ow,rfl,e6⟩:=mx_one e4
    obtain ⟨nw,rfl,e7⟩:=mx_one e5
    obtain ⟨ob,oo,rfl,_⟩:=one_slice he.old
    obtain ⟨nb,no,rfl,_⟩:=one_slice he.new
    have hoj:ow.id=j:=congrArg Dx.id e6
    have hnn:nw.x.hd=n:=congrArg Dx.hd e7
    obtain ⟨d,hd1,hd2,-⟩:=h4'
    obtain ⟨x,hx,hxx⟩:∃ x,fnd Dw.id m.decls ow.id=some x∧x.x=d:=by
     rw [hfd,← hoj] at hd1
     cases e:fnd Dw.id m.decls ow.id with
     | none=>rw [e] at hd1;cases hd1
     | some x=>rw [e] at hd1;exact ⟨x,rfl,Option.some.inj hd1⟩
    have hxi:x.id=j:=by rw [← hoj];exact (fnd_key hx).1
    refine fin rfl ?_ (oneD_any 9 _ (.inr (.inr (.inr ⟨rfl,rfl⟩))) w0 w L g cap pack ⟨#[]⟩ (some ⟨ob,oo,none⟩) (some ⟨nb,no,none⟩) 1 oc 1 nc mb i s9 ⟨m.label,m.uses,(m.decls.set (idxK Dw.id ltI m.decls ow.id) (⟨x.id,nw.kind,nw.pub,x.na,x.names,x.ncap,nw.doubt,x.body⟩:Dw)).map Dw.x⟩ h hA hn hi hil hfs _ him rfl
     (fun V hb=>by
      have hc:=chg9_any w0 V L g cap i pack ⟨#[]⟩ ob oo oc ow nb no nc nw x s9 hil (h.below hb) he ((hb.block _ (row_lt heff.eff.c9)).trans heff.eff.c9) (hso s9 (by simp)) (by rw [hLm];exact hAd) (by rw [hLm];exact hx) (by rw [menW_x,e6,hxx];show hedD d.id d.hd=_;rw [hd2,← hxx,show x.x.id=x.id from rfl,hxi]) (hcn x (fnd_key hx).2) (by rw [hLm];exact hdl) (by rw [hLm];exact hid) (by rw [hoj];exact hvl.1)
      rw [hLm] at hc
      exact hc))
    have e8:fndD m.x.decls j=some x.x:=by rw [hfd,← hoj,hx];rfl
    show Mx.mk m.label m.uses _=Mx.mk m.label m.uses (oneD m.x.decls j (.hed o n))
    simp only [oneD,e8]
    rw [show m.x.decls=m.decls.map Dw.x from rfl,idx_mapK dx_id,hoj,List.map_set,← hnn]
    rfl
end Go.Proofs.YtgcceepadlmelaaGreatDoor
