import Derived.Test.YtgcceepadlmelaaGreatDoorEdMove
import Derived.Test.YtgcceepadlmelaaGreatDoorQAA
namespace Go.Proofs.YtgcceepadlmelaaGreatDoor
set_option maxRecDepth 100000
set_option maxHeartbeats 8000000
open Go.RowKit
theorem kla_row {w W:World} {ao:Option Addr} {n cap j:Nat} {L:List Kw} (h:KLA w ao n cap L) (hb:Below w.heap.size w W) (hj:j<n):∃ b o m,ao=some ⟨b,o,none⟩∧b<w.heap.size∧L[j]?=some m∧m∈L∧KwA W m∧(∀ i u,(kce m)[i]?=some u→i<5→W.cell? ⟨b,o+(j*5+i),none⟩=some u):=by
 have hjl:j<L.length:=by rw [h.len];exact hj
 obtain ⟨b,o,e,hbz,hc⟩:=h.sl.at_ (k:=j) hj
 refine ⟨b,o,L[j],e,hbz,List.getElem?_eq_getElem hjl,List.getElem_mem hjl,(h.el _ (List.getElem_mem hjl)).below hb,fun i u hu hi=>?_⟩
 rw [bc hb hbz _]
 exact hc _ u (by rw [kcs_cell hjl hi];exact hu)
theorem pcheck_any (ao:Option Addr) (n cap:Nat) (K:List Kw) (i:Nat) (w:World) (h:KLA w ao n cap K) (hi:i<n) (hv:∀ x∈K,FitK x∧TestK x):Calls Tryz.prog 30 #[.slice ao n cap,.int .i64 i] w fun r w'=>r=.returned (.int .i64 0)∧Below w.heap.size w w':=by
 have HK:=lid h
 have HV:=lid hv
 have hc63:cap≤9223372036854775807:=h.max
 have hnc:n≤cap:=h.le
 clear h hv
 have d1:decide ((i:Int)<0)=false:=by simp
 have d2:decide ((n:Int)≤(i:Int))=false:=by simp;omega
 have d2':decide (n≤i)=false:=by simp;omega
 go_enter Tryz.func30,Tryz.ntmps30
 go_wp2_with fail
 go_loopw [10] (fun u10 wr=>∃ j:Nat,j≤n∧u10=.int .i64 j∧Hid (Below w.heap.size w wr)) (fun u10 _=>n-(intOf u10).toNat)
 case atStart=>exact ⟨0,Nat.zero_le _,rfl,lid (Below.refl _ _)⟩
 case round =>
  obtain ⟨j,hj,rfl,HBR⟩:=hrel
  by_cases hjn:j<n
  ·obtain ⟨b,o,m,rfl,hbz,hat,hmem,hMA,hcm⟩:=kla_row HK.out HBR.out hjn
   have y0:wr.cell? ⟨b,o+j*5,none⟩=some (.int .i64 m.kind):=by have:=hcm 0 _ rfl (by omega);exact this
   have y1:wr.cell? ⟨b,o+j*5+1,none⟩=some (.string m.pack):=by have:=hcm 1 _ rfl (by omega);rwa [← Nat.add_assoc] at this
   have y2:wr.cell? ⟨b,o+j*5+2,none⟩=some (.string m.text):=by have:=hcm 2 _ rfl (by omega);rwa [← Nat.add_assoc] at this
   have y3:wr.cell? ⟨b,o+j*5+3,none⟩=some (.slice m.oa m.old.length m.ocap):=by have:=hcm 3 _ rfl (by omega);rwa [← Nat.add_assoc] at this
   have y4:wr.cell? ⟨b,o+j*5+4,none⟩=some (.slice m.na m.new.length m.ncap):=by have:=hcm 4 _ rfl (by omega);rwa [← Nat.add_assoc] at this
   have hbz2:b<wr.heap.size:=Nat.lt_of_lt_of_le hbz HBR.out.size
   obtain ⟨X,hX⟩:∃ X,wr.alloc (.cells #[.int .i64 m.kind,.string m.pack,.string m.text,.slice m.oa m.old.length m.ocap,.slice m.na m.new.length m.ncap] 52)=X:=⟨_,rfl⟩
   have hbX:Below wr.heap.size wr X:=by rw [← hX];exact ba _ _
   have CK:=lid (EdCheck_any m X (hMA.below hbX) (HV.out m hmem).1 (HV.out m hmem).2)
   have HX:=lid hX
   have HBX:=lid (HBR.out.trans (hbX.mono HBR.out.size))
   clear hcm hX hbX hMA hat hmem
   go_wp2_with fail
   rw [HX.out]
   (with_reducible refine (CK.out).mono ?_);rintro e w4 ⟨rfl,hb4⟩
   have HB4:=lid (HBX.out.trans (hb4.mono HBX.out.size))
   clear hb4 y0 y1 y2 y3 y4 CK
   go_wp2_with fail
   go_roundw
   case measure=>simp only [intOf];omega
   case rel=>exact ⟨j+1,by omega,by simp,HB4⟩
  ·obtain rfl:j=n:=by omega
   clear hjn
   go_wp2_with fail
   go_ret
   exact ⟨rfl,HBR.out⟩
end Go.Proofs.YtgcceepadlmelaaGreatDoor
namespace Go.Proofs.YtgcceepadlmelaaGreatDoor
def idX (l:List Dx):Int:=match l with | d::_=>d.id | []=>0
def conC (k:Kc):Con :=
 if k.kind=3∨k.kind=4 then (k.text,0,0) else if k.kind=5 then (⟨#[]⟩,idX k.new,0) else if k.kind=6 then (⟨#[]⟩,idX k.old,0) else if 7≤k.kind then (⟨#[]⟩,idX k.old,k.kind) else (⟨#[]⟩,0,0)
theorem idL_x (l:List Dw):idL l=idX (l.map Dw.x):=by cases l <;> rfl
theorem con_x (k:Kw):conK k=conC k.x:=by
 unfold conK conC
 rw [idL_x,idL_x]
 rfl
def Ac.con:Ac→Con
 | .add=>zCon
 | .rem=>zCon
 | .mod (.use u _)=>(u,0,0)
 | .mod (.dec i a)=>(⟨#[]⟩,i,a.part)
theorem con_ed {e:Ed} (h:e.fit):conC e.k=e.a.con:=by
 obtain ⟨l,a⟩:=e
 cases a with
 | add=>rfl
 | rem=>rfl
 | mod m =>
  cases m with
  | use u n=>cases n <;> rfl
  | dec i a =>
   have hf:a.fit i:=h _ rfl
   cases a with
   | add d=>have:d.id=i:=hf;rw [← this];rfl
   | rem d=>have:d.id=i:=hf;rw [← this];rfl
   | nam o n=>rfl
   | bod o n=>rfl
   | hed o n=>rfl
def Ed.named (e:Ed):Prop:=match e.a with
 | .mod (.use u _)=>u≠⟨#[]⟩
 | .mod (.dec i _)=>1≤i
 | _=>True
theorem ind_ed {e f:Ed} (he:e.fit) (hf:f.fit) (ne:e.named) (nf:f.named):(if e.l≠f.l then true else indC (conC e.k) (conC f.k))=true↔e.ind f:=by
 rw [con_ed he,con_ed hf]
 unfold Ed.ind
 by_cases hl:e.l=f.l
 case neg=>simp [hl]
 rw [if_neg (by simp [hl])]
 obtain ⟨l,a⟩:=e
 obtain ⟨l',b⟩:=f
 simp only at hl
 cases a with
 | add=>simp [Ac.con,indC,hl]
 | rem=>simp [Ac.con,indC,hl]
 | mod m =>
  cases b with
  | add=>simp [Ac.con,indC,hl]
  | rem=>simp [Ac.con,indC,hl]
  | mod m' =>
   cases m with
   | use u n =>
    have nu:u≠⟨#[]⟩:=ne
    cases m' with
    | use v n' =>
     have nv:v≠⟨#[]⟩:=nf
     by_cases huv:u=v <;> simp [Ac.con,indC,hl,zCon,MA.ind,nu,nv,huv]
    | dec j c =>
     have nj:1≤j:=nf
     have:¬ j=0:=by omega
     have:¬ 0=j:=by omega
     simp [Ac.con,indC,zCon,MA.ind, *]
   | dec i c =>
    have ni:1≤i:=ne
    have:¬ i=0:=by omega
    have:¬ 0=i:=by omega
    cases m' with
    | use v n' =>
     have nv:v≠⟨#[]⟩:=nf
     simp [Ac.con,indC,zCon,MA.ind, *]
    | dec j d =>
     have nj:1≤j:=nf
     have:¬ j=0:=by omega
     by_cases hij:i=j
     ·subst hij
      by_cases hp:c.part=d.part
      ·simp [Ac.con,indC,zCon,MA.ind, *]
      ·simp [Ac.con,indC,zCon,MA.ind, *]
       exact decide_eq_true_iff
     ·simp [Ac.con,indC,zCon,MA.ind, *]
end Go.Proofs.YtgcceepadlmelaaGreatDoor
namespace Go.Proofs.YtgcceepadlmelaaGreatDoor
theorem map_split {A B C:Type} {f:A→C} {g:B→C} {p q:List A} {a b:A} {E:List B} (h:(p++a::b::q).map f=E.map g):∃ pe qe ea eb,E=pe++ea::eb::qe∧p.map f=pe.map g∧f a=g ea∧f b=g eb∧q.map f=qe.map g:=by
 induction p generalizing E with
 | nil =>
  cases E with
  | nil=>simp at h
  | cons ea E =>
   cases E with
   | nil=>simp at h
   | cons eb E =>
    simp only [List.nil_append,List.map_cons,List.cons.injEq] at h
    exact ⟨[],E,ea,eb,rfl,rfl,h.1,h.2.1,h.2.2⟩
 | cons x p ih =>
  cases E with
  | nil=>simp at h
  | cons e E =>
   simp only [List.cons_append,List.map_cons,List.cons.injEq] at h
   obtain ⟨pe,qe,ea,eb,rfl,h1,h2,h3,h4⟩:=ih h.2
   exact ⟨e::pe,qe,ea,eb,rfl,by simp [h.1,h1],h2,h3,h4⟩
theorem indK_c (a b:Kw):indK a b=if a.x.pack≠b.x.pack then true else indC (conC a.x) (conC b.x):=by
 unfold indK
 rw [con_x,con_x]
 rfl
theorem k_pack (e:Ed) (h:e.fit):e.k.pack=e.l:=by
 obtain ⟨l,a⟩:=e
 cases a with
 | add=>rfl
 | rem=>rfl
 | mod m =>
  cases m with
  | use u n=>cases n <;> rfl
  | dec i a=>cases a <;> rfl
theorem sw_lead {K L:List Kw} (h:Sw K L) {E:List Ed} {S T:St} (hE:K.map Kw.x=E.map Ed.k) (hf:∀ e∈E,e.fit∧e.named) (ha:apL E S T):∃ E',L.map Kw.x=E'.map Ed.k∧(∀ e∈E',e∈E)∧apL E' S T:=by
 induction h with
 | refl=>exact ⟨E,hE,fun _ h=>h,ha⟩
 | step _ hi ih =>
  obtain ⟨E',h1,h2,h3⟩:=ih
  obtain ⟨pe,qe,ea,eb,rfl,g1,g2,g3,g4⟩:=map_split h1
  have fa:=hf ea (h2 _ (by simp))
  have fb:=hf eb (h2 _ (by simp))
  rw [indK_c,g2,g3,k_pack _ fa.1,k_pack _ fb.1] at hi
  have hind:=(ind_ed fa.1 fb.1 fa.2 fb.2).1 hi
  refine ⟨pe++eb::ea::qe,by simp [g1,g2,g3,g4],fun e he=>h2 e (by simp only [List.mem_append,List.mem_cons] at he ⊢;rcases he with h | h | h | h <;> simp [h]),?_⟩
  exact apL_swap hind h3
end Go.Proofs.YtgcceepadlmelaaGreatDoor
namespace Go.Proofs.YtgcceepadlmelaaGreatDoor
theorem mem_flatE {f:Option Mx→Option Mx→List Ac} {P:List PrM} {e:Ed}:e∈flatE f P↔∃ p∈P,∃ ac∈f p.2.1 p.2.2,Ed.mk p.1 ac=e:=by
 unfold flatE
 rw [List.mem_flatMap]
 constructor
 ·rintro ⟨p,hp,he⟩
  obtain ⟨ac,h1,h2⟩:=List.mem_map.1 he
  exact ⟨p,hp,ac,h1,h2⟩
 ·rintro ⟨p,hp,ac,h1,h2⟩
  exact ⟨p,hp,List.mem_map.2 ⟨ac,h1,h2⟩⟩
theorem mem_parts {x y:Dx} {c:DA} (h:c∈partsE x y) (i:Int):c.fit i:=by
 unfold partsE at h
 rcases List.mem_append.1 h with h | h
 ·rcases List.mem_append.1 h with h | h
  ·split at h
   ·cases h
   ·rw [List.mem_singleton.1 h];trivial
  ·split at h
   ·cases h
   ·rw [List.mem_singleton.1 h];trivial
 ·split at h
  ·cases h
  ·rw [List.mem_singleton.1 h];trivial
theorem mem_declE:∀ {a b:List Dx} {m:MA},m∈declE a b→∃ i c,m=.dec i c∧c.fit i∧((∃ x∈a,x.id=i)∨∃ y∈b,y.id=i)
 | [],[],m,h=>by rw [declE] at h;cases h
 | x::a,[],m,h=>by
  rw [declE] at h
  rcases List.mem_cons.1 h with rfl | h
  ·exact ⟨_,_,rfl,rfl,.inl ⟨x,by simp,rfl⟩⟩
  ·obtain ⟨i,c,h1,h2,h3⟩:=mem_declE h
   exact ⟨i,c,h1,h2,h3.imp (fun ⟨z,hz,e⟩=>⟨z,List.mem_cons_of_mem _ hz,e⟩) id⟩
 | [],y::b,m,h=>by
  rw [declE] at h
  rcases List.mem_cons.1 h with rfl | h
  ·exact ⟨_,_,rfl,rfl,.inr ⟨y,by simp,rfl⟩⟩
  ·obtain ⟨i,c,h1,h2,h3⟩:=mem_declE h
   exact ⟨i,c,h1,h2,h3.imp id (fun ⟨z,hz,e⟩=>⟨z,List.mem_cons_of_mem _ hz,e⟩)⟩
 | x::a,y::b,m,h=>by
  rw [declE] at h
  split at h
  ·rcases List.mem_cons.1 h with rfl | h
   ·exact ⟨_,_,rfl,rfl,.inl ⟨x,by simp,rfl⟩⟩
   ·obtain ⟨i,c,h1,h2,h3⟩:=mem_declE h
    exact ⟨i,c,h1,h2,h3.imp (fun ⟨z,hz,e⟩=>⟨z,List.mem_cons_of_mem _ hz,e⟩) id⟩
  ·split at h
   ·rcases List.mem_cons.1 h with rfl | h
    ·exact ⟨_,_,rfl,rfl,.inr ⟨y,by simp,rfl⟩⟩
    ·obtain ⟨i,c,h1,h2,h3⟩:=mem_declE h
     exact ⟨i,c,h1,h2,h3.imp id (fun ⟨z,hz,e⟩=>⟨z,List.mem_cons_of_mem _ hz,e⟩)⟩
   ·rcases List.mem_append.1 h with h | h
    ·obtain ⟨c,hc,rfl⟩:=List.mem_map.1 h
     exact ⟨_,_,rfl,mem_parts hc _,.inl ⟨x,by simp,rfl⟩⟩
    ·obtain ⟨i,c,h1,h2,h3⟩:=mem_declE h
     exact ⟨i,c,h1,h2,h3.imp (fun ⟨z,hz,e⟩=>⟨z,List.mem_cons_of_mem _ hz,e⟩) (fun ⟨z,hz,e⟩=>⟨z,List.mem_cons_of_mem _ hz,e⟩)⟩
termination_by a b=>a.length+b.length
end Go.Proofs.YtgcceepadlmelaaGreatDoor
namespace Go.Proofs.YtgcceepadlmelaaGreatDoor
theorem nodup_flatE {f:Option Mx→Option Mx→List Ac}:∀ {P:List PrM},P.Pairwise (fun p q=>ltL p.1 q.1=true)→(∀ p∈P,(f p.2.1 p.2.2).Nodup)→(flatE f P).Nodup
 | [],_,_=>List.nodup_nil
 | p::P,hp,hf=>by
  rw [List.pairwise_cons] at hp
  show (((f p.2.1 p.2.2).map (Ed.mk p.1))++flatE f P).Nodup
  rw [List.nodup_append]
  refine ⟨?_,nodup_flatE hp.2 (fun q hq=>hf q (List.mem_cons_of_mem _ hq)),fun e he e' he' ee=>?_⟩
  ·have:=hf p (List.mem_cons_self ..)
   unfold List.Nodup at this ⊢
   rw [List.pairwise_map]
   exact this.imp fun h e=>h (by injection e)
  ·subst ee
   obtain ⟨ac,_,rfl⟩:=List.mem_map.1 he
   obtain ⟨q,hq,ac',_,e2⟩:=mem_flatE.1 he'
   injection e2 with e2
   have:=hp.1 q hq
   rw [← e2,ltL_k.irr] at this
   cases this
theorem nodup_useE {n:Bool} {X Y:List ByteArray} (h:X.Nodup):((useE n X Y).map Ac.mod).Nodup:=by
 unfold useE
 have h2:=List.Nodup.sublist (List.filter_sublist (p:=fun u=>!(fndU Y u).isSome)) h
 unfold List.Nodup at h2 ⊢
 rw [List.pairwise_map,List.pairwise_map]
 exact h2.imp fun h e=>h (by injection e with e;injection e)
theorem nodup_parts (x y:Dx):(partsE x y).Nodup:=by
 unfold partsE
 rw [List.nodup_append,List.nodup_append]
 refine ⟨⟨?_,?_,?_⟩,?_,?_⟩
 ·split <;> simp
 ·split <;> simp
 ·intro c hc d hd e
  subst e
  split at hc <;> split at hd <;> simp at hc hd
  rw [hc] at hd
  cases hd
 ·split <;> simp
 ·intro c hc d hd e
  subst e
  rcases List.mem_append.1 hc with hc | hc
  ·split at hc <;> split at hd <;> simp at hc hd
   rw [hc] at hd
   cases hd
  ·split at hc <;> split at hd <;> simp at hc hd
   rw [hc] at hd
   cases hd
theorem ascD_cons {x:Dx} {l:List Dx} (h:AscD (x::l)):(∀ y∈l,x.id<y.id)∧AscD l:=by
 have:=List.pairwise_cons.1 h
 exact ⟨fun y hy=>by have:=this.1 y hy;simpa [ltI] using this,this.2⟩
theorem not_mem_declE {a b:List Dx} {i:Int} {c:DA} (ha:∀ y∈a,i<y.id) (hb:∀ y∈b,i<y.id):MA.dec i c∉declE a b:=fun h=>by
 obtain ⟨j,d,e,-,h3⟩:=mem_declE h
 injection e with e
 subst e
 rcases h3 with ⟨y,hy,e⟩ | ⟨y,hy,e⟩
 ·have:=ha y hy;omega
 ·have:=hb y hy;omega
theorem nodup_declE:∀ {a b:List Dx},AscD a→AscD b→(declE a b).Nodup
 | [],[],_,_=>by rw [declE];exact List.nodup_nil
 | x::a,[],ha,hb=>by
  rw [declE,List.nodup_cons]
  obtain ⟨h1,h2⟩:=ascD_cons ha
  exact ⟨not_mem_declE h1 (fun _ h=>by cases h),nodup_declE h2 hb⟩
 | [],y::b,ha,hb=>by
  rw [declE,List.nodup_cons]
  obtain ⟨h1,h2⟩:=ascD_cons hb
  exact ⟨not_mem_declE (fun _ h=>by cases h) h1,nodup_declE ha h2⟩
 | x::a,y::b,ha,hb=>by
  obtain ⟨h1,h2⟩:=ascD_cons ha
  obtain ⟨h3,h4⟩:=ascD_cons hb
  rw [declE]
  split
  ·rename_i hlt
   rw [List.nodup_cons]
   refine ⟨not_mem_declE h1 (fun z hz=>?_),nodup_declE h2 hb⟩
   rcases List.mem_cons.1 hz with rfl | hz
   ·exact hlt
   ·have:=h3 z hz;omega
  ·split
   ·rename_i hgt
    rw [List.nodup_cons]
    refine ⟨not_mem_declE (fun z hz=>?_) h3,nodup_declE ha h4⟩
    rcases List.mem_cons.1 hz with rfl | hz
    ·exact hgt
    ·have:=h1 z hz;omega
   ·rename_i n1 n2
    rw [List.nodup_append]
    refine ⟨?_,nodup_declE h2 h4,fun m hm m' hm' e=>?_⟩
    ·have:=nodup_parts x y
     unfold List.Nodup at this ⊢
     rw [List.pairwise_map]
     exact this.imp fun h e=>h (by injection e)
    ·subst e
     obtain ⟨c,_,rfl⟩:=List.mem_map.1 hm
     exact not_mem_declE h1 (fun z hz=>by have:=h3 z hz;omega) hm'
termination_by a b=>a.length+b.length
def shpA:Ac→Nat
 | .add=>1
 | .mod (.use _ true)=>2
 | .mod (.dec _ _)=>3
 | .mod (.use _ false)=>4
 | .rem=>5
theorem shp_flat {f:Option Mx→Option Mx→List Ac} {n:Nat} (h:∀ A B,∀ c∈f A B,shpA c=n) {P:List PrM}:∀ e∈flatE f P,shpA e.a=n:=fun e he=>by
 obtain ⟨p,_,c,hc,rfl⟩:=mem_flatE.1 he
 exact h _ _ c hc
theorem nod_app {l m:List Ed} {n:Nat} (hl:l.Nodup) (hm:m.Nodup) (h1:∀ e∈l,shpA e.a=n) (h2:∀ e∈m,n<shpA e.a):(l++m).Nodup:=by
 rw [List.nodup_append]
 refine ⟨hl,hm,fun e he e' he' ee=>?_⟩
 subst ee
 have:=h1 e he
 have:=h2 e he'
 omega
theorem diff_nodup {a b:List Mx} (ha:OkL a) (hb:OkL b):(diffE a b).Nodup:=by
 have hP:=pairs_ok a b ha.asc hb.asc
 have s1:∀ A B,∀ c∈ph1 A B,shpA c=1:=fun A B c hc=>by
  unfold ph1 at hc
  split at hc
  ·cases hc
  ·rw [List.mem_singleton.1 hc];rfl
 have s2:∀ A B,∀ c∈ph2 A B,shpA c=2:=fun A B c hc=>by
  obtain ⟨m,hm,rfl⟩:=List.mem_map.1 hc
  obtain ⟨u,_,rfl⟩:=List.mem_map.1 hm
  rfl
 have s3:∀ A B,∀ c∈ph3 A B,shpA c=3:=fun A B c hc=>by
  obtain ⟨m,hm,rfl⟩:=List.mem_map.1 hc
  obtain ⟨i,d,rfl,_,_⟩:=mem_declE hm
  rfl
 have s4:∀ A B,∀ c∈ph4 A B,shpA c=4:=fun A B c hc=>by
  obtain ⟨m,hm,rfl⟩:=List.mem_map.1 hc
  obtain ⟨u,_,rfl⟩:=List.mem_map.1 hm
  rfl
 have s5:∀ A B,∀ c∈ph5 A B,shpA c=5:=fun A B c hc=>by
  unfold ph5 at hc
  split at hc
  ·cases hc
  ·rw [List.mem_singleton.1 hc];rfl
 have uA:∀ p∈pairsM a b,AscU (uO p.2.1)∧AscD (dO p.2.1):=fun p hp=>by rw [(hP.at_ p hp).1];exact asc_uO ha _
 have uB:∀ p∈pairsM a b,AscU (uO p.2.2)∧AscD (dO p.2.2):=fun p hp=>by rw [(hP.at_ p hp).2.1];exact asc_uO hb _
 have n1:(flatE ph1 (pairsM a b)).Nodup:=nodup_flatE hP.asc (fun p hp=>by unfold ph1;split <;> simp)
 have n2:(flatE ph2 (pairsM a b)).Nodup:=nodup_flatE hP.asc (fun p hp=>nodup_useE (ascU_nodup (uB p hp).1))
 have n3:(flatE ph3 (pairsM a b)).Nodup:=nodup_flatE hP.asc (fun p hp=>by
  have:=nodup_declE (uA p hp).2 (uB p hp).2
  unfold ph3
  unfold List.Nodup at this ⊢
  rw [List.pairwise_map]
  exact this.imp fun h e=>h (by injection e))
 have n4:(flatE ph4 (pairsM a b)).Nodup:=nodup_flatE hP.asc (fun p hp=>nodup_useE (ascU_nodup (uA p hp).1))
 have n5:(flatE ph5 (pairsM a b)).Nodup:=nodup_flatE hP.asc (fun p hp=>by unfold ph5;split <;> simp)
 have g5:=shp_flat s5 (P:=pairsM a b)
 have g4:=shp_flat s4 (P:=pairsM a b)
 have g3:=shp_flat s3 (P:=pairsM a b)
 have g2:=shp_flat s2 (P:=pairsM a b)
 unfold diffE
 have m4:=nod_app n4 n5 g4 (fun e he=>by rw [g5 e he];omega)
 have m3:=nod_app n3 m4 g3 (fun e he=>by
  rcases List.mem_append.1 he with he | he
  ·rw [g4 e he];omega
  ·rw [g5 e he];omega)
 have m2:=nod_app n2 m3 g2 (fun e he=>by
  rcases List.mem_append.1 he with he | he
  ·rw [g3 e he];omega
  rcases List.mem_append.1 he with he | he
  ·rw [g4 e he];omega
  ·rw [g5 e he];omega)
 exact nod_app n1 m2 (shp_flat s1) (fun e he=>by
  rcases List.mem_append.1 he with he | he
  ·rw [g2 e he];omega
  rcases List.mem_append.1 he with he | he
  ·rw [g3 e he];omega
  rcases List.mem_append.1 he with he | he
  ·rw [g4 e he];omega
  ·rw [g5 e he];omega)
theorem da_inj {l:ByteArray} {i j:Int} {c d:DA} (hc:c.fit i) (hd:d.fit j) (h:daK l i c=daK l j d):i=j∧c=d:=by
 cases c <;> cases d <;> simp [daK,namD,bodD,hedD] at h <;> simp [DA.fit] at hc hd
 ·rw [← hc,← hd,h];exact ⟨rfl,rfl⟩
 ·rw [← hc,← hd,h];exact ⟨rfl,rfl⟩
 ·exact ⟨h.1.1,by rw [h.1.2,h.2.2]⟩
 ·exact ⟨h.1.1,by rw [h.1.2,h.2.2]⟩
 ·refine ⟨h.1.1,?_⟩
  rename_i a b c d
  obtain ⟨a1,a2,a3⟩:=a
  obtain ⟨b1,b2,b3⟩:=b
  obtain ⟨c1,c2,c3⟩:=c
  obtain ⟨d1,d2,d3⟩:=d
  simp at h
  simp [h]
theorem k_inj {e f:Ed} (he:e.fit) (hf:f.fit) (h:e.k=f.k):e=f:=by
 have hl:e.l=f.l:=by rw [← k_pack e he,← k_pack f hf,h]
 obtain ⟨l,a⟩:=e
 obtain ⟨l',b⟩:=f
 simp only at hl
 subst hl
 have hda:∀ {i c},a=.mod (.dec i c)→c.fit i:=fun e=>he _ e
 have hdb:∀ {i c},b=.mod (.dec i c)→c.fit i:=fun e=>hf _ e
 cases a with
 | add=>cases b with
  | add=>rfl
  | rem=>simp [Ed.k] at h
  | mod m=>cases m with
   | use u n=>cases n <;> simp [Ed.k,maK] at h
   | dec i c=>cases c <;> simp [Ed.k,maK,daK] at h
 | rem=>cases b with
  | add=>simp [Ed.k] at h
  | rem=>rfl
  | mod m=>cases m with
   | use u n=>cases n <;> simp [Ed.k,maK] at h
   | dec i c=>cases c <;> simp [Ed.k,maK,daK] at h
 | mod m=>cases m with
  | use u n=>cases b with
   | add=>cases n <;> simp [Ed.k,maK] at h
   | rem=>cases n <;> simp [Ed.k,maK] at h
   | mod m'=>cases m' with
    | use v n'=>cases n <;> cases n' <;> simp [Ed.k,maK] at h <;> rw [h]
    | dec i c=>cases n <;> cases c <;> simp [Ed.k,maK,daK] at h
  | dec i c=>cases b with
   | add=>cases c <;> simp [Ed.k,maK,daK] at h
   | rem=>cases c <;> simp [Ed.k,maK,daK] at h
   | mod m'=>cases m' with
    | use v n'=>cases n' <;> cases c <;> simp [Ed.k,maK,daK] at h
    | dec j d =>
     obtain ⟨h1,h2⟩:=da_inj (hda rfl) (hdb rfl) (show daK l i c=daK l j d from h)
     rw [h1,h2]
end Go.Proofs.YtgcceepadlmelaaGreatDoor
namespace Go.Proofs.YtgcceepadlmelaaGreatDoor
section
set_option linter.unusedSectionVars false
variable {α κ:Type} [DecidableEq κ] {k:α→κ} {lt:κ→κ→Bool}
theorem idxK_eq:∀ {l:List α} {y:κ} {i:Nat},i≤l.length→(∀ t (h:t<l.length),t<i→lt (k l[t]) y=true)→(∀ h:i<l.length,lt (k l[i]) y=false)→idxK k lt l y=i
 | [],y,i,hi,_,_=>by simp at hi;subst hi;rfl
 | a::l,y,0,_,_,h2=>by
  have:=h2 (by simp)
  simp only [List.getElem_cons_zero] at this
  unfold idxK
  rw [List.takeWhile_cons_of_neg (by simp [this])]
  rfl
 | a::l,y,i+1,hi,h1,h2=>by
  have h0:=h1 0 (by simp) (by omega)
  simp only [List.getElem_cons_zero] at h0
  have ih:=idxK_eq (l:=l) (y:=y) (i:=i) (by simpa using hi) (fun t ht hlt=>by have:=h1 (t+1) (by simp;omega) (by omega);simpa using this) (fun h=>by have:=h2 (by simp;omega);simpa using this)
  unfold idxK at ih ⊢
  rw [List.takeWhile_cons_of_pos (by simpa using h0),List.length_cons,ih]
def BsK (k:α→κ) (lt:κ→κ→Bool) (l:List α) (y:κ) (a b:Nat):Prop:=(∀ t (h:t<l.length),t<a→lt (k l[t]) y=true)∧∀ h:b<l.length,lt (k l[b]) y=false
theorem BsK.done {l:List α} {y:κ} {a:Nat} (h:BsK k lt l y a a) (ha:a≤l.length):idxK k lt l y=a:=idxK_eq ha h.1 h.2
theorem BsK.up (hl:LtK lt) {l:List α} (hA:AscK k lt l) {y:κ} {a b m:Nat} (h:BsK k lt l y a b) (hm:m<l.length) (hp:lt (k l[m]) y=true):BsK k lt l y (m+1) b:=by
 refine ⟨fun t ht hlt=>?_,h.2⟩
 rcases Nat.lt_or_ge t m with g | g
 ·exact hl.tr (List.pairwise_iff_getElem.1 hA t m ht hm g) hp
 ·obtain rfl:t=m:=by omega
  exact hp
theorem BsK.down {l:List α} {y:κ} {a b m:Nat} (h:BsK k lt l y a b) (hp:∀ h:m<l.length,lt (k l[m]) y=false):BsK k lt l y a m:=⟨h.1,hp⟩
end
end Go.Proofs.YtgcceepadlmelaaGreatDoor
namespace Go.Proofs.YtgcceepadlmelaaGreatDoor
set_option maxRecDepth 100000
set_option maxHeartbeats 8000000
open Go.RowKit
theorem find1_any (d:Dw) (i:Int) (w:World) (h1:1≤d.id∧d.id≤999999) (h2:1≤i∧i≤999999):Calls Tryz.prog 74 #[.agg (dca d),.int .i64 i] w fun r w'=>r=.returned (.int .i64 (d.id-i))∧Below w.heap.size w w':=by
 have HB:=lid (ba w (.cells (dca d) 65))
 have hr1:-9223372036854775808≤d.id-i:=by omega
 have hr2:d.id-i≤9223372036854775807:=by omega
 go_enter Tryz.func74,Tryz.ntmps74
 go_wp2_with fail
 go_ret
 exact ⟨rfl,HB.out⟩
theorem dla_row {w W:World} {ao:Option Addr} {n cap j:Nat} {L:List Dw} (h:DLA w ao n cap L) (hb:Below w.heap.size w W) (hj:j<n) (hjl:j<L.length):∃ b o,ao=some ⟨b,o,none⟩∧b<W.heap.size∧(∀ i u,(dce L[j])[i]?=some u→i<11→W.cell? ⟨b,o+(j*11+i),none⟩=some u):=by
 obtain ⟨b,o,e,hbz,hc⟩:=h.sl.at_ (k:=j) hj
 refine ⟨b,o,e,Nat.lt_of_lt_of_le hbz hb.size,fun i u hu hi=>?_⟩
 rw [bc hb hbz _]
 exact hc _ u (by rw [dcs_cell hjl hi];exact hu)
theorem bsD_any (L:List Dw) (i:Int) (n cap:Nat) (ao:Option Addr) (w:World) (h:DLA w ao n cap L) (hA:AscK Dw.id ltI L) (hm1:n≤100000) (hid:∀ d∈L,1≤d.id∧d.id≤999999) (hi:1≤i∧i≤999999) :
  Calls Tryz.prog 73 #[.slice ao n cap,.int .i64 i,.func (.func 74) #[] #[]] w fun e w'=>e=.returned (.tuple #[.int .i64 (idxK Dw.id ltI L i),.bool (fnd Dw.id L i).isSome])∧Below w.heap.size w w':=by
 have HN:=lid h.len
 have HA:=lid hA
 have HS:=lid h
 have HID:=lid hid
 have HII:=lid hi
 clear h hA hid hi
 go_enter Tryz.func73,Tryz.ntmps73
 go_wp2_with fail
 go_loopw [9,10] (fun u9 u10 wr=>∃ a b:Nat,a≤b∧b≤n∧u9=.int .i64 a∧u10=.int .i64 b∧Hid (BsK Dw.id ltI L i a b)∧Hid (Below w.heap.size w wr)) (fun u9 u10 _=>(intOf u10).toNat-(intOf u9).toNat)
 case atStart=>exact ⟨0,n,Nat.zero_le _,Nat.le_refl _,rfl,rfl,lid ⟨fun t _ ht=>by omega,fun h=>by rw [HN.out] at h;omega⟩,lid (Below.refl _ _)⟩
 case round =>
  obtain ⟨a,b,hab,hbn,rfl,rfl,HI,HB⟩:=hrel
  by_cases hlt:a<b
  ·have dk:decide ((a:Int)<(b:Int))=true:=by simp;omega
   obtain ⟨m,hm⟩:∃ m,(a+b) / 2=m:=⟨_,rfl⟩
   have hmi:((a:Int)+(b:Int)) / 2=(m:Int):=by omega
   have hma:a≤m:=by omega
   have hmb:m<b:=by omega
   have hmn:m<n:=by omega
   have hml:m<L.length:=by rw [HN.out];exact hmn
   obtain ⟨b1,o1,rfl,hlb1,hc1⟩:=dla_row HS.out HB.out hmn hml
   have HM:Hid (L[m].id-i<0→BsK Dw.id ltI L i (m+1) b):=lid (fun hq=>HI.out.up ltI_k HA.out hml (by unfold ltI;simp;omega))
   have HE:Hid (¬ L[m].id-i<0→BsK Dw.id ltI L i a m):=lid (fun hq=>HI.out.down (fun _=>by unfold ltI;simp;omega))
   have CF:=lid (fun W=>find1_any L[m] i W (HID.out _ (List.getElem_mem hml)) HII.out)
   obtain ⟨x,hx⟩:∃ x,L[m]=x:=⟨_,rfl⟩
   rw [hx] at HM HE CF hc1
   have x0:wr.cell? ⟨b1,o1+m*11,none⟩=some (.int .i64 x.id):=by have:=hc1 0 _ rfl (by omega);exact this
   have x1:wr.cell? ⟨b1,o1+m*11+1,none⟩=some (.int .i64 x.kind):=by have:=hc1 1 _ rfl (by omega);rwa [← Nat.add_assoc] at this
   have x2:wr.cell? ⟨b1,o1+m*11+2,none⟩=some (.bool x.pub):=by have:=hc1 2 _ rfl (by omega);rwa [← Nat.add_assoc] at this
   have x3:wr.cell? ⟨b1,o1+m*11+3,none⟩=some (.slice x.na x.names.length x.ncap):=by have:=hc1 3 _ rfl (by omega);rwa [← Nat.add_assoc] at this
   have x4:wr.cell? ⟨b1,o1+m*11+4,none⟩=some (.bool x.doubt):=by have:=hc1 4 _ rfl (by omega);rwa [← Nat.add_assoc] at this
   have x5:wr.cell? ⟨b1,o1+m*11+5,none⟩=some (.int .i64 x.body.kind):=by have:=hc1 5 _ rfl (by omega);rwa [← Nat.add_assoc] at this
   have x6:wr.cell? ⟨b1,o1+m*11+6,none⟩=some (.string x.body.name):=by have:=hc1 6 _ rfl (by omega);rwa [← Nat.add_assoc] at this
   have x7:wr.cell? ⟨b1,o1+m*11+7,none⟩=some (.string x.body.more):=by have:=hc1 7 _ rfl (by omega);rwa [← Nat.add_assoc] at this
   have x8:wr.cell? ⟨b1,o1+m*11+8,none⟩=some (.int .i64 x.body.int):=by have:=hc1 8 _ rfl (by omega);rwa [← Nat.add_assoc] at this
   have x9:wr.cell? ⟨b1,o1+m*11+9,none⟩=some (.int .i64 x.body.den):=by have:=hc1 9 _ rfl (by omega);rwa [← Nat.add_assoc] at this
   have x10:wr.cell? ⟨b1,o1+m*11+10,none⟩=some (.slice x.body.ao x.body.sub.length x.body.cap):=by have:=hc1 10 _ rfl (by omega);rwa [← Nat.add_assoc] at this
   obtain ⟨q,hq⟩:∃ q,x.id-i=q:=⟨_,rfl⟩
   rw [hq] at HM HE CF
   clear hc1 hx hq hml
   by_cases hc:q<0
   ·have u:=decide_eq_true hc
    have HV:=lid (HM.out hc)
    clear HM HE
    go_wp2_with fail
    (with_reducible refine (CF.out _).mono ?_);rintro e w2 ⟨rfl,hb2⟩
    have HB2:=lid (HB.out.trans (hb2.mono HB.out.size))
    clear hb2
    go_wp2_with fail
    go_roundw
    case rel=>exact ⟨m+1,b,by omega,by omega,by go_num,rfl,HV,HB2⟩
    case measure=>simp [intOf];omega
   ·have u:=decide_eq_false hc
    have HV:=lid (HE.out hc)
    clear HM HE
    go_wp2_with fail
    (with_reducible refine (CF.out _).mono ?_);rintro e w2 ⟨rfl,hb2⟩
    have HB2:=lid (HB.out.trans (hb2.mono HB.out.size))
    clear hb2
    go_wp2_with fail
    go_roundw
    case rel=>exact ⟨a,m,by omega,by omega,rfl,rfl,HV,HB2⟩
    case measure=>simp [intOf];omega
  ·obtain rfl:a=b:=by omega
   have dk:decide ((a:Int)<(a:Int))=false:=by simp
   have HIX:Hid (idxK Dw.id ltI L i=a):=lid (HI.out.done (by rw [HN.out];omega))
   have hg:=fnd_at ltI_k HA.out i
   by_cases han:a<n
   ·have hal:a<L.length:=by rw [HN.out];exact han
    simp only [HIX.out,hal,dif_pos] at hg
    obtain ⟨b1,o1,rfl,hlb1,hc1⟩:=dla_row HS.out HB.out han hal
    have CF:=lid (fun W=>find1_any L[a] i W (HID.out _ (List.getElem_mem hal)) HII.out)
    obtain ⟨x,hx⟩:∃ x,L[a]=x:=⟨_,rfl⟩
    rw [hx] at CF hc1 hg
    have x0:wr.cell? ⟨b1,o1+a*11,none⟩=some (.int .i64 x.id):=by have:=hc1 0 _ rfl (by omega);exact this
    have x1:wr.cell? ⟨b1,o1+a*11+1,none⟩=some (.int .i64 x.kind):=by have:=hc1 1 _ rfl (by omega);rwa [← Nat.add_assoc] at this
    have x2:wr.cell? ⟨b1,o1+a*11+2,none⟩=some (.bool x.pub):=by have:=hc1 2 _ rfl (by omega);rwa [← Nat.add_assoc] at this
    have x3:wr.cell? ⟨b1,o1+a*11+3,none⟩=some (.slice x.na x.names.length x.ncap):=by have:=hc1 3 _ rfl (by omega);rwa [← Nat.add_assoc] at this
    have x4:wr.cell? ⟨b1,o1+a*11+4,none⟩=some (.bool x.doubt):=by have:=hc1 4 _ rfl (by omega);rwa [← Nat.add_assoc] at this
    have x5:wr.cell? ⟨b1,o1+a*11+5,none⟩=some (.int .i64 x.body.kind):=by have:=hc1 5 _ rfl (by omega);rwa [← Nat.add_assoc] at this
    have x6:wr.cell? ⟨b1,o1+a*11+6,none⟩=some (.string x.body.name):=by have:=hc1 6 _ rfl (by omega);rwa [← Nat.add_assoc] at this
    have x7:wr.cell? ⟨b1,o1+a*11+7,none⟩=some (.string x.body.more):=by have:=hc1 7 _ rfl (by omega);rwa [← Nat.add_assoc] at this
    have x8:wr.cell? ⟨b1,o1+a*11+8,none⟩=some (.int .i64 x.body.int):=by have:=hc1 8 _ rfl (by omega);rwa [← Nat.add_assoc] at this
    have x9:wr.cell? ⟨b1,o1+a*11+9,none⟩=some (.int .i64 x.body.den):=by have:=hc1 9 _ rfl (by omega);rwa [← Nat.add_assoc] at this
    have x10:wr.cell? ⟨b1,o1+a*11+10,none⟩=some (.slice x.body.ao x.body.sub.length x.body.cap):=by have:=hc1 10 _ rfl (by omega);rwa [← Nat.add_assoc] at this
    have HU:Hid ((x.id-i == 0)=(fnd Dw.id L i).isSome):=lid (by
     rw [hg,Bool.eq_iff_iff,beq_iff_eq]
     by_cases e:x.id=i
     ·simp [e]
     ·simp [e];omega)
    obtain ⟨q,hq⟩:∃ q,x.id-i=q:=⟨_,rfl⟩
    rw [hq] at CF HU
    have da:decide ((a:Int)<(n:Int))=true:=by simp;omega
    clear hc1 hx hg hq
    go_wp2_with fail
    (with_reducible refine (CF.out _).mono ?_);rintro e w2 ⟨rfl,hb2⟩
    go_wp2_with fail
    go_ret2
    rw [HIX.out,← HU.out]
    exact ⟨rfl,HB.out.trans (hb2.mono HB.out.size)⟩
   ·obtain rfl:a=n:=by omega
    have hal:¬ a<L.length:=by rw [HN.out];omega
    simp only [HIX.out,hal,dif_neg,not_false_eq_true] at hg
    have HG:=lid hg
    clear hg
    go_wp2_with fail
    go_ret2
    rw [HIX.out,HG.out]
    exact ⟨rfl,HB.out⟩
theorem findDecl_any (L:List Dw) (i:Int) (n cap:Nat) (ao:Option Addr) (w:World) (h:DLA w ao n cap L) (hA:AscK Dw.id ltI L) (hm1:n≤100000) (hid:∀ d∈L,1≤d.id∧d.id≤999999) (hi:1≤i∧i≤999999) :
  Calls Tryz.prog 49 #[.slice ao n cap,.int .i64 i] w fun e w'=>e=.returned (.tuple #[.int .i64 (idxK Dw.id ltI L i),.bool (fnd Dw.id L i).isSome])∧Below w.heap.size w w':=by
 have CB:=lid (bsD_any L i n cap ao w h hA hm1 hid hi)
 clear h hA hid hi
 go_enter Tryz.func49,Tryz.ntmps49
 go_wp2_with fail
 (with_reducible refine (CB.out).mono ?_);rintro e w1 ⟨rfl,hb⟩
 go_wp2_with fail
 go_ret2
 exact ⟨rfl,hb⟩
end Go.Proofs.YtgcceepadlmelaaGreatDoor
namespace Go.Proofs.YtgcceepadlmelaaGreatDoor
set_option maxRecDepth 100000
open Go.RowKit
theorem nanC_fn (a:ByteArray) (w:World):Calls Tryz.prog 92 #[.string a] w fun r w'=>r=.returned (.bool false)∧w=w':=by
 go_enter Tryz.func92,Tryz.ntmps92
 go_wp2_with fail
 go_ret
 exact ⟨ret_bool (by simp),rfl⟩
theorem nanS_fn (a:ByteArray) (w:World):Calls Tryz.prog 70 #[.string a] w fun r w'=>r=.returned (.bool false)∧w=w':=by
 go_enter Tryz.func70,Tryz.ntmps70
 go_wp2_with fail
 go_ret
 exact ⟨ret_bool (by simp),rfl⟩
theorem less_fn (a b:ByteArray) (w:World):Calls Tryz.prog 69 #[.string a,.string b] w fun r w'=>r=.returned (.bool (ltL a b))∧w=w':=by
 have CN:=lid (fun x=>nanC_fn x w)
 have HL:Hid (Op.bytesLess a.toList b.toList=ltL a b):=lid (by rw [ByteArray.toList_eq,ByteArray.toList_eq];rfl)
 go_enter Tryz.func69,Tryz.ntmps69
 go_wp2_with fail
 (with_reducible refine ((CN.out a)).mono ?_);rintro e w1 ⟨rfl,rfl⟩
 go_wp2_with fail
 go_ret
 exact ⟨ret_bool HL.out,rfl⟩
end Go.Proofs.YtgcceepadlmelaaGreatDoor
namespace Go.Proofs.YtgcceepadlmelaaGreatDoor
set_option maxRecDepth 100000
set_option maxHeartbeats 8000000
open Go.RowKit
theorem bsS_any (L:List ByteArray) (u:ByteArray) (n cap:Nat) (ao:Option Addr) (w:World) (h:SA w ao n cap L) (hA:AscU L) (hm1:n≤100000) :
  Calls Tryz.prog 44 #[.slice ao n cap,.string u] w fun e w'=>e=.returned (.tuple #[.int .i64 (idxK (fun x:ByteArray=>x) ltL L u),.bool (fndU L u).isSome])∧w=w':=by
 have HN:=lid h.len
 have HA:=lid hA
 have HS:=lid h.sl
 clear h hA
 go_enter Tryz.func44,Tryz.ntmps44
 go_wp2_with fail
 go_loopw [7,8] (fun u9 u10 wr=>∃ a b:Nat,a≤b∧b≤n∧u9=.int .i64 a∧u10=.int .i64 b∧Hid (BsK (fun x:ByteArray=>x) ltL L u a b)∧w=wr) (fun u9 u10 _=>(intOf u10).toNat-(intOf u9).toNat)
 case atStart=>exact ⟨0,n,Nat.zero_le _,Nat.le_refl _,rfl,rfl,lid ⟨fun t _ ht=>by omega,fun h=>by rw [HN.out] at h;omega⟩,rfl⟩
 case round =>
  obtain ⟨a,b,hab,hbn,rfl,rfl,HI,rfl⟩:=hrel
  by_cases hlt:a<b
  ·have dk:decide ((a:Int)<(b:Int))=true:=by simp;omega
   obtain ⟨m,hm⟩:∃ m,(a+b) / 2=m:=⟨_,rfl⟩
   have hmi:((a:Int)+(b:Int)) / 2=(m:Int):=by omega
   have hma:a≤m:=by omega
   have hmb:m<b:=by omega
   have hmn:m<n:=by omega
   have hml:m<L.length:=by rw [HN.out];exact hmn
   obtain ⟨b1,o1,rfl,hlb1,hc1⟩:=HS.out.at_ hmn
   have x0:=hc1 m _ (svals_at hml)
   have HM:Hid (ltL L[m] u=true→BsK (fun x:ByteArray=>x) ltL L u (m+1) b):=lid (fun hq=>HI.out.up ltL_k HA.out hml hq)
   have HE:Hid (ltL L[m] u=false→BsK (fun x:ByteArray=>x) ltL L u a m):=lid (fun hq=>HI.out.down (fun _=>hq))
   obtain ⟨x,hx⟩:∃ x,L[m]=x:=⟨_,rfl⟩
   rw [hx] at HM HE x0
   have CF:=lid (fun W=>less_fn x u W)
   clear hc1 hx hml
   cases hc:ltL x u with
   | true =>
    have HV:=lid (HM.out hc)
    clear HM HE
    go_wp2_with fail
    (with_reducible refine (CF.out _).mono ?_);rintro e w2 ⟨rfl,rfl⟩
    rw [hc]
    go_wp2_with fail
    go_roundw
    case rel=>exact ⟨m+1,b,by omega,by omega,by go_num,rfl,HV,by trivial⟩
    case measure=>simp [intOf];omega
   | false =>
    have HV:=lid (HE.out hc)
    clear HM HE
    go_wp2_with fail
    (with_reducible refine (CF.out _).mono ?_);rintro e w2 ⟨rfl,rfl⟩
    rw [hc]
    go_wp2_with fail
    go_roundw
    case rel=>exact ⟨a,m,by omega,by omega,rfl,rfl,HV,by trivial⟩
    case measure=>simp [intOf];omega
  ·obtain rfl:a=b:=by omega
   have dk:decide ((a:Int)<(a:Int))=false:=by simp
   have HIX:Hid (idxK (fun x:ByteArray=>x) ltL L u=a):=lid (HI.out.done (by rw [HN.out];omega))
   have hg:fndU L u=_:=fnd_at ltL_k HA.out u
   by_cases han:a<n
   ·have hal:a<L.length:=by rw [HN.out];exact han
    simp only [HIX.out,hal,dif_pos] at hg
    obtain ⟨b1,o1,rfl,hlb1,hc1⟩:=HS.out.at_ han
    have x0:=hc1 a _ (svals_at hal)
    obtain ⟨x,hx⟩:∃ x,L[a]=x:=⟨_,rfl⟩
    rw [hx] at x0 hg
    have da:decide ((a:Int)<(n:Int))=true:=by simp;omega
    have CF:=lid (fun y W=>nanS_fn y W)
    by_cases e:x=u
    ·have HU:Hid ((fndU L u).isSome=true):=lid (by rw [hg,if_pos e];rfl)
     have d:=str_eq e
     clear hc1 hx hg e hal
     go_wp2_with fail
     go_ret2
     rw [HIX.out,HU.out]
     exact ⟨rfl,rfl⟩
    ·have HU:Hid ((fndU L u).isSome=false):=lid (by rw [hg,if_neg e];rfl)
     have d:=str_ne e
     clear hc1 hx hg e hal
     go_wp2_with fail
     (with_reducible refine (CF.out x _).mono ?_);rintro e w2 ⟨rfl,rfl⟩
     go_wp2_with fail
     go_ret2
     rw [HIX.out,HU.out]
     exact ⟨rfl,rfl⟩
   ·obtain rfl:a=n:=by omega
    have hal:¬ a<L.length:=by rw [HN.out];omega
    simp only [HIX.out,hal,dif_neg,not_false_eq_true] at hg
    have HG:=lid hg
    clear hg
    go_wp2_with fail
    go_ret2
    rw [HIX.out,show (fndU L u).isSome=false by rw [show fndU L u=none from HG.out];rfl]
    exact ⟨rfl,rfl⟩
end Go.Proofs.YtgcceepadlmelaaGreatDoor
