import Derived.Test.YtgcceepadlmelaaGreatDoorQAT
import Derived.Test.YtgcceepadlmelaaGreatDoorQAU
import Derived.Test.YtgcceepadlmelaaGreatDoorEdDrop
import Derived.Test.YtgcceepadlmelaaGreatDoorEdInv
import Derived.Test.YtgcceepadlmelaaGreatDoorEdVld
import Derived.Test.YtgcceepadlmelaaGreatDoorQAN
namespace Go.Proofs.YtgcceepadlmelaaGreatDoor
open Go.RowKit
def PkOk (K:List Kw) (N:List Bool):Prop:=N.length=K.length∧∀ j x:Nat,j<x→N[j]?=some false→N[x]?=some true→∀ a b,K[j]?=some a→K[x]?=some b→indK a b=true
theorem NeedN.ok {K:List Kw} {i:Nat} {N:List Bool} (h:NeedN K i N):PkOk K N:=by
 refine ⟨h.1,fun j x hj h1 h2 a b ha hb=>?_⟩
 cases e:indK a b with
 | true=>rfl
 | false =>
  have:=h.2.2 x h2 j hj ⟨a,b,ha,hb,e⟩
  rw [h1] at this
  cases this
theorem notL_at {D:List Bool} {j:Nat} {b:Bool} (h:(notL D)[j]?=some b):D[j]?=some (!b):=by
 unfold notL at h
 rw [List.getElem?_map] at h
 cases e:D[j]? with
 | none=>rw [e] at h;cases h
 | some d =>
  rw [e] at h
  have:=Option.some.inj h
  rw [← this]
  simp
theorem DropN.ok {K:List Kw} {D:List Bool} (h:DropN K D):PkOk K (notL D) :=
 ⟨by unfold notL;rw [List.length_map];exact h.1,fun j x hj h1 h2 a b ha hb=>h.2 j x hj (notL_at h1) (notL_at h2) a b ha hb⟩
theorem mark_map {α β γ:Type} {f:α→γ} {g:β→γ} (q:Bool→Bool):∀ {K:List α} {E:List β} {N:List Bool},K.map f=E.map g→(((K.zip N).filter fun z=>q z.2).map (·.1)).map f=(((E.zip N).filter fun z=>q z.2).map (·.1)).map g
 | [],[],_,_=>by simp
 | [],_::_,_,h=>by cases h
 | _::_,[],_,h=>by cases h
 | a::K,b::E,[],_=>by simp
 | a::K,b::E,n::N,h=>by
  rw [List.map_cons,List.map_cons,List.cons.injEq] at h
  have ih:=mark_map q (N:=N) h.2
  cases e:q n with
  | true=>simp only [List.zip_cons_cons,List.filter_cons,e,if_true,List.map_cons,h.1,ih]
  | false =>
   simp only [List.zip_cons_cons,List.filter_cons,e,Bool.false_eq_true,if_false]
   exact ih
theorem mark_mem {α:Type} {q:Bool→Bool} {K:List α} {N:List Bool} {x:α} (h:x∈((K.zip N).filter fun z=>q z.2).map (·.1)):x∈K:=by
 obtain ⟨⟨y,b⟩,h1,rfl⟩:=List.mem_map.1 h
 exact (List.of_mem_zip (List.mem_filter.1 h1).1).1
theorem nodup_inj {α β:Type} {f:α→β}:∀ {l:List α},(l.map f).Nodup→∀ x y,x∈l→y∈l→f x=f y→x=y
 | [],_,_,_,h,_,_=>by cases h
 | a::l,hn,x,y,hx,hy,e=>by
  rw [List.map_cons,List.nodup_cons] at hn
  rcases List.mem_cons.1 hx with h1 | h1
  ·rcases List.mem_cons.1 hy with h2 | h2
   ·rw [h1,h2]
   ·exact absurd (List.mem_map.2 ⟨y,h2,by rw [← e,h1]⟩) hn.1
  ·rcases List.mem_cons.1 hy with h2 | h2
   ·exact absurd (List.mem_map.2 ⟨x,h1,by rw [e,h2]⟩) hn.1
   ·exact nodup_inj hn.2 x y h1 h2 e
theorem nodup_of_map {α β:Type} {f:α→β} {l:List α} (h:(l.map f).Nodup):l.Nodup:=by
 unfold List.Nodup at *
 rw [List.pairwise_map] at h
 exact h.imp fun hne e=>hne (by rw [e])
theorem nodup_map {α β:Type} {f:α→β} {l:List α} (h:l.Nodup) (hf:∀ x y,x∈l→y∈l→f x=f y→x=y):(l.map f).Nodup:=by
 unfold List.Nodup at *
 rw [List.pairwise_map]
 exact h.imp_of_mem fun {a b} ha hb hne e=>hne (hf a b ha hb e)
theorem rest_pk {K:List Kw} {N:List Bool} (hn:(K.map Kw.x).Nodup) (hl:N.length=K.length):restL eqK K (pk K N)=((K.zip N).filter fun z=>!z.2).map (·.1):=by
 have h1:(K.zip N).map (·.1)=K:=List.map_fst_zip (by omega)
 have:=restL_pick (eq:=eqK) (l:=K.zip N) (fun x y hx hy=>by
  rw [h1] at hx hy
  exact ⟨fun h=>nodup_inj hn x y hx hy (pB_iff.1 h),fun h=>pB_t (by rw [h])⟩) (by rw [h1];exact nodup_of_map hn)
 rw [h1] at this
 exact this
theorem picked {K:List Kw} {E:List Ed} {N:List Bool} {S T:St} (hKE:K.map Kw.x=E.map Ed.k) (hv:∀ e∈E,e.vld) (hn:(K.map Kw.x).Nodup) (hN:PkOk K N) (ha:apL E S T) :
  ∃ P R,(pk K N).map Kw.x=P.map Ed.k∧(restL eqK K (pk K N)).map Kw.x=R.map Ed.k∧(∀ e∈P,e.vld)∧(∀ e∈R,e.vld)∧apL (P++R) S T:=by
 have hlen:E.length=K.length:=by have:=congrArg List.length hKE;rw [List.length_map,List.length_map] at this;exact this.symm
 refine ⟨pickd (E.zip N),restd (E.zip N),mark_map (fun b=>b) hKE,by rw [rest_pk hn hN.1];exact mark_map (fun b=>!b) hKE,fun e he=>hv e (mark_mem (q:=fun b=>b) he),fun e he=>hv e (mark_mem (q:=fun b=>!b) he),?_⟩
 refine apL_pick ?_ (by rw [List.map_fst_zip (by rw [hN.1];omega)];exact ha)
 rw [List.pairwise_iff_getElem]
 intro i j hi hj hij h1 h2
 rw [List.getElem_zip] at h1 h2 ⊢
 rw [List.getElem_zip]
 rw [List.length_zip] at hi hj
 have hi1:i<E.length:=by omega
 have hj1:j<E.length:=by omega
 have hi2:i<K.length:=by omega
 have hj2:j<K.length:=by omega
 have hi3:i<N.length:=by omega
 have hj3:j<N.length:=by omega
 have hind:=hN.2 i j hij (by rw [List.getElem?_eq_getElem hi3];exact congrArg some h1) (by rw [List.getElem?_eq_getElem hj3];exact congrArg some h2) _ _ (List.getElem?_eq_getElem hi2) (List.getElem?_eq_getElem hj2)
 have xk:∀ t (h1:t<K.length) (h2:t<E.length),K[t].x=E[t].k:=fun t h1 h2=>by
  have h3:=congrArg (fun z=>z[t]?) hKE
  simpa only [List.getElem?_map,List.getElem?_eq_getElem h1,List.getElem?_eq_getElem h2,Option.map_some,Option.some.injEq] using h3
 have v1:=hv _ (List.getElem_mem hi1)
 have v2:=hv _ (List.getElem_mem hj1)
 rw [indK_c,xk i hi2 hi1,xk j hj2 hj1,k_pack _ (Ed.vld_fit v1),k_pack _ (Ed.vld_fit v2)] at hind
 exact (ind_ed (Ed.vld_fit v1) (Ed.vld_fit v2) (Ed.vld_named v1) (Ed.vld_named v2)).1 hind
theorem inv_all {P:List Ed} {L:List Kw} (h:L.map Kw.x=P.map Ed.k):(L.map invK).reverse.map Kw.x=(P.reverse.map Ed.inv).map Ed.k:=by
 rw [← List.map_reverse,List.map_map,List.map_map,List.map_reverse,List.map_reverse]
 congr 1
 induction L generalizing P with
 | nil=>cases P with
  | nil=>rfl
  | cons _ _=>cases h
 | cons y L ih=>cases P with
  | nil=>cases h
  | cons e P =>
   rw [List.map_cons,List.map_cons,List.cons.injEq] at h
   rw [List.map_cons,List.map_cons,ih h.2]
   exact congrArg (·::_) (inv_k h.1)
theorem taken_back {P R:List Ed} {S T:St} (h:apL (P++R) S T):apL (P++P.reverse.map Ed.inv) S S:=by
 obtain ⟨u,h1,-⟩:=apL_append.1 h
 exact apL_append.2 ⟨u,h1,apL_inv h1⟩
theorem diff_kx {K:List Kw} {a b:List Mx} (ha:OkL a) (hb:OkL b) (hv:∀ e∈diffE a b,e.vld) (h:K.map Kw.x=(diffE a b).map Ed.k):(K.map Kw.x).Nodup:=by
 rw [h]
 exact nodup_map (diff_nodup ha hb) fun x y hx hy e=>k_inj (Ed.vld_fit (hv x hx)) (Ed.vld_fit (hv y hy)) e
abbrev GivesK (W:World) (ao:Option Addr) (n cap:Nat) (L:List Kw) (w':World):Prop:=KLA w' ao n cap L∧Below W.heap.size W w'
theorem gives_own {W w':World} {v:Value} {L:List Kw} (h:w'.ownsRow W.heap.size 52 5 v L.length (kcs L)) (hL:∀ x∈L,KwA w' x) (hb:Below W.heap.size W w'):∃ ao cap,v=.slice ao L.length cap∧GivesK W ao L.length cap L w':=by
 obtain ⟨ao,cap,e,hk⟩:=kla_own h rfl hL
 exact ⟨ao,cap,e,hk,hb⟩
theorem pk_mem {K:List Kw} {N:List Bool} {x:Kw} (h:x∈pk K N):x∈K:=mark_mem (q:=fun b=>b) h
theorem restL_mem {K:List Kw}:∀ {P:List Kw} {x:Kw},x∈restL eqK K P→x∈K:=by
 induction K with
 | nil=>intro P x h;rw [rest_end] at h;cases h
 | cons a K ih =>
  intro P x h
  cases P with
  | nil =>
   rw [rest_nil] at h
   rcases List.mem_cons.1 h with h | h
   ·exact List.mem_cons.2 (.inl h)
   ·exact List.mem_cons.2 (.inr (ih h))
  | cons p P =>
   cases e:eqK a p with
   | true=>rw [rest_t e] at h;exact List.mem_cons.2 (.inr (ih h))
   | false =>
    rw [rest_f e] at h
    rcases List.mem_cons.1 h with h | h
    ·exact List.mem_cons.2 (.inl h)
    ·exact List.mem_cons.2 (.inr (ih h))
theorem Pick_sl {ao:Option Addr} {n cap:Nat} {K:List Kw} {i:Nat} {w:World} (h:KLA w ao n cap K) (hn:n≤100000) (hi:i<n) (hv:∀ x∈K,FitK x∧TestK x) :
  Calls Tryz.prog 11 #[.slice ao n cap,.int .i64 i] w fun r w'=>∃ ap np cp N,r=.returned (.tuple #[.slice ap np cp,.int .i64 0])∧Hid (GivesK w ap np cp (pk K N) w'∧PkOk K N):=by
 refine (Pick_any ao n cap K i w h hn hi hv).mono ?_
 rintro r w' ⟨v,N,rfl,ho,hN,hb⟩
 obtain ⟨ap,cp,rfl,hg⟩:=gives_own ho (fun x hx=>(h.el x (pk_mem hx)).below hb) hb
 exact ⟨ap,_,cp,N,rfl,lid ⟨hg,hN.ok⟩⟩
theorem Drop_sl {ao:Option Addr} {n cap:Nat} {K:List Kw} {i:Nat} {w:World} (h:KLA w ao n cap K) (hn:n≤100000) (hi:i<n) (hv:∀ x∈K,FitK x∧TestK x) :
  Calls Tryz.prog 12 #[.slice ao n cap,.int .i64 i] w fun r w'=>∃ ap np cp N,r=.returned (.tuple #[.slice ap np cp,.int .i64 0])∧Hid (GivesK w ap np cp (pk K N) w'∧PkOk K N):=by
 refine (Drop_any ao n cap K i w h hn hi hv).mono ?_
 rintro r w' ⟨v,D,rfl,ho,hD,hb⟩
 obtain ⟨ap,cp,rfl,hg⟩:=gives_own ho (fun x hx=>(h.el x (pk_mem hx)).below hb) hb
 exact ⟨ap,_,cp,notL D,rfl,lid ⟨hg,hD.ok⟩⟩
theorem Rest_sl {ao bo:Option Addr} {n ca m cb:Nat} {K P:List Kw} {w:World} (h:KLA w ao n ca K) (hP:KLA w bo m cb P) (hn:n≤100000) :
  Calls Tryz.prog 14 #[.slice ao n ca,.slice bo m cb] w fun r w'=>∃ ap np cp,r=.returned (.slice ap np cp)∧Hid (GivesK w ap np cp (restL eqK K P) w'):=by
 refine (Rest_any ao bo n m ca cb K P w h hP hn).mono ?_
 rintro r w' ⟨v,rfl,ho,hb⟩
 obtain ⟨ap,cp,rfl,hg⟩:=gives_own ho (fun x hx=>(h.el x (restL_mem hx)).below hb) hb
 exact ⟨ap,_,cp,rfl,lid hg⟩
theorem invK_lies {w:World} {x:Kw} (h:KwA w x):KwA w (invK x):=⟨h.pack,h.text,h.new,h.old⟩
theorem Invert_sl {ao:Option Addr} {n cap:Nat} {K:List Kw} {w:World} (h:KLA w ao n cap K) (hn:n≤100000) (hk:∀ x∈K,1≤x.kind∧x.kind≤9) :
  Calls Tryz.prog 13 #[.slice ao n cap] w fun r w'=>∃ ap np cp,r=.returned (.slice ap np cp)∧Hid (GivesK w ap np cp (K.map invK).reverse w'):=by
 refine (Invert_any ao n cap K w h hn hk).mono ?_
 rintro r w' ⟨g,rfl,ho,hb⟩
 have hl:(K.reverse.map invK).length=n:=by rw [List.length_map,List.length_reverse,h.len]
 obtain ⟨ap,cp,e,hg⟩:=kla_own ho hl (fun x hx=>by
  obtain ⟨y,hy,rfl⟩:=List.mem_map.1 hx
  exact invK_lies ((h.el y (List.mem_reverse.1 hy)).below hb))
 exact ⟨ap,n,cp,by rw [e],lid (by rw [← List.map_reverse];exact ⟨hg,hb⟩)⟩
theorem apply_two {ao:Option Addr} {n ca:Nat} {A:List Mw} {P R:List Kw} {E F:List Ed} {w W:World} {base:Nat} {v:Value} {q:Nat} (hA:MLA w ao n ca A) (hW:Below w.heap.size w W) (ho:W.ownsRow base 52 5 v q (kcs P++kcs R)) (hq:P.length+R.length=q) (hq2:q≤60000)
  (hel:∀ x∈P++R,KwA W x) (hn:n≤100) (hP:P.map Kw.x=E.map Ed.k) (hR:R.map Kw.x=F.map Ed.k) (hE:∀ e∈E,e.vld) (hF:∀ e∈F,e.vld) (hO:OrdM A) (hV:∀ m∈A,modW m) (T:List Mw) (hT:OrdM T) (hTv:∀ m∈T,modW m) {t:Nat} (ht:T.length=t) (hap:apL (E++F) (absM (A.map Mw.x)) (absM (T.map Mw.x))) :
  ∃ a2 c2,v=.slice a2 q c2∧Calls Tryz.prog 10 #[.slice ao n ca,.slice a2 q c2] W fun r w'=>∃ am cm M,r=.returned (.tuple #[.slice am t cm,.int .i64 0])∧Hid (MLA w' am t cm M∧M.map Mw.x=T.map Mw.x∧Below W.heap.size W w'):=by
 rw [← kcs_append] at ho
 obtain ⟨a2,c2,rfl,hk⟩:=kla_own ho (by rw [List.length_append];exact hq) hel
 refine ⟨a2,c2,rfl,?_⟩
 refine (Apply_any ao a2 n ca q c2 A (P++R) (E++F) W (hA.below hW) hk hn hq2 (by rw [List.map_append,List.map_append,hP,hR]) (fun e he=>(List.mem_append.1 he).elim (hE e) (hF e)) hO hV (T.map Mw.x) (ordM_ok hT hTv) (modW_vd hTv).2 hap).mono ?_
 rintro r w' ⟨v,M,rfl,h1,h2⟩
 obtain ⟨am,cm,rfl,hm⟩:=h1.mla
 have hl:M.length=t:=by have:=congrArg List.length h2;rw [List.length_map,List.length_map,ht] at this;exact this
 rw [hl] at hm ⊢
 exact ⟨am,cm,M,rfl,lid ⟨hm,h2,h1.bel⟩⟩
end Go.Proofs.YtgcceepadlmelaaGreatDoor
