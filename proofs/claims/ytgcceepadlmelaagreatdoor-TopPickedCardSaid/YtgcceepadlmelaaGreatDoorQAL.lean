import Derived.Test.YtgcceepadlmelaaGreatDoorEdDecl
import Derived.Test.YtgcceepadlmelaaGreatDoorQAE
import Derived.Test.YtgcceepadlmelaaGreatDoorEdPairs
import Derived.Test.YtgcceepadlmelaaGreatDoorQAK
namespace Go.Proofs.YtgcceepadlmelaaGreatDoor
open Go.RowKit
theorem wpList_append_slo {P:Program} {ops:Array Oper} {rest:List Oper} {o:Oper} {a:Act} {Q:Exit→Act→World→Prop} {w:World} (hgd:o.guard=none) (s x:Operand) (t:TypeId)
  (ho:o.op=.call { callee:=.builtin .append,args:=#[s,x],argTypes:=#[t,t] })
  (base:Nat) (e:TypeId) (z:Value) (size bytes:Nat) (hinfo:(P.info? e).map (fun i=>(i.zero,i.size,i.bytes))=some (some z,size,bytes)) (ht:P.underlying t=some (.slice e)) (hzs:z.cells.size=size) (hsz:0<size)
  (v:Value) (n:Nat) (xs:List Value) (hown:w.ownsRow base e size v n xs) (hs:a.eval s=v)
  (ao:Option Addr) (m c:Nat) (us:List Value) (hx:a.eval x=.slice ao m c) (hsl:Sl w size ao m us) (hz:ao=none→c=0) (h1:∀ u∈us,u.oneCell'=true)
  (h63:n+m≤maxLen) (hbytes:(n+m)*bytes≤140737488355328) (hbase:base≤w.heap.size)
  (h:∀ v' w',w'.ownsRow base e size v' (n+m) (xs++us)→Below base w w'→w.grownBy w' v.ownBlock→(v'.ownBlock=v.ownBlock∨v'.ownBlock=some w.heap.size)→wpList P ops Q rest (a.put o.dst v') w'):wpList P ops Q (o::rest) a w:=by
 cases ao with
 | none =>
  obtain ⟨i,hi,hz0,hz1,hz2⟩:=info_parts hinfo
  obtain rfl:=hz rfl
  obtain rfl:m=0:=by
   rcases hsl.2 with h0 | ⟨b,o,e',_⟩
   ·exact h0
   ·cases e'
  obtain rfl:us=[]:=List.eq_nil_of_length_eq_zero (by rw [hsl.1];simp)
  refine wpList_append_own_none hgd s x t ho base e i size ht hi v n xs hs hown hx ?_
  exact h v w (by simpa using hown) (Below.refl _ _) ⟨rfl,rfl,rfl,Nat.le_refl _,fun _ _ _=>rfl⟩ (.inl rfl)
 | some ad=>exact wpList_append_sla hgd s x t ho base e z size bytes hinfo ht hzs hsz v n xs hown hs ad m c us hx hsl h1 h63 hbytes hbase h
def f5 {α:Type} (a b c d e:α):Fin 5→α
 | 0=>a
 | 1=>b
 | 2=>c
 | 3=>d
 | 4=>e
structure Own5 (w0:World) (B:Nat) (w:World) (v:Fin 5→Value) (n:Fin 5→Nat) (K:Fin 5→List Kw):Prop where
 own:∀ i,w.ownsRow B 52 5 (v i) (n i) (kcs (K i))
 len:∀ i,(K i).length=n i
 ne:∀ i l,i≠l→∀ g,(v i).ownBlock=some g→(v l).ownBlock≠some g
 el:∀ i,∀ x∈K i,KAt w0 w (fun g=>∃ l,(v l).ownBlock=some g) x
theorem Own5.below {w0 w X:World} {B:Nat} {v:Fin 5→Value} {n:Fin 5→Nat} {K:Fin 5→List Kw} (h:Own5 w0 B w v n K) (hX:Below w.heap.size w X):Own5 w0 B X v n K :=
 ⟨fun i=>own_keep (h.own i) (fun g hg=>hX.block g ((h.own i).lt g hg).2),h.len,h.ne,fun i x hx=>(h.el i x hx).keep (fun g hg hbad=>⟨hbad,hX.block g hg⟩)⟩
theorem Own5.add {w0 X w9:World} {B:Nat} {v v':Fin 5→Value} {n n':Fin 5→Nat} {K K':Fin 5→List Kw} (h:Own5 w0 B X v n K) (i:Fin 5) {v9:Value} {m:Nat} {KN:List Kw} (hm:KN.length=m) (hk:∀ x∈KN,KAt w0 X (fun g=>∃ l,(v l).ownBlock=some g) x)
  (own9:w9.ownsRow B 52 5 v9 (n i+m) (kcs (K i)++kcs KN)) (hg9:X.grownBy w9 (v i).ownBlock) (hat:v9.ownBlock=(v i).ownBlock∨v9.ownBlock=some X.heap.size)
  (hv:∀ l,l≠i→v' l=v l) (hvi:v' i=v9) (hn:∀ l,l≠i→n' l=n l) (hni:n' i=n i+m) (hK:∀ l,l≠i→K' l=K l) (hKi:K' i=K i++KN) :
  Own5 w0 B w9 v' n' K'∧∀ z,z<X.heap.size→(∀ l,(v l).ownBlock≠some z)→w9.heap[z]?=X.heap[z]?∧∀ l,(v' l).ownBlock≠some z:=by
 have hlt:∀ l g,(v l).ownBlock=some g→g<X.heap.size:=fun l g e=>((h.own l).lt g e).2
 have hnew:∀ g,v9.ownBlock=some g→(v i).ownBlock=some g∨g=X.heap.size:=fun g e=>by
  rcases hat with e' | e'
  ·exact .inl (e'.symm.trans e)
  ·rw [e'] at e
   injection e with e
   exact .inr e.symm
 have hkeep:∀ g,g<X.heap.size→¬ (∃ l,(v l).ownBlock=some g)→¬ (∃ l,(v' l).ownBlock=some g)∧w9.heap[g]?=X.heap[g]?:=fun g hg hbad=>by
  refine ⟨fun ⟨l,e⟩=>?_,grown_at hg9 hg (fun e=>hbad ⟨i,e⟩)⟩
  by_cases hl:l=i
  ·rw [hl,hvi] at e
   rcases hnew g e with e | e
   ·exact hbad ⟨i,e⟩
   ·omega
  ·rw [hv l hl] at e
   exact hbad ⟨l,e⟩
 refine ⟨⟨fun l=>?_,fun l=>?_,fun l k hlk g e=>?_,fun l x hx=>?_⟩,fun z hz hne=>?_⟩
 ·by_cases hl:l=i
  ·rw [hl,hvi,hni,hKi,kcs_append]
   exact own9
  ·rw [hv l hl,hn l hl,hK l hl]
   exact own_keep (h.own l) (fun g hg=>grown_at hg9 (hlt l g hg) (h.ne l i hl g hg))
 ·by_cases hl:l=i
  ·rw [hl,hni,hKi,List.length_append,h.len,hm]
  ·rw [hn l hl,hK l hl,h.len]
 ·by_cases hl:l=i
  ·have hk':k≠i:=fun e=>hlk (hl.trans e.symm)
   rw [hl,hvi] at e
   rw [hv k hk']
   rcases hnew g e with e | e
   ·exact h.ne i k (Ne.symm hk') g e
   ·intro e2
    have:=hlt k g e2
    omega
  ·rw [hv l hl] at e
   by_cases hk':k=i
   ·rw [hk',hvi]
    intro e2
    rcases hnew g e2 with e2 | e2
    ·exact h.ne l i hl g e e2
    ·have:=hlt l g e
     omega
   ·rw [hv k hk']
    exact h.ne l k hlk g e
 ·by_cases hl:l=i
  ·rw [hl,hKi] at hx
   rcases List.mem_append.1 hx with hx | hx
   ·exact (h.el i x hx).keep hkeep
   ·exact (hk x hx).keep hkeep
  ·rw [hK l hl] at hx
   exact (h.el l x hx).keep hkeep
 ·obtain ⟨h1,h2⟩:=hkeep z hz (fun ⟨l,e⟩=>hne l e)
  exact ⟨h2,fun l e=>h1 ⟨l,e⟩⟩
theorem KAt.kwa {w0 V:World} {bad:Nat→Prop} {k:Kw} (h:KAt w0 V bad k) (hb:Below w0.heap.size w0 V):KwA V k:=by
 have hs:∀ {ao:Option Addr} {cap:Nat} {L:List Dw},SlAt w0 V bad ao cap L→DLA V ao L.length cap L:=fun {ao cap L} hs=>by
  rcases hs with ⟨rfl,rfl,rfl⟩ | ⟨g,d,rfl,_,hr,rfl,rfl,hd⟩
  ·exact DLA.empty
  ·exact dla_one hr rfl (hd.below hb)
 exact ⟨h.pack,h.text,hs h.old,hs h.new⟩
theorem ne5 {i l:Fin 5} {α:Type} {a b c d e:α} {a' b' c' d' e':α} (h:l≠i) (h0:i≠0→a'=a) (h1:i≠1→b'=b) (h2:i≠2→c'=c) (h3:i≠3→d'=d) (h4:i≠4→e'=e):f5 a' b' c' d' e' l=f5 a b c d e l:=by
 match l,h with
 | 0,h=>exact h0 (Ne.symm h)
 | 1,h=>exact h1 (Ne.symm h)
 | 2,h=>exact h2 (Ne.symm h)
 | 3,h=>exact h3 (Ne.symm h)
 | 4,h=>exact h4 (Ne.symm h)
end Go.Proofs.YtgcceepadlmelaaGreatDoor
namespace Go.Proofs.YtgcceepadlmelaaGreatDoor
open Go.RowKit
def k1 (p:BoW):List Kw:=if p.inA=true then [] else [useK 1 p.label ⟨#[]⟩]
def k2 (p:BoW):List Kw:=useKs 3 p.label p.b.uses p.a.uses
noncomputable def k3 (p:BoW):List Kc:=declKs p.label (p.a.decls.map Dw.x) (p.b.decls.map Dw.x)
def k4 (p:BoW):List Kw:=useKs 4 p.label p.a.uses p.b.uses
def k5 (p:BoW):List Kw:=if p.inB=true then [] else [useK 2 p.label ⟨#[]⟩]
theorem bo_uA {w:World} {A B:List Mw} {p:BoW} (h:BoOk w A B p):uO p.x.2.1=p.a.uses∧dO p.x.2.1=p.a.decls.map Dw.x∧(p.x.2.1.isSome=p.inA):=by
 have h1:=h.1
 unfold BoW.x
 cases e:p.inA with
 | true=>exact ⟨rfl,rfl,rfl⟩
 | false =>
  rw [e] at h1
  have h1:p.a=zMw:=by simpa using h1
  rw [h1]
  exact ⟨rfl,rfl,rfl⟩
theorem bo_uB {w:World} {A B:List Mw} {p:BoW} (h:BoOk w A B p):uO p.x.2.2=p.b.uses∧dO p.x.2.2=p.b.decls.map Dw.x∧(p.x.2.2.isSome=p.inB):=by
 have h1:=h.2.1
 unfold BoW.x
 cases e:p.inB with
 | true=>exact ⟨rfl,rfl,rfl⟩
 | false =>
  rw [e] at h1
  have h1:p.b=zMw:=by simpa using h1
  rw [h1]
  exact ⟨rfl,rfl,rfl⟩
theorem inS_fnd (l:List ByteArray) (u:ByteArray):inS l u=(fndU l u).isSome:=by
 cases h:(fndU l u).isSome with
 | true=>exact inS_iff.2 (fndU_mem.1 h)
 | false =>
  cases e:inS l u with
  | false=>rfl
  | true=>rw [fndU_mem.2 (inS_iff.1 e)] at h;cases h
theorem useKs_x (k:Int) (n:Bool) (l:ByteArray) (us os:List ByteArray) (h:∀ u,(⟨k,l,u,[],[]⟩:Kc)=Ed.k ⟨l,.mod (.use u n)⟩):(useKs k l us os).map Kw.x=(((useE n us os).map Ac.mod).map (Ed.mk l)).map Ed.k:=by
 unfold useKs useE
 rw [List.map_map,List.map_map,List.map_map,List.map_map]
 rw [show (fun u=>!inS os u)=fun u=>!(fndU os u).isSome from funext fun u=>by rw [inS_fnd]]
 refine List.map_congr_left fun u _=>?_
 exact h u
theorem flat_x {f:BoW→List Kc} {ph:Option Mx→Option Mx→List Ac}:∀ {P:List BoW},(∀ p∈P,f p=((ph p.x.2.1 p.x.2.2).map (Ed.mk p.x.1)).map Ed.k)→P.flatMap f=(flatE ph (P.map BoW.x)).map Ed.k
 | [],_=>rfl
 | p::P,h=>by
  rw [List.flatMap_cons,h p (List.mem_cons_self ..),flat_x (fun q hq=>h q (List.mem_cons_of_mem _ hq))]
  show _=((((ph p.x.2.1 p.x.2.2).map (Ed.mk p.x.1))++flatE ph (P.map BoW.x))).map Ed.k
  rw [List.map_append]
theorem fm_map {α β γ:Type} (f:α→List β) (g:β→γ):∀ P:List α,(P.flatMap f).map g=P.flatMap fun p=>(f p).map g
 | []=>rfl
 | p::P=>by rw [List.flatMap_cons,List.flatMap_cons,List.map_append,fm_map f g P]
theorem diff_k {w:World} {A B:List Mw} {P:List BoW} (h:∀ p∈P,BoOk w A B p) (hp:P.map BoW.x=pairsM (A.map Mw.x) (B.map Mw.x)) :
  (P.flatMap k1).map Kw.x++((P.flatMap k2).map Kw.x++(P.flatMap k3++((P.flatMap k4).map Kw.x++(P.flatMap k5).map Kw.x)))=(diffE (A.map Mw.x) (B.map Mw.x)).map Ed.k:=by
 unfold diffE
 rw [← hp,List.map_append,List.map_append,List.map_append,List.map_append]
 rw [fm_map,fm_map,fm_map,fm_map]
 rw [flat_x (ph:=ph1),flat_x (ph:=ph2),flat_x (ph:=ph3),flat_x (ph:=ph4),flat_x (ph:=ph5)]
 ·intro p hp
  obtain ⟨_,_,h3⟩:=bo_uB (h p hp)
  unfold k5 ph5
  rw [h3]
  cases p.inB <;> rfl
 ·intro p hp
  obtain ⟨h1,_,_⟩:=bo_uA (h p hp)
  obtain ⟨h2,_,_⟩:=bo_uB (h p hp)
  unfold k4 ph4
  rw [h1,h2]
  exact useKs_x 4 false p.label _ _ (fun u=>rfl)
 ·intro p hp
  obtain ⟨_,h1,_⟩:=bo_uA (h p hp)
  obtain ⟨_,h2,_⟩:=bo_uB (h p hp)
  unfold k3 ph3 declKs
  rw [h1,h2,List.map_map,List.map_map]
  refine List.map_congr_left fun a _=>rfl
 ·intro p hp
  obtain ⟨h1,_,_⟩:=bo_uA (h p hp)
  obtain ⟨h2,_,_⟩:=bo_uB (h p hp)
  unfold k2 ph2
  rw [h1,h2]
  exact useKs_x 3 true p.label _ _ (fun u=>rfl)
 ·intro p hp
  obtain ⟨_,_,h3⟩:=bo_uA (h p hp)
  unfold k1 ph1
  rw [h3]
  cases p.inA <;> rfl
end Go.Proofs.YtgcceepadlmelaaGreatDoor
namespace Go.Proofs.YtgcceepadlmelaaGreatDoor
open Go.RowKit
def mixFB (md:Region.Mode) (ops:Array Oper) (cs fs:List (Nat × List Nat)) (fin:Array Bool→Bool):Nat→Array Bool→Bool
 | 0,listed=>(cs.all fun c=>listed.getD c.1 false) && ((fs.all fun c=>listed.getD c.1 false) && fin listed)
 | n+1,listed =>
  match fs.find? (fun f=>(!listed.getD f.1 false && f.2.all fun d=>listed.getD d false) && ((Region.ready md ops listed).contains f.1 && Region.free md ops listed f.1)) with
  | some f=>mixFB md ops cs fs fin n (listed.setIfInBounds f.1 true)
  | none=>!(Region.ready md ops listed).isEmpty && (Region.ready md ops listed).all fun i=>(cs.any fun c=>c.1 == i && c.2.all fun d=>listed.getD d false) && mixFB md ops cs fs fin n (listed.setIfInBounds i true)
section
variable {P:Program} {ops:Array Oper} {Q:Exit→Act→World→Prop} {md:Region.Mode} {C:World→Prop}
theorem upd_listed {listed:Array Bool} {s:Nat→Bool} {i:Nat} (hs:∀ k,s k=listed.getD k false) (h0:i∈Region.ready md ops listed):listed.getD i false=false∧∀ k,upd s i k=(listed.setIfInBounds i true).getD k false:=by
 have h0':listed.getD i true=false:=(mem_ready.1 h0).1
 have hlt:i<listed.size:=by
  rcases Nat.lt_or_ge i listed.size with h | h
  ·exact h
  ·rw [Array.getD_eq_getD_getElem?,Array.getElem?_eq_none h] at h0'
   cases h0'
 refine ⟨?_,fun k=>?_⟩
 ·rw [Array.getD_eq_getD_getElem?,Array.getElem?_eq_getElem hlt] at h0' ⊢
  exact h0'
 ·by_cases e:k=i
  ·subst e
   rw [upd_same,Array.getD_eq_getD_getElem?,Array.getElem?_setIfInBounds_self_of_lt hlt]
   rfl
  ·rw [upd_ne s e,getD_set_ne false (Ne.symm e)]
   exact hs k
theorem wpAnyH_mixF (hns:Region.noSelect ops=true) (hQ:∀ c d v a w,Q (.panic c) (Act.put a d v) w→Q (.panic c) a w) {cs fs:List (Nat × List Nat)} {fin:Array Bool→Bool} {fuel0:Nat} {I:(Nat→Bool)→Act→World→Prop}
  (hstep:∀ c∈cs,∀ s a w,s c.1=false→(∀ d∈c.2,s d=true)→C w→I s a w→wpOp P ops Q c.1 (fun a' w'=>C w'∧I (upd s c.1) a' w') a w)
  (hfloat:∀ c∈fs,∀ s a w,s c.1=false→(∀ d∈c.2,s d=true)→C w→I s a w→∃ o,ops[c.1]?=some o∧∃ v,YieldsIf P ops C o v a∧I (upd s c.1) (a.put o.dst v) w)
  (hend:∀ listed s a w,fin listed=true→(∀ c∈cs,s c.1=true)→(∀ c∈fs,s c.1=true)→C w→I s a w→wpAnyH P md ops Q C fuel0 listed a w) :
  ∀ (n:Nat) (listed:Array Bool) (s:Nat→Bool) (a:Act) (w:World),(∀ k,s k=listed.getD k false)→mixFB md ops cs fs fin n listed=true→C w→I s a w→wpAnyH P md ops Q C (n+fuel0) listed a w
 | 0,listed,s,a,w,hs,hB,hC,hI=>by
  simp only [mixFB,Bool.and_eq_true,List.all_eq_true] at hB
  rw [Nat.zero_add]
  exact hend listed s a w hB.2.2 (fun c hc=>by rw [hs];exact hB.1 c hc) (fun c hc=>by rw [hs];exact hB.2.1 c hc) hC hI
 | n+1,listed,s,a,w,hs,hB,hC,hI=>by
  rw [mixFB] at hB
  rw [show n+1+fuel0=n+fuel0+1 by omega]
  split at hB
  ·rename_i f hf
   have hm:=List.mem_of_find?_eq_some hf
   have hp:=List.find?_some hf
   simp only [Bool.and_eq_true,List.all_eq_true] at hp
   obtain ⟨⟨h0,hd⟩,hr,hfree⟩:=hp
   have hmem:f.1∈Region.ready md ops listed:=by simpa using hr
   obtain ⟨h1,hu⟩:=upd_listed hs hmem
   obtain ⟨o,ho,v,hy,hI'⟩:=hfloat f hm s a w (by rw [hs];exact h1) (fun d hdd=>by rw [hs];exact hd d hdd) hC hI
   exact wpAnyH_take ho hns hfree hr (fun c a w hq=>hQ c _ _ a w hq) hy hC (wpAnyH_mixF hns hQ hstep hfloat hend n _ (upd s f.1) _ w hu hB hC hI')
  ·simp only [Bool.and_eq_true,List.all_eq_true,List.any_eq_true,beq_iff_eq] at hB
   obtain ⟨hne,hall⟩:=hB
   refine wpAnyH_all rfl (by intro e;rw [e] at hne;simp at hne) (fun i hi=>?_)
   obtain ⟨⟨c,hc,rfl,hd⟩,hB'⟩:=hall i hi
   obtain ⟨h1,hu⟩:=upd_listed hs hi
   exact wpOp_mono (fun a' w' hh=>⟨hh.1,wpAnyH_mixF hns hQ hstep hfloat hend n _ (upd s c.1) a' w' hu hB' hh.1 hh.2⟩) (hstep c hc s a w (by rw [hs];exact h1) (fun d hdd=>by rw [hs];exact hd d hdd) hC hI)
def MixFGo (P:Program) (ops:Array Oper) (C:World→Prop) (Q:Exit→Act→World→Prop) (cs fs:List (Nat × List Nat)) (post:List (Nat × Bool)) (a:Act) (w:World):Prop :=
 ∃ I:(Nat→Bool)→Act→World→Prop,(∀ s,(∀ c∈cs,s c.1=false)→(∀ c∈fs,s c.1=false)→I s a w) ∧
  (∀ c∈cs,∀ s a w,s c.1=false→(∀ d∈c.2,s d=true)→C w→I s a w→wpOp P ops Q c.1 (fun a' w'=>C w'∧I (upd s c.1) a' w') a w) ∧
  (∀ c∈fs,∀ s a w,s c.1=false→(∀ d∈c.2,s d=true)→C w→I s a w→∃ o,ops[c.1]?=some o∧∃ v,YieldsIf P ops C o v a∧I (upd s c.1) (a.put o.dst v) w) ∧
  (∀ s a w,(∀ c∈cs,s c.1=true)→(∀ c∈fs,s c.1=true)→C w→I s a w→seqRun P ops C Q (fun a w=>Q .normal a w) post a w)
theorem wp_region_mixF {id:Nat} {a:Act} {w:World} {l:List Oper} (C:World→Prop) (pre:List (Nat × Bool)) (cs fs:List (Nat × List Nat)) (post:List (Nat × Bool)) (hm:P.follows .mixedOrders=true)
  (hB:(Region.noSelect l.toArray && decide (pre.length+(cs.length+fs.length+post.length)=l.length) && (match seqB .any l.toArray pre (Array.replicate l.length false) with
   | some listed=>(cs.all fun c=>!listed.getD c.1 false) && ((fs.all fun c=>!listed.getD c.1 false) && mixFB .any l.toArray cs fs (fun l1=>match seqB .any l.toArray post l1 with | some l2=>(Region.ready .any l.toArray l2).isEmpty | none=>false) (cs.length+fs.length) listed)
   | none=>false))=true)
  (hQ:∀ c d v a w,Q (.panic c) (Act.put a d v) w→Q (.panic c) a w) (hC:C w.drew)
  (h:seqRun P l.toArray C Q (MixFGo P l.toArray C Q cs fs post) pre a w.drew):(Code.region id l.toArray true).wp P Q a w:=by
 simp only [Bool.and_eq_true,decide_eq_true_eq] at hB
 obtain ⟨⟨hs,hl⟩,hB⟩:=hB
 split at hB
 ·rename_i listed hsq
  simp only [Bool.and_eq_true,List.all_eq_true] at hB
  obtain ⟨hfresh,hfresh2,hmix⟩:=hB
  refine wp_region_held (S:=C) hm ?_
  have:=wpAnyH_of_seq (md:=.any) (P:=P) (fuel:=cs.length+fs.length+post.length) hs hQ pre _ listed a w.drew hC hsq (fun a w hCw hq=>?_) h
  ·rw [hl] at this
   simpa using this
  ·obtain ⟨I,h0,h1,h1f,h2⟩:=hq
   refine wpAnyH_mixF hs hQ h1 h1f ?_ (cs.length+fs.length) listed (fun k=>listed.getD k false) a w (fun _=>rfl) hmix hCw (h0 _ (fun c hc=>by have:=hfresh c hc;revert this;cases listed.getD c.1 false <;> simp) (fun c hc=>by have:=hfresh2 c hc;revert this;cases listed.getD c.1 false <;> simp))
   intro l1 s a w hfin hall hallf hCw hI
   split at hfin
   ·rename_i l2 hl2
    have:=wpAnyH_of_seq (md:=.any) (P:=P) (fuel:=0) hs hQ post _ l2 a w hCw hl2 (fun a w _ hq=>⟨by simpa using hfin,hq⟩) (h2 s a w hall hallf hCw hI)
    simpa using this
   ·cases hfin
 ·cases hB
def MixReads (P:Program) (l:List Oper) (C:World→Prop) (a:Act) (slots:List Nat) (R:(Nat→Bool)→List Value→World→Prop):List (Nat × List Nat)→Prop
 | []=>True
 | c::cs=>(∀ s vs w,vs.length=slots.length→s c.1=false→(∀ d∈c.2,s d=true)→C w→R s vs w →
   ∃ o,l.toArray[c.1]?=some o∧∃ v,YieldsIf P l.toArray C o v (putAll a slots vs)∧∃ vs',vs'.length=slots.length∧(putAll a slots vs).put o.dst v=putAll a slots vs'∧R (upd s c.1) vs' w)∧MixReads P l C a slots R cs
theorem mix_read {i:Nat} {o:Oper} {l:List Oper} {a:Act} {slots:List Nat} {R:(Nat→Bool)→List Value→World→Prop} {s:Nat→Bool} {vs:List Value} {w:World} (hi:l[i]?=some o) (hf:floatB o=true) (hw:Region.wanted o (yielded l.toArray (putAll a slots vs).tmps)=true)
  (h:∀ K:Act→Prop,(∀ a',(∃ vs',vs'.length=slots.length∧a'=putAll a slots vs'∧R (upd s i) vs' w)→K a')→o.quiet P (putAll a slots vs) C K) :
  ∃ o,l.toArray[i]?=some o∧∃ v,YieldsIf P l.toArray C o v (putAll a slots vs)∧∃ vs',vs'.length=slots.length∧(putAll a slots vs).put o.dst v=putAll a slots vs'∧R (upd s i) vs' w:=by
 obtain ⟨v,hy,hk⟩:=yieldsIf_of_quiet hf hw (h _ (fun _ h=>h))
 exact ⟨o,by simpa using hi,v,hy,hk⟩
theorem mixReads_mem {l:List Oper} {a:Act} {slots:List Nat} {R:(Nat→Bool)→List Value→World→Prop}:∀ {cs:List (Nat × List Nat)},MixReads P l C a slots R cs→∀ c∈cs,∀ s vs w,vs.length=slots.length→s c.1=false→(∀ d∈c.2,s d=true)→C w→R s vs w →
   ∃ o,l.toArray[c.1]?=some o∧∃ v,YieldsIf P l.toArray C o v (putAll a slots vs)∧∃ vs',vs'.length=slots.length∧(putAll a slots vs).put o.dst v=putAll a slots vs'∧R (upd s c.1) vs' w
 | [],_,_,hc=>by cases hc
 | c0::cs,h,c,hc=>by
  rcases List.mem_cons.1 hc with rfl | hc
  ·exact h.1
  ·exact mixReads_mem h.2 c hc
theorem mixF_go {l:List Oper} {cs fs:List (Nat × List Nat)} {post:List (Nat × Bool)} {a:Act} {w:World} (slots:List Nat) (vs0:List Value) (R:(Nat→Bool)→List Value→World→Prop) (hl:vs0.length=slots.length) (h0:a=putAll a slots vs0)
  (hi:∀ s:Nat→Bool,(∀ c∈cs,s c.1=false)→(∀ c∈fs,s c.1=false)→R s vs0 w) (hs:MixSteps P l C Q a slots R cs) (hr:MixReads P l C a slots R fs)
  (he:∀ s vs w',vs.length=slots.length→(∀ c∈cs,s c.1=true)→(∀ c∈fs,s c.1=true)→C w'→R s vs w'→seqRun P l.toArray C Q (fun a w=>Q .normal a w) post (putAll a slots vs) w'):MixFGo P l.toArray C Q cs fs post a w:=by
 refine ⟨fun s a' w'=>∃ vs,vs.length=slots.length∧a'=putAll a slots vs∧R s vs w',fun s hs0 hs1=>⟨vs0,hl,h0,hi s hs0 hs1⟩,?_,?_,?_⟩
 ·rintro c hc s a' w' h1 h2 hC ⟨vs,hvl,rfl,hR⟩
  exact mixSteps_mem hs c hc s vs w' hvl h1 h2 hC hR
 ·rintro c hc s a' w' h1 h2 hC ⟨vs,hvl,rfl,hR⟩
  exact mixReads_mem hr c hc s vs w' hvl h1 h2 hC hR
 ·rintro s a' w' hall hallf hC ⟨vs,hvl,rfl,hR⟩
  exact he s vs w' hvl hall hallf hC hR
end
end Go.Proofs.YtgcceepadlmelaaGreatDoor
