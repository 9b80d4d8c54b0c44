import Derived.Test.YtgcceepadlmelaaGreatDoorRF
import Derived.Maps.AppendAt
import Derived.Test.YtgcceepadlmelaaGreatDoorQAA
import Derived.Test.YtgcceepadlmelaaGreatDoorQAB
import Derived.Test.YtgcceepadlmelaaGreatDoorQAC
import Derived.Deep.MidRow
import Derived.Lib.AppendZerosOnto
import Derived.Lib.SlBuf
import Derived.Lib.Overlaps
import Derived.Test.YtgcceepadlmelaaGreatDoorChecked
import Derived.Laws.RangeAny
import Derived.Laws.RangeString
import Derived.Lib.OthersKept
import Derived.Deep.LoopGhost
import Derived.Lib.Bytealg
namespace Go.Proofs.YtgcceepadlmelaaGreatDoor
open Go.RowKit Go.Shelf
def RoundN {σ α:Type} (P:Program) (m l:Nat) (c:Nat→Prop) (B:Nat) (encs:α→Array Value) (X:σ→α→World→Prop) (T:σ→α→σ→Prop) (J:σ→World→Prop) (Jx:σ→α→World→Prop):Prop :=
 ∀ s x W,J s W→X s x W→YieldAt Fence.wide m P l (encs x) W fun e W'=>(e=.returned (.bool true)∧KF c B W W'∧∃ s',T s x s'∧J s' W')∨(e=.returned (.bool false)∧KF c B W W'∧Jx s x W')
variable {n:Nat} {P:Program} {w:World}
theorem wpIn_rfn {σ α:Type} {g:Operand} {ps:Array Tmp} {assign body:Code} {Q:Exit→Act→World→Prop} {a:Act}
  {gf:Nat} {pre lb:Array Value} (hg:a.eval g=.func (.func gf) pre lb) (eg:∀ args w,(callFunc gf args).run P w=.ok (.enter gf args) w)
  (encs:α→Array Value) (X:σ→α→World→Prop) (T:σ→α→σ→Prop) (I:σ→World→Prop) (Ix:Code→σ→α→World→Prop) (hps:∀ x,(encs x).size=ps.size) (a₁:α→Act)
  (hX:∀ s x,Ab w.heap.size (X s x))
  (hI:∀ s,Ab w.heap.size (I s)) (hIx:∀ c s x,Ab w.heap.size (Ix c s x)) (s0:σ) (h0:I s0 w)
  (S:σ→Prop) (Sx:σ→α→Prop) (kc:Nat→Prop)
  (hcall:∀ (l m:Nat) (rec:LoopState→Option Code→Loop) (W:World),W.heap.size=w.heap.size+2→Below w.heap.size w W →
   (∀ s,Ab W.heap.size (fun W=>I s W∧W.heap[w.heap.size+1]?=some (.loop (rec .ready none))∧W.heap[w.heap.size]?=some (.deferred (some [])))) →
   (∀ s x,Ab W.heap.size (fun W=>∃ c,Ix c s x W∧W.heap[w.heap.size+1]?=some (.loop (rec .done (some c)))∧W.heap[w.heap.size]?=some (.deferred (some [])))) →
   RoundN P m l kc W.heap.size encs X T (fun s W=>I s W∧W.heap[w.heap.size+1]?=some (.loop (rec .ready none))∧W.heap[w.heap.size]?=some (.deferred (some [])))
    (fun s x W=>∃ c,Ix c s x W∧W.heap[w.heap.size+1]?=some (.loop (rec .done (some c)))∧W.heap[w.heap.size]?=some (.deferred (some []))) →
   (I s0 W∧W.heap[w.heap.size+1]?=some (.loop (rec .ready none))∧W.heap[w.heap.size]?=some (.deferred (some []))) →
   Calls P gf (pre++#[.func (.yield l) #[] #[]]++lb) W fun e W'=>e=.returned (.tuple #[]) ∧
    ((∃ s,S s∧I s W'∧W'.heap[w.heap.size+1]?=some (.loop (rec .ready none))∧W'.heap[w.heap.size]?=some (.deferred (some []))) ∨
     (∃ s x,Sx s x∧∃ c,Ix c s x W'∧W'.heap[w.heap.size+1]?=some (.loop (rec .done (some c)))∧W'.heap[w.heap.size]?=some (.deferred (some [])))))
  (hassign:∀ (l m:Nat) (x:α) (W:World) (K:Act→World→Prop),K (a₁ x) W →
   assign.wpIn (Fence.wide.inRound l) m P (Exit.then K (fun _ _ _=>False)) { tmps:=(ps.zip (encs x)).foldl (fun t (p,v)=>t.setIfInBounds p v) a.tmps,defers:=[] } W)
  (hbody:∀ (l m:Nat) (s:σ) (x:α) (W:World),I s W→X s x W→w.heap.size≤W.heap.size→body.wpIn (Fence.wide.inRound l) m P (rfPost kc w.heap.size T I Ix s x W) (a₁ x) W)
  (hdone:∀ (D:Nat) (s:σ) (W:World),w.heap.size≤D→S s→I s W→W.heap[D]?=some (.deferred (some []))→Q .normal { a with defers:={ target:=.collected D,args:=#[] }::a.defers } W)
  (hstop:∀ (D:Nat) (c:Code) (s:σ) (x:α) (W:World),w.heap.size≤D→Sx s x→Ix c s x W→W.heap[D]?=some (.deferred (some []))→c.wpIn Fence.wide n P Q { a with defers:={ target:=.collected D,args:=#[] }::a.defers } W) :
  (Code.rangeFunc g ps assign body).wpIn Fence.wide n P Q a w:=by
 refine wpIn_rangeFunc ?_
 intro fn hfn
 rw [show Fence.wide.round=none from rfl]
 obtain ⟨rec,hrec⟩:∃ rec:LoopState→Option Code→Loop,rec=fun st pe=>{ state:=st,pending:=pe,fn,tmps:=a.tmps,params:=ps,assign,body,defers:=w.heap.size }:=⟨_,rfl⟩
 obtain ⟨W1,hW1⟩:∃ W1,(w.alloc (.deferred (some []))).alloc (.loop (rec .ready none))=W1:=⟨_,rfl⟩
 have hL1:W1.heap[w.heap.size+1]?=some (.loop (rec .ready none)):=by
  rw [← hW1];have:=World.alloc_heap_new (w.alloc (.deferred (some []))) (.loop (rec .ready none));rwa [World.size_alloc] at this
 have hK1:W1.heap[w.heap.size]?=some (.deferred (some [])):=by
  rw [← hW1];exact (Below.heap_alloc _ _ _ (by simp)).trans (World.alloc_heap_new w _)
 have hI1:I s0 W1:=by rw [← hW1];exact (hI s0).alloc _ ((hI s0).alloc _ h0)
 have hz1:W1.heap.size=w.heap.size+2:=by rw [← hW1];simp
 refine ⟨w.heap.size+1,[{ target:=.collected w.heap.size,args:=#[] }],W1,{ target:=.fn (.func gf) lb,args:=pre++#[.func (.yield (w.heap.size+1)) #[] #[]] },W1,gf,
  pre++#[.func (.yield (w.heap.size+1)) #[] #[]]++lb,W1,?_,?_,?_,?_,fun h=>(by cases h),callsIn_wide.2 ?_⟩
 ·rw [← hW1,hrec];exact run_enterLoop_outer _ _ _ _ _
 ·simp only [resolve,hg]
  simp [go_sem]
 ·intro f' hf';exact trivial
 ·simp [invoke,go_sem,eg]
 ·refine (hcall (w.heap.size+1) (n-1-1) rec W1 hz1 (by rw [← hW1];exact ((Below.refl _ _).alloc (Nat.le_refl _) _).alloc (by simp) _) (fun s=>?_) (fun s x=>?_) ?_ ⟨hI1,hL1,hK1⟩).mono ?_
  ·rw [hz1]
   exact ((hI s).mono (by omega)).and ((Ab.blk (by omega) _ rfl).and (Ab.blk (by omega) _ rfl))
  ·rw [hz1]
   exact Ab.ex fun c=>((hIx c s x).mono (by omega)).and ((Ab.blk (by omega) _ rfl).and (Ab.blk (by omega) _ rfl))
  ·rintro s x W ⟨hi,hl,hk⟩ hx
   have hlt:w.heap.size+1<W.heap.size:=(Array.getElem?_eq_some_iff.1 hl).1
   have hy:=run_yield (P:=P) (args:=encs x) hl (by rw [hrec];exact hps x)
   rw [hrec] at hy
   have hy:(Instr.yield (w.heap.size+1) (encs x)).run P W=.ok (.round (w.heap.size+1) fn ((ps.zip (encs x)).foldl (fun t (p,v)=>t.setIfInBounds p v) a.tmps) assign body) W:=hy
   refine ⟨fn,_,assign,body,hy,roundIn_of_wpIn trivial (hassign _ _ x W _ ⟨_,run_beginRound hl (by rw [hrec]),?_⟩)⟩
   have hl2:(W.putObj (w.heap.size+1) (.loop { rec .ready none with state:=.busy })).heap[w.heap.size+1]?=some (.loop { rec .ready none with state:=.busy }):=World.putObj_heap_same hlt
   have hk2:(W.putObj (w.heap.size+1) (.loop { rec .ready none with state:=.busy })).heap[w.heap.size]?=some (.deferred (some [])):=(World.putObj_heap_other (by omega)).trans hk
   have hKF:=KF.put (c:=kc) (B:=w.heap.size+2) (.loop { rec .ready none with state:=.busy }) (show w.heap.size+1<w.heap.size+2 by omega) hl rfl
   refine wpIn_mono (hbody _ _ s x _ ((hI s).putObj _ hi (by omega) hl rfl) ((hX s x).putObj _ hx (by omega) hl rfl) (by simp;omega)) ?_
   have fin:∀ (jump:Option Code) (W3:World),KF kc w.heap.size (W.putObj (w.heap.size+1) (.loop { rec .ready none with state:=.busy })) W3 →
     (Instr.endRound (w.heap.size+1) jump).run P W3=.ok (.bool jump.isNone) (W3.putObj (w.heap.size+1) (.loop (rec (if jump.isNone then .ready else .done) jump))) ∧
     W3.heap[w.heap.size+1]?=some (.loop { rec .ready none with state:=.busy }) ∧
     (W3.putObj (w.heap.size+1) (.loop (rec (if jump.isNone then .ready else .done) jump))).heap[w.heap.size+1]?=some (.loop (rec (if jump.isNone then .ready else .done) jump)) ∧
     (W3.putObj (w.heap.size+1) (.loop (rec (if jump.isNone then .ready else .done) jump))).heap[w.heap.size]?=some (.deferred (some [])) ∧
     KF kc W1.heap.size W (W3.putObj (w.heap.size+1) (.loop (rec (if jump.isNone then .ready else .done) jump))):=fun jump W3 hk3=>by
    have hl3:=hk3.same _ _ (by omega) hl2 rfl
    have:=run_endRound (P:=P) jump hl3
    rw [hrec] at this ⊢
    refine ⟨this,by rw [hrec] at hl3;exact hl3,World.putObj_heap_same (Array.getElem?_eq_some_iff.1 hl3).1,(World.putObj_heap_other (by omega)).trans (hk3.same _ _ (Nat.le_refl _) hk2 rfl),?_⟩
    rw [hz1]
    exact (hKF.trans (hk3.mono (fun _ h=>h) (by omega))).trans (KF.put _ (by omega) hl3 rfl)
   rintro e a3 W3 hp
   cases e with
   | normal =>
    obtain ⟨hk3,s',hT,hi3⟩:=hp
    obtain ⟨hr,hl3,hl4,hk4,hkf⟩:=fin none W3 hk3
    exact ⟨_,_,hr,.inl ⟨rfl,hkf,s',hT,(hI s').putObj _ hi3 (by omega) hl3 rfl,hl4,hk4⟩⟩
   | ret =>
    obtain ⟨hk3,hi3⟩:=hp
    obtain ⟨hr,hl3,hl4,hk4,hkf⟩:=fin (some .ret) W3 hk3
    exact ⟨_,_,hr,.inr ⟨rfl,hkf,.ret,(hIx _ _ _).putObj _ hi3 (by omega) hl3 rfl,hl4,hk4⟩⟩
   | exit id =>
    obtain ⟨hk3,hi3⟩:=hp
    obtain ⟨hr,hl3,hl4,hk4,hkf⟩:=fin (some (.exit id)) W3 hk3
    exact ⟨_,_,hr,.inr ⟨rfl,hkf,.exit id,(hIx _ _ _).putObj _ hi3 (by omega) hl3 rfl,hl4,hk4⟩⟩
   | goto t =>
    obtain ⟨hk3,hi3⟩:=hp
    obtain ⟨hr,hl3,hl4,hk4,hkf⟩:=fin (some (.goto t)) W3 hk3
    exact ⟨_,_,hr,.inr ⟨rfl,hkf,.goto t,(hIx _ _ _).putObj _ hi3 (by omega) hl3 rfl,hl4,hk4⟩⟩
   | panic ch=>exact hp.elim
   | outgrown=>exact hp.elim
  ·rintro e W2 ⟨rfl,(⟨s,hS,hi,hl,hk⟩ | ⟨s,x,hSx,c,hi,hl,hk⟩)⟩
   ·exact ⟨none,_,by have:=run_endLoop (P:=P) hl (by rw [hrec];simp);rw [hrec] at this;exact this,hdone _ s _ (Nat.le_refl _) hS ((hI s).putObj _ hi (by omega) hl rfl) ((World.putObj_heap_other (by omega)).trans hk)⟩
   ·exact ⟨some c,_,by have:=run_endLoop (P:=P) hl (by rw [hrec];simp);rw [hrec] at this;exact this,hstop _ c s x _ (Nat.le_refl _) hSx ((hIx c s x).putObj _ hi (by omega) hl rfl) ((World.putObj_heap_other (by omega)).trans hk)⟩
end Go.Proofs.YtgcceepadlmelaaGreatDoor
namespace Go.Proofs.YtgcceepadlmelaaGreatDoor
open Go.RowKit
theorem wpList_append_new_at {P:Program} {ops:Array Oper} {rest:List Oper} {o:Oper} {a:Act} {Q:Exit→Act→World→Prop} {w:World} (us:Array Value) (hgd:o.guard=none) (s x:Operand) (t:TypeId)
  (ho:o.op=.call { callee:=.builtin .append,args:=#[s,x],argTypes:=#[t,t] })
  (base:Nat) (e:TypeId) (z:Value) (size bytes:Nat) (hinfo:(P.info? e).map (fun i=>(i.zero,i.size,i.bytes))=some (some z,size,bytes)) (ht:P.underlying t=some (.slice e)) (hzs:z.cells.size=size) (hsz:0<size)
  (v:Value) (n:Nat) (xs:List Value) (hown:w.ownsRow base e size v n xs) (hs:a.eval s=v)
  (hx:a.eval x=.slice (some ⟨w.heap.size,0,none⟩) 1 1) (hl:us.size=size) (h1:∀ u∈us.toList,u.oneCell'=true)
  (h63:n+1≤maxLen) (hbytes:(n+1)*bytes≤140737488355328) (hbase:base≤w.heap.size)
  (h:∀ v' w',w'.ownsRow base e size v' (n+1) (xs++us.toList)→(w.alloc (.cells us e)).grownBy w' v.ownBlock→(v'.ownBlock=v.ownBlock∨v'.ownBlock=some (w.alloc (.cells us e)).heap.size)→wpList P ops Q rest (a.put o.dst v') w'):wpList P ops Q (o::rest) a (w.alloc (.cells us e)):=by
 obtain ⟨i,hi,hz0,hz1,hz2⟩:=info_parts hinfo
 refine wpList_append_own_at _ hgd s x t ho base e i z size bytes ht hi hz0 hz1 hz2 hzs hsz v n xs hs (hown.alloc _) ⟨w.heap.size,0,none⟩ 1 1 us.toList hx (by simp [hl]) ?_ h1 h63 hbytes (by simp;omega) ?_
 ·intro j u hu
  rw [Addr.add_lit]
  simp only [World.cell?,Nat.zero_add]
  rw [heap_alloc_new]
  simpa using hu
 ·intro v' w' hown' hg hn hat
  exact h v' w' hown' hg hat
end Go.Proofs.YtgcceepadlmelaaGreatDoor
namespace Go.Proofs.YtgcceepadlmelaaGreatDoor
open Go.RowKit
abbrev Nd:=Nat × Ew
mutual
def preW:Nat→Ew→List Nd | d,.mk k n m i e a c s=>(d,.mk k n m i e a c s)::preWL (d+1) s
def preWL:Nat→List Ew→List Nd | _,[]=>[] | d,e::l=>preW d e++preWL d l
end
theorem preW_eq (d:Nat) (e:Ew):preW d e=(d,e)::preWL (d+1) e.sub:=by
 cases e
 simp only [preW]
 rfl
theorem preWL_nil (d:Nat):preWL d []=[]:=by simp [preWL]
theorem preWL_cons (d:Nat) (e:Ew) (l:List Ew):preWL d (e::l)=(d,e)::(preWL (d+1) e.sub++preWL d l):=by
 rw [preWL,preW_eq]
 rfl
structure Tw where
 ao:Option Addr
 l:List Ew
 cap:Nat
abbrev twc (t:Tw):Value:=.slice t.ao t.l.length t.cap
abbrev TwA (w:World) (t:Tw):Prop:=EL w t.ao t.l.length t.cap t.l
def remB:Nat→List Tw→List Nd
 | _,[]=>[]
 | d,t::S=>remB (d+1) S++preWL d t.l
theorem remB_snoc:∀ {S:List Tw} {d:Nat} {t:Tw},remB d (S++[t])=preWL (d+S.length) t.l++remB d S
 | [],d,t=>by simp [remB]
 | s::S,d,t=>by
  show remB (d+1) (S++[t])++preWL d s.l=_
  rw [remB_snoc,List.append_assoc]
  show _=preWL (d+(S.length+1)) t.l++(remB (d+1) S++preWL d s.l)
  rw [show d+1+S.length=d+(S.length+1) by omega]
theorem remB_pop {S:List Tw} {d:Nat} {t:Tw} (h:t.l=[]):remB d (S++[t])=remB d S:=by rw [remB_snoc,h,preWL_nil,List.nil_append]
theorem remB_next {S:List Tw} {d:Nat} {t t' s:Tw} {e:Ew} {r:List Ew} (h:t.l=e::r) (h':t'.l=r) (hs:s.l=e.sub):remB d (S++[t])=(d+S.length,e)::remB d ((S++[t'])++[s]):=by
 rw [remB_snoc,h,preWL_cons,remB_snoc,remB_snoc,h',hs,List.length_append,List.cons_append,List.append_assoc]
 rfl
structure KL (w W:World):Prop where
 size:w.heap.size≤W.heap.size
 cells:∀ (k:Nat) cs t f,w.heap[k]?=some (.cells cs t f)→W.heap[k]?=some (.cells cs t f)
theorem KL.refl (w:World):KL w w:=⟨Nat.le_refl _,fun _ _ _ _ h=>h⟩
theorem KL.of_below {w W:World} (h:Below w.heap.size w W):KL w W:=⟨h.size,fun k _ _ _ e=>(h.block k (Array.getElem?_eq_some_iff.1 e).1).trans e⟩
theorem KL.below {w W W':World} {n:Nat} (h:KL w W) (hb:Below n W W') (hn:w.heap.size≤n):KL w W':=⟨Nat.le_trans h.size hb.size,fun k cs t f e=>(hb.block k (by have:=(Array.getElem?_eq_some_iff.1 e).1;omega)).trans (h.cells k cs t f e)⟩
theorem KL.kf {w W W':World} {c:Nat→Prop} {B:Nat} (h:KL w W) (hk:KF c B W W') (hc:∀ k,k<w.heap.size→c k):KL w W':=⟨Nat.le_trans h.size hk.size,fun k cs t f e=>hk.cells k cs t f (hc k (Array.getElem?_eq_some_iff.1 e).1) (h.cells k cs t f e)⟩
theorem KL.grown {w W W':World} {row:Option Nat} (h:KL w W) (hg:W.grownBy W' row) (hr:∀ r,row=some r→w.heap.size≤r):KL w W':=⟨Nat.le_trans h.size hg.size,fun k cs t f e=>by
 have hk:=(Array.getElem?_eq_some_iff.1 e).1
 have:=h.size
 refine (hg.block k (by omega) (fun e2=>?_)).trans (h.cells k cs t f e)
 have:=hr k e2.symm
 omega⟩
theorem Sl.kl {w W:World} {size n:Nat} {ao:Option Addr} {xs:List Value} (hs:Sl w size ao n xs) (h:KL w W):Sl W size ao n xs:=by
 refine ⟨hs.1,?_⟩
 rcases hs.2 with h0 | ⟨b,o,e,hb,hc⟩
 ·exact .inl h0
 ·refine .inr ⟨b,o,e,Nat.lt_of_lt_of_le hb h.size,fun j u hu=>?_⟩
  have hcu:=hc j u hu
  obtain ⟨ob,ho,hcl⟩:=cells_of_cell hcu
  cases ob <;> first | (cases hcl;done) | skip
  rename_i c t f
  rw [← hcu]
  exact World.cell?_of_block (w:=w) (a:=⟨b,o+j,none⟩) ((h.cells b c t f ho).trans ho.symm)
theorem EA.kl {w W:World} {e:Ew} (h:EA w e) (hk:KL w W):EA W e:=by
 induction h with
 | mk h1 h2 h3 h4 h5 h6 h7 h8 _ hn ih=>exact .mk (h1.kl hk) h2 h3 h4 h5 h6 h7 h8 ih hn
theorem EL.kl {w W:World} {ao:Option Addr} {n cap:Nat} {l:List Ew} (h:EL w ao n cap l) (hk:KL w W):EL W ao n cap l:=⟨h.len,h.sl.kl hk,h.le,h.max,fun s hs=>(h.el s hs).kl hk,h.nil⟩
theorem Sl.tail {w:World} {n:Nat} {ao:Option Addr} {e:Ew} {l:List Ew} (h:Sl w 6 ao (n+1) (ecs (e::l))):∃ b o,ao=some ⟨b,o,none⟩∧b<w.heap.size∧Sl w 6 (some ⟨b,o+6,none⟩) n (ecs l):=by
 obtain ⟨b,o,e1,hb,hc⟩:=h.at_ (show 0<n+1 by omega)
 refine ⟨b,o,e1,hb,?_,.inr ⟨b,o+6,rfl,hb,fun j u hu=>?_⟩⟩
 ·have:=h.1
  rw [show ecs (e::l)=ece e++ecs l from rfl,List.length_append,ece_length] at this
  omega
 ·have:=hc (6+j) u (by
   rw [show ecs (e::l)=ece e++ecs l from rfl,List.getElem?_append_right (by rw [ece_length];omega),ece_length,show 6+j-6=j by omega]
   exact hu)
  rwa [show o+(6+j)=o+6+j by omega] at this
theorem EL.tail {w:World} {ao:Option Addr} {cap:Nat} {e:Ew} {l:List Ew} (h:EL w ao (e::l).length cap (e::l)):∃ b o c,ao=some ⟨b,o,none⟩∧cap=c+1∧EL w (some ⟨b,o+6,none⟩) l.length c l∧EA w e:=by
 obtain ⟨b,o,e1,hb,hs⟩:=Sl.tail (n:=l.length) h.sl
 have h1:=h.le
 have h2:=h.max
 rw [List.length_cons] at h1
 exact ⟨b,o,cap-1,e1,by omega,⟨rfl,hs,by omega,by omega,fun s hs=>h.el s (List.mem_cons_of_mem _ hs),fun h=>by cases h⟩,h.el e (List.mem_cons_self ..)⟩
section
variable {w:World} {base g n cap:Nat} {e:TypeId} {xs:List Value} {x y:Value}
theorem own_form (h:w.ownsRow base e 1 (.slice (some ⟨g,0,none⟩) n cap) n xs):∃ cur,base≤g∧w.heap[g]?=some (.cells cur e (0,0))∧n≤cap∧cap≤maxLen∧cur.size=cap*1∧cur.toList.take (n*1)=xs:=by
 rcases h.2 with ⟨e1,_⟩ | ⟨g',cap',cur,e1,h1,h2,h3,h4,h5,h6⟩
 ·injection e1 with e1
  cases e1
 ·injection e1 with e1 _ e3
  cases e1
  cases e3
  exact ⟨cur,h1,h2,h3,h4,h5,h6⟩
theorem own_pop (h:w.ownsRow base e 1 (.slice (some ⟨g,0,none⟩) (n+1) cap) (n+1) (xs++[x])):w.ownsRow base e 1 (.slice (some ⟨g,0,none⟩) n cap) n xs:=by
 obtain ⟨cur,h1,h2,h3,h4,h5,h6⟩:=own_form h
 have hl:xs.length=n:=by have:=h.1;rw [List.length_append] at this;simp at this;omega
 refine ⟨by omega,.inr ⟨g,cap,cur,rfl,h1,h2,by omega,h4,h5,?_⟩⟩
 have h7:(cur.toList.take ((n+1)*1)).take n=(xs++[x]).take n:=by rw [h6]
 have hm:min n ((n+1)*1)=n:=by omega
 rw [List.take_take,hm,List.take_left' hl] at h7
 rw [Nat.mul_one]
 exact h7
theorem own_put (h:w.ownsRow base e 1 (.slice (some ⟨g,0,none⟩) (n+1) cap) (n+1) (xs++[x])) (y:Value):(w.setCell ⟨g,n,none⟩ y).ownsRow base e 1 (.slice (some ⟨g,0,none⟩) (n+1) cap) (n+1) (xs++[y]):=by
 obtain ⟨cur,h1,h2,h3,h4,h5,h6⟩:=own_form h
 have hl:xs.length=n:=by have:=h.1;rw [List.length_append] at this;simp at this;omega
 refine ⟨by rw [List.length_append];simp;omega,.inr ⟨g,cap,cur.setIfInBounds n y,rfl,h1,heap_setCell_same w g n cur e y h2,h3,h4,by simpa using h5,?_⟩⟩
 rw [Array.toList_setIfInBounds,Nat.mul_one]
 rw [Nat.mul_one] at h6
 rw [List.take_set,h6]
 simp [hl]
end
end Go.Proofs.YtgcceepadlmelaaGreatDoor
namespace Go.Proofs.YtgcceepadlmelaaGreatDoor
open Go.RowKit
section
variable {w w':World} {base g n cap size:Nat} {e:TypeId} {v:Value} {xs ys:List Value}
theorem own_keep (h:w.ownsRow base e size v n xs) (hk:∀ g,v.ownBlock=some g→w'.heap[g]?=w.heap[g]?):w'.ownsRow base e size v n xs:=by
 refine ⟨h.1,?_⟩
 rcases h.2 with h1 | ⟨g,cap,cur,rfl,h1,h2,h3⟩
 ·exact .inl h1
 ·exact .inr ⟨g,cap,cur,rfl,h1,(hk g rfl).trans h2,h3⟩
theorem own_formK (h:w.ownsRow base e size (.slice (some ⟨g,0,none⟩) n cap) n xs):∃ cur,base≤g∧w.heap[g]?=some (.cells cur e (0,0))∧n≤cap∧cap≤maxLen∧cur.size=cap*size∧cur.toList.take (n*size)=xs:=by
 rcases h.2 with ⟨e1,_⟩ | ⟨g',cap',cur,e1,h1,h2,h3,h4,h5,h6⟩
 ·injection e1 with e1
  cases e1
 ·injection e1 with e1 _ e3
  cases e1
  cases e3
  exact ⟨cur,h1,h2,h3,h4,h5,h6⟩
theorem own_popK (h:w.ownsRow base e size (.slice (some ⟨g,0,none⟩) (n+1) cap) (n+1) (xs++ys)) (hy:ys.length=size):w.ownsRow base e size (.slice (some ⟨g,0,none⟩) n cap) n xs:=by
 obtain ⟨cur,h1,h2,h3,h4,h5,h6⟩:=own_formK h
 have hl:xs.length=n*size:=by
  have:=h.1
  rw [List.length_append,hy,Nat.add_mul] at this
  omega
 refine ⟨hl,.inr ⟨g,cap,cur,rfl,h1,h2,by omega,h4,h5,?_⟩⟩
 have h7:(cur.toList.take ((n+1)*size)).take (n*size)=(xs++ys).take (n*size):=by rw [h6]
 have hm:min (n*size) ((n+1)*size)=n*size:=Nat.min_eq_left (Nat.mul_le_mul_right _ (by omega))
 rw [List.take_take,hm,List.take_left' hl] at h7
 exact h7
theorem own_cellK (h:w.ownsRow base e size (.slice (some ⟨g,0,none⟩) n cap) n xs) (j:Nat) {u:Value} (hu:xs[j]?=some u):w.cell? ⟨g,j,none⟩=some u:=by
 obtain ⟨cur,h1,h2,h3,h4,h5,h6⟩:=own_formK h
 rw [row_cell h2]
 rw [← h6] at hu
 have:=List.getElem?_eq_some_iff.1 hu
 obtain ⟨hj,_⟩:=this
 rw [List.length_take] at hj
 rw [List.getElem?_take_of_lt (by omega)] at hu
 rw [← Array.getElem?_toList]
 exact hu
end
theorem sl_row {w:World} {R size n:Nat} {us:Array Value} {ty:TypeId} (h:w.heap[R]?=some (.cells us ty (0,0))) (hl:us.size=n*size):Sl w size (some ⟨R,0,none⟩) n us.toList :=
 ⟨by rw [Array.length_toList];exact hl,.inr ⟨R,0,rfl,row_lt h,fun j u hu=>by rw [Nat.zero_add,row_cell h,← Array.getElem?_toList];exact hu⟩⟩
theorem there_row {w:World} {b o n:Nat} {cur:Array Value} {ty:TypeId} (h:w.heap[b]?=some (.cells cur ty (0,0))) (hn:o+n≤cur.size):w.there b o n:=fun j hj =>
 ⟨by rw [row_cell h];exact Option.isSome_iff_exists.2 ⟨_,Array.getElem?_eq_getElem (by omega)⟩,row_fz h _⟩
theorem row_whole {w:World} {b:Nat} {cur vs:Array Value} {ty:TypeId} (h:w.heap[b]?=some (.cells cur ty (0,0))) (hs:cur.size=vs.size):(w.setCells b 0 vs.toList).heap[b]?=some (.cells vs ty (0,0)):=by
 rw [row_setCells vs.toList 0 w cur h]
 have hz:(layAt cur 0 vs.toList).size=vs.size:=by rw [layAt_size,hs]
 have:layAt cur 0 vs.toList=vs:=by
  refine Array.ext hz fun i h1 h2=>?_
  have h3:=layAt_get? vs.toList cur 0 i (by rw [Array.length_toList];omega)
  rw [if_pos ⟨Nat.zero_le _,by rw [Array.length_toList];omega⟩,Nat.sub_zero,Array.getElem?_toList,Array.getElem?_eq_getElem h1,Array.getElem?_eq_getElem h2] at h3
  exact Option.some.inj h3
 rw [this]
theorem setCells_other {k b:Nat} (hk:k≠b):∀ (vs:List Value) (o:Nat) (w:World),(w.setCells b o vs).heap[k]?=w.heap[k]?
 | [],_,_=>rfl
 | v::vs,o,w=>by
  rw [World.setCells,setCells_other hk vs (o+1)]
  exact Below.heap_setCell _ _ _ _ hk
theorem setCells_size (b:Nat):∀ (vs:List Value) (o:Nat) (w:World),(w.setCells b o vs).heap.size=w.heap.size
 | [],_,_=>rfl
 | v::vs,o,w=>by
  rw [World.setCells,setCells_size b vs (o+1),World.size_setCell]
end Go.Proofs.YtgcceepadlmelaaGreatDoor
namespace Go.Proofs.YtgcceepadlmelaaGreatDoor
open Go.RowKit
def obs (v:Value):List Nat:=match v.ownBlock with | some g=>[g] | none=>[]
theorem mem_obs {v:Value} {k:Nat}:k∈obs v↔v.ownBlock=some k:=by
 unfold obs
 cases v.ownBlock with
 | none=>simp
 | some g=>simp;exact ⟨fun e=>e.symm,fun e=>e.symm⟩
theorem obs_nodup (v:Value):(obs v).Nodup:=by
 unfold obs
 cases v.ownBlock <;> simp
abbrev uV (m:Mw):Value:=.slice m.ua m.uses.length m.ucap
abbrev dV (m:Mw):Value:=.slice m.da m.decls.length m.dcap
def blkM (m:Mw):List Nat:=obs (uV m)++obs (dV m)
structure MoE (w0 w:World) (m:Mw):Prop where
 sz:m.label.size≤maxLen
 us:w.ownsRow w0.heap.size 9 1 (uV m) m.uses.length (svals m.uses)
 usz:∀ u∈m.uses,u.size≤maxLen
 ds:w.ownsRow w0.heap.size 65 11 (dV m) m.decls.length (dcs m.decls)
 del:∀ d∈m.decls,DwA w0 d
structure MO (w0 w:World) (v:Value) (L:List Mw):Prop where
 own:w.ownsRow w0.heap.size 45 3 v L.length (mcs L)
 el:∀ m∈L,MoE w0 w m
 nd:(obs v++L.flatMap blkM).Nodup
 bel:Below w0.heap.size w0 w
def Fr (w w':World) (v:Value) (L:List Mw):Prop:=∀ k,k<w.heap.size→k∉obs v→k∉L.flatMap blkM→w'.heap[k]?=w.heap[k]?
section
variable {w w':World} {base size n:Nat} {e:TypeId} {v:Value} {xs:List Value}
theorem own_blk (h:w.ownsRow base e size v n xs) {g:Nat} (hg:v.ownBlock=some g):base≤g∧g<w.heap.size:=by
 rcases h.2 with ⟨h1,_⟩ | ⟨g',cap,cur,rfl,h1,h2,_⟩
 ·rw [h1] at hg
  cases hg
 ·cases hg
  exact ⟨h1,row_lt h2⟩
theorem own_cap0 {ao:Option Addr} {k cap:Nat} (h:w.ownsRow base e size (.slice ao k cap) n xs):ao=none→cap=0:=fun e=>by
 subst e
 rcases h.2 with ⟨e3,_⟩ | ⟨g,c,cur,e3,_⟩
 ·injection e3
 ·cases e3
end
theorem MoE.lt {w0 w:World} {m:Mw} (h:MoE w0 w m) {k:Nat} (hk:k∈blkM m):w0.heap.size≤k∧k<w.heap.size:=by
 rcases List.mem_append.1 hk with hk | hk
 ·exact own_blk h.us (mem_obs.1 hk)
 ·exact own_blk h.ds (mem_obs.1 hk)
theorem MoE.keep {w0 w w':World} {m:Mw} (h:MoE w0 w m) (hk:∀ k∈blkM m,w'.heap[k]?=w.heap[k]?):MoE w0 w' m :=
 ⟨h.sz,own_keep h.us (fun g hg=>hk g (List.mem_append.2 (.inl (mem_obs.2 hg)))),h.usz,own_keep h.ds (fun g hg=>hk g (List.mem_append.2 (.inr (mem_obs.2 hg)))),h.del⟩
theorem MO.lt {w0 w:World} {v:Value} {L:List Mw} (h:MO w0 w v L) {k:Nat} (hk:k∈obs v∨k∈L.flatMap blkM):w0.heap.size≤k∧k<w.heap.size:=by
 rcases hk with hk | hk
 ·exact own_blk h.own (mem_obs.1 hk)
 ·obtain ⟨m,hm,hk⟩:=List.mem_flatMap.1 hk
  exact (h.el m hm).lt hk
theorem MO.keep {w0 w w':World} {v:Value} {L:List Mw} (h:MO w0 w v L) (hb:Below w0.heap.size w0 w') (hk:∀ k,k∈obs v∨k∈L.flatMap blkM→w'.heap[k]?=w.heap[k]?):MO w0 w' v L :=
 ⟨own_keep h.own (fun g hg=>hk g (.inl (mem_obs.2 hg))),fun m hm=>(h.el m hm).keep (fun k hkm=>hk k (.inr (List.mem_flatMap.2 ⟨m,hm,hkm⟩))),h.nd,hb⟩
theorem MO.below {w0 w w':World} {v:Value} {L:List Mw} (h:MO w0 w v L) (hb:Below w.heap.size w w'):MO w0 w' v L :=
 h.keep (h.bel.trans (hb.mono h.bel.size)) (fun k hk=>hb.block k (h.lt hk).2)
theorem nodup_turn {A P X X' S:List Nat} {N:Nat} (h:(A++(P++(X++S))).Nodup) (hlt:∀ k,k∈A++(P++(X++S))→k<N) (hn:X'.Nodup) (hm:∀ k∈X',k∈X∨N≤k):(A++(P++(X'++S))).Nodup:=by
 rw [List.nodup_append,List.nodup_append,List.nodup_append] at h ⊢
 obtain ⟨a1,⟨p1,⟨x1,s1,xs⟩,px⟩,ap⟩:=h
 refine ⟨a1,⟨p1,⟨hn,s1,fun x hx s hs e=>?_⟩,fun p hp x hx e=>?_⟩,fun a ha y hy e=>?_⟩
 ·rcases hm x hx with h1 | h1
  ·exact xs x h1 s hs e
  ·have:=hlt s (by simp [hs])
   omega
 ·rcases List.mem_append.1 hx with hx | hx
  ·rcases hm x hx with h1 | h1
   ·exact px p hp x (List.mem_append.2 (.inl h1)) e
   ·have:=hlt p (by simp [hp])
    omega
  ·exact px p hp x (List.mem_append.2 (.inr hx)) e
 ·rcases List.mem_append.1 hy with hy | hy
  ·exact ap a ha y (List.mem_append.2 (.inl hy)) e
  ·rcases List.mem_append.1 hy with hy | hy
   ·rcases hm y hy with h1 | h1
    ·exact ap a ha y (by simp [h1]) e
    ·have:=hlt a (by simp [ha])
     omega
   ·exact ap a ha y (by simp [hy]) e
theorem list_at {α:Type} {L:List α} {j:Nat} (hj:j<L.length):L=L.take j++L[j]::L.drop (j+1):=by rw [List.getElem_cons_drop,List.take_append_drop]
theorem set_at {α:Type} {L:List α} {j:Nat} (hj:j<L.length) (x:α):L.set j x=L.take j++x::L.drop (j+1):=by rw [List.set_eq_take_append_cons_drop,if_pos hj]
theorem MO.set {w0 w w':World} {v:Value} {L:List Mw} (h:MO w0 w v L) {j:Nat} (hj:j<L.length) {m':Mw} (hb:Below w0.heap.size w0 w')
  (hrow:w'.ownsRow w0.heap.size 45 3 v L.length (mcs (L.set j m'))) (hel:MoE w0 w' m')
  (hk:∀ k,k<w.heap.size→k∉obs v→k∉blkM L[j]→w'.heap[k]?=w.heap[k]?)
  (hn:(blkM m').Nodup) (hm:∀ k∈blkM m',k∈blkM L[j]∨w.heap.size≤k):MO w0 w' v (L.set j m'):=by
 have hL:=list_at hj
 have hnd:=h.nd
 have hlt:∀ k,k∈obs v++L.flatMap blkM→k<w.heap.size:=fun k hk=>(h.lt (List.mem_append.1 hk)).2
 have hfm:L.flatMap blkM=(L.take j).flatMap blkM++(blkM L[j]++(L.drop (j+1)).flatMap blkM):=by
  conv=>lhs;rw [hL]
  rw [List.flatMap_append,List.flatMap_cons]
 rw [hfm] at hnd hlt
 have hfm':(L.set j m').flatMap blkM=(L.take j).flatMap blkM++(blkM m'++(L.drop (j+1)).flatMap blkM):=by
  rw [set_at hj,List.flatMap_append,List.flatMap_cons]
 refine ⟨by rw [List.length_set];exact hrow,fun m hmem=>?_,?_,hb⟩
 ·rw [set_at hj] at hmem
  have hnd2:=hnd
  rw [List.nodup_append,List.nodup_append,List.nodup_append] at hnd2
  obtain ⟨_,⟨_,⟨_,_,xs⟩,px⟩,ap⟩:=hnd2
  rcases List.mem_append.1 hmem with h1 | h1
  ·have hmL:m∈L:=List.mem_of_mem_take h1
   refine (h.el m hmL).keep fun k hkm=>hk k ((h.el m hmL).lt hkm).2 (fun ho=>?_) (fun hx=>?_)
   ·exact ap k ho k (List.mem_append.2 (.inl (List.mem_flatMap.2 ⟨m,h1,hkm⟩))) rfl
   ·exact px k (List.mem_flatMap.2 ⟨m,h1,hkm⟩) k (List.mem_append.2 (.inl hx)) rfl
  ·rcases List.mem_cons.1 h1 with rfl | h1
   ·exact hel
   ·have hmL:m∈L:=List.mem_of_mem_drop h1
    refine (h.el m hmL).keep fun k hkm=>hk k ((h.el m hmL).lt hkm).2 (fun ho=>?_) (fun hx=>?_)
    ·exact ap k ho k (List.mem_append.2 (.inr (List.mem_append.2 (.inr (List.mem_flatMap.2 ⟨m,h1,hkm⟩))))) rfl
    ·exact xs k hx k (List.mem_flatMap.2 ⟨m,h1,hkm⟩) rfl
 ·rw [hfm']
  exact nodup_turn hnd hlt hn hm
theorem MO.re {w0 w w':World} {v v':Value} {L L2:List Mw} (h:MO w0 w v L) (hb:Below w0.heap.size w0 w') (hrow:w'.ownsRow w0.heap.size 45 3 v' L2.length (mcs L2))
  (hk:∀ k,k<w.heap.size→k∉obs v→w'.heap[k]?=w.heap[k]?) (hv:∀ k∈obs v',k∈obs v∨w.heap.size≤k) (hs:List.Sublist (L2.flatMap blkM) (L.flatMap blkM)) (hel:∀ m∈L2,m∈L∨MoE w0 w' m):MO w0 w' v' L2:=by
 have hnd:=h.nd
 rw [List.nodup_append] at hnd
 obtain ⟨n1,n2,n3⟩:=hnd
 refine ⟨hrow,fun m hm=>?_,?_,hb⟩
 ·rcases hel m hm with h1 | h1
  ·exact (h.el m h1).keep fun k hkm=>hk k ((h.el m h1).lt hkm).2 (fun ho=>n3 k ho k (List.mem_flatMap.2 ⟨m,h1,hkm⟩) rfl)
  ·exact h1
 ·rw [List.nodup_append]
  refine ⟨obs_nodup _,List.Nodup.sublist hs n2,fun a ha b hb' e=>?_⟩
  have hb2:=hs.subset hb'
  rcases hv a ha with h1 | h1
  ·exact n3 a h1 b hb2 e
  ·have:=(h.lt (.inr hb2)).2
   omega
theorem MoE.mwa {w0 w:World} {m:Mw} (h:MoE w0 w m) (hb:Below w0.heap.size w0 w):MwA w m:=by
 obtain ⟨a1,c1,e1,l1,x1,s1⟩:=Sl.of_own h.us
 obtain ⟨a2,c2,e2,l2,x2,s2⟩:=Sl.of_own h.ds
 injection e1 with e1 _ e3
 injection e2 with e2 _ e4
 subst e1 e3 e2 e4
 exact ⟨h.sz,⟨rfl,s1,l1,x1,h.usz,own_cap0 h.us⟩,⟨rfl,s2,l2,x2,fun d hd=>(h.del d hd).below hb,own_cap0 h.ds⟩⟩
theorem MO.mla {w0 w:World} {v:Value} {L:List Mw} (h:MO w0 w v L):∃ ao cap,v=.slice ao L.length cap∧MLA w ao L.length cap L:=by
 obtain ⟨a1,c1,e1,l1,x1,s1⟩:=Sl.of_own h.own
 refine ⟨a1,c1,e1,rfl,s1,l1,x1,fun m hm=>(h.el m hm).mwa h.bel,?_⟩
 have h2:=h.own
 rw [e1] at h2
 exact own_cap0 h2
end Go.Proofs.YtgcceepadlmelaaGreatDoor
namespace Go.Proofs.YtgcceepadlmelaaGreatDoor
open Go.RowKit
theorem run_copy_rows {P:Program} (w:World) (dT sT ty elem:TypeId) (size g o dLen dCap:Nat) (a:Addr) (sLen sCap:Nat) (cs:List Value) (cur:Array Value) (rt:TypeId)
  (hu:P.underlying dT=some (.slice elem)) (hs:(P.info? elem).map (·.size)=some size) (m:Nat) (hm:Nat.min sLen dLen=m) (hn:cs.length=m*size)
  (hsrc:∀ j v,cs[j]?=some v→w.cell? (a.add j)=some v) (hg:w.heap[g]?=some (.cells cur rt (0,0))) (hroom:o+cs.length≤cur.size) (h1:∀ v∈cs,v.oneCell'=true) :
  (Builtin.copy_ #[dT,sT] ty #[.slice (some ⟨g,o,none⟩) dLen dCap,.slice (some a) sLen sCap]).run P w=.ok (goInt m) (w.setCells g o cs):=by
 have hl:=run_loadCells_list (P:=P) w a cs hsrc
 have hst:=run_storeCells_cells (P:=P) g o cs 0 w (fun j hj=>by rw [row_cell hg,Array.getElem?_eq_getElem (by omega)];rfl) (fun j _=>row_fz hg _) h1
 rw [hn] at hl
 simp only [Nat.add_zero] at hst
 cases hq:P.info? elem with
 | none=>simp [hq] at hs
 | some i =>
  have hi:i.size=size:=by simpa [hq] using hs
  simp [Builtin.copy_,run_underlying hu,Builtin.lenOf,Builtin.firstCells,sizeOf,typeInfo,hq,hi,hm,hl,hst]
theorem flat_drop {α:Type} {sz:Nat} {enc:α→List Value} (he:∀ x,(enc x).length=sz):∀ (l:List α) (k:Nat),(l.flatMap enc).drop (k*sz)=(l.drop k).flatMap enc
 | [],k=>by simp
 | a::l,0=>by simp
 | a::l,k+1=>by
  rw [List.flatMap_cons,List.drop_succ_cons,Nat.add_mul,Nat.one_mul,Nat.add_comm (k*sz),← flat_drop he l k,← he a,List.drop_append]
  simp
theorem ins_row {cur:Array Value} {A us:List Value} {p:Nat} (hp:p≤A.length) (hA:cur.toList.take A.length=A) (hroom:A.length+us.length≤cur.size) :
  (layAt (layAt cur (p+us.length) (A.drop p)) p us).toList.take (A.length+us.length)=A.take p++us++A.drop p:=by
 have hd:(A.drop p).length=A.length-p:=by simp
 have h1:p+us.length+(A.drop p).length≤cur.size:=by omega
 have h2:p+us.length≤(layAt cur (p+us.length) (A.drop p)).size:=by rw [layAt_size];omega
 have hl:(A.take p).length=p:=by simp;omega
 apply List.ext_getElem?
 intro t
 rw [List.getElem?_take,Array.getElem?_toList,layAt_get? _ _ _ _ h2,layAt_get? _ _ _ _ h1,hd]
 have hc:∀ j,j<A.length→cur[j]?=A[j]?:=fun j hj=>by
  have:=congrArg (fun z=>z[j]?) hA
  simp only [List.getElem?_take,hj,if_pos] at this
  simpa using this
 by_cases ht:t<A.length+us.length
 ·rw [if_pos ht]
  by_cases h3:t<p
  ·rw [if_neg (by omega),if_neg (by omega),List.append_assoc,List.getElem?_append_left (by omega),List.getElem?_take,if_pos h3,hc _ (by omega)]
  ·by_cases h4:t<p+us.length
   ·rw [if_pos (by omega),List.append_assoc,List.getElem?_append_right (by omega),hl,List.getElem?_append_left (by omega)]
   ·rw [if_neg (by omega),if_pos (by omega),List.append_assoc,List.getElem?_append_right (by omega),hl,List.getElem?_append_right (by omega)]
    congr 1
    omega
 ·rw [if_neg ht,List.getElem?_eq_none]
  rw [List.length_append,List.length_append,hl,hd]
  omega
theorem ins_row2 {R:Array Value} {A us:List Value} {p:Nat} (hp:p≤A.length) (hA:R.toList.take p=A.take p) (hroom:A.length+us.length≤R.size) :
  (layAt (layAt R p us) (p+us.length) (A.drop p)).toList.take (A.length+us.length)=A.take p++us++A.drop p:=by
 have hd:(A.drop p).length=A.length-p:=by simp
 have h1:p+us.length≤R.size:=by omega
 have h2:p+us.length+(A.drop p).length≤(layAt R p us).size:=by rw [layAt_size];omega
 have hl:(A.take p).length=p:=by simp;omega
 apply List.ext_getElem?
 intro t
 rw [List.getElem?_take,Array.getElem?_toList,layAt_get? _ _ _ _ h2,layAt_get? _ _ _ _ h1,hd]
 by_cases ht:t<A.length+us.length
 ·rw [if_pos ht]
  by_cases h3:t<p
  ·rw [if_neg (by omega),if_neg (by omega),List.append_assoc,List.getElem?_append_left (by omega),← hA,List.getElem?_take,if_pos h3]
   simp
  ·by_cases h4:t<p+us.length
   ·rw [if_neg (by omega),if_pos (by omega),List.append_assoc,List.getElem?_append_right (by omega),hl,List.getElem?_append_left (by omega)]
   ·rw [if_pos (by omega),List.append_assoc,List.getElem?_append_right (by omega),hl,List.getElem?_append_right (by omega)]
    congr 1
    omega
 ·rw [if_neg ht,List.getElem?_eq_none]
  rw [List.length_append,List.length_append,hl,hd]
  omega
end Go.Proofs.YtgcceepadlmelaaGreatDoor
namespace Go.Proofs.YtgcceepadlmelaaGreatDoor
set_option maxRecDepth 100000
set_option maxHeartbeats 4000000
open Go.RowKit
theorem retb {a b:Bool} (h:a=b):Ending.returned (.bool a)=.returned (.bool b):=by rw [h]
def letR (c:Int):Bool:=decide (97≤c) && decide (c≤122)
def digR (c:Int):Bool:=decide (48≤c) && decide (c≤57)
theorem letter_fn (c:Int) (w:World):Calls Tryz.prog 112 #[.int .i32 c] w fun e w'=>e=.returned (.bool (letR c))∧w'=w:=by
 cases h1:decide (97≤c) with
 | false =>
  have HV:Hid (letR c=false):=lid (by unfold letR;rw [h1];rfl)
  go_enter Tryz.func112,Tryz.ntmps112
  go_wp2_with fail
  go_ret
  exact ⟨retb HV.out.symm,rfl⟩
 | true =>
  have HV:Hid (letR c=decide (c≤122)):=lid (by unfold letR;rw [h1];rfl)
  obtain ⟨b,hb⟩:∃ b,decide (c≤122)=b:=⟨_,rfl⟩
  rw [hb] at HV
  go_enter Tryz.func112,Tryz.ntmps112
  go_wp2_with fail
  go_ret
  exact ⟨retb HV.out.symm,rfl⟩
theorem digit_fn (c:Int) (w:World):Calls Tryz.prog 113 #[.int .i32 c] w fun e w'=>e=.returned (.bool (digR c))∧w'=w:=by
 cases h1:decide (48≤c) with
 | false =>
  have HV:Hid (digR c=false):=lid (by unfold digR;rw [h1];rfl)
  go_enter Tryz.func113,Tryz.ntmps113
  go_wp2_with fail
  go_ret
  exact ⟨retb HV.out.symm,rfl⟩
 | true =>
  have HV:Hid (digR c=decide (c≤57)):=lid (by unfold digR;rw [h1];rfl)
  obtain ⟨b,hb⟩:∃ b,decide (c≤57)=b:=⟨_,rfl⟩
  rw [hb] at HV
  go_enter Tryz.func113,Tryz.ntmps113
  go_wp2_with fail
  go_ret
  exact ⟨retb HV.out.symm,rfl⟩
def runesW (s:ByteArray):Nat→Nat→Bool
 | 0,_=>true
 | k+1,pos=>if pos<s.size then (letR (Utf8.decode s pos).1 || (decide (pos≠0) && digR (Utf8.decode s pos).1)) && runesW s k (pos+(Utf8.decode s pos).2) else true
def wordW (s:ByteArray):Bool:=!decide (s.size=0) && (decide (s.size≤24) && runesW s s.size 0)
theorem widthW (s:ByteArray) (pos:Nat) (h:pos<s.size):1≤(Utf8.decode s pos).2:=by
 by_cases ha:(s[pos]'h).toNat<128
 ·rw [decode_ascii s pos h ha]
  exact Nat.le_refl _
 ·exact (decode_high s pos h (by omega)).2
theorem str_empty {s:ByteArray}:(s.toList == [])=decide (s.size=0):=by
 rw [ByteArray.toList_eq]
 have:s.size=s.data.toList.length:=rfl
 rw [this]
 cases s.data.toList <;> simp
theorem Word_fn (s:ByteArray) (w:World) (hs:s.size≤maxLen):Calls Tryz.prog 97 #[.string s] w fun e w'=>e=.returned (.bool (wordW s))∧Below w.heap.size w w':=by
 have hs':s.size≤9223372036854775807:=hs
 have hse:=@str_empty s
 by_cases h0:s.size=0
 ·have HV:Hid (wordW s=false):=lid (by unfold wordW;rw [decide_eq_true h0];rfl)
  rw [decide_eq_true h0] at hse
  clear h0
  go_enter Tryz.func97,Tryz.ntmps97
  go_wp2_with fail
  go_ret
  exact ⟨retb HV.out.symm,Below.refl _ _⟩
 rw [decide_eq_false h0] at hse
 by_cases h24:24<s.size
 ·have HV:Hid (wordW s=false):=lid (by unfold wordW;rw [decide_eq_false (show ¬ s.size≤24 by omega)];simp)
  have d:decide ((24:Int)<(s.size:Int))=true:=by simp;omega
  clear h0 h24
  go_enter Tryz.func97,Tryz.ntmps97
  go_wp2_with fail
  go_ret
  exact ⟨retb HV.out.symm,Below.refl _ _⟩
 have HV:Hid (wordW s=runesW s s.size 0):=lid (by unfold wordW;rw [decide_eq_false h0,decide_eq_true (show s.size≤24 by omega)];rfl)
 have d:decide ((24:Int)<(s.size:Int))=false:=by simp;omega
 have h24':s.size≤24:=by omega
 have CL:=lid (fun c W=>letter_fn c W)
 have CD:=lid (fun c W=>digit_fn c W)
 clear h0 h24
 go_enter Tryz.func97,Tryz.ntmps97
 go_wp2_with fail
 go_loopg [14] s.size (fun N _ wr=>∃ (pos k:Nat),N=s.size-pos∧wr.heap[w.heap.size]?=some (.stringIter s pos)∧Below w.heap.size w wr∧Hid (runesW s s.size 0=runesW s k pos)∧s.size-pos≤k)
 case atStart =>
  refine ⟨0,s.size,rfl,World.iter_heap w s 0,?_,lid rfl,by omega⟩
  exact ⟨rfl,rfl,rfl,by simp [World.iter],fun k hk=>Below.heap_alloc w _ k hk⟩
 case round =>
  obtain ⟨pos,k,hN,hit,hb,HR,hk⟩:=hrel
  by_cases hp:pos<s.size
  ·have hnx:∀ ty,(Instr.next (.pointer (some ⟨w.heap.size,0,none⟩)) true ty).run Tryz.prog wr=_:=fun ty=>Lib.run_next_any_at wr w.heap.size s pos ty hit hp
   have hwd:=widthW s pos hp
   have hit2:=Lib.iterAt_heap wr w.heap.size s pos (pos+(Utf8.decode s pos).2) hit
   have hb2:=Lib.below_iterAt hb (k:=w.heap.size) (Nat.le_refl _) s (pos+(Utf8.decode s pos).2)
   obtain ⟨k,rfl⟩:∃ f,k=f+1:=⟨k-1,by omega⟩
   have HX:Hid (runesW s (k+1) pos=((letR (Utf8.decode s pos).1 || (decide (pos≠0) && digR (Utf8.decode s pos).1)) && runesW s k (pos+(Utf8.decode s pos).2))):=lid (by rw [runesW,if_pos hp])
   obtain ⟨c,hc⟩:∃ c:Int,((Utf8.decode s pos).1:Int)=c:=⟨_,rfl⟩
   obtain ⟨wd,hwd'⟩:∃ n,(Utf8.decode s pos).2=n:=⟨_,rfl⟩
   rw [hc,hwd'] at HX
   rw [hwd'] at hit2 hb2 hwd
   simp only [hc,hwd'] at hnx
   obtain ⟨W2,hW2⟩:∃ y,wr.iterAt w.heap.size s (pos+wd)=y:=⟨_,rfl⟩
   rw [hW2] at hnx hit2 hb2
   have hp63:pos≤9223372036854775807:=by omega
   clear hit hb hc hwd' hW2
   cases hl:letR c with
   | true =>
    rw [hl] at HX
    go_wp2_with fail
    (with_reducible refine (CL.out c _).mono ?_);rintro e w3 ⟨rfl,rfl⟩
    rw [hl]
    go_wp2_with fail
    go_roundg (s.size-(pos+wd))
    case measure=>omega
    case rel=>exact ⟨pos+wd,k,rfl,hit2,hb2,lid (by rw [HR.out,HX.out];rfl),by omega⟩
   | false =>
    rw [hl] at HX
    by_cases h0:pos=0
    ·have HE:Hid (runesW s (k+1) pos=false):=lid (by rw [HX.out,h0];rfl)
     subst h0
     go_wp2_with fail
     (with_reducible refine (CL.out c _).mono ?_);rintro e w3 ⟨rfl,rfl⟩
     rw [hl]
     go_wp2_with fail
     go_ret
     exact ⟨retb (by rw [HV.out,HR.out,HE.out]),hb2⟩
    ·have d0:((pos:Int) == 0)=false:=by simp;omega
     cases hd:digR c with
     | true =>
      rw [hd] at HX
      go_wp2_with fail
      (with_reducible refine (CL.out c _).mono ?_);rintro e w3 ⟨rfl,rfl⟩
      rw [hl]
      go_wp2_with fail
      (with_reducible refine (CD.out c _).mono ?_);rintro e w3 ⟨rfl,rfl⟩
      rw [hd]
      go_wp2_with fail
      go_roundg (s.size-(pos+wd))
      case measure=>omega
      case rel=>exact ⟨pos+wd,k,rfl,hit2,hb2,lid (by rw [HR.out,HX.out];simp [h0]),by omega⟩
     | false =>
      have HE:Hid (runesW s (k+1) pos=false):=lid (by rw [HX.out,hd];simp)
      go_wp2_with fail
      (with_reducible refine (CL.out c _).mono ?_);rintro e w3 ⟨rfl,rfl⟩
      rw [hl]
      go_wp2_with fail
      (with_reducible refine (CD.out c _).mono ?_);rintro e w3 ⟨rfl,rfl⟩
      rw [hd]
      go_wp2_with fail
      go_ret
      exact ⟨retb (by rw [HV.out,HR.out,HE.out]),hb2⟩
  ·have hnx:∀ ty,(Instr.next (.pointer (some ⟨w.heap.size,0,none⟩)) true ty).run Tryz.prog wr=_:=fun ty=>Lib.run_next_end_at wr w.heap.size s pos ty hit hp
   have HE:Hid (runesW s k pos=true):=lid (by cases k with | zero=>rfl | succ k=>rw [runesW,if_neg hp])
   go_wp2_with fail
   go_ret
   exact ⟨retb (by rw [HV.out,HR.out,HE.out]),hb⟩
end Go.Proofs.YtgcceepadlmelaaGreatDoor
