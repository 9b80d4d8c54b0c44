import Derived.RangeFuncNested
import Derived.RangeFuncBound
import Derived.RangeFuncCalls
import Derived.RangeFuncLeaves
import Derived.Shelf.Abstract
import Derived.WalkKit
import Derived.OwnWalkIn
import Derived.TacticsInMore
import Derived.LoopNIn
import Derived.LoopIn
import Derived.OrdersIn
import Derived.TacticsIn
import Derived.Test.YtgcceepadlmelaaGreatDoorQAB
import Derived.Test.YtgcceepadlmelaaGreatDoorRegionL
namespace Go.Proofs.YtgcceepadlmelaaGreatDoor
open Go.RowKit Go.Shelf
structure KF (c:Nat→Prop) (B:Nat) (W W':World):Prop where
 size:W.heap.size≤W'.heap.size
 same:∀ (k:Nat) (o:Obj),B≤k→W.heap[k]?=some o→o.isCells=false→W'.heap[k]?=some o
 cells:∀ (k:Nat) cs t f,c k→W.heap[k]?=some (.cells cs t f)→W'.heap[k]?=some (.cells cs t f)
theorem KF.refl (c:Nat→Prop) (B:Nat) (W:World):KF c B W W:=⟨Nat.le_refl _,fun _ _ _ h _=>h,fun _ _ _ _ _ h=>h⟩
theorem KF.trans {c:Nat→Prop} {B:Nat} {X Y Z:World} (h:KF c B X Y) (k:KF c B Y Z):KF c B X Z :=
 ⟨Nat.le_trans h.size k.size,fun i o hi e ho=>k.same i o hi (h.same i o hi e ho) ho,fun i cs t f hi e=>k.cells i cs t f hi (h.cells i cs t f hi e)⟩
theorem KF.mono {c c':Nat→Prop} {B B':Nat} {X Y:World} (h:KF c B X Y) (hc:∀ k,c' k→c k) (hb:B≤B'):KF c' B' X Y:=⟨h.size,fun i o hi e ho=>h.same i o (Nat.le_trans hb hi) e ho,fun i cs t f hi e=>h.cells i cs t f (hc i hi) e⟩
theorem KF.below {c:Nat→Prop} {B:Nat} {X Y:World} (h:Below X.heap.size X Y):KF c B X Y:=⟨h.size,fun i _ _ e _=>(h.block i (Array.getElem?_eq_some_iff.1 e).1).trans e,fun i _ _ _ _ e=>(h.block i (Array.getElem?_eq_some_iff.1 e).1).trans e⟩
theorem KF.put {c:Nat→Prop} {B l:Nat} {W:World} {o:Obj} (o':Obj) (h:l<B) (hl:W.heap[l]?=some o) (ho:o.isCells=false):KF c B W (W.putObj l o') :=
 ⟨by simp,fun i _ hi e _=>(World.putObj_heap_other (by omega)).trans e,fun i _ _ _ _ e=>(World.putObj_heap_other (fun e2=>by subst e2;rw [hl] at e;cases e;cases ho)).trans e⟩
theorem KF.setCell {c:Nat→Prop} {B:Nat} (W:World) (p:Addr) (v:Value) (h0:¬ c p.block):KF c B W (W.setCell p v) :=
 ⟨by show W.heap.size≤(W.heap.modify _ _).size;rw [Array.size_modify];exact Nat.le_refl _,fun i o _ e ho=>(KeepsOthers.setCell W p v).same i o e ho,fun i _ _ _ hi e=>(Below.heap_setCell W p v i (fun e2=>by subst e2;exact h0 hi)).trans e⟩
theorem KF.sl {c:Nat→Prop} {B size n:Nat} {ao:Option Addr} {xs:List Value} {W W':World} (h:KF c B W W') (hs:Sl W size ao n xs) (hf:∀ b o,ao=some ⟨b,o,none⟩→c b):Sl W' size ao n xs:=by
 refine ⟨hs.1,?_⟩
 rcases hs.2 with h0 | ⟨b,o,e,hb,hc⟩
 ·exact .inl h0
 ·refine .inr ⟨b,o,e,Nat.lt_of_lt_of_le hb h.size,fun j u hu=>?_⟩
  have hcu:=hc j u hu
  obtain ⟨ob,ho,hcl⟩:=cells_of_cell hcu
  cases ob <;> first | (cases hcl;done) | skip
  rename_i c t f
  rw [← hcu]
  exact World.cell?_of_block (w:=W) (a:=⟨b,o+j,none⟩) ((h.cells b c t f (hf b o e) ho).trans ho.symm)
def Ab (B:Nat) (I:World→Prop):Prop :=
 ∀ W W' row,I W→W.grownBy W' row→(∀ r,row=some r→B≤r∧∃ o:Obj,W.heap[r]?=some o∧o.isCells=false)→I W'
theorem Ab.putObj {B:Nat} {I:World→Prop} (h:Ab B I) {W:World} {l:Nat} {o:Obj} (o':Obj) (hs:I W) (hB:B≤l) (hl:W.heap[l]?=some o) (ho:o.isCells=false):I (W.putObj l o') :=
 h W _ (some l) hs (grownBy_putObj' W l o') (fun r e=>by cases e;exact ⟨hB,o,hl,ho⟩)
theorem Ab.alloc {B:Nat} {I:World→Prop} (h:Ab B I) {W:World} (o:Obj) (hs:I W):I (W.alloc o):=h W _ none hs (World.grownBy_alloc W o none) (fun r e=>by cases e)
theorem Ab.below {B:Nat} {I:World→Prop} (h:Ab B I) {W W':World} (hs:I W) (hb:Below W.heap.size W W'):I W' :=
 h W _ none hs ⟨hb.os,hb.tape,hb.output,hb.size,fun k hk _=>hb.block k hk⟩ (fun r e=>by cases e)
theorem Ab.mono {B B':Nat} {I:World→Prop} (h:Ab B I) (hb:B≤B'):Ab B' I:=fun W W' row hs hg hr=>h W W' row hs hg (fun r e=>⟨Nat.le_trans hb (hr r e).1,(hr r e).2⟩)
theorem Ab.and {B:Nat} {I I':World→Prop} (h:Ab B I) (h':Ab B I'):Ab B (fun W=>I W∧I' W):=fun W W' row hs hg hr=>⟨h W W' row hs.1 hg hr,h' W W' row hs.2 hg hr⟩
theorem Ab.pure {B:Nat} (p:Prop):Ab B (fun _=>p):=fun _ _ _ hs _ _=>hs
theorem Ab.ex {B:Nat} {α:Type} {I:α→World→Prop} (h:∀ x,Ab B (I x)):Ab B (fun W=>∃ x,I x W):=fun W W' row ⟨x,hs⟩ hg hr=>⟨x,h x W W' row hs hg hr⟩
theorem Ab.blk {B k:Nat} (hk:k<B) (o:Option Obj) (ho:o.isSome=true):Ab B (fun W=>W.heap[k]?=o):=fun W W' row hs hg hr=>by
 refine (hg.block k ?_ (fun e=>?_)).trans hs
 ·cases o with
  | none=>cases ho
  | some o=>exact (Array.getElem?_eq_some_iff.1 hs).1
 ·have:=(hr k e.symm).1
  omega
theorem Ab.belowW {n₀ B:Nat} {w₀:World} (hn:n₀≤w₀.heap.size) (hB:n₀≤B):Ab B (fun W=>Below n₀ w₀ W) :=
 fun _ _ _ hs hg hr=>hs.grown hg (Nat.le_trans hn hs.size) (fun k e=>Nat.le_trans hB (hr k e).1)
theorem Ab.sl {B size n:Nat} {ao:Option Addr} {xs:List Value}:Ab B (fun W=>Sl W size ao n xs):=fun W W' row hs hg hr=>by
 refine ⟨hs.1,?_⟩
 rcases hs.2 with h0 | ⟨b,o,e,hb,hc⟩
 ·exact .inl h0
 ·refine .inr ⟨b,o,e,Nat.lt_of_lt_of_le hb hg.size,fun j u hu=>?_⟩
  exact cell_kept (hc j u hu) hg (fun r e=>(hr r e).2)
def rfPost {σ α:Type} (c:Nat→Prop) (B:Nat) (T:σ→α→σ→Prop) (I:σ→World→Prop) (Ix:Code→σ→α→World→Prop) (s:σ) (x:α) (W:World):Exit→Act→World→Prop
 | .normal,_,W'=>KF c B W W'∧∃ s',T s x s'∧I s' W'
 | .ret,_,W'=>KF c B W W'∧Ix .ret s x W'
 | .exit id,_,W'=>KF c B W W'∧Ix (.exit id) s x W'
 | .goto t,_,W'=>KF c B W W'∧Ix (.goto t) s x W'
 | .panic _,_,_=>False
 | .outgrown,_,_=>False
def RoundC {σ α:Type} (P:Program) (m l:Nat) (c:Nat→Prop) (B:Nat) (enc:α→Value) (X:σ→α→World→Prop) (T:σ→α→σ→Prop) (J:σ→World→Prop) (Jx:σ→α→World→Prop):Prop :=
 ∀ s x W,J s W→X s x W→YieldAt Fence.wide m P l #[enc x] W fun e W'=>(e=.returned (.bool true)∧KF c B W W'∧∃ s',T s x s'∧J s' W')∨(e=.returned (.bool false)∧KF c B W W'∧Jx s x W')
variable {n:Nat} {P:Program} {w:World}
theorem wpIn_rf {σ α:Type} {g:Operand} {p:Tmp} {assign body:Code} {Q:Exit→Act→World→Prop} {a:Act}
  {gf:Nat} {pre lb:Array Value} (hg:a.eval g=.func (.func gf) pre lb) (eg:∀ args w,(callFunc gf args).run P w=.ok (.enter gf args) w)
  (enc:α→Value) (X:σ→α→World→Prop) (T:σ→α→σ→Prop) (I:σ→World→Prop) (Ix:Code→σ→α→World→Prop)
  (hX:∀ s x,Ab w.heap.size (X s x))
  (hI:∀ s,Ab w.heap.size (I s)) (hIx:∀ c s x,Ab w.heap.size (Ix c s x)) (s0:σ) (h0:I s0 w) (q:Tmp)
  (S:σ→Prop) (Sx:σ→α→Prop) (kc:Nat→Prop)
  (hcall:∀ (l m:Nat) (rec:LoopState→Option Code→Loop) (W:World),W.heap.size=w.heap.size+2→Below w.heap.size w W →
   (∀ s,Ab W.heap.size (fun W=>I s W∧W.heap[w.heap.size+1]?=some (.loop (rec .ready none))∧W.heap[w.heap.size]?=some (.deferred (some [])))) →
   (∀ s x,Ab W.heap.size (fun W=>∃ c,Ix c s x W∧W.heap[w.heap.size+1]?=some (.loop (rec .done (some c)))∧W.heap[w.heap.size]?=some (.deferred (some [])))) →
   RoundC P m l kc W.heap.size enc X T (fun s W=>I s W∧W.heap[w.heap.size+1]?=some (.loop (rec .ready none))∧W.heap[w.heap.size]?=some (.deferred (some [])))
    (fun s x W=>∃ c,Ix c s x W∧W.heap[w.heap.size+1]?=some (.loop (rec .done (some c)))∧W.heap[w.heap.size]?=some (.deferred (some []))) →
   (I s0 W∧W.heap[w.heap.size+1]?=some (.loop (rec .ready none))∧W.heap[w.heap.size]?=some (.deferred (some []))) →
   Calls P gf (pre++#[.func (.yield l) #[] #[]]++lb) W fun e W'=>e=.returned (.tuple #[]) ∧
    ((∃ s,S s∧I s W'∧W'.heap[w.heap.size+1]?=some (.loop (rec .ready none))∧W'.heap[w.heap.size]?=some (.deferred (some []))) ∨
     (∃ s x,Sx s x∧∃ c,Ix c s x W'∧W'.heap[w.heap.size+1]?=some (.loop (rec .done (some c)))∧W'.heap[w.heap.size]?=some (.deferred (some [])))))
  (hassign:∀ (l m:Nat) (x:α) (W:World) (K:Act→World→Prop),K { tmps:=(a.tmps.setIfInBounds p (enc x)).setIfInBounds q (enc x),defers:=[] } W →
   assign.wpIn (Fence.wide.inRound l) m P (Exit.then K (fun _ _ _=>False)) { tmps:=a.tmps.setIfInBounds p (enc x),defers:=[] } W)
  (hbody:∀ (l m:Nat) (s:σ) (x:α) (W:World),I s W→X s x W→w.heap.size≤W.heap.size→body.wpIn (Fence.wide.inRound l) m P (rfPost kc w.heap.size T I Ix s x W) { tmps:=(a.tmps.setIfInBounds p (enc x)).setIfInBounds q (enc x),defers:=[] } W)
  (hdone:∀ (D:Nat) (s:σ) (W:World),w.heap.size≤D→S s→I s W→W.heap[D]?=some (.deferred (some []))→Q .normal { a with defers:={ target:=.collected D,args:=#[] }::a.defers } W)
  (hstop:∀ (D:Nat) (c:Code) (s:σ) (x:α) (W:World),w.heap.size≤D→Sx s x→Ix c s x W→W.heap[D]?=some (.deferred (some []))→c.wpIn Fence.wide n P Q { a with defers:={ target:=.collected D,args:=#[] }::a.defers } W) :
  (Code.rangeFunc g #[p] assign body).wpIn Fence.wide n P Q a w:=by
 refine wpIn_rangeFunc ?_
 intro fn hfn
 rw [show Fence.wide.round=none from rfl]
 obtain ⟨rec,hrec⟩:∃ rec:LoopState→Option Code→Loop,rec=fun st pe=>{ state:=st,pending:=pe,fn,tmps:=a.tmps,params:=#[p],assign,body,defers:=w.heap.size }:=⟨_,rfl⟩
 obtain ⟨W1,hW1⟩:∃ W1,(w.alloc (.deferred (some []))).alloc (.loop (rec .ready none))=W1:=⟨_,rfl⟩
 have hL1:W1.heap[w.heap.size+1]?=some (.loop (rec .ready none)):=by
  rw [← hW1];have:=World.alloc_heap_new (w.alloc (.deferred (some []))) (.loop (rec .ready none));rwa [World.size_alloc] at this
 have hK1:W1.heap[w.heap.size]?=some (.deferred (some [])):=by
  rw [← hW1];exact (Below.heap_alloc _ _ _ (by simp)).trans (World.alloc_heap_new w _)
 have hI1:I s0 W1:=by rw [← hW1];exact (hI s0).alloc _ ((hI s0).alloc _ h0)
 have hz1:W1.heap.size=w.heap.size+2:=by rw [← hW1];simp
 refine ⟨w.heap.size+1,[{ target:=.collected w.heap.size,args:=#[] }],W1,{ target:=.fn (.func gf) lb,args:=pre++#[.func (.yield (w.heap.size+1)) #[] #[]] },W1,gf,
  pre++#[.func (.yield (w.heap.size+1)) #[] #[]]++lb,W1,?_,?_,?_,?_,fun h=>(by cases h),callsIn_wide.2 ?_⟩
 ·rw [← hW1,hrec];exact run_enterLoop_outer _ _ _ _ _
 ·simp only [resolve,hg]
  simp [go_sem]
 ·intro f' hf';exact trivial
 ·simp [invoke,go_sem,eg]
 ·refine (hcall (w.heap.size+1) (n-1-1) rec W1 hz1 (by rw [← hW1];exact ((Below.refl _ _).alloc (Nat.le_refl _) _).alloc (by simp) _) (fun s=>?_) (fun s x=>?_) ?_ ⟨hI1,hL1,hK1⟩).mono ?_
  ·rw [hz1]
   exact ((hI s).mono (by omega)).and ((Ab.blk (by omega) _ rfl).and (Ab.blk (by omega) _ rfl))
  ·rw [hz1]
   exact Ab.ex fun c=>((hIx c s x).mono (by omega)).and ((Ab.blk (by omega) _ rfl).and (Ab.blk (by omega) _ rfl))
  ·rintro s x W ⟨hi,hl,hk⟩ hx
   have hlt:w.heap.size+1<W.heap.size:=(Array.getElem?_eq_some_iff.1 hl).1
   have hy:=run_yield (P:=P) (args:=#[enc x]) hl (by rw [hrec];rfl)
   rw [hrec] at hy
   have hy:(Instr.yield (w.heap.size+1) #[enc x]).run P W=.ok (.round (w.heap.size+1) fn (a.tmps.setIfInBounds p (enc x)) assign body) W:=by
    rw [hy]
    simp
   refine ⟨fn,_,assign,body,hy,roundIn_of_wpIn trivial (hassign _ _ x W _ ⟨_,run_beginRound hl (by rw [hrec]),?_⟩)⟩
   have hl2:(W.putObj (w.heap.size+1) (.loop { rec .ready none with state:=.busy })).heap[w.heap.size+1]?=some (.loop { rec .ready none with state:=.busy }):=World.putObj_heap_same hlt
   have hk2:(W.putObj (w.heap.size+1) (.loop { rec .ready none with state:=.busy })).heap[w.heap.size]?=some (.deferred (some [])):=(World.putObj_heap_other (by omega)).trans hk
   have hKF:=KF.put (c:=kc) (B:=w.heap.size+2) (.loop { rec .ready none with state:=.busy }) (show w.heap.size+1<w.heap.size+2 by omega) hl rfl
   refine wpIn_mono (hbody _ _ s x _ ((hI s).putObj _ hi (by omega) hl rfl) ((hX s x).putObj _ hx (by omega) hl rfl) (by simp;omega)) ?_
   have fin:∀ (jump:Option Code) (W3:World),KF kc w.heap.size (W.putObj (w.heap.size+1) (.loop { rec .ready none with state:=.busy })) W3 →
     (Instr.endRound (w.heap.size+1) jump).run P W3=.ok (.bool jump.isNone) (W3.putObj (w.heap.size+1) (.loop (rec (if jump.isNone then .ready else .done) jump))) ∧
     W3.heap[w.heap.size+1]?=some (.loop { rec .ready none with state:=.busy }) ∧
     (W3.putObj (w.heap.size+1) (.loop (rec (if jump.isNone then .ready else .done) jump))).heap[w.heap.size+1]?=some (.loop (rec (if jump.isNone then .ready else .done) jump)) ∧
     (W3.putObj (w.heap.size+1) (.loop (rec (if jump.isNone then .ready else .done) jump))).heap[w.heap.size]?=some (.deferred (some [])) ∧
     KF kc W1.heap.size W (W3.putObj (w.heap.size+1) (.loop (rec (if jump.isNone then .ready else .done) jump))):=fun jump W3 hk3=>by
    have hl3:=hk3.same _ _ (by omega) hl2 rfl
    have:=run_endRound (P:=P) jump hl3
    rw [hrec] at this ⊢
    refine ⟨this,by rw [hrec] at hl3;exact hl3,World.putObj_heap_same (Array.getElem?_eq_some_iff.1 hl3).1,(World.putObj_heap_other (by omega)).trans (hk3.same _ _ (Nat.le_refl _) hk2 rfl),?_⟩
    rw [hz1]
    exact (hKF.trans (hk3.mono (fun _ h=>h) (by omega))).trans (KF.put _ (by omega) hl3 rfl)
   rintro e a3 W3 hp
   cases e with
   | normal =>
    obtain ⟨hk3,s',hT,hi3⟩:=hp
    obtain ⟨hr,hl3,hl4,hk4,hkf⟩:=fin none W3 hk3
    exact ⟨_,_,hr,.inl ⟨rfl,hkf,s',hT,(hI s').putObj _ hi3 (by omega) hl3 rfl,hl4,hk4⟩⟩
   | ret =>
    obtain ⟨hk3,hi3⟩:=hp
    obtain ⟨hr,hl3,hl4,hk4,hkf⟩:=fin (some .ret) W3 hk3
    exact ⟨_,_,hr,.inr ⟨rfl,hkf,.ret,(hIx _ _ _).putObj _ hi3 (by omega) hl3 rfl,hl4,hk4⟩⟩
   | exit id =>
    obtain ⟨hk3,hi3⟩:=hp
    obtain ⟨hr,hl3,hl4,hk4,hkf⟩:=fin (some (.exit id)) W3 hk3
    exact ⟨_,_,hr,.inr ⟨rfl,hkf,.exit id,(hIx _ _ _).putObj _ hi3 (by omega) hl3 rfl,hl4,hk4⟩⟩
   | goto t =>
    obtain ⟨hk3,hi3⟩:=hp
    obtain ⟨hr,hl3,hl4,hk4,hkf⟩:=fin (some (.goto t)) W3 hk3
    exact ⟨_,_,hr,.inr ⟨rfl,hkf,.goto t,(hIx _ _ _).putObj _ hi3 (by omega) hl3 rfl,hl4,hk4⟩⟩
   | panic ch=>exact hp.elim
   | outgrown=>exact hp.elim
  ·rintro e W2 ⟨rfl,(⟨s,hS,hi,hl,hk⟩ | ⟨s,x,hSx,c,hi,hl,hk⟩)⟩
   ·exact ⟨none,_,by have:=run_endLoop (P:=P) hl (by rw [hrec];simp);rw [hrec] at this;exact this,hdone _ s _ (Nat.le_refl _) hS ((hI s).putObj _ hi (by omega) hl rfl) ((World.putObj_heap_other (by omega)).trans hk)⟩
   ·exact ⟨some c,_,by have:=run_endLoop (P:=P) hl (by rw [hrec];simp);rw [hrec] at this;exact this,hstop _ c s x _ (Nat.le_refl _) hSx ((hIx c s x).putObj _ hi (by omega) hl rfl) ((World.putObj_heap_other (by omega)).trans hk)⟩
end Go.Proofs.YtgcceepadlmelaaGreatDoor
