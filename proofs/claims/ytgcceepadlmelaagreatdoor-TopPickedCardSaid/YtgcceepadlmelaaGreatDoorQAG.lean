import Derived.Test.YtgcceepadlmelaaGreatDoorQAD
import Derived.Test.YtgcceepadlmelaaGreatDoorQAF
import Derived.Test.YtgcceepadlmelaaGreatDoorQAC
import Derived.Test.YtgcceepadlmelaaGreatDoorQAB
import Derived.Test.YtgcceepadlmelaaGreatDoorChecked
namespace Go.Proofs.YtgcceepadlmelaaGreatDoor
open Go.RowKit Go.Shelf
variable {n:Nat} {P:Program} {w:World}
theorem wpIn_rfna {σ α:Type} {g:Operand} {ps:Array Tmp} {assign body:Code} {Q:Exit→Act→World→Prop} {a:Act}
  {gf:Nat} {pre lb:Array Value} (hg:a.eval g=.func (.func gf) pre lb) (eg:∀ args w,(callFunc gf args).run P w=.ok (.enter gf args) w)
  (encs:α→Array Value) (X:σ→α→World→Prop) (T:σ→α→σ→Prop) (I:σ→World→Prop) (Ix:Code→σ→α→World→Prop)
  (hps:∀ x,(encs x).size=ps.size)
  (hX:∀ s x,Ab w.heap.size (X s x))
  (hI:∀ s,Ab w.heap.size (I s)) (hIx:∀ c s x,Ab w.heap.size (Ix c s x)) (s0:σ) (h0:I s0 w) (Bx:α→Act→World→Prop) (hBx:∀ x a₁,Ab w.heap.size (Bx x a₁))
  (S:σ→Prop) (Sx:σ→α→Prop) (kc:Nat→Prop)
  (hcall:∀ (l m:Nat) (rec:LoopState→Option Code→Loop) (W:World),W.heap.size=w.heap.size+2→Below w.heap.size w W →
   (∀ s,Ab W.heap.size (fun W=>I s W∧W.heap[w.heap.size+1]?=some (.loop (rec .ready none))∧W.heap[w.heap.size]?=some (.deferred (some [])))) →
   (∀ s x,Ab W.heap.size (fun W=>∃ c,Ix c s x W∧W.heap[w.heap.size+1]?=some (.loop (rec .done (some c)))∧W.heap[w.heap.size]?=some (.deferred (some [])))) →
   RoundN P m l kc W.heap.size encs X T (fun s W=>I s W∧W.heap[w.heap.size+1]?=some (.loop (rec .ready none))∧W.heap[w.heap.size]?=some (.deferred (some [])))
    (fun s x W=>∃ c,Ix c s x W∧W.heap[w.heap.size+1]?=some (.loop (rec .done (some c)))∧W.heap[w.heap.size]?=some (.deferred (some []))) →
   (I s0 W∧W.heap[w.heap.size+1]?=some (.loop (rec .ready none))∧W.heap[w.heap.size]?=some (.deferred (some []))) →
   Calls P gf (pre++#[.func (.yield l) #[] #[]]++lb) W fun e W'=>e=.returned (.tuple #[]) ∧
    ((∃ s,S s∧I s W'∧W'.heap[w.heap.size+1]?=some (.loop (rec .ready none))∧W'.heap[w.heap.size]?=some (.deferred (some []))) ∨
     (∃ s x,Sx s x∧∃ c,Ix c s x W'∧W'.heap[w.heap.size+1]?=some (.loop (rec .done (some c)))∧W'.heap[w.heap.size]?=some (.deferred (some [])))))
  (hassign:∀ (l m:Nat) (s:σ) (x:α) (W:World) (K:Act→World→Prop),I s W→X s x W→w.heap.size≤W.heap.size→(∀ a₁ W1,Below W.heap.size W W1→Bx x a₁ W1→K a₁ W1) →
   assign.wpIn (Fence.wide.inRound l) m P (Exit.then K (fun _ _ _=>False)) { tmps:=(ps.zip (encs x)).foldl (fun t (p,v)=>t.setIfInBounds p v) a.tmps,defers:=[] } W)
  (hbody:∀ (l m:Nat) (s:σ) (x:α) (a₁:Act) (W:World),I s W→X s x W→Bx x a₁ W→w.heap.size≤W.heap.size→body.wpIn (Fence.wide.inRound l) m P (rfPost kc w.heap.size T I Ix s x W) a₁ W)
  (hdone:∀ (D:Nat) (s:σ) (W:World),w.heap.size≤D→S s→I s W→W.heap[D]?=some (.deferred (some []))→Q .normal { a with defers:={ target:=.collected D,args:=#[] }::a.defers } W)
  (hstop:∀ (D:Nat) (c:Code) (s:σ) (x:α) (W:World),w.heap.size≤D→Sx s x→Ix c s x W→W.heap[D]?=some (.deferred (some []))→c.wpIn Fence.wide n P Q { a with defers:={ target:=.collected D,args:=#[] }::a.defers } W) :
  (Code.rangeFunc g ps assign body).wpIn Fence.wide n P Q a w:=by
 refine wpIn_rangeFunc ?_
 intro fn hfn
 rw [show Fence.wide.round=none from rfl]
 obtain ⟨rec,hrec⟩:∃ rec:LoopState→Option Code→Loop,rec=fun st pe=>{ state:=st,pending:=pe,fn,tmps:=a.tmps,params:=ps,assign,body,defers:=w.heap.size }:=⟨_,rfl⟩
 obtain ⟨W1,hW1⟩:∃ W1,(w.alloc (.deferred (some []))).alloc (.loop (rec .ready none))=W1:=⟨_,rfl⟩
 have hL1:W1.heap[w.heap.size+1]?=some (.loop (rec .ready none)):=by
  rw [← hW1];have:=World.alloc_heap_new (w.alloc (.deferred (some []))) (.loop (rec .ready none));rwa [World.size_alloc] at this
 have hK1:W1.heap[w.heap.size]?=some (.deferred (some [])):=by
  rw [← hW1];exact (Below.heap_alloc _ _ _ (by simp)).trans (World.alloc_heap_new w _)
 have hI1:I s0 W1:=by rw [← hW1];exact (hI s0).alloc _ ((hI s0).alloc _ h0)
 have hz1:W1.heap.size=w.heap.size+2:=by rw [← hW1];simp
 refine ⟨w.heap.size+1,[{ target:=.collected w.heap.size,args:=#[] }],W1,{ target:=.fn (.func gf) lb,args:=pre++#[.func (.yield (w.heap.size+1)) #[] #[]] },W1,gf,
  pre++#[.func (.yield (w.heap.size+1)) #[] #[]]++lb,W1,?_,?_,?_,?_,fun h=>(by cases h),callsIn_wide.2 ?_⟩
 ·rw [← hW1,hrec];exact run_enterLoop_outer _ _ _ _ _
 ·simp only [resolve,hg]
  simp [go_sem]
 ·intro f' hf';exact trivial
 ·simp [invoke,go_sem,eg]
 ·refine (hcall (w.heap.size+1) (n-1-1) rec W1 hz1 (by rw [← hW1];exact ((Below.refl _ _).alloc (Nat.le_refl _) _).alloc (by simp) _) (fun s=>?_) (fun s x=>?_) ?_ ⟨hI1,hL1,hK1⟩).mono ?_
  ·rw [hz1]
   exact ((hI s).mono (by omega)).and ((Ab.blk (by omega) _ rfl).and (Ab.blk (by omega) _ rfl))
  ·rw [hz1]
   exact Ab.ex fun c=>((hIx c s x).mono (by omega)).and ((Ab.blk (by omega) _ rfl).and (Ab.blk (by omega) _ rfl))
  ·rintro s x W ⟨hi,hl,hk⟩ hx
   have hlt:w.heap.size+1<W.heap.size:=(Array.getElem?_eq_some_iff.1 hl).1
   have hy:=run_yield (P:=P) (args:=encs x) hl (by rw [hrec];exact hps x)
   rw [hrec] at hy
   have hy:(Instr.yield (w.heap.size+1) (encs x)).run P W=.ok (.round (w.heap.size+1) fn ((ps.zip (encs x)).foldl (fun t (p,v)=>t.setIfInBounds p v) a.tmps) assign body) W:=hy
   refine ⟨fn,_,assign,body,hy,roundIn_of_wpIn trivial (hassign _ _ s x W _ hi hx (by omega) ?_)⟩
   intro a₁ W0 hb0 hbx
   have hl0:W0.heap[w.heap.size+1]?=some (.loop (rec .ready none)):=(hb0.block _ hlt).trans hl
   have hk0:W0.heap[w.heap.size]?=some (.deferred (some [])):=(hb0.block _ (by omega)).trans hk
   have hlt0:w.heap.size+1<W0.heap.size:=Nat.lt_of_lt_of_le hlt hb0.size
   have hi0:I s W0:=(hI s).below hi hb0
   have hx0:X s x W0:=(hX s x).below hx hb0
   refine ⟨_,run_beginRound hl0 (by rw [hrec]),?_⟩
   have hl2:(W0.putObj (w.heap.size+1) (.loop { rec .ready none with state:=.busy })).heap[w.heap.size+1]?=some (.loop { rec .ready none with state:=.busy }):=World.putObj_heap_same hlt0
   have hk2:(W0.putObj (w.heap.size+1) (.loop { rec .ready none with state:=.busy })).heap[w.heap.size]?=some (.deferred (some [])):=(World.putObj_heap_other (by omega)).trans hk0
   have hKF:=(KF.below (c:=kc) (B:=w.heap.size+2) hb0).trans (KF.put (c:=kc) (B:=w.heap.size+2) (.loop { rec .ready none with state:=.busy }) (show w.heap.size+1<w.heap.size+2 by omega) hl0 rfl)
   refine wpIn_mono (hbody _ _ s x a₁ _ ((hI s).putObj _ hi0 (by omega) hl0 rfl) ((hX s x).putObj _ hx0 (by omega) hl0 rfl) ((hBx x a₁).putObj _ hbx (by omega) hl0 rfl) (by simp;omega)) ?_
   have fin:∀ (jump:Option Code) (W3:World),KF kc w.heap.size (W0.putObj (w.heap.size+1) (.loop { rec .ready none with state:=.busy })) W3 →
     (Instr.endRound (w.heap.size+1) jump).run P W3=.ok (.bool jump.isNone) (W3.putObj (w.heap.size+1) (.loop (rec (if jump.isNone then .ready else .done) jump))) ∧
     W3.heap[w.heap.size+1]?=some (.loop { rec .ready none with state:=.busy }) ∧
     (W3.putObj (w.heap.size+1) (.loop (rec (if jump.isNone then .ready else .done) jump))).heap[w.heap.size+1]?=some (.loop (rec (if jump.isNone then .ready else .done) jump)) ∧
     (W3.putObj (w.heap.size+1) (.loop (rec (if jump.isNone then .ready else .done) jump))).heap[w.heap.size]?=some (.deferred (some [])) ∧
     KF kc W1.heap.size W (W3.putObj (w.heap.size+1) (.loop (rec (if jump.isNone then .ready else .done) jump))):=fun jump W3 hk3=>by
    have hl3:=hk3.same _ _ (by omega) hl2 rfl
    have:=run_endRound (P:=P) jump hl3
    rw [hrec] at this ⊢
    refine ⟨this,by rw [hrec] at hl3;exact hl3,World.putObj_heap_same (Array.getElem?_eq_some_iff.1 hl3).1,(World.putObj_heap_other (by omega)).trans (hk3.same _ _ (Nat.le_refl _) hk2 rfl),?_⟩
    rw [hz1]
    exact (hKF.trans (hk3.mono (fun _ h=>h) (by omega))).trans (KF.put _ (by omega) hl3 rfl)
   rintro e a3 W3 hp
   cases e with
   | normal =>
    obtain ⟨hk3,s',hT,hi3⟩:=hp
    obtain ⟨hr,hl3,hl4,hk4,hkf⟩:=fin none W3 hk3
    exact ⟨_,_,hr,.inl ⟨rfl,hkf,s',hT,(hI s').putObj _ hi3 (by omega) hl3 rfl,hl4,hk4⟩⟩
   | ret =>
    obtain ⟨hk3,hi3⟩:=hp
    obtain ⟨hr,hl3,hl4,hk4,hkf⟩:=fin (some .ret) W3 hk3
    exact ⟨_,_,hr,.inr ⟨rfl,hkf,.ret,(hIx _ _ _).putObj _ hi3 (by omega) hl3 rfl,hl4,hk4⟩⟩
   | exit id =>
    obtain ⟨hk3,hi3⟩:=hp
    obtain ⟨hr,hl3,hl4,hk4,hkf⟩:=fin (some (.exit id)) W3 hk3
    exact ⟨_,_,hr,.inr ⟨rfl,hkf,.exit id,(hIx _ _ _).putObj _ hi3 (by omega) hl3 rfl,hl4,hk4⟩⟩
   | goto t =>
    obtain ⟨hk3,hi3⟩:=hp
    obtain ⟨hr,hl3,hl4,hk4,hkf⟩:=fin (some (.goto t)) W3 hk3
    exact ⟨_,_,hr,.inr ⟨rfl,hkf,.goto t,(hIx _ _ _).putObj _ hi3 (by omega) hl3 rfl,hl4,hk4⟩⟩
   | panic ch=>exact hp.elim
   | outgrown=>exact hp.elim
  ·rintro e W2 ⟨rfl,(⟨s,hS,hi,hl,hk⟩ | ⟨s,x,hSx,c,hi,hl,hk⟩)⟩
   ·exact ⟨none,_,by have:=run_endLoop (P:=P) hl (by rw [hrec];simp);rw [hrec] at this;exact this,hdone _ s _ (Nat.le_refl _) hS ((hI s).putObj _ hi (by omega) hl rfl) ((World.putObj_heap_other (by omega)).trans hk)⟩
   ·exact ⟨some c,_,by have:=run_endLoop (P:=P) hl (by rw [hrec];simp);rw [hrec] at this;exact this,hstop _ c s x _ (Nat.le_refl _) hSx ((hIx c s x).putObj _ hi (by omega) hl rfl) ((World.putObj_heap_other (by omega)).trans hk)⟩
end Go.Proofs.YtgcceepadlmelaaGreatDoor
namespace Go.Proofs.YtgcceepadlmelaaGreatDoor
set_option maxRecDepth 100000
set_option maxHeartbeats 4000000
open Go.RowKit
theorem take_eq_succ {α:Type} {a b:List α} {k:Nat} (ha:k<a.length) (hb:k<b.length) (h:a.take k=b.take k) (e:a[k]=b[k]):a.take (k+1)=b.take (k+1):=by
 rw [List.take_succ_eq_append_getElem ha,List.take_succ_eq_append_getElem hb,h,e]
theorem ne_at {α:Type} {a b:List α} {k:Nat} (ha:k<a.length) (hb:k<b.length) (e:¬ a[k]=b[k]):¬ a=b:=by
 intro h
 subst h
 exact e rfl
theorem EqualS_any (S T:List ByteArray) (n1 c1 n2 c2:Nat) (a1 a2:Option Addr) (w:World) (h1:SA w a1 n1 c1 S) (h2:SA w a2 n2 c2 T) :
  Calls Tryz.prog 66 #[.slice a1 n1 c1,.slice a2 n2 c2] w fun e w'=>e=.returned (.bool (decide (S=T)))∧Below w.heap.size w w':=by
 have hm1:(n1:Int)≤9223372036854775807:=by have:=h1.le;have:=h1.max;simp only [maxLen] at this;omega
 have hm2:(n2:Int)≤9223372036854775807:=by have:=h2.le;have:=h2.max;simp only [maxLen] at this;omega
 by_cases hnn:n1=n2
 case neg =>
  have HV:Hid (decide (S=T)=false):=lid (decide_eq_false (fun e=>hnn (by rw [← h1.len,← h2.len,e])))
  have d0:((n1:Int) == (n2:Int))=false:=by simp;omega
  have d1:((n1:Int) != (n2:Int))=true:=by simp;omega
  clear h1 h2 hnn
  go_enter Tryz.func66,Tryz.ntmps66
  go_wp2_with fail
  go_ret
  exact ⟨ret_bool HV.out.symm,Below.refl _ _⟩
 subst hnn
 have HN1:=lid h1.len
 have HN2:=lid h2.len
 have HS1:=lid h1.sl
 have HS2:=lid h2.sl
 clear h1 h2
 go_enter Tryz.func66,Tryz.ntmps66
 go_wp2_with fail
 go_loopw [5,13] (fun _ i wr=>∃ k:Nat,k≤n1∧i=.int .i64 k∧Hid (S.take k=T.take k)∧Below w.heap.size w wr) (fun _ i _=>n1-(intOf i).toNat)
 case atStart=>exact ⟨0,Nat.zero_le _,rfl,lid rfl,Below.refl _ _⟩
 case round =>
  obtain ⟨k,hk,rfl,HT,hb⟩:=hrel
  by_cases hlt:k<n1
  ·have hk1:k<S.length:=by rw [HN1.out];exact hlt
   have hk2:k<T.length:=by rw [HN2.out];exact hlt
   obtain ⟨b1,o1,rfl,hlb1,hcell⟩:=(HS1.out.below hb).at_ hlt
   have x0:=hcell k _ (svals_at hk1)
   obtain ⟨b2,o2,rfl,hlb2,hcell2⟩:=(HS2.out.below hb).at_ hlt
   have y0:=hcell2 k _ (svals_at hk2)
   have HNE:Hid (¬ S[k]=T[k]→decide (S=T)=false):=lid (fun e=>decide_eq_false (ne_at hk1 hk2 e))
   have HEQ:Hid (S[k]=T[k]→S.take (k+1)=T.take (k+1)):=lid (fun e=>take_eq_succ hk1 hk2 HT.out e)
   obtain ⟨x,hx⟩:∃ x,S[k]=x:=⟨_,rfl⟩
   obtain ⟨y,hy⟩:∃ y,T[k]=y:=⟨_,rfl⟩
   rw [hx] at x0 HNE HEQ
   rw [hy] at y0 HNE HEQ
   have dk:decide ((k:Int)<(n1:Int))=true:=by simp;omega
   clear hcell hcell2 hx hy
   by_cases he:x=y
   ·have HV:=lid (HEQ.out he)
    have d:=str_eq he
    clear he HEQ HNE
    go_wp2_with fail
    refine qd (fun w'=>∃ s:Since wr.heap.size wr,w'=s.world) [(0,true),(1,true),(2,true),(3,true),(4,true),(5,true),(6,true),(7,true),(8,true)] ?_
    repeat (first | (refine qk ?_;simp only [Act.put,q1,q2,q3]) | (refine qf ?_;intro K hK;go_big_quiet_op;go_big_quiet_on))
    refine seq_nil ?_
    go_wp2_with fail
    go_roundw
    case rel=>exact ⟨k+1,by omega,by go_num,HV,hb.drew⟩
    case measure=>simp [intOf];omega
   ·have HV:=lid (HNE.out he)
    have d:=str_ne he
    clear he HEQ HNE
    go_wp2_with fail
    refine qd (fun w'=>∃ s:Since wr.heap.size wr,w'=s.world) [(0,true),(1,true),(2,true),(3,true),(4,true),(5,true),(6,true),(7,true),(8,true)] ?_
    repeat (first | (refine qk ?_;simp only [Act.put,q1,q2,q3]) | (refine qf ?_;intro K hK;go_big_quiet_op;go_big_quiet_on))
    refine seq_nil ?_
    go_wp2_with fail
    go_ret
    exact ⟨ret_bool HV.out.symm,hb.drew⟩
  ·obtain rfl:k=n1:=by omega
   have HV:Hid (decide (S=T)=true):=lid (decide_eq_true (by have:=HT.out;rwa [List.take_of_length_le (Nat.le_of_eq HN1.out),List.take_of_length_le (Nat.le_of_eq HN2.out)] at this))
   have dk:decide ((k:Int)<(k:Int))=false:=by simp
   go_wp2_with fail
   go_ret
   exact ⟨ret_bool HV.out.symm,hb⟩
end Go.Proofs.YtgcceepadlmelaaGreatDoor
