import Derived.OrdersIn
import Derived.RangeFuncCalls
import Derived.TacticsIn
import Derived.Test.YtgcceepadlmelaaGreatDoorQAB
namespace Go.Proofs.YtgcceepadlmelaaGreatDoor
open Go.RowKit
section
variable {P:Program} {ops:Array Oper} {Q:Exit→Act→World→Prop} {md:Region.Mode} {S:World→Prop} {L:Nat}
def wpAnyL (P:Program) (md:Region.Mode) (ops:Array Oper) (Q:Exit→Act→World→Prop) (S:World→Prop) (L:Nat):Nat→Array Bool→Act→World→Prop
 | 0,listed,a,w=>Region.ready md ops listed=[]∧Q .normal a w
 | fuel+1,listed,a,w =>
  (Region.ready md ops listed=[]→Q .normal a w) ∧
  ∀ i∈Region.ready md ops listed,wpOp P ops Q i (fun a' w'=>(i≠L→S w')∧wpAnyL P md ops Q S L fuel (listed.setIfInBounds i true) a' w') a w
theorem wpAny_of_L:∀ (fuel:Nat) (listed:Array Bool) (a:Act) (w:World),wpAnyL P md ops Q S L fuel listed a w→wpAny P md ops Q fuel listed a w
 | 0,_,_,_,h=>h
 | fuel+1,_,_,_,h=>⟨h.1,fun i hi=>wpOp_mono (fun a' w' h'=>wpAny_of_L fuel _ a' w' h'.2) (h.2 i hi)⟩
def lastB (md:Region.Mode) (ops:Array Oper) (L:Nat):Bool :=
 match ops[L]? with
 | some o=>(List.range ops.size).all fun k=>k == L || o.after.any fun e=>Region.binds md e && e.on == k
 | none=>false
theorem lastB_spec (h:lastB md ops L=true) {listed:Array Bool} {i:Nat} (hL:L∈Region.ready md ops listed) (hi:i∈Region.ready md ops listed):i=L:=by
 unfold lastB at h
 split at h
 ·rename_i o ho
  rw [List.all_eq_true] at h
  obtain ⟨hiu,oi,hoi,_⟩:=mem_ready.1 hi
  obtain ⟨_,o',ho',hall⟩:=mem_ready.1 hL
  rw [ho] at ho'
  cases ho'
  have hlt:i<ops.size:=by
   rcases Nat.lt_or_ge i ops.size with h' | h'
   ·exact h'
   ·rw [Array.getElem?_eq_none h'] at hoi;cases hoi
  have hk:=h i (List.mem_range.2 hlt)
  rw [Bool.or_eq_true] at hk
  rcases hk with hk | hk
  ·simpa using hk
  ·obtain ⟨e,he,hb⟩:∃ e∈o.after,(Region.binds md e && e.on == i)=true:=by
    obtain ⟨k,hk1,hk2⟩:=Array.any_eq_true.1 hk
    exact ⟨_,Array.getElem_mem hk1,hk2⟩
   rw [Bool.and_eq_true] at hb
   have h1:=hall e he hb.1
   have he2:e.on=i:=by simpa using hb.2
   rw [he2] at h1
   rcases Nat.lt_or_ge i listed.size with h' | h'
   ·simp [h'] at hiu h1;rw [hiu] at h1;cases h1
   ·simp [Array.getElem?_eq_none h'] at h1
 ·cases h
theorem wpAnyL_first (hlast:lastB md ops L=true) {i:Nat} {oi:Oper} {v:Value} (hi:ops[i]?=some oi) (hiL:i≠L) (hsel:∀ (j:Nat) (o:Oper) cs b,ops[j]?=some o→o.op≠.select cs b)
  (hQ:∀ c a w,Q (.panic c) (a.put oi.dst v) w→Q (.panic c) a w) :
  ∀ (fuel:Nat) (listed:Array Bool) (a:Act) (w:World),
   (∀ j oj,ops[j]?=some oj→j≠i→listed.getD j true=false→(∀ e∈oj.after,Region.binds md e=true→e.on≠i)→oi.apart ops oj=true) →
   i∈Region.ready md ops listed→YieldsIf P ops S oi v a→S w →
   wpAnyL P md ops Q S L fuel (listed.setIfInBounds i true) (a.put oi.dst v) w→wpAnyL P md ops Q S L (fuel+1) listed a w:=by
 intro fuel
 induction fuel with
 | zero =>
  intro listed a w _ hr hy hS H
  refine ⟨fun h=>(by rw [h] at hr;cases hr),fun j hj=>?_⟩
  by_cases hji:j=i
  ·subst hji;exact hy.wpOp hi hS ⟨fun _=>hS,H⟩
  ·have:=ready_mono hj hji
   rw [H.1] at this
   cases this
 | succ fuel ih =>
  intro listed a w hfree hr hy hS H
  refine ⟨fun h=>(by rw [h] at hr;cases hr),fun j hj=>?_⟩
  by_cases hji:j=i
  ·subst hji;exact hy.wpOp hi hS ⟨fun _=>hS,H⟩
  ·have hjL:j≠L:=fun e=>by subst e;exact hiL (lastB_spec hlast hj hr)
   have h1:=H.2 j (ready_mono hj hji)
   obtain ⟨hjun,oj,hoj,hall⟩:=mem_ready.1 hj
   have hnot:∀ e∈oj.after,Region.binds md e=true→e.on≠i:=fun e he hb heq=>by
    have h1:=hall e he hb
    have h0:=(mem_ready.1 hr).1
    rw [heq] at h1
    rcases Nat.lt_or_ge i listed.size with h' | h'
    ·simp [h'] at h0 h1;rw [h0] at h1;cases h1
    ·simp [Array.getElem?_eq_none h'] at h1
   have h2:=wpOp_putIf hoj (hfree j oj hoj hji hjun hnot) (fun cs b=>hsel i oi cs b hi) (fun cs b=>hsel j oj cs b hoj) hQ hy h1
   have hfree':∀ k ok,ops[k]?=some ok→k≠i→(listed.setIfInBounds j true).getD k true=false →
     (∀ e∈ok.after,Region.binds md e=true→e.on≠i)→oi.apart ops ok=true:=fun k ok hk hki hun hno=>by
    refine hfree k ok hk hki ?_ hno
    by_cases hjk:j=k
    ·subst hjk;exact hjun
    ·rw [getD_set_ne true hjk] at hun;exact hun
   refine wpOp_mono (fun a' w' h3=>⟨h3.2.1,ih (listed.setIfInBounds j true) a' w' hfree' (ready_mono hr (Ne.symm hji)) h3.1 (h3.2.1 hjL) ?_⟩) h2
   rw [Array.setIfInBounds_comm _ _ hji]
   exact h3.2.2
def seqRunL (P:Program) (ops:Array Oper) (C:World→Prop) (L:Nat) (Q:Exit→Act→World→Prop) (E:Act→World→Prop):List (Nat × Bool)→Act→World→Prop
 | [],a,w=>E a w
 | (i,true)::rest,a,w=>i≠L∧∃ o,ops[i]?=some o∧∃ v,YieldsIf P ops C o v a∧seqRunL P ops C L Q E rest (a.put o.dst v) w
 | (i,false)::rest,a,w=>wpOp P ops Q i (fun a' w'=>(i≠L→C w')∧seqRunL P ops C L Q E rest a' w') a w
def seqBL (md:Region.Mode) (ops:Array Oper) (L:Nat):List (Nat × Bool)→Array Bool→Option (Array Bool)
 | [],listed=>some listed
 | (i,true)::rest,listed=>if (Region.ready md ops listed).contains i && Region.free md ops listed i then seqBL md ops L rest (listed.setIfInBounds i true) else none
 | (i,false)::rest,listed=>if Region.ready md ops listed=[i]∧(i=L→rest=[]) then seqBL md ops L rest (listed.setIfInBounds i true) else none
theorem wpAnyL_of_seq {C:World→Prop} (hlast:lastB md ops L=true) (hs:Region.noSelect ops=true) (hQ:∀ c d v a w,Q (.panic c) (Act.put a d v) w→Q (.panic c) a w) {E:Act→World→Prop}:∀ (ord:List (Nat × Bool)) (listed listed':Array Bool) (a:Act) (w:World),(ord≠[]→C w) →
  seqBL md ops L ord listed=some listed'→Region.ready md ops listed'=[]→(∀ a w,E a w→Q .normal a w)→seqRunL P ops C L Q E ord a w→wpAnyL P md ops Q C L ord.length listed a w
 | [],listed,listed',a,w,hC,hB,hr,hE,h=>by
  cases hB
  exact ⟨hr,hE _ _ h⟩
 | (i,true)::rest,listed,listed',a,w,hC,hB,hr,hE,h=>by
  simp only [seqBL] at hB
  split at hB
  ·rename_i hc
   rw [Bool.and_eq_true] at hc
   obtain ⟨hiL,o,ho,v,hy,hh⟩:=h
   have hC:=hC (by simp)
   exact wpAnyL_first hlast ho hiL (Region.noSelect_spec hs) (fun c a w hq=>hQ c _ _ a w hq) _ listed a w (Region.free_spec ho hc.2) (by simpa using hc.1) hy hC (wpAnyL_of_seq hlast hs hQ rest _ listed' _ w (fun _=>hC) hB hr hE hh)
  ·cases hB
 | (i,false)::rest,listed,listed',a,w,hC,hB,hr,hE,h=>by
  simp only [seqBL] at hB
  split at hB
  ·rename_i hc
   refine ⟨fun e=>(by rw [e] at hc;cases hc.1),?_⟩
   rw [hc.1]
   intro j hj
   obtain rfl:j=i:=by simpa using hj
   exact wpOp_mono (fun a' w' hh=>⟨hh.1,wpAnyL_of_seq hlast hs hQ rest _ listed' a' w' (fun hne=>hh.1 (fun e=>hne (hc.2 e))) hB hr hE hh.2⟩) h
  ·cases hB
theorem wp_region_seqL {id:Nat} {a:Act} {w:World} {l:List Oper} (L:Nat) (C:World→Prop) (ord:List (Nat × Bool)) (hm:P.follows .mixedOrders=true)
  (hB:(lastB .any l.toArray L && (Region.noSelect l.toArray && decide (ord.length=l.length) && (match seqBL .any l.toArray L ord (Array.replicate l.length false) with | some listed=>(Region.ready .any l.toArray listed).isEmpty | none=>false)))=true)
  (hQ:∀ c d v a w,Q (.panic c) (Act.put a d v) w→Q (.panic c) a w) (hC:C w.drew)
  (h:seqRunL P l.toArray C L Q (fun a w=>Q .normal a w) ord a w.drew):(Code.region id l.toArray true).wp P Q a w:=by
 simp only [Bool.and_eq_true,decide_eq_true_eq] at hB
 obtain ⟨hl1,⟨hs,hl⟩,hB⟩:=hB
 split at hB
 ·rename_i listed hsq
  refine wp_region_any hm (wpAny_of_L (S:=C) (L:=L) _ _ _ _ ?_)
  have:=wpAnyL_of_seq (md:=.any) (P:=P) hl1 hs hQ ord _ listed a w.drew (fun _=>hC) hsq (by simpa using hB) (fun a w hq=>hq) h
  rw [hl] at this
  simpa using this
 ·cases hB
variable {C:World→Prop}
theorem seqL_float {i:Nat} {o:Oper} {l:List Oper} {rest:List (Nat × Bool)} {E:Act→World→Prop} {a:Act} {w:World} (hiL:Nat.beq i L=false) (hi:l[i]?=some o) (hf:floatB o=true) (hw:Region.wanted o (yielded l.toArray a.tmps)=true)
  (h:∀ K:Act→Prop,(∀ a,seqRunL P l.toArray C L Q E rest a w→K a)→o.quiet P a C K):seqRunL P l.toArray C L Q E ((i,true)::rest) a w:=by
 obtain ⟨v,hy,hk⟩:=yieldsIf_of_quiet hf hw (h _ (fun _ h=>h))
 exact ⟨fun e=>by subst e;simp at hiL,o,by simpa using hi,v,hy,hk⟩
theorem seqL_skip {i:Nat} {o:Oper} {l:List Oper} {rest:List (Nat × Bool)} {E:Act→World→Prop} {a:Act} {w:World} (hiL:Nat.beq i L=false) (hi:l[i]?=some o) (hw:Region.wanted o (yielded l.toArray a.tmps)=false)
  (h:seqRunL P l.toArray C L Q E rest (a.put o.dst undef) w):seqRunL P l.toArray C L Q E ((i,true)::rest) a w :=
 ⟨fun e=>by subst e;simp at hiL,o,by simpa using hi,undef,.inr ⟨hw,rfl⟩,h⟩
theorem wpOp_of_list {i:Nat} {o:Oper} {l:List Oper} {a:Act} {w:World} {K:Act→World→Prop} (hi:l[i]?=some o) (h1:wpList P l.toArray (Exit.then K Q) [o] a w):wpOp P l.toArray Q i K a w:=by
 have hi':l.toArray[i]?=some o:=by simpa using hi
 unfold wpOp
 simp only [hi']
 unfold wpList at h1
 split
 ·rename_i hw
  rw [if_pos hw] at h1
  refine h1.imp ?_ (fun ⟨h2,b,v,h3⟩=>⟨h2,b,v,h3⟩)
  intro h2
  unfold Oper.wp at *
  generalize (execOp a.eval o).run P w=r at *
  cases r with
  | ok n w' =>
   cases n <;> simp only [Oper.upon] at h2 ⊢ <;>
    first
     | exact h2
     | exact Calls.mono h2 (fun e w'' he=>by cases e <;> exact he)
     | exact Rows.mono h2 (fun _ _ he=>he)
  | halt x w'=>cases x <;> simp only [Oper.upon] at h2 ⊢ <;> exact h2
 ·rename_i hw
  rw [if_neg hw] at h1
  exact h1
theorem seqL_chain {i:Nat} {o:Oper} {l:List Oper} {rest:List (Nat × Bool)} {E:Act→World→Prop} {a:Act} {w:World} (hi:l[i]?=some o)
  (h:∀ K:Act→World→Prop,Hid (∀ a w,C w→seqRunL P l.toArray C L Q E rest a w→K a w)→wpList P l.toArray (Exit.then K Q) [o] a w):seqRunL P l.toArray C L Q E ((i,false)::rest) a w :=
 wpOp_of_list hi (h (fun a' w'=>(i≠L→C w')∧seqRunL P l.toArray C L Q E rest a' w') (fun _ _ hC hs=>⟨fun _=>hC,hs⟩))
theorem seqL_last {i:Nat} {o:Oper} {l:List Oper} {E:Act→World→Prop} {a:Act} {w:World} (hiL:Nat.beq i L=true) (hi:l[i]?=some o)
  (h:∀ K:Act→World→Prop,Hid (∀ a w,E a w→K a w)→wpList P l.toArray (Exit.then K Q) [o] a w):seqRunL P l.toArray C L Q E [(i,false)] a w :=
 wpOp_of_list hi (h (fun a' w'=>(i≠L→C w')∧seqRunL P l.toArray C L Q E [] a' w') (fun _ _ hs=>⟨fun hne=>absurd (Nat.eq_of_beq_eq_true hiL) hne,hs⟩))
end
end Go.Proofs.YtgcceepadlmelaaGreatDoor
