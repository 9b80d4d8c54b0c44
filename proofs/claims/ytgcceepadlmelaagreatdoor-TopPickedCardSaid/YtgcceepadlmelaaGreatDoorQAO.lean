import Derived.Test.YtgcceepadlmelaaGreatDoorRegionL
import Derived.Test.YtgcceepadlmelaaGreatDoorQAJ
import Derived.Test.YtgcceepadlmelaaGreatDoorQAN
import Derived.Test.YtgcceepadlmelaaGreatDoorRows
import Derived.WalkKit
import Derived.Lib.Bytealg
import Derived.Lib.Walk
import Derived.Test.YtgcceepadlmelaaGreatDoorQAB
import Derived.Test.YtgcceepadlmelaaGreatDoorQAC
namespace Go.Proofs.YtgcceepadlmelaaGreatDoor
open Go.RowKit
section
variable {P:Program} {ops:Array Oper} {Q:Exit→Act→World→Prop} {md:Region.Mode} {S:World→Prop} {L:Nat}
def last2B (md:Region.Mode) (ops:Array Oper) (L:Nat):Bool :=
 match ops[L]? with
 | some o=>(List.range ops.size).all fun k=>k == L || o.after.any fun e=>Region.binds md e && (e.on == k || match ops[e.on]? with
  | some o2=>o2.after.any fun e2=>Region.binds md e2 && e2.on == k
  | none=>false)
 | none=>false
def Closed (md:Region.Mode) (ops:Array Oper) (listed:Array Bool):Prop :=
 ∀ (j:Nat) (o:Oper),ops[j]?=some o→listed.getD j false=true→∀ e∈o.after,Region.binds md e=true→listed.getD e.on false=true
theorem closed_start (md:Region.Mode) (ops:Array Oper) (n:Nat):Closed md ops (Array.replicate n false):=by
 intro j o _ h
 exfalso
 rw [Array.getD_eq_getD_getElem?,Array.getElem?_replicate] at h
 split at h <;> simp at h
theorem closed_set {listed:Array Bool} {i:Nat} (h:Closed md ops listed) (hi:i∈Region.ready md ops listed):Closed md ops (listed.setIfInBounds i true):=by
 intro j o ho hj e he hb
 obtain ⟨_,oi,hoi,hall⟩:=mem_ready.1 hi
 by_cases hji:j=i
 ·subst hji
  rw [ho] at hoi
  cases hoi
  exact getD_set_true (hall e he hb)
 ·rw [getD_set_ne false (Ne.symm hji)] at hj
  exact getD_set_true (h j o ho hj e he hb)
theorem not_both {listed:Array Bool} {i:Nat} (h:listed.getD i true=false) (h1:listed.getD i false=true):False:=by
 rcases Nat.lt_or_ge i listed.size with h' | h'
 ·simp [h'] at h h1;rw [h] at h1;cases h1
 ·simp [Array.getElem?_eq_none h'] at h1
theorem last2B_spec (h:last2B md ops L=true) {listed:Array Bool} (hc:Closed md ops listed) {i:Nat} (hL:L∈Region.ready md ops listed) (hi:i∈Region.ready md ops listed):i=L:=by
 unfold last2B at h
 split at h
 ·rename_i o ho
  rw [List.all_eq_true] at h
  obtain ⟨hiu,oi,hoi,_⟩:=mem_ready.1 hi
  obtain ⟨_,o',ho',hall⟩:=mem_ready.1 hL
  rw [ho] at ho'
  cases ho'
  have hlt:i<ops.size:=by
   rcases Nat.lt_or_ge i ops.size with h' | h'
   ·exact h'
   ·rw [Array.getElem?_eq_none h'] at hoi;cases hoi
  have hk:=h i (List.mem_range.2 hlt)
  rw [Bool.or_eq_true] at hk
  rcases hk with hk | hk
  ·simpa using hk
  ·exfalso
   obtain ⟨k,hk1,hk2⟩:=Array.any_eq_true.1 hk
   rw [Bool.and_eq_true,Bool.or_eq_true] at hk2
   obtain ⟨hb,hk3⟩:=hk2
   have h1:=hall _ (Array.getElem_mem hk1) hb
   rcases hk3 with hk3 | hk3
   ·have he2:o.after[k].on=i:=by simpa using hk3
    rw [he2] at h1
    exact not_both hiu h1
   ·split at hk3
    ·rename_i o2 ho2
     obtain ⟨m,hm1,hm2⟩:=Array.any_eq_true.1 hk3
     rw [Bool.and_eq_true] at hm2
     have h2:=hc _ _ ho2 h1 _ (Array.getElem_mem hm1) hm2.1
     have he3:o2.after[m].on=i:=by simpa using hm2.2
     rw [he3] at h2
     exact not_both hiu h2
    ·cases hk3
 ·cases h
theorem wpAnyC_first (hlast:last2B md ops L=true) {i:Nat} {oi:Oper} {v:Value} (hi:ops[i]?=some oi) (hiL:i≠L) (hsel:∀ (j:Nat) (o:Oper) cs b,ops[j]?=some o→o.op≠.select cs b)
  (hQ:∀ c a w,Q (.panic c) (a.put oi.dst v) w→Q (.panic c) a w) :
  ∀ (fuel:Nat) (listed:Array Bool) (a:Act) (w:World),Closed md ops listed →
   (∀ j oj,ops[j]?=some oj→j≠i→listed.getD j true=false→(∀ e∈oj.after,Region.binds md e=true→e.on≠i)→oi.apart ops oj=true) →
   i∈Region.ready md ops listed→YieldsIf P ops S oi v a→S w →
   wpAnyL P md ops Q S L fuel (listed.setIfInBounds i true) (a.put oi.dst v) w→wpAnyL P md ops Q S L (fuel+1) listed a w:=by
 intro fuel
 induction fuel with
 | zero =>
  intro listed a w _ _ hr hy hS H
  refine ⟨fun h=>(by rw [h] at hr;cases hr),fun j hj=>?_⟩
  by_cases hji:j=i
  ·subst hji;exact hy.wpOp hi hS ⟨fun _=>hS,H⟩
  ·have:=ready_mono hj hji
   rw [H.1] at this
   cases this
 | succ fuel ih =>
  intro listed a w hcl hfree hr hy hS H
  refine ⟨fun h=>(by rw [h] at hr;cases hr),fun j hj=>?_⟩
  by_cases hji:j=i
  ·subst hji;exact hy.wpOp hi hS ⟨fun _=>hS,H⟩
  ·have hjL:j≠L:=fun e=>by subst e;exact hiL (last2B_spec hlast hcl hj hr)
   have h1:=H.2 j (ready_mono hj hji)
   obtain ⟨hjun,oj,hoj,hall⟩:=mem_ready.1 hj
   have hnot:∀ e∈oj.after,Region.binds md e=true→e.on≠i:=fun e he hb heq=>by
    have h1:=hall e he hb
    have h0:=(mem_ready.1 hr).1
    rw [heq] at h1
    rcases Nat.lt_or_ge i listed.size with h' | h'
    ·simp [h'] at h0 h1;rw [h0] at h1;cases h1
    ·simp [Array.getElem?_eq_none h'] at h1
   have h2:=wpOp_putIf hoj (hfree j oj hoj hji hjun hnot) (fun cs b=>hsel i oi cs b hi) (fun cs b=>hsel j oj cs b hoj) hQ hy h1
   have hfree':∀ k ok,ops[k]?=some ok→k≠i→(listed.setIfInBounds j true).getD k true=false →
     (∀ e∈ok.after,Region.binds md e=true→e.on≠i)→oi.apart ops ok=true:=fun k ok hk hki hun hno=>by
    refine hfree k ok hk hki ?_ hno
    by_cases hjk:j=k
    ·subst hjk;exact hjun
    ·rw [getD_set_ne true hjk] at hun;exact hun
   refine wpOp_mono (fun a' w' h3=>⟨h3.2.1,ih (listed.setIfInBounds j true) a' w' (closed_set hcl hj) hfree' (ready_mono hr (Ne.symm hji)) h3.1 (h3.2.1 hjL) ?_⟩) h2
   rw [Array.setIfInBounds_comm _ _ hji]
   exact h3.2.2
theorem wpAnyC_of_seq {C:World→Prop} (hlast:last2B md ops L=true) (hs:Region.noSelect ops=true) (hQ:∀ c d v a w,Q (.panic c) (Act.put a d v) w→Q (.panic c) a w) {E:Act→World→Prop}:∀ (ord:List (Nat × Bool)) (listed listed':Array Bool) (a:Act) (w:World),Closed md ops listed→(ord≠[]→C w) →
  seqBL md ops L ord listed=some listed'→Region.ready md ops listed'=[]→(∀ a w,E a w→Q .normal a w)→seqRunL P ops C L Q E ord a w→wpAnyL P md ops Q C L ord.length listed a w
 | [],listed,listed',a,w,_,hC,hB,hr,hE,h=>by
  cases hB
  exact ⟨hr,hE _ _ h⟩
 | (i,true)::rest,listed,listed',a,w,hcl,hC,hB,hr,hE,h=>by
  simp only [seqBL] at hB
  split at hB
  ·rename_i hc
   rw [Bool.and_eq_true] at hc
   obtain ⟨hiL,o,ho,v,hy,hh⟩:=h
   have hC:=hC (by simp)
   exact wpAnyC_first hlast ho hiL (Region.noSelect_spec hs) (fun c a w hq=>hQ c _ _ a w hq) _ listed a w hcl (Region.free_spec ho hc.2) (by simpa using hc.1) hy hC (wpAnyC_of_seq hlast hs hQ rest _ listed' _ w (closed_set hcl (by simpa using hc.1)) (fun _=>hC) hB hr hE hh)
  ·cases hB
 | (i,false)::rest,listed,listed',a,w,hcl,hC,hB,hr,hE,h=>by
  simp only [seqBL] at hB
  split at hB
  ·rename_i hc
   refine ⟨fun e=>(by rw [e] at hc;cases hc.1),?_⟩
   rw [hc.1]
   intro j hj
   obtain rfl:j=i:=by simpa using hj
   exact wpOp_mono (fun a' w' hh=>⟨hh.1,wpAnyC_of_seq hlast hs hQ rest _ listed' a' w' (closed_set hcl (by rw [hc.1];simp)) (fun hne=>hh.1 (fun e=>hne (hc.2 e))) hB hr hE hh.2⟩) h
  ·cases hB
theorem wp_region_seqC {id:Nat} {a:Act} {w:World} {l:List Oper} (L:Nat) (C:World→Prop) (ord:List (Nat × Bool)) (hm:P.follows .mixedOrders=true)
  (hB:(last2B .any l.toArray L && (Region.noSelect l.toArray && decide (ord.length=l.length) && (match seqBL .any l.toArray L ord (Array.replicate l.length false) with | some listed=>(Region.ready .any l.toArray listed).isEmpty | none=>false)))=true)
  (hQ:∀ c d v a w,Q (.panic c) (Act.put a d v) w→Q (.panic c) a w) (hC:C w.drew)
  (h:seqRunL P l.toArray C L Q (fun a w=>Q .normal a w) ord a w.drew):(Code.region id l.toArray true).wp P Q a w:=by
 simp only [Bool.and_eq_true,decide_eq_true_eq] at hB
 obtain ⟨hl1,⟨hs,hl⟩,hB⟩:=hB
 split at hB
 ·rename_i listed hsq
  refine wp_region_any hm (wpAny_of_L (S:=C) (L:=L) _ _ _ _ ?_)
  have:=wpAnyC_of_seq (md:=.any) (P:=P) hl1 hs hQ ord _ listed a w.drew (closed_start _ _ _) (fun _=>hC) hsq (by simpa using hB) (fun a w hq=>hq) h
  rw [hl] at this
  simpa using this
 ·cases hB
end
end Go.Proofs.YtgcceepadlmelaaGreatDoor
namespace Go.Proofs.YtgcceepadlmelaaGreatDoor
set_option maxRecDepth 100000
set_option maxHeartbeats 8000000
open Go.RowKit
def EfP (w0 w:World) (g cap:Nat) (L:List Mw) (j:Nat) (X:Mx) (r:Ending) (w':World):Prop :=
 r=.returned (.int .i64 0)∧∃ m',m'.x=X∧MO w0 w' (.slice (some ⟨g,0,none⟩) L.length cap) (L.set j m')∧Stp w w' (.slice (some ⟨g,0,none⟩) L.length cap) (.slice (some ⟨g,0,none⟩) L.length cap) L (L.set j m')
theorem left_out {w0 w W:World} {base size n:Nat} {e:TypeId} {v:Value} {xs:List Value} (h:w.ownsRow base e size v n xs) (hw:w.heap.size≤W.heap.size):∃ ub,(∀ k,v.ownBlock=some k→k=ub)∧(ub=W.heap.size∨v.ownBlock=some ub):=by
 have _:=w0
 have _:=h
 have _:=hw
 cases e:v.ownBlock with
 | none=>exact ⟨W.heap.size,fun k hk=>(by cases hk),.inl rfl⟩
 | some k=>exact ⟨k,fun k' hk=>by cases hk;rfl,.inr rfl⟩
theorem else_keptx {V W2:World} {o:Obj} {v:Value} {ub:Nat} (he:Else (V.alloc o).drew W2 v) (hu:∀ k,v.ownBlock=some k→k=ub):KeptX V.heap.size ub V W2:=fun k hk hx =>
 (he k (by show k<(V.alloc o).heap.size;simp;exact Nat.lt_succ_of_lt hk) (fun e=>hx (hu k e.symm))).trans (h_old (w:=V) hk o)
theorem eff1_any (w0 w:World) (L:List Mw) (g cap j:Nat) (e:Kw) (hj:j<L.length) (h:MO w0 w (.slice (some ⟨g,0,none⟩) L.length cap) L) (he:KwA w0 e) (hA:AscU L[j].uses) (hf:(fndU L[j].uses e.text).isSome=false) (hn:L[j].uses.length≤100000) :
  Calls Tryz.prog 43 #[.pointer (some ⟨g,j*3,none⟩),.agg (kca e)] w (EfP w0 w g cap L j ⟨L[j].label,insK (fun x:ByteArray=>x) ltL L[j].uses e.text,L[j].decls.map Dw.x⟩):=by
 obtain ⟨W0,hW0⟩:∃ y,w.alloc (.cells (kca e) 52)=y:=⟨_,rfl⟩
 have hb0:Below w.heap.size w W0:=by rw [← hW0];exact ba _ _
 have hR:W0.heap[w.heap.size]?=some (.cells (kca e) 52 (0,0)):=by rw [← hW0];exact h_new rfl _
 have h0:=h.below hb0
 obtain ⟨V,hV⟩:∃ y,W0.drew=y:=⟨_,rfl⟩
 have hv:MO w0 V (.slice (some ⟨g,0,none⟩) L.length cap) L:=by rw [← hV];exact h0.below (Below.refl _ _).drew
 have hRV:V.heap[w.heap.size]?=some (.cells (kca e) 52 (0,0)):=by rw [← hV];exact hR
 obtain ⟨hg,hg2,c0,c1',c2',cf⟩:=h0.cells hj
 have c1:W0.cell? ⟨g,j*3+1,none⟩=some (.slice L[j].ua L[j].uses.length L[j].ucap):=c1'
 have d1:V.cell? ⟨g,j*3+1,none⟩=some (.slice L[j].ua L[j].uses.length L[j].ucap):=(hv.cells hj).2.2.2.1
 have dg:=(hv.cells hj).1
 clear c1' c2' c0 cf
 have hm:=((h0.el _ (List.getElem_mem hj)).mwa h0.bel).uses
 have CB:=lid (fun W (hb:Below W0.heap.size W0 W)=>bsS_any L[j].uses e.text _ _ _ W (hm.below hb) hA hn)
 have x2:W0.cell? ⟨w.heap.size,2,none⟩=some (.string e.text):=row_cell hR 2
 have y2:V.cell? ⟨w.heap.size,2,none⟩=some (.string e.text):=row_cell hRV 2
 have lx:=row_lt hR
 have ly:=row_lt hRV
 rw [hf] at CB
 obtain ⟨i,hi⟩:∃ i,idxK (fun x:ByteArray=>x) ltL L[j].uses e.text=i:=⟨_,rfl⟩
 have hil:i≤L[j].uses.length:=by rw [← hi];exact idx_le
 rw [hi] at CB
 obtain ⟨us,hus⟩:∃ us,insK (fun x:ByteArray=>x) ltL L[j].uses e.text=us:=⟨_,rfl⟩
 have hus2:us=L[j].uses.take i++e.text::L[j].uses.drop i:=by rw [← hus,← hi];rfl
 rw [hus]
 have hE:=(h.el _ (List.getElem_mem hj)).us
 obtain ⟨ub,hu1,hu2⟩:=left_out (w0:=w0) (W:=V) hE (by rw [← hV];exact hb0.size)
 have hgo:g∈obs (.slice (some ⟨g,0,none⟩) L.length cap):=mem_obs.2 rfl
 have hnd:=nodup_blkM h hj
 rw [List.nodup_append] at hnd
 have ng:¬ g=ub:=fun e=>by
  rcases hu2 with h5 | h5
  ·omega
  ·exact hnd.2.2 g hgo ub (List.mem_append.2 (.inl (mem_obs.2 h5))) e
 have nx:¬ w.heap.size=ub:=fun e=>by
  rcases hu2 with h5 | h5
  ·omega
  ·have:=(own_blk hE h5).2
   omega
 obtain ⟨W1,hW1⟩:∃ y,(V.alloc (.cells #[.string e.text] 9)).drew=y:=⟨_,rfl⟩
 have hb1:Below V.heap.size V W1:=by rw [← hW1];exact ((Below.refl _ _).alloc (Nat.le_refl _) _).drew
 have CI:=lid (InsU_any (hv.below hb1) hj (xb:=V.heap.size) hus2 hil (by omega) (by rw [← hW1];exact h_new (w:=V) rfl _) (fun e=>by have:=(own_blk (hv.el _ (List.getElem_mem hj)).us e).2;omega) he.text)
 have HW0:=lid hW0
 have HV:=lid hV
 have HW1:=lid hW1
 have HU1:=lid hu1
 have HST:Hid (Stp w W1 (.slice (some ⟨g,0,none⟩) L.length cap) (.slice (some ⟨g,0,none⟩) L.length cap) L L):=lid ((Stp.below hb0).trans ((Stp.below (by rw [← hV];exact (Below.refl _ _).drew)).trans (Stp.below hb1)))
 clear hW0 hb0 h0 hR h he hA hf hi hm hV hv hRV hus hus2 hE hu1 hu2 hgo hnd hW1 hb1
 go_enter Tryz.func43,Tryz.ntmps43
 go_wp2_with fail
 rw [HW0.out]
 refine qd (fun w'=>∃ s:Since W0.heap.size W0,w'=s.world) [(0,true),(1,true),(2,true),(3,true),(4,true),(5,true),(6,false),(7,true),(8,true),(9,true),(10,false),(11,false)] ?_
 repeat (first | (refine qk ?_;simp only [Act.put,q1,q2,q3]) | (refine qf ?_;intro K hK;go_big_quiet_op;go_big_quiet_on))
 refine qc ?_
 intro K hK
 go_wp2_with fail
 (with_reducible refine (CB.out _ (Below.refl _ _).drew).mono ?_);rintro e w1 ⟨rfl,rfl⟩
 go_wp2_with fail
 refine hK.out _ _ (since ((Below.refl _ _).drew)) ?_
 clear hK K
 repeat (first | (refine qk ?_;simp only [Act.put,q1,q2,q3]) | (refine qf ?_;intro K hK;go_big_quiet_op;go_big_quiet_on))
 refine qc ?_
 intro K hK
 go_wp2_with fail
 refine hK.out _ _ (since ((Below.refl _ _).drew)) ?_
 clear hK K
 repeat (first | (refine qk ?_;simp only [Act.put,q1,q2,q3]) | (refine qf ?_;intro K hK;go_big_quiet_op;go_big_quiet_on))
 refine qc ?_
 intro K hK
 go_wp2_with fail
 refine hK.out _ _ (since ((Below.refl _ _).drew)) ?_
 clear hK K
 repeat (first | (refine qk ?_;simp only [Act.put,q1,q2,q3]) | (refine qf ?_;intro K hK;go_big_quiet_op;go_big_quiet_on))
 refine seq_nil ?_
 clear CB
 go_wp2_with fail
 rw [HV.out]
 have q1:=SinceX.cell (B:=V.heap.size) (X:=ub) (W:=V) g (j*3+1) dg ng d1
 have q2:=SinceX.cell (B:=V.heap.size) (X:=ub) (W:=V) w.heap.size 2 ly nx y2
 clear d1 y2 c1 x2
 refine wp_region_seqC 12 (fun w'=>∃ s:SinceX V.heap.size ub V,w'=s.world) [(0,true),(1,true),(2,true),(3,true),(4,true),(5,true),(6,true),(7,true),(8,false),(9,false),(10,true),(11,true),(12,false)] (by kernel_rfl) (by kernel_rfl) (by intro c d v a w h;first | (cases d <;> exact h) | cases h.1) (sincex (KeptX.refl _ _ _).drew) ?_
 repeat (first | (refine seqL_skip (by rfl) (by rfl) (by rfl) ?_;simp only [Act.put,q1,q2,q3]) | (refine seqL_float (by rfl) (by rfl) (by rfl) (by rfl) ?_;intro K hK;go_big_quiet_op;go_big_quiet_on))
 refine seqL_chain (by rfl) ?_
 intro K hK
 go_wp2_with fail
 rw [HW1.out]
 refine hK.out _ _ (sincex (by rw [← HW1.out];exact ((KeptX.refl V.heap.size ub V).alloc (Nat.le_refl _) (.cells #[.string e.text] 9)).drew)) ?_
 clear hK K
 repeat (first | (refine seqL_skip (by rfl) (by rfl) (by rfl) ?_;simp only [Act.put,q1,q2,q3]) | (refine seqL_float (by rfl) (by rfl) (by rfl) (by rfl) ?_;intro K hK;go_big_quiet_op;go_big_quiet_on))
 refine seqL_chain (by rfl) ?_
 intro K hK
 go_wp2_with fail
 (with_reducible refine (CI.out).mono ?_);rintro e w2 ⟨ao,c,rfl,he,hr,hq1,hq2,hq3⟩
 have HE:=lid he
 have HRR:=lid hr
 clear he hr CI q1 q2
 go_wp2_with fail
 refine hK.out _ _ (sincex (by have h1:=HE.out;rw [← HW1.out] at h1;exact else_keptx h1 HU1.out)) ?_
 clear hK K
 repeat (first | (refine seqL_skip (by rfl) (by rfl) (by rfl) ?_;simp only [Act.put,q1,q2,q3]) | (refine seqL_float (by rfl) (by rfl) (by rfl) (by rfl) ?_;intro K hK;go_big_quiet_op;go_big_quiet_on))
 refine seqL_last (by rfl) (by rfl) ?_
 intro K hK
 go_wp2_with fail
 refine hK.out _ _ ?_
 clear hK K
 go_wp2_with fail
 go_ret
 exact ⟨rfl,_,rfl,HRR.out.1,HST.out.trans HRR.out.2⟩
end Go.Proofs.YtgcceepadlmelaaGreatDoor
namespace Go.Proofs.YtgcceepadlmelaaGreatDoor
set_option maxRecDepth 100000
set_option maxHeartbeats 1000000
theorem CompareString_any (a b:ByteArray) (w:World) :
  Calls Tryz.prog 107 #[.string a,.string b] w fun e w'=>e=.returned (.int .i64 (Lib.compareBytes a.data.toList b.data.toList))∧w'=w:=by
 go_enter Tryz.func107,Tryz.ntmps107
 go_wp2
 rw [run_callFunc_extern Tryz.func123 (by kernel_rfl) (by kernel_rfl) (by kernel_rfl) (e:=Extern.BytealgCompare.compare) (by kernel_rfl),Lib.run_compareString]
 simp only [Result.andThen]
 rw [Oper.upon_value]
 go_wp2
 go_ret
 exact ⟨rfl,rfl⟩
theorem StrCompare_any (a b:ByteArray) (w:World) :
  Calls Tryz.prog 86 #[.string a,.string b] w fun e w'=>e=.returned (.int .i64 (Lib.compareBytes a.data.toList b.data.toList))∧w'=w:=by
 go_enter Tryz.func86,Tryz.ntmps86
 go_wp2_with fail
 (with_reducible refine (CompareString_any _ _ _).mono ?_)
 rintro e w' ⟨rfl,rfl⟩
 go_wp2_with fail
 go_ret
 exact ⟨rfl,rfl⟩
end Go.Proofs.YtgcceepadlmelaaGreatDoor
namespace Go.Proofs.YtgcceepadlmelaaGreatDoor
set_option maxRecDepth 100000
set_option maxHeartbeats 8000000
open Go.RowKit
def cmpB (a b:ByteArray):Int:=Lib.compareBytes a.data.toList b.data.toList
theorem cmpL_lt:∀ (a b:List UInt8),decide (Lib.compareBytes a b<0)=Op.bytesLess a b
 | [],[]=>rfl
 | [],_::_=>rfl
 | _::_,[]=>rfl
 | x::a,y::b=>by
  unfold Lib.compareBytes Op.bytesLess
  by_cases h1:x<y
  ·simp [h1]
  ·by_cases h2:y<x
   ·have:x≠y:=by intro e;subst e;exact UInt8.lt_irrefl x h2
    simp [h1,h2,this]
   ·have e:x=y:=UInt8.le_antisymm (UInt8.not_lt.1 h2) (UInt8.not_lt.1 h1)
    subst e
    simp only [h1,if_false,decide_false,Bool.false_or,beq_self_eq_true,Bool.true_and]
    exact cmpL_lt a b
theorem cmpL_eq0:∀ (a b:List UInt8),Lib.compareBytes a b=0↔a=b
 | [],[]=>by simp [Lib.compareBytes]
 | [],_::_=>by simp [Lib.compareBytes]
 | _::_,[]=>by simp [Lib.compareBytes]
 | x::a,y::b=>by
  unfold Lib.compareBytes
  by_cases h1:x<y
  ·have:x≠y:=by intro e;subst e;exact UInt8.lt_irrefl x h1
   simp [h1,this]
  ·by_cases h2:y<x
   ·have:x≠y:=by intro e;subst e;exact UInt8.lt_irrefl x h2
    simp [h1,h2,this]
   ·have e:x=y:=UInt8.le_antisymm (UInt8.not_lt.1 h2) (UInt8.not_lt.1 h1)
    subst e
    simp only [h1,if_false,List.cons.injEq,true_and]
    exact cmpL_eq0 a b
theorem cmpB_lt (a b:ByteArray):cmpB a b<0↔ltL a b=true:=by
 have:=cmpL_lt a.data.toList b.data.toList
 unfold cmpB ltL
 rw [← this,decide_eq_true_eq]
theorem cmpB_eq (a b:ByteArray):cmpB a b=0↔a=b:=by
 unfold cmpB
 rw [cmpL_eq0]
 exact ⟨bytes_inj,fun e=>by rw [e]⟩
theorem findm1_any (d:Mw) (i:ByteArray) (w:World):Calls Tryz.prog 85 #[.agg (mca d),.string i] w fun r w'=>r=.returned (.int .i64 (cmpB d.label i))∧Below w.heap.size w w':=by
 have HB:=lid (ba w (.cells (mca d) 45))
 have CC:=lid (fun W=>StrCompare_any d.label i W)
 go_enter Tryz.func85,Tryz.ntmps85
 go_wp2_with fail
 (with_reducible refine (CC.out _).mono ?_);rintro e w1 ⟨rfl,rfl⟩
 go_wp2_with fail
 go_ret
 exact ⟨rfl,HB.out⟩
theorem mcs_row {w W:World} {ao:Option Addr} {n j:Nat} {L:List Mw} (h:Sl w 3 ao n (mcs L)) (hb:Below w.heap.size w W) (hj:j<n) (hjl:j<L.length):∃ b o,ao=some ⟨b,o,none⟩∧b<W.heap.size∧(∀ i u,(mce L[j])[i]?=some u→i<3→W.cell? ⟨b,o+(j*3+i),none⟩=some u):=by
 obtain ⟨b,o,e,hbz,hc⟩:=h.at_ (k:=j) hj
 refine ⟨b,o,e,Nat.lt_of_lt_of_le hbz hb.size,fun i u hu hi=>?_⟩
 rw [bc hb hbz _]
 exact hc _ u (by rw [mcs_cell hjl hi];exact hu)
theorem bsM_any (L:List Mw) (i:ByteArray) (n cap:Nat) (ao:Option Addr) (w:World) (hl:L.length=n) (h:Sl w 3 ao n (mcs L)) (hA:AscK Mw.label ltL L) (hm1:n≤100000) :
  Calls Tryz.prog 84 #[.slice ao n cap,.string i,.func (.func 85) #[] #[]] w fun e w'=>e=.returned (.tuple #[.int .i64 (idxK Mw.label ltL L i),.bool (fnd Mw.label L i).isSome])∧Below w.heap.size w w':=by
 have HN:=lid hl
 have HA:=lid hA
 have HS:=lid h
 clear h hA hl
 go_enter Tryz.func84,Tryz.ntmps84
 go_wp2_with fail
 go_loopw [9,10] (fun u9 u10 wr=>∃ a b:Nat,a≤b∧b≤n∧u9=.int .i64 a∧u10=.int .i64 b∧Hid (BsK Mw.label ltL L i a b)∧Hid (Below w.heap.size w wr)) (fun u9 u10 _=>(intOf u10).toNat-(intOf u9).toNat)
 case atStart=>exact ⟨0,n,Nat.zero_le _,Nat.le_refl _,rfl,rfl,lid ⟨fun t _ ht=>by omega,fun h=>by rw [HN.out] at h;omega⟩,lid (Below.refl _ _)⟩
 case round =>
  obtain ⟨a,b,hab,hbn,rfl,rfl,HI,HB⟩:=hrel
  by_cases hlt:a<b
  ·have dk:decide ((a:Int)<(b:Int))=true:=by simp;omega
   obtain ⟨m,hm⟩:∃ m,(a+b) / 2=m:=⟨_,rfl⟩
   have hmi:((a:Int)+(b:Int)) / 2=(m:Int):=by omega
   have hma:a≤m:=by omega
   have hmb:m<b:=by omega
   have hmn:m<n:=by omega
   have hml:m<L.length:=by rw [HN.out];exact hmn
   obtain ⟨b1,o1,rfl,hlb1,hc1⟩:=mcs_row HS.out HB.out hmn hml
   have HM:Hid (cmpB L[m].label i<0→BsK Mw.label ltL L i (m+1) b):=lid (fun hq=>HI.out.up ltL_k HA.out hml ((cmpB_lt _ _).1 hq))
   have HE:Hid (¬ cmpB L[m].label i<0→BsK Mw.label ltL L i a m):=lid (fun hq=>HI.out.down (fun _=>by
    cases hl:ltL L[m].label i with
    | false=>rfl
    | true=>exact absurd ((cmpB_lt _ _).2 hl) hq))
   have CF:=lid (fun W=>findm1_any L[m] i W)
   obtain ⟨x,hx⟩:∃ x,L[m]=x:=⟨_,rfl⟩
   rw [hx] at HM HE CF hc1
   have x0:wr.cell? ⟨b1,o1+m*3,none⟩=some (.string x.label):=by have:=hc1 0 _ rfl (by omega);exact this
   have x1:wr.cell? ⟨b1,o1+m*3+1,none⟩=some (.slice x.ua x.uses.length x.ucap):=by have:=hc1 1 _ rfl (by omega);rwa [← Nat.add_assoc] at this
   have x2:wr.cell? ⟨b1,o1+m*3+2,none⟩=some (.slice x.da x.decls.length x.dcap):=by have:=hc1 2 _ rfl (by omega);rwa [← Nat.add_assoc] at this
   obtain ⟨q,hq⟩:∃ q,cmpB x.label i=q:=⟨_,rfl⟩
   rw [hq] at HM HE CF
   clear hc1 hx hq hml
   by_cases hc:q<0
   ·have u:=decide_eq_true hc
    have HV:=lid (HM.out hc)
    clear HM HE
    go_wp2_with fail
    (with_reducible refine (CF.out _).mono ?_);rintro e w2 ⟨rfl,hb2⟩
    have HB2:=lid (HB.out.trans (hb2.mono HB.out.size))
    clear hb2
    go_wp2_with fail
    go_roundw
    case rel=>exact ⟨m+1,b,by omega,by omega,by go_num,rfl,HV,HB2⟩
    case measure=>simp [intOf];omega
   ·have u:=decide_eq_false hc
    have HV:=lid (HE.out hc)
    clear HM HE
    go_wp2_with fail
    (with_reducible refine (CF.out _).mono ?_);rintro e w2 ⟨rfl,hb2⟩
    have HB2:=lid (HB.out.trans (hb2.mono HB.out.size))
    clear hb2
    go_wp2_with fail
    go_roundw
    case rel=>exact ⟨a,m,by omega,by omega,rfl,rfl,HV,HB2⟩
    case measure=>simp [intOf];omega
  ·obtain rfl:a=b:=by omega
   have dk:decide ((a:Int)<(a:Int))=false:=by simp
   have HIX:Hid (idxK Mw.label ltL L i=a):=lid (HI.out.done (by rw [HN.out];omega))
   have hg:=fnd_at ltL_k HA.out i
   by_cases han:a<n
   ·have hal:a<L.length:=by rw [HN.out];exact han
    simp only [HIX.out,hal,dif_pos] at hg
    obtain ⟨b1,o1,rfl,hlb1,hc1⟩:=mcs_row HS.out HB.out han hal
    have CF:=lid (fun W=>findm1_any L[a] i W)
    obtain ⟨x,hx⟩:∃ x,L[a]=x:=⟨_,rfl⟩
    rw [hx] at CF hc1 hg
    have x0:wr.cell? ⟨b1,o1+a*3,none⟩=some (.string x.label):=by have:=hc1 0 _ rfl (by omega);exact this
    have x1:wr.cell? ⟨b1,o1+a*3+1,none⟩=some (.slice x.ua x.uses.length x.ucap):=by have:=hc1 1 _ rfl (by omega);rwa [← Nat.add_assoc] at this
    have x2:wr.cell? ⟨b1,o1+a*3+2,none⟩=some (.slice x.da x.decls.length x.dcap):=by have:=hc1 2 _ rfl (by omega);rwa [← Nat.add_assoc] at this
    have HU:Hid ((cmpB x.label i == 0)=(fnd Mw.label L i).isSome):=lid (by
     rw [hg,Bool.eq_iff_iff,beq_iff_eq,cmpB_eq]
     by_cases e:x.label=i <;> simp [e])
    obtain ⟨q,hq⟩:∃ q,cmpB x.label i=q:=⟨_,rfl⟩
    rw [hq] at CF HU
    have da:decide ((a:Int)<(n:Int))=true:=by simp;omega
    clear hc1 hx hg hq
    go_wp2_with fail
    (with_reducible refine (CF.out _).mono ?_);rintro e w2 ⟨rfl,hb2⟩
    go_wp2_with fail
    go_ret2
    rw [HIX.out,← HU.out]
    exact ⟨rfl,HB.out.trans (hb2.mono HB.out.size)⟩
   ·obtain rfl:a=n:=by omega
    have hal:¬ a<L.length:=by rw [HN.out];omega
    simp only [HIX.out,hal,dif_neg,not_false_eq_true] at hg
    have HG:=lid hg
    clear hg
    go_wp2_with fail
    go_ret2
    rw [HIX.out,HG.out]
    exact ⟨rfl,HB.out⟩
theorem findModule_any (L:List Mw) (i:ByteArray) (n cap:Nat) (ao:Option Addr) (w:World) (hl:L.length=n) (h:Sl w 3 ao n (mcs L)) (hA:AscK Mw.label ltL L) (hm1:n≤100000) :
  Calls Tryz.prog 58 #[.slice ao n cap,.string i] w fun e w'=>e=.returned (.tuple #[.int .i64 (idxK Mw.label ltL L i),.bool (fnd Mw.label L i).isSome])∧Below w.heap.size w w':=by
 have CB:=lid (bsM_any L i n cap ao w hl h hA hm1)
 clear h hA hl
 go_enter Tryz.func58,Tryz.ntmps58
 go_wp2_with fail
 (with_reducible refine (CB.out).mono ?_);rintro e w1 ⟨rfl,hb⟩
 go_wp2_with fail
 go_ret2
 exact ⟨rfl,hb⟩
end Go.Proofs.YtgcceepadlmelaaGreatDoor
namespace Go.Proofs.YtgcceepadlmelaaGreatDoor
open Go.RowKit
def KeepK (k:Nat) (W w':World):Prop:=w'.heap[k]?=W.heap[k]?
theorem KeepK.refl (k:Nat) (W:World):KeepK k W W:=rfl
theorem KeepK.drew {k:Nat} {W w':World} (h:KeepK k W w'):KeepK k W w'.drew:=h
theorem KeepK.below {k B:Nat} {W w1 w2:World} (h:KeepK k W w1) (hb:Below B w1 w2) (hk:k<B):KeepK k W w2:=(hb.block k hk).trans h
theorem KeepK.setCell {k:Nat} {W w':World} (h:KeepK k W w') {p:Addr} (hp:k≠p.block) (u:Value):KeepK k W (w'.setCell p u):=(Below.heap_setCell _ _ _ _ hp).trans h
theorem KeepK.grown {k:Nat} {W w1 w2:World} {row:Option Nat} (h:KeepK k W w1) (hg:w1.grownBy w2 row) (hk:k<w1.heap.size) (hne:some k≠row):KeepK k W w2:=(hg.block k hk hne).trans h
def SinceK (k:Nat) (W:World):Type:={ w':World // KeepK k W w' }
instance {k:Nat} {W:World}:Nonempty (SinceK k W):=⟨⟨W,rfl⟩⟩
def SinceK.world {k:Nat} {W:World} (x:SinceK k W):World:=x.1
theorem SinceK.cell {k:Nat} {W:World} {o:Nat} {v:Option Value} (hv:W.cell? ⟨k,o,none⟩=v):∀ x:SinceK k W,x.world.cell? ⟨k,o,none⟩=v:=fun x=>by
 rw [← hv]
 exact World.cell?_of_block (w:=W) (a:=⟨k,o,none⟩) x.2
theorem sincek {k:Nat} {W w':World} (h:KeepK k W w'):∃ x:SinceK k W,w'=x.world:=⟨⟨w',h⟩,rfl⟩
end Go.Proofs.YtgcceepadlmelaaGreatDoor
namespace Go.Proofs.YtgcceepadlmelaaGreatDoor
set_option maxRecDepth 100000
set_option maxHeartbeats 16000000
open Go.RowKit
def OneP (w0 w:World) (g cap:Nat) (L:List Mw) (i:Nat) (X:Mx) (r:Ending) (w':World):Prop :=
 r=.returned (.tuple #[.slice (some ⟨g,0,none⟩) L.length cap,.int .i64 0])∧∃ m',m'.x=X∧MO w0 w' (.slice (some ⟨g,0,none⟩) L.length cap) (L.set i m')∧Stp w w' (.slice (some ⟨g,0,none⟩) L.length cap) (.slice (some ⟨g,0,none⟩) L.length cap) L (L.set i m')
theorem oneU_any (K:Int) (F:FuncId) (hKF:(K=3∧F=43)∨(K=4∧F=46)∨(K=5∧F=48)) (w0 w:World) (L:List Mw) (g cap:Nat) (p t:ByteArray) (oa na:Option Addr) (on oc nn nc mb i:Nat) (X:Mx) (h:MO w0 w (.slice (some ⟨g,0,none⟩) L.length cap) L) (hA:AscK Mw.label ltL L) (hn:L.length≤100000) (hi:idxK Mw.label ltL L p=i) (hil:i<L.length) (hf:(fnd Mw.label L p).isSome=true)
  (f:MI) (him:IM w mb 7 f) (hfk:f K=some (.func (.func F) #[] #[])) (CF:∀ V,Below w.heap.size w V→Calls Tryz.prog F #[.pointer (some ⟨g,i*3,none⟩),.agg #[.int .i64 K,.string p,.string t,.slice oa on oc,.slice na nn nc]] V (EfP w0 V g cap L i X)) :
  Calls Tryz.prog 28 #[.slice (some ⟨g,0,none⟩) L.length cap,.agg #[.int .i64 K,.string p,.string t,.slice oa on oc,.slice na nn nc],.map (some mb)] w (OneP w0 w g cap L i X):=by
 have hKI:I64 K:=by rcases hKF with ⟨rfl,rfl⟩ | ⟨rfl,rfl⟩ | ⟨rfl,rfl⟩ <;> exact ⟨by omega,by omega⟩
 obtain ⟨W0,hW0⟩:∃ y,w.alloc (.cells #[.int .i64 K,.string p,.string t,.slice oa on oc,.slice na nn nc] 52)=y:=⟨_,rfl⟩
 have hb0:Below w.heap.size w W0:=by rw [← hW0];exact ba _ _
 have hR:W0.heap[w.heap.size]?=some (.cells #[.int .i64 K,.string p,.string t,.slice oa on oc,.slice na nn nc] 52 (0,0)):=by rw [← hW0];exact h_new rfl _
 have h0:=h.below hb0
 obtain ⟨ao',cap',e1,hmla⟩:=h0.mla
 injection e1 with e1 _ e3
 subst e1 e3
 have CB:=lid (findModule_any L p L.length cap (some ⟨g,0,none⟩) W0 rfl hmla.sl hA hn)
 rw [hi,hf] at CB
 have hall:∀ V,Below W0.heap.size W0 V→V.cell? ⟨w.heap.size,0,none⟩=some (.int .i64 K)∧V.cell? ⟨w.heap.size,1,none⟩=some (.string p)∧V.cell? ⟨w.heap.size,2,none⟩=some (.string t)∧V.cell? ⟨w.heap.size,3,none⟩=some (.slice oa on oc)∧V.cell? ⟨w.heap.size,4,none⟩=some (.slice na nn nc)∧w.heap.size<V.heap.size∧g<V.heap.size:=fun V hb=>by
  have hR':=(hb.block _ (row_lt hR)).trans hR
  exact ⟨row_cell hR' 0,row_cell hR' 1,row_cell hR' 2,row_cell hR' 3,row_cell hR' 4,row_lt hR',((h0.below hb).lt (.inl (mem_obs.2 rfl))).2⟩
 have HLK:Hid (∀ V,Below W0.heap.size W0 V→(Instr.lookup 66 (.map (some mb)) (.int .i64 K) false).run Tryz.prog V=.ok (.func (.func F) #[] #[]) V):=lid (fun V hb=>by
  have hV:=((him.below hb0).below hb).look Tryz.underlying66 (z:=.nilFunc) (Tryz.zeroValue89 V) K hKI
  rw [hfk] at hV
  exact hV)
 have HFIN:Hid (∀ V r w2,Below W0.heap.size W0 V→EfP w0 V g cap L i X r w2→r=.returned (.int .i64 0)∧OneP w0 w g cap L i X (.returned (.tuple #[.slice (some ⟨g,0,none⟩) L.length cap,.int .i64 0])) w2∧KeepK w.heap.size V w2):=lid (fun V r w2 hb ⟨q1,m',q2,q3,q4⟩=>by
  have hlt:=(h.lt (k:=w.heap.size))
  refine ⟨q1,⟨rfl,m',q2,q3,(Stp.below hb0).trans ((Stp.below hb).trans q4)⟩,q4.fr _ (Nat.lt_of_lt_of_le (row_lt hR) hb.size) (fun hm=>?_) (fun hm=>?_)⟩
  ·have:=(hlt (.inl hm)).2;omega
  ·have:=(hlt (.inr hm)).2;omega)
 have CFF:=lid (fun V (hb:Below W0.heap.size W0 V)=>CF V (hb0.trans (hb.mono hb0.size)))
 obtain ⟨x0,x1,x2,x3,x4,lx,lg⟩:=hall W0 (Below.refl _ _)
 have HALL:=lid hall
 have HW0:=lid hW0
 clear hall hW0 hb0 hR h0 hmla h hA hi hf him hfk CF hKI
 rcases hKF with ⟨rfl,rfl⟩ | ⟨rfl,rfl⟩ | ⟨rfl,rfl⟩
 all_goals
  go_enter Tryz.func28,Tryz.ntmps28
  go_wp2_with fail
  rw [HW0.out]
  go_wp2_with fail
  (with_reducible refine (CB.out).mono ?_);rintro e V ⟨rfl,hb⟩
  have HB:=lid hb
  clear hb CB x0 x1 x2 x3 x4 lx lg
  obtain ⟨x0,x1,x2,x3,x4,lx,lg⟩:=HALL.out V HB.out
  go_wp2_with fail
  have y0:=SinceK.cell (k:=w.heap.size) (W:=V) x0
  have y1:=SinceK.cell (k:=w.heap.size) (W:=V) x1
  have y2:=SinceK.cell (k:=w.heap.size) (W:=V) x2
  have y3:=SinceK.cell (k:=w.heap.size) (W:=V) x3
  have y4:=SinceK.cell (k:=w.heap.size) (W:=V) x4
  clear x0 x1 x2 x3 x4
  refine qs (fun w'=>∃ s:SinceK w.heap.size V,w'=s.world) [(0,true),(1,true),(2,true),(3,true),(5,true),(6,true),(7,true),(8,true),(4,false),(9,false),(10,false),(11,false)] (sincek (KeepK.refl _ _).drew) ?_
  repeat (first | (refine qk ?_;simp only [Act.put,q1,q2,q3]) | (refine qf ?_;intro K hK;go_big_quiet_op;go_big_quiet_on))
  refine qc ?_
  intro K hK
  go_wp2_with fail
  rw [HLK.out _ HB.out.drew]
  simp only [Result.andThen]
  rw [Oper.upon_value]
  go_wp2_with fail
  refine hK.out _ _ (sincek ((KeepK.refl w.heap.size V).drew)) ?_
  clear hK K
  repeat (first | (refine qk ?_;simp only [Act.put,q1,q2,q3]) | (refine qf ?_;intro K hK;go_big_quiet_op;go_big_quiet_on))
  refine qc ?_
  intro K hK
  go_wp2_with fail
  (with_reducible refine (CFF.out _ HB.out.drew).mono ?_);rintro e w2 hE
  obtain ⟨rfl,hF,hk⟩:=HFIN.out _ _ _ HB.out.drew hE
  have HF:=lid hF
  have HK:Hid (KeepK w.heap.size V w2):=lid hk
  clear hF hk hE
  go_wp2_with fail
  refine hK.out _ _ (sincek HK.out) ?_
  clear hK K
  repeat (first | (refine qk ?_;simp only [Act.put,q1,q2,q3]) | (refine qf ?_;intro K hK;go_big_quiet_op;go_big_quiet_on))
  refine qc ?_
  intro K hK
  go_wp2_with fail
  refine hK.out _ _ (sincek HK.out) ?_
  clear hK K
  repeat (first | (refine qk ?_;simp only [Act.put,q1,q2,q3]) | (refine qf ?_;intro K hK;go_big_quiet_op;go_big_quiet_on))
  refine qc ?_
  intro K hK
  go_wp2_with fail
  refine hK.out _ _ (sincek HK.out) ?_
  clear hK K
  repeat (first | (refine qk ?_;simp only [Act.put,q1,q2,q3]) | (refine qf ?_;intro K hK;go_big_quiet_op;go_big_quiet_on))
  refine seq_nil ?_
  go_wp2_with fail
  go_ret2
  exact HF.out
theorem oneD_any (K:Int) (F:FuncId) (hKF:(K=6∧F=77)∨(K=7∧F=77)∨(K=8∧F=77)∨(K=9∧F=77)) (w0 w:World) (L:List Mw) (g cap:Nat) (p t:ByteArray) (oa na:Option Addr) (on oc nn nc mb i:Nat) (s:Nat) (X:Mx) (h:MO w0 w (.slice (some ⟨g,0,none⟩) L.length cap) L) (hA:AscK Mw.label ltL L) (hn:L.length≤100000) (hi:idxK Mw.label ltL L p=i) (hil:i<L.length) (hf:(fnd Mw.label L p).isSome=true)
  (f:MI) (him:IM w mb 7 f) (hfk:f K=some (.func (.func F) #[] #[.pointer (some ⟨s,0,none⟩)])) (CF:∀ V,Below w.heap.size w V→Calls Tryz.prog F #[.pointer (some ⟨g,i*3,none⟩),.agg #[.int .i64 K,.string p,.string t,.slice oa on oc,.slice na nn nc],.pointer (some ⟨s,0,none⟩)] V (EfP w0 V g cap L i X)) :
  Calls Tryz.prog 28 #[.slice (some ⟨g,0,none⟩) L.length cap,.agg #[.int .i64 K,.string p,.string t,.slice oa on oc,.slice na nn nc],.map (some mb)] w (OneP w0 w g cap L i X):=by
 have hKI:I64 K:=by rcases hKF with ⟨rfl,rfl⟩ | ⟨rfl,rfl⟩ | ⟨rfl,rfl⟩ | ⟨rfl,rfl⟩ <;> exact ⟨by omega,by omega⟩
 obtain ⟨W0,hW0⟩:∃ y,w.alloc (.cells #[.int .i64 K,.string p,.string t,.slice oa on oc,.slice na nn nc] 52)=y:=⟨_,rfl⟩
 have hb0:Below w.heap.size w W0:=by rw [← hW0];exact ba _ _
 have hR:W0.heap[w.heap.size]?=some (.cells #[.int .i64 K,.string p,.string t,.slice oa on oc,.slice na nn nc] 52 (0,0)):=by rw [← hW0];exact h_new rfl _
 have h0:=h.below hb0
 obtain ⟨ao',cap',e1,hmla⟩:=h0.mla
 injection e1 with e1 _ e3
 subst e1 e3
 have CB:=lid (findModule_any L p L.length cap (some ⟨g,0,none⟩) W0 rfl hmla.sl hA hn)
 rw [hi,hf] at CB
 have hall:∀ V,Below W0.heap.size W0 V→V.cell? ⟨w.heap.size,0,none⟩=some (.int .i64 K)∧V.cell? ⟨w.heap.size,1,none⟩=some (.string p)∧V.cell? ⟨w.heap.size,2,none⟩=some (.string t)∧V.cell? ⟨w.heap.size,3,none⟩=some (.slice oa on oc)∧V.cell? ⟨w.heap.size,4,none⟩=some (.slice na nn nc)∧w.heap.size<V.heap.size∧g<V.heap.size:=fun V hb=>by
  have hR':=(hb.block _ (row_lt hR)).trans hR
  exact ⟨row_cell hR' 0,row_cell hR' 1,row_cell hR' 2,row_cell hR' 3,row_cell hR' 4,row_lt hR',((h0.below hb).lt (.inl (mem_obs.2 rfl))).2⟩
 have HLK:Hid (∀ V,Below W0.heap.size W0 V→(Instr.lookup 66 (.map (some mb)) (.int .i64 K) false).run Tryz.prog V=.ok (.func (.func F) #[] #[.pointer (some ⟨s,0,none⟩)]) V):=lid (fun V hb=>by
  have hV:=((him.below hb0).below hb).look Tryz.underlying66 (z:=.nilFunc) (Tryz.zeroValue89 V) K hKI
  rw [hfk] at hV
  exact hV)
 have HFIN:Hid (∀ V r w2,Below W0.heap.size W0 V→EfP w0 V g cap L i X r w2→r=.returned (.int .i64 0)∧OneP w0 w g cap L i X (.returned (.tuple #[.slice (some ⟨g,0,none⟩) L.length cap,.int .i64 0])) w2∧KeepK w.heap.size V w2):=lid (fun V r w2 hb ⟨q1,m',q2,q3,q4⟩=>by
  have hlt:=(h.lt (k:=w.heap.size))
  refine ⟨q1,⟨rfl,m',q2,q3,(Stp.below hb0).trans ((Stp.below hb).trans q4)⟩,q4.fr _ (Nat.lt_of_lt_of_le (row_lt hR) hb.size) (fun hm=>?_) (fun hm=>?_)⟩
  ·have:=(hlt (.inl hm)).2;omega
  ·have:=(hlt (.inr hm)).2;omega)
 have CFF:=lid (fun V (hb:Below W0.heap.size W0 V)=>CF V (hb0.trans (hb.mono hb0.size)))
 obtain ⟨x0,x1,x2,x3,x4,lx,lg⟩:=hall W0 (Below.refl _ _)
 have HALL:=lid hall
 have HW0:=lid hW0
 clear hall hW0 hb0 hR h0 hmla h hA hi hf him hfk CF hKI
 rcases hKF with ⟨rfl,rfl⟩ | ⟨rfl,rfl⟩ | ⟨rfl,rfl⟩ | ⟨rfl,rfl⟩
 all_goals
  go_enter Tryz.func28,Tryz.ntmps28
  go_wp2_with fail
  rw [HW0.out]
  go_wp2_with fail
  (with_reducible refine (CB.out).mono ?_);rintro e V ⟨rfl,hb⟩
  have HB:=lid hb
  clear hb CB x0 x1 x2 x3 x4 lx lg
  obtain ⟨x0,x1,x2,x3,x4,lx,lg⟩:=HALL.out V HB.out
  go_wp2_with fail
  have y0:=SinceK.cell (k:=w.heap.size) (W:=V) x0
  have y1:=SinceK.cell (k:=w.heap.size) (W:=V) x1
  have y2:=SinceK.cell (k:=w.heap.size) (W:=V) x2
  have y3:=SinceK.cell (k:=w.heap.size) (W:=V) x3
  have y4:=SinceK.cell (k:=w.heap.size) (W:=V) x4
  clear x0 x1 x2 x3 x4
  refine qs (fun w'=>∃ s:SinceK w.heap.size V,w'=s.world) [(0,true),(1,true),(2,true),(3,true),(5,true),(6,true),(7,true),(8,true),(4,false),(9,false),(10,false),(11,false)] (sincek (KeepK.refl _ _).drew) ?_
  repeat (first | (refine qk ?_;simp only [Act.put,q1,q2,q3]) | (refine qf ?_;intro K hK;go_big_quiet_op;go_big_quiet_on))
  refine qc ?_
  intro K hK
  go_wp2_with fail
  rw [HLK.out _ HB.out.drew]
  simp only [Result.andThen]
  rw [Oper.upon_value]
  go_wp2_with fail
  refine hK.out _ _ (sincek ((KeepK.refl w.heap.size V).drew)) ?_
  clear hK K
  repeat (first | (refine qk ?_;simp only [Act.put,q1,q2,q3]) | (refine qf ?_;intro K hK;go_big_quiet_op;go_big_quiet_on))
  refine qc ?_
  intro K hK
  go_wp2_with fail
  (with_reducible refine (CFF.out _ HB.out.drew).mono ?_);rintro e w2 hE
  obtain ⟨rfl,hF,hk⟩:=HFIN.out _ _ _ HB.out.drew hE
  have HF:=lid hF
  have HK:Hid (KeepK w.heap.size V w2):=lid hk
  clear hF hk hE
  go_wp2_with fail
  refine hK.out _ _ (sincek HK.out) ?_
  clear hK K
  repeat (first | (refine qk ?_;simp only [Act.put,q1,q2,q3]) | (refine qf ?_;intro K hK;go_big_quiet_op;go_big_quiet_on))
  refine qc ?_
  intro K hK
  go_wp2_with fail
  refine hK.out _ _ (sincek HK.out) ?_
  clear hK K
  repeat (first | (refine qk ?_;simp only [Act.put,q1,q2,q3]) | (refine qf ?_;intro K hK;go_big_quiet_op;go_big_quiet_on))
  refine qc ?_
  intro K hK
  go_wp2_with fail
  refine hK.out _ _ (sincek HK.out) ?_
  clear hK K
  repeat (first | (refine qk ?_;simp only [Act.put,q1,q2,q3]) | (refine qf ?_;intro K hK;go_big_quiet_op;go_big_quiet_on))
  refine seq_nil ?_
  go_wp2_with fail
  go_ret2
  exact HF.out
end Go.Proofs.YtgcceepadlmelaaGreatDoor
