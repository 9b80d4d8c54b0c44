import Derived.Test.YtgcceepadlmelaaGreatDoorEdInv
import Derived.Test.YtgcceepadlmelaaGreatDoorQAK
namespace Go.Proofs.YtgcceepadlmelaaGreatDoor
set_option maxRecDepth 100000
set_option maxHeartbeats 4000000
open Go.RowKit
abbrev Con:=ByteArray × Int × Int
def idL (l:List Dw):Int:=match l with | d::_=>d.id | []=>0
def conK (k:Kw):Con :=
 if k.kind=3∨k.kind=4 then (k.text,0,0) else if k.kind=5 then (⟨#[]⟩,idL k.new,0) else if k.kind=6 then (⟨#[]⟩,idL k.old,0) else if 7≤k.kind then (⟨#[]⟩,idL k.old,k.kind) else (⟨#[]⟩,0,0)
abbrev cna (c:Con):Array Value:=#[.string c.1,.int .i64 c.2.1,.int .i64 c.2.2]
theorem res_con {fn:Func} (hf:fn.results=#[.cell 2 104]) (t:Array Value) (w:World) (k:Nat) (m:Con) (h:t.getD 2 undef=.pointer (some ⟨k,0,none⟩)) (e:w.heap[k]?=some (.cells (cna m) 104 (0,0))):(results fn t).run Tryz.prog w=.ok (.agg (cna m)) w:=by
 have e0:w.cell? ⟨k,0,none⟩=some (.string m.1):=row_cell e 0
 have e1:w.cell? ⟨k,1,none⟩=some (.int .i64 m.2.1):=row_cell e 1
 have e2:w.cell? ⟨k,2,none⟩=some (.int .i64 m.2.2):=row_cell e 2
 rw [Array.getD_eq_getD_getElem?] at h
 unfold results
 rw [hf]
 simp [go_sem,h,asAddr,e0,e1,e2]
theorem concerns_1 (p t:ByteArray) (oa na:Option Addr) (lo ln oc nc:Nat) (w:World) :Calls Tryz.prog 62 #[.agg #[.int .i64 1,.string p,.string t,.slice oa lo oc,.slice na ln nc]] w fun r w'=>r=.returned (.agg (cna (⟨#[]⟩,0,0)))∧Below w.heap.size w w':=by
 have HF:=lid (show (((w.alloc (.cells #[.int .i64 1,.string p,.string t,.slice oa lo oc,.slice na ln nc] 52)).alloc (.cells (cna (⟨#[]⟩,0,0)) 104)).heap[w.heap.size+1]?=some (.cells (cna (⟨#[]⟩,0,0)) 104 (0,0))∧Below w.heap.size w ((w.alloc (.cells #[.int .i64 1,.string p,.string t,.slice oa lo oc,.slice na ln nc] 52)).alloc (.cells (cna (⟨#[]⟩,0,0)) 104))) from ⟨h_new (by simp) _,(ba _ _).alloc (by simp) _⟩)
 go_enter Tryz.func62,Tryz.ntmps62
 go_wp2_with fail
 exact bodyPost_ret (res_con rfl _ _ (w.heap.size+1) (⟨#[]⟩,0,0) rfl HF.out.1) rfl ⟨rfl,HF.out.2⟩
theorem concerns_2 (p t:ByteArray) (oa na:Option Addr) (lo ln oc nc:Nat) (w:World) :Calls Tryz.prog 62 #[.agg #[.int .i64 2,.string p,.string t,.slice oa lo oc,.slice na ln nc]] w fun r w'=>r=.returned (.agg (cna (⟨#[]⟩,0,0)))∧Below w.heap.size w w':=by
 have HF:=lid (show (((w.alloc (.cells #[.int .i64 2,.string p,.string t,.slice oa lo oc,.slice na ln nc] 52)).alloc (.cells (cna (⟨#[]⟩,0,0)) 104)).heap[w.heap.size+1]?=some (.cells (cna (⟨#[]⟩,0,0)) 104 (0,0))∧Below w.heap.size w ((w.alloc (.cells #[.int .i64 2,.string p,.string t,.slice oa lo oc,.slice na ln nc] 52)).alloc (.cells (cna (⟨#[]⟩,0,0)) 104))) from ⟨h_new (by simp) _,(ba _ _).alloc (by simp) _⟩)
 go_enter Tryz.func62,Tryz.ntmps62
 go_wp2_with fail
 exact bodyPost_ret (res_con rfl _ _ (w.heap.size+1) (⟨#[]⟩,0,0) rfl HF.out.1) rfl ⟨rfl,HF.out.2⟩
theorem concerns_3 (p t:ByteArray) (oa na:Option Addr) (lo ln oc nc:Nat) (w:World) :Calls Tryz.prog 62 #[.agg #[.int .i64 3,.string p,.string t,.slice oa lo oc,.slice na ln nc]] w fun r w'=>r=.returned (.agg (cna (t,0,0)))∧Below w.heap.size w w':=by
 have HF:=lid (show (((w.alloc (.cells #[.int .i64 3,.string p,.string t,.slice oa lo oc,.slice na ln nc] 52)).alloc (.cells (cna (t,0,0)) 104)).heap[w.heap.size+1]?=some (.cells (cna (t,0,0)) 104 (0,0))∧Below w.heap.size w ((w.alloc (.cells #[.int .i64 3,.string p,.string t,.slice oa lo oc,.slice na ln nc] 52)).alloc (.cells (cna (t,0,0)) 104))) from ⟨h_new (by simp) _,(ba _ _).alloc (by simp) _⟩)
 go_enter Tryz.func62,Tryz.ntmps62
 go_wp2_with fail
 exact bodyPost_ret (res_con rfl _ _ (w.heap.size+1) (t,0,0) rfl HF.out.1) rfl ⟨rfl,HF.out.2⟩
theorem concerns_4 (p t:ByteArray) (oa na:Option Addr) (lo ln oc nc:Nat) (w:World) :Calls Tryz.prog 62 #[.agg #[.int .i64 4,.string p,.string t,.slice oa lo oc,.slice na ln nc]] w fun r w'=>r=.returned (.agg (cna (t,0,0)))∧Below w.heap.size w w':=by
 have HF:=lid (show (((w.alloc (.cells #[.int .i64 4,.string p,.string t,.slice oa lo oc,.slice na ln nc] 52)).alloc (.cells (cna (t,0,0)) 104)).heap[w.heap.size+1]?=some (.cells (cna (t,0,0)) 104 (0,0))∧Below w.heap.size w ((w.alloc (.cells #[.int .i64 4,.string p,.string t,.slice oa lo oc,.slice na ln nc] 52)).alloc (.cells (cna (t,0,0)) 104))) from ⟨h_new (by simp) _,(ba _ _).alloc (by simp) _⟩)
 go_enter Tryz.func62,Tryz.ntmps62
 go_wp2_with fail
 exact bodyPost_ret (res_con rfl _ _ (w.heap.size+1) (t,0,0) rfl HF.out.1) rfl ⟨rfl,HF.out.2⟩
theorem concerns_5 (p t:ByteArray) (oa na:Option Addr) (lo oc nc:Nat) (d:Dw) (w:World) (hl:DLA w na 1 nc [d]):Calls Tryz.prog 62 #[.agg #[.int .i64 5,.string p,.string t,.slice oa lo oc,.slice na 1 nc]] w fun r w'=>r=.returned (.agg (cna (⟨#[]⟩,d.id,0)))∧Below w.heap.size w w':=by
 obtain ⟨b,o,rfl,hbz,hdw,hc⟩:=dla_first hl
 have hx:=hc _ (ba w (.cells #[.int .i64 5,.string p,.string t,.slice oa lo oc,.slice (some ⟨b,o,none⟩) 1 nc] 52)) 0 _ rfl
 have hx0:w.cell? ⟨b,o,none⟩=some (.int .i64 d.id):=hc _ (Below.refl _ _) 0 _ rfl
 clear hc hdw hx hl
 have HF:=lid (show (((w.alloc (.cells #[.int .i64 5,.string p,.string t,.slice oa lo oc,.slice (some ⟨b,o,none⟩) 1 nc] 52)).alloc (.cells (cna (⟨#[]⟩,d.id,0)) 104)).heap[w.heap.size+1]?=some (.cells (cna (⟨#[]⟩,d.id,0)) 104 (0,0))∧Below w.heap.size w ((w.alloc (.cells #[.int .i64 5,.string p,.string t,.slice oa lo oc,.slice (some ⟨b,o,none⟩) 1 nc] 52)).alloc (.cells (cna (⟨#[]⟩,d.id,0)) 104))) from ⟨h_new (by simp) _,(ba _ _).alloc (by simp) _⟩)
 go_enter Tryz.func62,Tryz.ntmps62
 go_wp2_with fail
 exact bodyPost_ret (res_con rfl _ _ (w.heap.size+1) (⟨#[]⟩,d.id,0) rfl HF.out.1) rfl ⟨rfl,HF.out.2⟩
theorem concerns_6 (p t:ByteArray) (oa na:Option Addr) (ln oc nc:Nat) (d:Dw) (w:World) (hl:DLA w oa 1 oc [d]):Calls Tryz.prog 62 #[.agg #[.int .i64 6,.string p,.string t,.slice oa 1 oc,.slice na ln nc]] w fun r w'=>r=.returned (.agg (cna (⟨#[]⟩,d.id,0)))∧Below w.heap.size w w':=by
 obtain ⟨b,o,rfl,hbz,hdw,hc⟩:=dla_first hl
 have hx:=hc _ (ba w (.cells #[.int .i64 6,.string p,.string t,.slice (some ⟨b,o,none⟩) 1 oc,.slice na ln nc] 52)) 0 _ rfl
 have hx0:w.cell? ⟨b,o,none⟩=some (.int .i64 d.id):=hc _ (Below.refl _ _) 0 _ rfl
 clear hc hdw hx hl
 have HF:=lid (show (((w.alloc (.cells #[.int .i64 6,.string p,.string t,.slice (some ⟨b,o,none⟩) 1 oc,.slice na ln nc] 52)).alloc (.cells (cna (⟨#[]⟩,d.id,0)) 104)).heap[w.heap.size+1]?=some (.cells (cna (⟨#[]⟩,d.id,0)) 104 (0,0))∧Below w.heap.size w ((w.alloc (.cells #[.int .i64 6,.string p,.string t,.slice (some ⟨b,o,none⟩) 1 oc,.slice na ln nc] 52)).alloc (.cells (cna (⟨#[]⟩,d.id,0)) 104))) from ⟨h_new (by simp) _,(ba _ _).alloc (by simp) _⟩)
 go_enter Tryz.func62,Tryz.ntmps62
 go_wp2_with fail
 exact bodyPost_ret (res_con rfl _ _ (w.heap.size+1) (⟨#[]⟩,d.id,0) rfl HF.out.1) rfl ⟨rfl,HF.out.2⟩
theorem concerns_hi (k:Int) (p t:ByteArray) (oa na:Option Addr) (ln oc nc:Nat) (d:Dw) (w:World) (hk:7≤k) (hl:DLA w oa 1 oc [d]):Calls Tryz.prog 62 #[.agg #[.int .i64 k,.string p,.string t,.slice oa 1 oc,.slice na ln nc]] w fun r w'=>r=.returned (.agg (cna (⟨#[]⟩,d.id,k)))∧Below w.heap.size w w':=by
 obtain ⟨b,o,rfl,hbz,hdw,hc⟩:=dla_first hl
 have hx:=hc _ (ba w (.cells #[.int .i64 k,.string p,.string t,.slice (some ⟨b,o,none⟩) 1 oc,.slice na ln nc] 52)) 0 _ rfl
 have hx0:w.cell? ⟨b,o,none⟩=some (.int .i64 d.id):=hc _ (Below.refl _ _) 0 _ rfl
 clear hc hdw hx hl
 have d1:(k == 1)=false:=by simp;omega
 have d2:(k == 2)=false:=by simp;omega
 have d3:(k == 3)=false:=by simp;omega
 have d4:(k == 4)=false:=by simp;omega
 have d5:(k == 5)=false:=by simp;omega
 have d6:(k == 6)=false:=by simp;omega
 have HF:=lid (show (((w.alloc (.cells #[.int .i64 k,.string p,.string t,.slice (some ⟨b,o,none⟩) 1 oc,.slice na ln nc] 52)).alloc (.cells (cna (⟨#[]⟩,d.id,k)) 104)).heap[w.heap.size+1]?=some (.cells (cna (⟨#[]⟩,d.id,k)) 104 (0,0))∧Below w.heap.size w ((w.alloc (.cells #[.int .i64 k,.string p,.string t,.slice (some ⟨b,o,none⟩) 1 oc,.slice na ln nc] 52)).alloc (.cells (cna (⟨#[]⟩,d.id,k)) 104))) from ⟨h_new (by simp) _,(ba _ _).alloc (by simp) _⟩)
 clear hk
 go_enter Tryz.func62,Tryz.ntmps62
 go_wp2_with fail
 have hbW:Below (w.heap.size+1) (w.alloc (.cells #[.int .i64 k,.string p,.string t,.slice (some ⟨b,o,none⟩) 1 oc,.slice na ln nc] 52)) ((w.alloc (.cells #[.int .i64 k,.string p,.string t,.slice (some ⟨b,o,none⟩) 1 oc,.slice na ln nc] 52)).alloc (.cells #[.string ⟨#[]⟩,.int .i64 0,.int .i64 0] 104)):=(Below.refl _ _).alloc (by simp) _
 refine qs (fun w'=>∃ s:Since (w.heap.size+1) (w.alloc (.cells #[.int .i64 k,.string p,.string t,.slice (some ⟨b,o,none⟩) 1 oc,.slice na ln nc] 52)),w'=s.world) [(0,true),(1,true),(2,true),(3,true),(4,true),(5,true),(6,true),(7,true),(8,false)] (since hbW.drew) ?_
 repeat (first | (refine qk ?_;simp only [Act.put,q1,q2,q3]) | (refine qf ?_;intro K hK;go_big_quiet_op;go_big_quiet_on))
 refine qc ?_
 intro K hK
 go_wp2_with fail
 refine hK.out _ _ (since ((Below.refl _ _).alloc (by simp) _).drew) ?_
 clear hK K
 refine seq_nil ?_
 go_wp2_with fail
 exact bodyPost_ret (res_con rfl _ _ (w.heap.size+1) (⟨#[]⟩,d.id,k) rfl HF.out.1) rfl ⟨rfl,HF.out.2.drew⟩
theorem concerns_any (k:Kw) (w:World) (h:KwA w k) (hf:FitK k):Calls Tryz.prog 62 #[.agg (kca k)] w fun r w'=>r=.returned (.agg (cna (conK k)))∧Below w.heap.size w w':=by
 obtain ⟨kd,p,t,oa,old,oc,na,new,nc⟩:=k
 have ho:=h.old
 have hn:=h.new
 rw [show kca ⟨kd,p,t,oa,old,oc,na,new,nc⟩=#[.int .i64 kd,.string p,.string t,.slice oa old.length oc,.slice na new.length nc] from rfl]
 rcases hf with ⟨hk,-,-,-⟩ | ⟨hk,-,-⟩ | ⟨hk,-,h1,d,h2⟩ | ⟨hk,-,⟨d,h1⟩,h2⟩ | ⟨hk,-,a,b,h1,h2,-⟩
 ·rcases hk with rfl | rfl
  ·exact concerns_1 p t oa na _ _ oc nc w
  ·exact concerns_2 p t oa na _ _ oc nc w
 ·rcases hk with rfl | rfl
  ·exact concerns_3 p t oa na _ _ oc nc w
  ·exact concerns_4 p t oa na _ _ oc nc w
 ·simp only at hk h1 h2
  subst hk h1 h2
  exact concerns_5 p t oa na _ oc nc d w hn
 ·simp only at hk h1 h2
  subst hk h1 h2
  exact concerns_6 p t oa na _ oc nc d w ho
 ·simp only at hk h1 h2
  subst h1 h2
  have h7:7≤kd:=by omega
  have e:conK ⟨kd,p,t,oa,[a],oc,na,[b],nc⟩=(⟨#[]⟩,a.id,kd):=by
   unfold conK
   rw [if_neg (by simp only;omega),if_neg (by simp only;omega),if_neg (by simp only;omega),if_pos h7]
   rfl
  rw [e]
  exact concerns_hi kd p t oa na _ oc nc a w h7 ho
end Go.Proofs.YtgcceepadlmelaaGreatDoor
namespace Go.Proofs.YtgcceepadlmelaaGreatDoor
set_option maxRecDepth 100000
set_option maxHeartbeats 16000000
open Go.RowKit
abbrev zcA:Array Value:=#[.string ⟨#[]⟩,.int .i64 0,.int .i64 0]
def Fc2 (w0:World) (a b:Con) (s:Nat→Bool) (vs:List Value) (w:World):Prop :=
 ∃ x y p q,vs=[x,y,p,q]∧Below w0.heap.size w0 w∧(s 1=true→x=.agg (cna a))∧(s 3=true→y=.agg (cna b)) ∧
  (s 4=true→∃ g,p=.pointer (some ⟨g,0,none⟩)∧w0.heap.size≤g∧w.heap[g]?=some (.cells zcA 104 (0,0))) ∧
  (s 5=true→∃ g,q=.pointer (some ⟨g,0,none⟩)∧w0.heap.size≤g∧w.heap[g]?=some (.cells zcA 104 (0,0)))∧(s 4=true→s 5=true→p≠q)
theorem Fc2.c1 {w0 w w':World} {a b:Con} {s:Nat→Bool} {x y p q:Value} (h:Fc2 w0 a b s [x,y,p,q] w) (hb:Below w.heap.size w w'):Fc2 w0 a b (upd s 1) [.agg (cna a),y,p,q] w':=by
 obtain ⟨_,_,_,_,e,h1,h2,h3,h4,h5,h6⟩:=h
 cases e
 refine ⟨_,_,_,_,rfl,h1.trans (hb.mono h1.size),fun _=>rfl,fun e=>h3 (by simpa [upd] using e),fun e=>?_,fun e=>?_,fun e1 e2=>h6 (by simpa [upd] using e1) (by simpa [upd] using e2)⟩
 ·obtain ⟨g,e,hg,hr⟩:=h4 (by simpa [upd] using e)
  exact ⟨g,e,hg,(hb.block _ (row_lt hr)).trans hr⟩
 ·obtain ⟨g,e,hg,hr⟩:=h5 (by simpa [upd] using e)
  exact ⟨g,e,hg,(hb.block _ (row_lt hr)).trans hr⟩
theorem Fc2.c3 {w0 w w':World} {a b:Con} {s:Nat→Bool} {x y p q:Value} (h:Fc2 w0 a b s [x,y,p,q] w) (hb:Below w.heap.size w w'):Fc2 w0 a b (upd s 3) [x,.agg (cna b),p,q] w':=by
 obtain ⟨_,_,_,_,e,h1,h2,h3,h4,h5,h6⟩:=h
 cases e
 refine ⟨_,_,_,_,rfl,h1.trans (hb.mono h1.size),fun e=>h2 (by simpa [upd] using e),fun _=>rfl,fun e=>?_,fun e=>?_,fun e1 e2=>h6 (by simpa [upd] using e1) (by simpa [upd] using e2)⟩
 ·obtain ⟨g,e,hg,hr⟩:=h4 (by simpa [upd] using e)
  exact ⟨g,e,hg,(hb.block _ (row_lt hr)).trans hr⟩
 ·obtain ⟨g,e,hg,hr⟩:=h5 (by simpa [upd] using e)
  exact ⟨g,e,hg,(hb.block _ (row_lt hr)).trans hr⟩
theorem Fc2.n4 {w0 w:World} {a b:Con} {s:Nat→Bool} {x y p q:Value} (h:Fc2 w0 a b s [x,y,p,q] w):Fc2 w0 a b (upd s 4) [x,y,.pointer (some ⟨w.heap.size,0,none⟩),q] (w.alloc (.cells zcA 104)):=by
 obtain ⟨_,_,_,_,e,h1,h2,h3,h4,h5,h6⟩:=h
 cases e
 refine ⟨_,_,_,_,rfl,h1.alloc h1.size _,fun e=>h2 (by simpa [upd] using e),fun e=>h3 (by simpa [upd] using e),fun _=>⟨_,rfl,h1.size,h_new rfl _⟩,fun e=>?_,fun _ e2=>?_⟩
 ·obtain ⟨g,e,hg,hr⟩:=h5 (by simpa [upd] using e)
  exact ⟨g,e,hg,(h_old (row_lt hr) _).trans hr⟩
 ·obtain ⟨g,rfl,hg,hr⟩:=h5 (by simpa [upd] using e2)
  exact ptr_ne (by have:=row_lt hr;omega)
theorem Fc2.n5 {w0 w:World} {a b:Con} {s:Nat→Bool} {x y p q:Value} (h:Fc2 w0 a b s [x,y,p,q] w):Fc2 w0 a b (upd s 5) [x,y,p,.pointer (some ⟨w.heap.size,0,none⟩)] (w.alloc (.cells zcA 104)):=by
 obtain ⟨_,_,_,_,e,h1,h2,h3,h4,h5,h6⟩:=h
 cases e
 refine ⟨_,_,_,_,rfl,h1.alloc h1.size _,fun e=>h2 (by simpa [upd] using e),fun e=>h3 (by simpa [upd] using e),fun e=>?_,fun _=>⟨_,rfl,h1.size,h_new rfl _⟩,fun e2 _=>?_⟩
 ·obtain ⟨g,e,hg,hr⟩:=h4 (by simpa [upd] using e)
  exact ⟨g,e,hg,(h_old (row_lt hr) _).trans hr⟩
 ·obtain ⟨g,rfl,hg,hr⟩:=h4 (by simpa [upd] using e2)
  exact ptr_ne (by have:=row_lt hr;omega)
def zCon:Con:=(⟨#[]⟩,0,0)
def indC (x y:Con):Bool:=if x=zCon∨y=zCon∨x=y then false else if x.2.1≠y.2.1∨x.1≠y.1 then true else decide (x.2.2≠0∧y.2.2≠0)
theorem toL_iff (a b:ByteArray):a.toList=b.toList↔a=b:=⟨fun h=>by rw [ByteArray.toList_eq,ByteArray.toList_eq] at h;exact bytes_inj h,fun h=>by rw [h]⟩
theorem toL_nil (a:ByteArray):a.toList=[]↔a=⟨#[]⟩:=by
 rw [← toL_iff a ⟨#[]⟩]
 rw [show (⟨#[]⟩:ByteArray).toList=[] by rw [ByteArray.toList_eq]]
theorem indC_eq (u1 u2:ByteArray) (i1 i2 t1 t2:Int):indC (u1,i1,t1) (u2,i2,t2)=if (u1.toList=[]∧i1=0∧t1=0)∨(u2.toList=[]∧i2=0∧t2=0)∨(u1.toList=u2.toList∧i1=i2∧t1=t2) then false else if i1≠i2∨u1.toList≠u2.toList then true else (t1 != 0 && t2 != 0):=by
 simp only [indC,zCon,ne_eq,toL_iff,toL_nil,Prod.mk.injEq]
 have e:decide (t1≠0∧t2≠0)=(t1 != 0 && t2 != 0):=by
  by_cases h1:t1=0 <;> by_cases h2:t2=0 <;> simp [h1,h2]
 simp only [ne_eq] at e
 rw [e]
def indK (a b:Kw):Bool:=if a.pack≠b.pack then true else indC (conK a) (conK b)
theorem independent_any (a b:Kw) (w:World) (ha:KwA w a) (hb:KwA w b) (hfa:FitK a) (hfb:FitK b) :
  Calls Tryz.prog 32 #[.agg (kca a),.agg (kca b)] w fun r w'=>r=.returned (.bool (indK a b))∧Below w.heap.size w w':=by
 obtain ⟨W0,hW0⟩:∃ y,(w.alloc (.cells (kca a) 52)).alloc (.cells (kca b) 52)=y:=⟨_,rfl⟩
 have hb0:Below w.heap.size w W0:=by rw [← hW0];exact (ba _ _).alloc (by simp) _
 have hRA:W0.heap[w.heap.size]?=some (.cells (kca a) 52 (0,0)):=by rw [← hW0];exact (h_old (by simp) _).trans (h_new rfl _)
 have hRB:W0.heap[w.heap.size+1]?=some (.cells (kca b) 52 (0,0)):=by rw [← hW0];exact h_new (by simp) _
 have CA:=lid (fun (W:World) (hW:Below w.heap.size w W)=>concerns_any a W (ha.below hW) hfa)
 have CB:=lid (fun (W:World) (hW:Below w.heap.size w W)=>concerns_any b W (hb.below hW) hfb)
 obtain ⟨ca,hca⟩:∃ c,conK a=c:=⟨_,rfl⟩
 obtain ⟨cb,hcb⟩:∃ c,conK b=c:=⟨_,rfl⟩
 have HRES:Hid (indK a b=if a.pack≠b.pack then true else indC ca cb):=lid (by unfold indK;rw [hca,hcb])
 rw [hca] at CA
 rw [hcb] at CB
 have HW0:=lid hW0
 have HB0:=lid hb0
 have a0:W0.cell? ⟨w.heap.size,0,none⟩=some (.int .i64 a.kind):=row_cell hRA 0
 have a1:W0.cell? ⟨w.heap.size,1,none⟩=some (.string a.pack):=row_cell hRA 1
 have a2:W0.cell? ⟨w.heap.size,2,none⟩=some (.string a.text):=row_cell hRA 2
 have a3:W0.cell? ⟨w.heap.size,3,none⟩=some (.slice a.oa a.old.length a.ocap):=row_cell hRA 3
 have a4:W0.cell? ⟨w.heap.size,4,none⟩=some (.slice a.na a.new.length a.ncap):=row_cell hRA 4
 have b0:W0.cell? ⟨w.heap.size+1,0,none⟩=some (.int .i64 b.kind):=row_cell hRB 0
 have b1:W0.cell? ⟨w.heap.size+1,1,none⟩=some (.string b.pack):=row_cell hRB 1
 have b2:W0.cell? ⟨w.heap.size+1,2,none⟩=some (.string b.text):=row_cell hRB 2
 have b3:W0.cell? ⟨w.heap.size+1,3,none⟩=some (.slice b.oa b.old.length b.ocap):=row_cell hRB 3
 have b4:W0.cell? ⟨w.heap.size+1,4,none⟩=some (.slice b.na b.new.length b.ncap):=row_cell hRB 4
 have la:=row_lt hRA
 have lb:=row_lt hRB
 clear ha hb hfa hfb hca hcb hW0 hb0 hRA hRB
 by_cases hp:a.pack=b.pack
 case neg =>
  have HV:Hid (indK a b=true):=lid (by rw [HRES.out,if_pos hp])
  have d:=str_ne hp
  clear hp
  go_enter Tryz.func32,Tryz.ntmps32
  go_wp2_with fail
  rw [HW0.out]
  go_wp2_with fail
  go_ret
  exact ⟨by rw [HV.out];rfl,HB0.out⟩
 have HV:Hid (indK a b=indC ca cb):=lid (by rw [HRES.out,if_neg (by simp [hp])])
 have d:=str_eq hp
 clear hp HRES
 go_enter Tryz.func32,Tryz.ntmps32
 go_wp2_with fail
 rw [HW0.out]
 go_wp2_with fail
 refine wp_region_mix (fun w'=>∃ s:Since W0.heap.size W0,w'=s.world) [(0,true),(2,true)] [(1,[]),(3,[1]),(4,[]),(5,[])] [(6,false),(7,false)] (by kernel_rfl) (by kernel_rfl) (by intro c d v a w h;first | (cases d <;> exact h) | cases h.1) (since (Below.refl _ _).drew) ?_
 repeat (first | (refine qk ?_;simp only [Act.put,q1,q2,q3]) | (refine qf ?_;intro K hK;go_big_quiet_op;go_big_quiet_on))
 refine seq_nil (mix_go [14,16,5,6] [undef,undef,undef,undef] (Fc2 W0 ca cb) rfl (by simp only [putAll,Act.put,q1,q2,q3]) (fun s h=>⟨_,_,_,_,rfl,(Below.refl _ _).drew,fun e=>absurd e (by rw [h (1,[]) (by simp)];simp),fun e=>absurd e (by rw [h (3,[1]) (by simp)];simp),fun e=>absurd e (by rw [h (4,[]) (by simp)];simp),fun e=>absurd e (by rw [h (5,[]) (by simp)];simp),fun e=>absurd e (by rw [h (4,[]) (by simp)];simp)⟩) ⟨?_,?_,?_,?_,trivial⟩ ?_)
 ·intro s vs wm _ _ _ _ hR
  have hR':=lid hR
  obtain ⟨p1,p2,p3,p4,rfl,hB1,-⟩:=hR
  have HB1:=lid hB1
  simp only [putAll,Act.put,q1,q2,q3]
  refine mix_op (by rfl) ?_
  intro K hK
  clear hB1
  go_wp2_with fail
  (with_reducible refine (CA.out wm (HB0.out.trans (HB1.out.mono HB0.out.size))).mono ?_);rintro e w4 ⟨rfl,hb4⟩
  go_wp2_with fail
  exact hK.out _ _ ⟨since (HB1.out.trans (hb4.mono HB1.out.size)),[_,p2,p3,p4],rfl,by simp only [putAll,Act.put,q1,q2,q3],hR'.out.c1 hb4⟩
 ·intro s vs wm _ _ _ _ hR
  have hR':=lid hR
  obtain ⟨p1,p2,p3,p4,rfl,hB1,-⟩:=hR
  have HB1:=lid hB1
  simp only [putAll,Act.put,q1,q2,q3]
  refine mix_op (by rfl) ?_
  intro K hK
  clear hB1
  go_wp2_with fail
  (with_reducible refine (CB.out wm (HB0.out.trans (HB1.out.mono HB0.out.size))).mono ?_);rintro e w4 ⟨rfl,hb4⟩
  go_wp2_with fail
  exact hK.out _ _ ⟨since (HB1.out.trans (hb4.mono HB1.out.size)),[p1,_,p3,p4],rfl,by simp only [putAll,Act.put,q1,q2,q3],hR'.out.c3 hb4⟩
 ·intro s vs wm _ _ _ _ hR
  have hR':=lid hR
  obtain ⟨p1,p2,p3,p4,rfl,hB1,-⟩:=hR
  have HB1:=lid hB1
  simp only [putAll,Act.put,q1,q2,q3]
  refine mix_op (by rfl) ?_
  intro K hK
  clear hB1
  go_wp2_with fail
  exact hK.out _ _ ⟨since (HB1.out.alloc HB1.out.size _),[p1,p2,_,p4],rfl,by simp only [putAll,Act.put,q1,q2,q3],hR'.out.n4⟩
 ·intro s vs wm _ _ _ _ hR
  have hR':=lid hR
  obtain ⟨p1,p2,p3,p4,rfl,hB1,-⟩:=hR
  have HB1:=lid hB1
  simp only [putAll,Act.put,q1,q2,q3]
  refine mix_op (by rfl) ?_
  intro K hK
  clear hB1
  go_wp2_with fail
  exact hK.out _ _ ⟨since (HB1.out.alloc HB1.out.size _),[p1,p2,p3,_],rfl,by simp only [putAll,Act.put,q1,q2,q3],hR'.out.n5⟩
 intro s vs w8 _ hall _ hR
 obtain ⟨p1,p2,p3,p4,rfl,hB1,h4,h9,h10,h11,hpq⟩:=hR
 obtain rfl:=h4 (hall (1,[]) (by simp))
 obtain rfl:=h9 (hall (3,[1]) (by simp))
 obtain ⟨g,rfl,hgz,hrg⟩:=h10 (hall (4,[]) (by simp))
 obtain ⟨q,rfl,hqz,hrq⟩:=h11 (hall (5,[]) (by simp))
 have hgq:g≠q:=fun e=>hpq (hall (4,[]) (by simp)) (hall (5,[]) (by simp)) (by rw [e])
 clear h4 h9 h10 h11 hpq hall
 simp only [putAll,Act.put,q1,q2,q3]
 refine qc ?_
 intro K hK
 refine wpList_store_mid rfl 104 _ _ rfl g 0 (cna ca) rfl rfl (there_row hrg (by simp)) (by kernel_rfl) (by simp [Value.oneCell']) ?_
 obtain ⟨w9,hw9⟩:∃ y,w8.setCells g 0 (cna ca).toList=y:=⟨_,rfl⟩
 have h9:Below W0.heap.size W0 w9:=by rw [← hw9];exact below_cells hgz _ _ _ hB1
 have hA9:w9.heap[g]?=some (.cells (cna ca) 104 (0,0)):=by rw [← hw9];exact row_whole hrg rfl
 have hB9:w9.heap[q]?=some (.cells zcA 104 (0,0)):=by rw [← hw9];exact (setCells_other (Ne.symm hgq) _ _ _).trans hrq
 rw [hw9]
 clear hw9
 simp only [Act.put]
 go_wp2_with fail
 refine hK.out _ _ (since h9) ?_
 clear hK K
 refine qc ?_
 intro K hK
 refine wpList_store_mid rfl 104 _ _ rfl q 0 (cna cb) rfl rfl (there_row hB9 (by simp)) (by kernel_rfl) (by simp [Value.oneCell']) ?_
 obtain ⟨w10,hw10⟩:∃ y,w9.setCells q 0 (cna cb).toList=y:=⟨_,rfl⟩
 have h10:Below W0.heap.size W0 w10:=by rw [← hw10];exact below_cells hqz _ _ _ h9
 have hB10:w10.heap[q]?=some (.cells (cna cb) 104 (0,0)):=by rw [← hw10];exact row_whole hB9 rfl
 have hA10:w10.heap[g]?=some (.cells (cna ca) 104 (0,0)):=by rw [← hw10];exact (setCells_other hgq _ _ _).trans hA9
 rw [hw10]
 simp only [Act.put]
 clear hw10 hrg hrq hA9 hB9 h9 hB1
 have H10:=lid (HB0.out.trans (h10.mono HB0.out.size))
 have HK10:=lid h10
 obtain ⟨u1,i1,t1⟩:=ca
 obtain ⟨u2,i2,t2⟩:=cb
 have p0:w10.cell? ⟨g,0,none⟩=some (.string u1):=row_cell hA10 0
 have p1:w10.cell? ⟨g,1,none⟩=some (.int .i64 i1):=row_cell hA10 1
 have p2:w10.cell? ⟨g,2,none⟩=some (.int .i64 t1):=row_cell hA10 2
 have q0:w10.cell? ⟨q,0,none⟩=some (.string u2):=row_cell hB10 0
 have q1:w10.cell? ⟨q,1,none⟩=some (.int .i64 i2):=row_cell hB10 1
 have q2:w10.cell? ⟨q,2,none⟩=some (.int .i64 t2):=row_cell hB10 2
 have lg:=row_lt hA10
 have lq:=row_lt hB10
 clear h10 hA10 hB10 hgz hqz hgq CA CB a0 a1 a2 a3 a4 b0 b1 b2 b3 b4 la lb
 go_wp2_with fail
 refine hK.out _ _ (since HK10.out) (seq_nil ?_)
 clear hK K
 rw [indC_eq] at HV
 go_wp2_with fail
 all_goals (refine bodyPost_ret (results_tmp rfl _ _ _) rfl ⟨?_,(H10.out.alloc H10.out.size _)⟩;rw [HV.out];first | (simp [*];done) | (simp [*];omega) | (simp_all;done) | (simp_all;omega))
end Go.Proofs.YtgcceepadlmelaaGreatDoor
namespace Go.Proofs.YtgcceepadlmelaaGreatDoor
set_option maxRecDepth 100000
set_option maxHeartbeats 16000000
open Go.RowKit
theorem res_swap {fn:Func} (hf:fn.results=#[.cell 4 52,.cell 5 52,.tmp 6]) (t:Array Value) (w:World) (g q:Nat) (m n:Kw) (h4:t.getD 4 undef=.pointer (some ⟨g,0,none⟩)) (h5:t.getD 5 undef=.pointer (some ⟨q,0,none⟩)) (e:w.heap[g]?=some (.cells (kca m) 52 (0,0))) (e':w.heap[q]?=some (.cells (kca n) 52 (0,0))):(results fn t).run Tryz.prog w=.ok (.tuple #[.agg (kca m),.agg (kca n),t.getD 6 undef]) w:=by
 have e0:w.cell? ⟨g,0,none⟩=some (.int .i64 m.kind):=row_cell e 0
 have f0:w.cell? ⟨q,0,none⟩=some (.int .i64 n.kind):=row_cell e' 0
 have e1:w.cell? ⟨g,1,none⟩=some (.string m.pack):=row_cell e 1
 have f1:w.cell? ⟨q,1,none⟩=some (.string n.pack):=row_cell e' 1
 have e2:w.cell? ⟨g,2,none⟩=some (.string m.text):=row_cell e 2
 have f2:w.cell? ⟨q,2,none⟩=some (.string n.text):=row_cell e' 2
 have e3:w.cell? ⟨g,3,none⟩=some (.slice m.oa m.old.length m.ocap):=row_cell e 3
 have f3:w.cell? ⟨q,3,none⟩=some (.slice n.oa n.old.length n.ocap):=row_cell e' 3
 have e4:w.cell? ⟨g,4,none⟩=some (.slice m.na m.new.length m.ncap):=row_cell e 4
 have f4:w.cell? ⟨q,4,none⟩=some (.slice n.na n.new.length n.ncap):=row_cell e' 4
 rw [Array.getD_eq_getD_getElem?] at h4 h5
 unfold results
 rw [hf]
 simp [go_sem,h4,h5,asAddr,e0,e1,e2,e3,e4,f0,f1,f2,f3,f4]
abbrev zkA:Array Value:=#[.int .i64 0,.string ⟨#[]⟩,.string ⟨#[]⟩,.slice none 0 0,.slice none 0 0]
def zKw:Kw:=⟨0,⟨#[]⟩,⟨#[]⟩,none,[],0,none,[],0⟩
theorem Swap_any (a b:Kw) (w:World) (ha:KwA w a) (hb:KwA w b) (hfa:FitK a) (hfb:FitK b) (hta:TestK a) (htb:TestK b) :
  Calls Tryz.prog 23 #[.agg (kca a),.agg (kca b)] w fun r w'=>r=.returned (if indK a b=true then .tuple #[.agg (kca b),.agg (kca a),.bool true] else .tuple #[.agg (kca zKw),.agg (kca zKw),.bool false])∧Below w.heap.size w w':=by
 obtain ⟨W0,hW0⟩:∃ y,(((w.alloc (.cells (kca a) 52)).alloc (.cells (kca b) 52)).alloc (.cells zkA 52)).alloc (.cells zkA 52)=y:=⟨_,rfl⟩
 have hb0:Below w.heap.size w W0:=by rw [← hW0];exact (((ba _ _).alloc (by simp) _).alloc (by simp <;> omega) _).alloc (by simp <;> omega) _
 have hR:W0.heap[w.heap.size]?=some (.cells (kca a) 52 (0,0))∧W0.heap[w.heap.size+1]?=some (.cells (kca b) 52 (0,0))∧W0.heap[w.heap.size+1+1]?=some (.cells zkA 52 (0,0))∧W0.heap[w.heap.size+1+1+1]?=some (.cells zkA 52 (0,0)):=by
  rw [← hW0]
  refine ⟨?_,?_,?_,?_⟩
  ·exact (h_old (by simp <;> omega) _).trans ((h_old (by simp <;> omega) _).trans ((h_old (by simp) _).trans (h_new rfl _)))
  ·exact (h_old (by simp <;> omega) _).trans ((h_old (by simp) _).trans (h_new (by simp) _))
  ·exact (h_old (by simp) _).trans (h_new (by simp) _)
  ·exact h_new (by simp) _
 have HRR:Hid (∀ W,Below W0.heap.size W0 W→W.heap[w.heap.size]?=some (.cells (kca a) 52 (0,0))∧W.heap[w.heap.size+1]?=some (.cells (kca b) 52 (0,0))∧W.heap[w.heap.size+1+1]?=some (.cells zkA 52 (0,0))∧W.heap[w.heap.size+1+1+1]?=some (.cells zkA 52 (0,0))):=lid (fun W hW=>⟨(hW.block _ (row_lt hR.1)).trans hR.1,(hW.block _ (row_lt hR.2.1)).trans hR.2.1,(hW.block _ (row_lt hR.2.2.1)).trans hR.2.2.1,(hW.block _ (row_lt hR.2.2.2)).trans hR.2.2.2⟩)
 have CA:=lid (EdCheck_any a W0 (ha.below hb0) hfa hta)
 have CB:=lid (fun (W:World) (hW:Below w.heap.size w W)=>EdCheck_any b W (hb.below hW) hfb htb)
 have CI:=lid (fun (W:World) (hW:Below w.heap.size w W)=>independent_any a b W (ha.below hW) (hb.below hW) hfa hfb)
 obtain ⟨bi,hbi⟩:∃ y,indK a b=y:=⟨_,rfl⟩
 rw [hbi] at CI ⊢
 have HW0:=lid hW0
 have HB0:=lid hb0
 have x0:W0.cell? ⟨w.heap.size,0,none⟩=some (.int .i64 a.kind):=row_cell (HRR.out _ (Below.refl _ _)).1 0
 have y0:W0.cell? ⟨w.heap.size+1,0,none⟩=some (.int .i64 b.kind):=row_cell (HRR.out _ (Below.refl _ _)).2.1 0
 have x1:W0.cell? ⟨w.heap.size,1,none⟩=some (.string a.pack):=row_cell (HRR.out _ (Below.refl _ _)).1 1
 have y1:W0.cell? ⟨w.heap.size+1,1,none⟩=some (.string b.pack):=row_cell (HRR.out _ (Below.refl _ _)).2.1 1
 have x2:W0.cell? ⟨w.heap.size,2,none⟩=some (.string a.text):=row_cell (HRR.out _ (Below.refl _ _)).1 2
 have y2:W0.cell? ⟨w.heap.size+1,2,none⟩=some (.string b.text):=row_cell (HRR.out _ (Below.refl _ _)).2.1 2
 have x3:W0.cell? ⟨w.heap.size,3,none⟩=some (.slice a.oa a.old.length a.ocap):=row_cell (HRR.out _ (Below.refl _ _)).1 3
 have y3:W0.cell? ⟨w.heap.size+1,3,none⟩=some (.slice b.oa b.old.length b.ocap):=row_cell (HRR.out _ (Below.refl _ _)).2.1 3
 have x4:W0.cell? ⟨w.heap.size,4,none⟩=some (.slice a.na a.new.length a.ncap):=row_cell (HRR.out _ (Below.refl _ _)).1 4
 have y4:W0.cell? ⟨w.heap.size+1,4,none⟩=some (.slice b.na b.new.length b.ncap):=row_cell (HRR.out _ (Below.refl _ _)).2.1 4
 have lx:=row_lt (HRR.out _ (Below.refl _ _)).1
 have ly:=row_lt (HRR.out _ (Below.refl _ _)).2.1
 clear ha hb hfa hfb hta htb hbi hW0 hb0 hR
 go_enter Tryz.func23,Tryz.ntmps23
 go_wp2_with fail
 rw [HW0.out]
 go_wp2_with fail
 (with_reducible refine (CA.out).mono ?_);rintro e w1 ⟨rfl,hb1⟩
 have H1:=lid hb1
 clear hb1 CA x0 x1 x2 x3 x4 y0 y1 y2 y3 y4 lx ly
 have x0:w1.cell? ⟨w.heap.size,0,none⟩=some (.int .i64 a.kind):=row_cell (HRR.out _ H1.out).1 0
 have y0:w1.cell? ⟨w.heap.size+1,0,none⟩=some (.int .i64 b.kind):=row_cell (HRR.out _ H1.out).2.1 0
 have x1:w1.cell? ⟨w.heap.size,1,none⟩=some (.string a.pack):=row_cell (HRR.out _ H1.out).1 1
 have y1:w1.cell? ⟨w.heap.size+1,1,none⟩=some (.string b.pack):=row_cell (HRR.out _ H1.out).2.1 1
 have x2:w1.cell? ⟨w.heap.size,2,none⟩=some (.string a.text):=row_cell (HRR.out _ H1.out).1 2
 have y2:w1.cell? ⟨w.heap.size+1,2,none⟩=some (.string b.text):=row_cell (HRR.out _ H1.out).2.1 2
 have x3:w1.cell? ⟨w.heap.size,3,none⟩=some (.slice a.oa a.old.length a.ocap):=row_cell (HRR.out _ H1.out).1 3
 have y3:w1.cell? ⟨w.heap.size+1,3,none⟩=some (.slice b.oa b.old.length b.ocap):=row_cell (HRR.out _ H1.out).2.1 3
 have x4:w1.cell? ⟨w.heap.size,4,none⟩=some (.slice a.na a.new.length a.ncap):=row_cell (HRR.out _ H1.out).1 4
 have y4:w1.cell? ⟨w.heap.size+1,4,none⟩=some (.slice b.na b.new.length b.ncap):=row_cell (HRR.out _ H1.out).2.1 4
 have lx:=row_lt (HRR.out _ H1.out).1
 have ly:=row_lt (HRR.out _ H1.out).2.1
 go_wp2_with fail
 (with_reducible refine (CB.out w1 (HB0.out.trans (H1.out.mono HB0.out.size))).mono ?_);rintro e w2 ⟨rfl,hb2⟩
 have H2:=lid (H1.out.trans (hb2.mono H1.out.size))
 clear hb2 CB x0 x1 x2 x3 x4 y0 y1 y2 y3 y4 lx ly
 have x0:w2.cell? ⟨w.heap.size,0,none⟩=some (.int .i64 a.kind):=row_cell (HRR.out _ H2.out).1 0
 have y0:w2.cell? ⟨w.heap.size+1,0,none⟩=some (.int .i64 b.kind):=row_cell (HRR.out _ H2.out).2.1 0
 have x1:w2.cell? ⟨w.heap.size,1,none⟩=some (.string a.pack):=row_cell (HRR.out _ H2.out).1 1
 have y1:w2.cell? ⟨w.heap.size+1,1,none⟩=some (.string b.pack):=row_cell (HRR.out _ H2.out).2.1 1
 have x2:w2.cell? ⟨w.heap.size,2,none⟩=some (.string a.text):=row_cell (HRR.out _ H2.out).1 2
 have y2:w2.cell? ⟨w.heap.size+1,2,none⟩=some (.string b.text):=row_cell (HRR.out _ H2.out).2.1 2
 have x3:w2.cell? ⟨w.heap.size,3,none⟩=some (.slice a.oa a.old.length a.ocap):=row_cell (HRR.out _ H2.out).1 3
 have y3:w2.cell? ⟨w.heap.size+1,3,none⟩=some (.slice b.oa b.old.length b.ocap):=row_cell (HRR.out _ H2.out).2.1 3
 have x4:w2.cell? ⟨w.heap.size,4,none⟩=some (.slice a.na a.new.length a.ncap):=row_cell (HRR.out _ H2.out).1 4
 have y4:w2.cell? ⟨w.heap.size+1,4,none⟩=some (.slice b.na b.new.length b.ncap):=row_cell (HRR.out _ H2.out).2.1 4
 have lx:=row_lt (HRR.out _ H2.out).1
 have ly:=row_lt (HRR.out _ H2.out).2.1
 go_wp2_with fail
 (with_reducible refine (CI.out w2 (HB0.out.trans (H2.out.mono HB0.out.size))).mono ?_);rintro e w3 ⟨rfl,hb3⟩
 have H3:=lid (H2.out.trans (hb3.mono H2.out.size))
 clear hb3 CI x0 x1 x2 x3 x4 y0 y1 y2 y3 y4 lx ly
 have x0:w3.cell? ⟨w.heap.size,0,none⟩=some (.int .i64 a.kind):=row_cell (HRR.out _ H3.out).1 0
 have y0:w3.cell? ⟨w.heap.size+1,0,none⟩=some (.int .i64 b.kind):=row_cell (HRR.out _ H3.out).2.1 0
 have x1:w3.cell? ⟨w.heap.size,1,none⟩=some (.string a.pack):=row_cell (HRR.out _ H3.out).1 1
 have y1:w3.cell? ⟨w.heap.size+1,1,none⟩=some (.string b.pack):=row_cell (HRR.out _ H3.out).2.1 1
 have x2:w3.cell? ⟨w.heap.size,2,none⟩=some (.string a.text):=row_cell (HRR.out _ H3.out).1 2
 have y2:w3.cell? ⟨w.heap.size+1,2,none⟩=some (.string b.text):=row_cell (HRR.out _ H3.out).2.1 2
 have x3:w3.cell? ⟨w.heap.size,3,none⟩=some (.slice a.oa a.old.length a.ocap):=row_cell (HRR.out _ H3.out).1 3
 have y3:w3.cell? ⟨w.heap.size+1,3,none⟩=some (.slice b.oa b.old.length b.ocap):=row_cell (HRR.out _ H3.out).2.1 3
 have x4:w3.cell? ⟨w.heap.size,4,none⟩=some (.slice a.na a.new.length a.ncap):=row_cell (HRR.out _ H3.out).1 4
 have y4:w3.cell? ⟨w.heap.size+1,4,none⟩=some (.slice b.na b.new.length b.ncap):=row_cell (HRR.out _ H3.out).2.1 4
 have lx:=row_lt (HRR.out _ H3.out).1
 have ly:=row_lt (HRR.out _ H3.out).2.1
 cases bi with
 | false =>
  have hzr:=(HRR.out _ H3.out).2.2
  have hth:=there_row (o:=0) (n:=5) hzr.1 (by simp)
  have HTH:=lid hth
  have HZR:=lid hzr
  clear hth hzr
  go_wp2_with (refine wpList_store_to rfl 52 (.tmp 4) (.tmp 21) rfl (w.heap.size+1+1) 0 zkA rfl rfl HTH.out (by kernel_rfl) (by simp [Value.oneCell']) ?_)
  intro w5 hw5
  have HE5:Hid (w5.heap[w.heap.size+1+1]?=some (.cells zkA 52 (0,0))):=lid (by rw [← hw5.out];exact row_whole (vs:=zkA) HZR.out.1 rfl)
  have HF5:Hid (w5.heap[w.heap.size+1+1+1]?=some (.cells zkA 52 (0,0))):=lid (by rw [← hw5.out];exact (setCells_other (by omega) _ _ _).trans HZR.out.2)
  have HB5:Hid (Below (w.heap.size+1+1) w3 w5):=lid (by rw [← hw5.out];exact below_cells (Nat.le_refl _) _ _ _ (Below.refl _ _))
  have HTH2:=lid (there_row (o:=0) (n:=5) HF5.out (by simp))
  clear hw5
  try simp only [Act.put,q1,q2,q3]
  go_wp2_with (refine wpList_store_to rfl 52 (.tmp 5) (.tmp 22) rfl (w.heap.size+1+1+1) 0 zkA rfl rfl HTH2.out (by kernel_rfl) (by simp [Value.oneCell']) ?_)
  intro w6 hw6
  have hE6:w6.heap[w.heap.size+1+1]?=some (.cells zkA 52 (0,0)):=by rw [← hw6.out];exact (setCells_other (by omega) _ _ _).trans HE5.out
  have hF6:w6.heap[w.heap.size+1+1+1]?=some (.cells zkA 52 (0,0)):=by rw [← hw6.out];exact row_whole (vs:=zkA) HF5.out rfl
  have hB6:Below (w.heap.size+1+1) w3 w6:=by rw [← hw6.out];exact below_cells (by omega) _ _ _ HB5.out
  clear hw6
  have HE6:=lid hE6
  have HF6:=lid hF6
  have HB6:=lid hB6
  clear hE6 hF6 hB6
  try simp only [Act.put,q1,q2,q3]
  go_wp2_with fail
  exact bodyPost_ret (res_swap rfl _ _ (w.heap.size+1+1) (w.heap.size+1+1+1) zKw zKw rfl rfl HE6.out HF6.out) rfl ⟨rfl,(HB0.out.trans (H3.out.mono HB0.out.size)).trans (HB6.out.mono (by omega))⟩
 | true =>
  have hzr:=(HRR.out _ H3.out).2.2
  have HZR:=lid hzr
  clear hzr
  go_wp2_with fail
  refine qs (fun w'=>∃ s:Since (w.heap.size+1+1) w3,w'=s.world) [(0,true),(1,true),(2,false),(3,false),(4,false)] (since (Below.refl _ _).drew) ?_
  repeat (first | (refine qk ?_;simp only [Act.put,q1,q2,q3]) | (refine qf ?_;intro K hK;go_big_quiet_op;go_big_quiet_on))
  refine qc ?_
  intro K hK
  refine wpList_store_mid rfl 52 _ _ rfl (w.heap.size+1+1) 0 (kca b) rfl rfl (there_row (show w3.drew.heap[w.heap.size+1+1]?=_ from HZR.out.1) (by simp)) (by kernel_rfl) (by simp [Value.oneCell']) ?_
  obtain ⟨w5,hw5⟩:∃ y,w3.drew.setCells (w.heap.size+1+1) 0 (kca b).toList=y:=⟨_,rfl⟩
  have hE5:w5.heap[w.heap.size+1+1]?=some (.cells (kca b) 52 (0,0)):=by rw [← hw5];exact row_whole (vs:=kca b) (show w3.drew.heap[w.heap.size+1+1]?=_ from HZR.out.1) rfl
  have hF5:w5.heap[w.heap.size+1+1+1]?=some (.cells zkA 52 (0,0)):=by rw [← hw5];exact (setCells_other (by omega) _ _ _).trans HZR.out.2
  have hB5:Below (w.heap.size+1+1) w3 w5:=by rw [← hw5];exact below_cells (Nat.le_refl _) _ _ _ (Below.refl _ _).drew
  rw [hw5]
  clear hw5
  simp only [Act.put]
  go_wp2_with fail
  refine hK.out _ _ (since hB5) ?_
  clear hK K
  refine qc ?_
  intro K hK
  refine wpList_store_mid rfl 52 _ _ rfl (w.heap.size+1+1+1) 0 (kca a) rfl rfl (there_row hF5 (by simp)) (by kernel_rfl) (by simp [Value.oneCell']) ?_
  obtain ⟨w6,hw6⟩:∃ y,w5.setCells (w.heap.size+1+1+1) 0 (kca a).toList=y:=⟨_,rfl⟩
  have hE6:w6.heap[w.heap.size+1+1]?=some (.cells (kca b) 52 (0,0)):=by rw [← hw6];exact (setCells_other (by omega) _ _ _).trans hE5
  have hF6:w6.heap[w.heap.size+1+1+1]?=some (.cells (kca a) 52 (0,0)):=by rw [← hw6];exact row_whole (vs:=kca a) hF5 rfl
  have hB6:Below (w.heap.size+1+1) w3 w6:=by rw [← hw6];exact below_cells (by omega) _ _ _ hB5
  rw [hw6]
  have HE6:=lid hE6
  have HF6:=lid hF6
  have HB6:=lid hB6
  clear hw6 hE5 hF5 hB5 hE6 hF6 hB6
  simp only [Act.put]
  go_wp2_with fail
  refine hK.out _ _ (since HB6.out) ?_
  clear hK K
  refine qc ?_
  intro K hK
  go_wp2_with fail
  refine hK.out _ _ (since HB6.out) ?_
  clear hK K
  refine seq_nil ?_
  go_wp2_with fail
  exact bodyPost_ret (res_swap rfl _ _ (w.heap.size+1+1) (w.heap.size+1+1+1) b a rfl rfl HE6.out HF6.out) rfl ⟨rfl,(HB0.out.trans (H3.out.mono HB0.out.size)).trans (HB6.out.mono (by omega))⟩
end Go.Proofs.YtgcceepadlmelaaGreatDoor
namespace Go.Proofs.YtgcceepadlmelaaGreatDoor
open Go.RowKit
theorem flat5 {l:List Kw} {m:Nat} (h:m<l.length*5):∃ hk:m / 5<l.length,(kcs l)[m]?=(kce l[m / 5])[m % 5]?:=by
 have hk:m / 5<l.length:=by omega
 refine ⟨hk,?_⟩
 have:=kcs_cell (l:=l) (k:=m / 5) (j:=m % 5) hk (Nat.mod_lt _ (by omega))
 rw [show m / 5*5+m % 5=m by omega] at this
 exact this
theorem kcs_set {l:List Kw} {i m:Nat} {x:Kw} (_hi:i<l.length) (h:m<l.length*5):(kcs (l.set i x))[m]?=if i*5≤m∧m<i*5+5 then (kce x)[m-i*5]? else (kcs l)[m]?:=by
 obtain ⟨hk,e1⟩:=flat5 (l:=l.set i x) (m:=m) (by rw [List.length_set];exact h)
 obtain ⟨hk2,e2⟩:=flat5 (l:=l) (m:=m) h
 rw [e1,List.getElem_set]
 by_cases e:i=m / 5
 ·rw [if_pos e,if_pos ⟨by omega,by omega⟩,show m % 5=m-i*5 by omega]
 ·rw [if_neg e,if_neg (by omega),e2]
theorem own_set {w:World} {base g n cap i:Nat} {L:List Kw} {x:Kw} (h:w.ownsRow base 52 5 (.slice (some ⟨g,0,none⟩) n cap) n (kcs L)) (hl:L.length=n) (hi:i<n) :
  w.there g (i*5) 5∧base≤g∧(w.setCells g (i*5) (kce x)).ownsRow base 52 5 (.slice (some ⟨g,0,none⟩) n cap) n (kcs (L.set i x)):=by
 obtain ⟨cur,h1,h2,h3,h4,h5,h6⟩:=own_formK h
 have hi5:(i+1)*5≤cap*5:=Nat.mul_le_mul_right _ (by omega)
 have hn5:n*5≤cap*5:=Nat.mul_le_mul_right _ h3
 refine ⟨there_row h2 (by omega),h1,⟨by rw [kcs_length,List.length_set,hl],.inr ⟨g,cap,layAt cur (i*5) (kce x),rfl,h1,row_setCells _ _ _ _ h2,h3,h4,by rw [layAt_size,h5],?_⟩⟩⟩
 refine List.ext_getElem? fun m=>?_
 rw [List.getElem?_take]
 by_cases hm:m<n*5
 ·rw [if_pos hm,Array.getElem?_toList,layAt_get? _ _ _ _ (by show i*5+5≤_;omega),kcs_set (by omega) (by omega)]
  show (if i*5≤m∧m<i*5+5 then _ else _)=_
  by_cases e:i*5≤m∧m<i*5+5
  ·rw [if_pos e,if_pos e]
  ·rw [if_neg e,if_neg e,← h6,List.getElem?_take,if_pos hm,Array.getElem?_toList]
 ·rw [if_neg hm,List.getElem?_eq_none (by rw [kcs_length,List.length_set,hl];omega)]
inductive Sw:List Kw→List Kw→Prop
 | refl (K:List Kw):Sw K K
 | step {K p q:List Kw} {a b:Kw}:Sw K (p++a::b::q)→indK a b=true→Sw K (p++b::a::q)
theorem set_two {L:List Kw} {i:Nat} {a b:Kw} (ha:L[i]?=some a) (hb:L[i+1]?=some b):∃ p q,L=p++a::b::q∧(L.set i b).set (i+1) a=p++b::a::q:=by
 obtain ⟨hi,e1⟩:=List.getElem?_eq_some_iff.1 ha
 obtain ⟨hi2,e2⟩:=List.getElem?_eq_some_iff.1 hb
 refine ⟨L.take i,L.drop (i+2),?_,?_⟩
 ·rw [← e1,← e2,List.getElem_cons_drop,List.getElem_cons_drop,List.take_append_drop]
 ·refine List.ext_getElem? fun m=>?_
  rw [List.getElem?_set,List.getElem?_set,List.length_set]
  by_cases h1:i+1=m
  ·subst h1
   rw [if_pos rfl,if_pos hi2,List.getElem?_append_right (by rw [List.length_take];omega),List.length_take,Nat.min_eq_left (by omega),show i+1-i=1 by omega]
   rfl
  ·rw [if_neg h1]
   by_cases h2:i=m
   ·subst h2
    rw [if_pos rfl,if_pos hi,List.getElem?_append_right (by rw [List.length_take];omega),List.length_take,Nat.min_eq_left (by omega),Nat.sub_self]
    rfl
   ·rw [if_neg h2]
    by_cases h3:m<i
    ·rw [List.getElem?_append_left (by rw [List.length_take];omega),List.getElem?_take,if_pos h3]
    ·rw [List.getElem?_append_right (by rw [List.length_take];omega),List.length_take,Nat.min_eq_left (by omega)]
     obtain ⟨d,rfl⟩:∃ d,m=i+2+d:=⟨m-(i+2),by omega⟩
     rw [show i+2+d-i=d+1+1 by omega,List.getElem?_cons_succ,List.getElem?_cons_succ,List.getElem?_drop]
theorem Sw.mem {K L:List Kw} (h:Sw K L):L.length=K.length∧∀ x,x∈L↔x∈K:=by
 induction h with
 | refl=>exact ⟨rfl,fun _=>Iff.rfl⟩
 | step _ _ ih =>
  refine ⟨by rw [← ih.1];simp,fun x=>?_⟩
  rw [← ih.2]
  simp only [List.mem_append,List.mem_cons]
  constructor <;> (intro h;rcases h with h | h | h | h <;> simp [h])
end Go.Proofs.YtgcceepadlmelaaGreatDoor
