import Derived.Test.YtgcceepadlmelaaGreatDoorQAB
import Derived.Test.YtgcceepadlmelaaGreatDoorChecked
import Derived.Maps.OwnOps
import Derived.Maps.Views
import Derived.Laws.EntriesVeiled
import Derived.Laws.OwnMore
import Derived.Laws.AppendOwnNone
import Derived.Test.YtgcceepadlmelaaGreatDoorQAA
namespace Go.Proofs.YtgcceepadlmelaaGreatDoor
open Go.RowKit
theorem h_new {w:World} {n:Nat} (h:w.heap.size=n) (o:Obj):(w.alloc o).heap[n]?=some o:=by subst h;exact heap_alloc_new w o
theorem h_old {w:World} {k:Nat} (h:k<w.heap.size) (o:Obj):(w.alloc o).heap[k]?=w.heap[k]?:=Below.heap_alloc w o k h
inductive Ew where
 | mk (kind:Int) (name more:ByteArray) (int den:Int) (ao:Option Addr) (cap:Nat) (sub:List Ew)
def Ew.kind:Ew→Int | .mk k _ _ _ _ _ _ _=>k
def Ew.name:Ew→ByteArray | .mk _ n _ _ _ _ _ _=>n
def Ew.more:Ew→ByteArray | .mk _ _ m _ _ _ _ _=>m
def Ew.int:Ew→Int | .mk _ _ _ i _ _ _ _=>i
def Ew.den:Ew→Int | .mk _ _ _ _ d _ _ _=>d
def Ew.ao:Ew→Option Addr | .mk _ _ _ _ _ a _ _=>a
def Ew.cap:Ew→Nat | .mk _ _ _ _ _ _ c _=>c
def Ew.sub:Ew→List Ew | .mk _ _ _ _ _ _ _ s=>s
mutual
def Ew.x:Ew→Ex | .mk k n m i d _ _ s=>.mk k n m i d (xL s)
def xL:List Ew→List Ex | []=>[] | e::l=>e.x::xL l
end
theorem xL_map:∀ l:List Ew,xL l=l.map Ew.x
 | []=>by simp [xL]
 | e::l=>by simp [xL,xL_map l]
theorem Ew.x_eq (e:Ew):e.x=.mk e.kind e.name e.more e.int e.den (e.sub.map Ew.x):=by
 cases e
 simp only [Ew.x,xL_map]
 rfl
abbrev ece (e:Ew):List Value:=[.int .i64 e.kind,.string e.name,.string e.more,.int .i64 e.int,.int .i64 e.den,.slice e.ao e.sub.length e.cap]
abbrev eca (e:Ew):Array Value:=#[.int .i64 e.kind,.string e.name,.string e.more,.int .i64 e.int,.int .i64 e.den,.slice e.ao e.sub.length e.cap]
def ecs (l:List Ew):List Value:=l.flatMap ece
theorem ece_length (e:Ew):(ece e).length=6:=rfl
theorem ecs_length (l:List Ew):(ecs l).length=l.length*6:=flat_length ece_length l
theorem ecs_at {l:List Ew} {k:Nat} (h:k<l.length):(ecs l)[k*6+0]?=some (.int .i64 l[k].kind)∧(ecs l)[k*6+1]?=some (.string l[k].name)∧(ecs l)[k*6+2]?=some (.string l[k].more)∧(ecs l)[k*6+3]?=some (.int .i64 l[k].int)∧(ecs l)[k*6+4]?=some (.int .i64 l[k].den)∧(ecs l)[k*6+5]?=some (.slice l[k].ao l[k].sub.length l[k].cap) :=
 ⟨flat_at ece_length h (by omega),flat_at ece_length h (by omega),flat_at ece_length h (by omega),flat_at ece_length h (by omega),flat_at ece_length h (by omega),flat_at ece_length h (by omega)⟩
abbrev I64 (i:Int):Prop:=-9223372036854775808≤i∧i≤9223372036854775807
inductive EA (w:World):Ew→Prop where
 | mk {e:Ew}:Sl w 6 e.ao e.sub.length (ecs e.sub)→e.sub.length≤e.cap→e.cap≤maxLen→e.name.size≤maxLen→e.more.size≤maxLen→I64 e.kind→I64 e.int→I64 e.den→(∀ s∈e.sub,EA w s)→(e.ao=none→e.cap=0)→EA w e
theorem EA.sl {w:World} {e:Ew} (h:EA w e):Sl w 6 e.ao e.sub.length (ecs e.sub):=by cases h;assumption
theorem EA.le {w:World} {e:Ew} (h:EA w e):e.sub.length≤e.cap:=by cases h;assumption
theorem EA.max {w:World} {e:Ew} (h:EA w e):e.cap≤maxLen:=by cases h;assumption
theorem EA.sz {w:World} {e:Ew} (h:EA w e):e.name.size≤maxLen∧e.more.size≤maxLen:=by cases h;exact ⟨by assumption,by assumption⟩
theorem EA.all {w:World} {e:Ew} (h:EA w e):∀ s∈e.sub,EA w s:=by cases h;assumption
theorem EA.nil {w:World} {e:Ew} (h:EA w e):e.ao=none→e.cap=0:=by cases h;assumption
theorem EA.lift {w w':World} {e:Ew} (h:EA w e) (hb:Below w.heap.size w w'):EA w' e:=by
 induction h with
 | mk h1 h2 h3 h4 h5 h6 h7 h8 _ hn ih=>exact .mk (h1.below hb) h2 h3 h4 h5 h6 h7 h8 ih hn
structure EL (w:World) (ao:Option Addr) (n cap:Nat) (l:List Ew):Prop where
 len:l.length=n
 sl:Sl w 6 ao n (ecs l)
 le:n≤cap
 max:cap≤maxLen
 el:∀ s∈l,EA w s
 nil:ao=none→cap=0
theorem EL.below {w w':World} {ao:Option Addr} {n cap:Nat} {l:List Ew} (h:EL w ao n cap l) (hb:Below w.heap.size w w'):EL w' ao n cap l:=⟨h.len,h.sl.below hb,h.le,h.max,fun s hs=>(h.el s hs).lift hb,h.nil⟩
theorem EA.subs {w:World} {e:Ew} (h:EA w e):EL w e.ao e.sub.length e.cap e.sub:=⟨rfl,h.sl,h.le,h.max,h.all,h.nil⟩
structure SA (w:World) (ao:Option Addr) (n cap:Nat) (l:List ByteArray):Prop where
 len:l.length=n
 sl:Sl w 1 ao n (svals l)
 le:n≤cap
 max:cap≤maxLen
 sz:∀ s∈l,s.size≤maxLen
 nil:ao=none→cap=0
theorem SA.below {w w':World} {ao:Option Addr} {n cap:Nat} {l:List ByteArray} (h:SA w ao n cap l) (hb:Below w.heap.size w w'):SA w' ao n cap l:=⟨h.len,h.sl.below hb,h.le,h.max,h.sz,h.nil⟩
structure Dw where
 id:Int
 kind:Int
 pub:Bool
 na:Option Addr
 names:List ByteArray
 ncap:Nat
 doubt:Bool
 body:Ew
def Dw.x (d:Dw):Dx:=⟨d.id,d.kind,d.pub,d.names,d.doubt,d.body.x⟩
abbrev dce (d:Dw):List Value:=[.int .i64 d.id,.int .i64 d.kind,.bool d.pub,.slice d.na d.names.length d.ncap,.bool d.doubt,.int .i64 d.body.kind,.string d.body.name,.string d.body.more,.int .i64 d.body.int,.int .i64 d.body.den,.slice d.body.ao d.body.sub.length d.body.cap]
abbrev dca (d:Dw):Array Value:=#[.int .i64 d.id,.int .i64 d.kind,.bool d.pub,.slice d.na d.names.length d.ncap,.bool d.doubt,.int .i64 d.body.kind,.string d.body.name,.string d.body.more,.int .i64 d.body.int,.int .i64 d.body.den,.slice d.body.ao d.body.sub.length d.body.cap]
def dcs (l:List Dw):List Value:=l.flatMap dce
theorem dce_length (d:Dw):(dce d).length=11:=rfl
theorem dcs_length (l:List Dw):(dcs l).length=l.length*11:=flat_length dce_length l
theorem dcs_append (l m:List Dw):dcs (l++m)=dcs l++dcs m:=by simp [dcs]
theorem dcs_cell {l:List Dw} {k j:Nat} (h:k<l.length) (hj:j<11):(dcs l)[k*11+j]?=(dce l[k])[j]?:=flat_at dce_length h hj
structure DwA (w:World) (d:Dw):Prop where
 id:I64 d.id
 kind:I64 d.kind
 names:SA w d.na d.names.length d.ncap d.names
 body:EA w d.body
theorem DwA.below {w w':World} {d:Dw} (h:DwA w d) (hb:Below w.heap.size w w'):DwA w' d:=⟨h.id,h.kind,h.names.below hb,h.body.lift hb⟩
structure DLA (w:World) (ao:Option Addr) (n cap:Nat) (l:List Dw):Prop where
 len:l.length=n
 sl:Sl w 11 ao n (dcs l)
 le:n≤cap
 max:cap≤maxLen
 el:∀ d∈l,DwA w d
 nil:ao=none→cap=0
theorem DLA.below {w w':World} {ao:Option Addr} {n cap:Nat} {l:List Dw} (h:DLA w ao n cap l) (hb:Below w.heap.size w w'):DLA w' ao n cap l:=⟨h.len,h.sl.below hb,h.le,h.max,fun s hs=>(h.el s hs).below hb,h.nil⟩
structure Mw where
 label:ByteArray
 ua:Option Addr
 uses:List ByteArray
 ucap:Nat
 da:Option Addr
 decls:List Dw
 dcap:Nat
def Mw.x (m:Mw):Mx:=⟨m.label,m.uses,m.decls.map Dw.x⟩
abbrev mce (m:Mw):List Value:=[.string m.label,.slice m.ua m.uses.length m.ucap,.slice m.da m.decls.length m.dcap]
abbrev mca (m:Mw):Array Value:=#[.string m.label,.slice m.ua m.uses.length m.ucap,.slice m.da m.decls.length m.dcap]
def mcs (l:List Mw):List Value:=l.flatMap mce
theorem mce_length (m:Mw):(mce m).length=3:=rfl
theorem mcs_length (l:List Mw):(mcs l).length=l.length*3:=flat_length mce_length l
theorem mcs_append (l m:List Mw):mcs (l++m)=mcs l++mcs m:=by simp [mcs]
theorem mcs_at {l:List Mw} {k:Nat} (h:k<l.length):(mcs l)[k*3+0]?=some (.string l[k].label)∧(mcs l)[k*3+1]?=some (.slice l[k].ua l[k].uses.length l[k].ucap)∧(mcs l)[k*3+2]?=some (.slice l[k].da l[k].decls.length l[k].dcap) :=
 ⟨flat_at mce_length h (by omega),flat_at mce_length h (by omega),flat_at mce_length h (by omega)⟩
structure MwA (w:World) (m:Mw):Prop where
 sz:m.label.size≤maxLen
 uses:SA w m.ua m.uses.length m.ucap m.uses
 decls:DLA w m.da m.decls.length m.dcap m.decls
theorem MwA.below {w w':World} {m:Mw} (h:MwA w m) (hb:Below w.heap.size w w'):MwA w' m:=⟨h.sz,h.uses.below hb,h.decls.below hb⟩
structure MLA (w:World) (ao:Option Addr) (n cap:Nat) (l:List Mw):Prop where
 len:l.length=n
 sl:Sl w 3 ao n (mcs l)
 le:n≤cap
 max:cap≤maxLen
 el:∀ m∈l,MwA w m
 nil:ao=none→cap=0
theorem MLA.below {w w':World} {ao:Option Addr} {n cap:Nat} {l:List Mw} (h:MLA w ao n cap l) (hb:Below w.heap.size w w'):MLA w' ao n cap l:=⟨h.len,h.sl.below hb,h.le,h.max,fun s hs=>(h.el s hs).below hb,h.nil⟩
structure Kw where
 kind:Int
 pack:ByteArray
 text:ByteArray
 oa:Option Addr
 old:List Dw
 ocap:Nat
 na:Option Addr
 new:List Dw
 ncap:Nat
abbrev kce (k:Kw):List Value:=[.int .i64 k.kind,.string k.pack,.string k.text,.slice k.oa k.old.length k.ocap,.slice k.na k.new.length k.ncap]
abbrev kca (k:Kw):Array Value:=#[.int .i64 k.kind,.string k.pack,.string k.text,.slice k.oa k.old.length k.ocap,.slice k.na k.new.length k.ncap]
def kcs (l:List Kw):List Value:=l.flatMap kce
theorem kce_length (k:Kw):(kce k).length=5:=rfl
theorem kcs_length (l:List Kw):(kcs l).length=l.length*5:=flat_length kce_length l
theorem kcs_append (l m:List Kw):kcs (l++m)=kcs l++kcs m:=by simp [kcs]
theorem kcs_cell {l:List Kw} {k j:Nat} (h:k<l.length) (hj:j<5):(kcs l)[k*5+j]?=(kce l[k])[j]?:=flat_at kce_length h hj
structure KwA (w:World) (k:Kw):Prop where
 pack:k.pack.size≤maxLen
 text:k.text.size≤maxLen
 old:DLA w k.oa k.old.length k.ocap k.old
 new:DLA w k.na k.new.length k.ncap k.new
theorem KwA.below {w w':World} {k:Kw} (h:KwA w k) (hb:Below w.heap.size w w'):KwA w' k:=⟨h.pack,h.text,h.old.below hb,h.new.below hb⟩
structure KLA (w:World) (ao:Option Addr) (n cap:Nat) (l:List Kw):Prop where
 len:l.length=n
 sl:Sl w 5 ao n (kcs l)
 le:n≤cap
 max:cap≤maxLen
 el:∀ k∈l,KwA w k
 nil:ao=none→cap=0
theorem KLA.below {w w':World} {ao:Option Addr} {n cap:Nat} {l:List Kw} (h:KLA w ao n cap l) (hb:Below w.heap.size w w'):KLA w' ao n cap l:=⟨h.len,h.sl.below hb,h.le,h.max,fun s hs=>(h.el s hs).below hb,h.nil⟩
end Go.Proofs.YtgcceepadlmelaaGreatDoor
namespace Go.Proofs.YtgcceepadlmelaaGreatDoor
open Go.RowKit
def keyI (c:Int):Lit:=.int .i64 c
theorem keyI_key (s:Int):WideAt.IsKeyLit (keyI s):=by exact True.intro
theorem keyI_inj {a b:Int} (h:keyI a=keyI b):a=b:=by
 unfold keyI at h
 injection h
theorem kint:Maps.Keyed Tryz.prog 3:=Maps.int_keyed Tryz.underlying3
theorem keyI_of {s:Int} (h:I64 s):keyOf Tryz.prog 3 (.int .i64 s)=some (keyI s):=Maps.keyOf_int_mk Tryz.underlying3 (by obtain ⟨h1,h2⟩:=h;simp [Lit.wf,IntKind.min,IntKind.max,IntKind.signed,IntKind.bits];omega)
def heldR (v:Value):Option (DataW Value × List MemPlace):=some (.held v,[])
abbrev MI:=Int→Option Value
def putI (f:MI) (x:Int) (v:Value):MI:=fun y=>if y=x then some v else f y
def delI (f:MI) (x:Int):MI:=fun y=>if y=x then none else f y
structure ID (D:DataW Value) (f:MI):Prop where
 map:Maps.IsMap D
 has:∀ x,Maps.has D (keyI x)=(f x).isSome
 at_:∀ x v,f x=some v→∀ z,D.atKey (keyI x) z=.held v
theorem ID.new:ID (.map []) (fun _=>none):=⟨Maps.isMap_empty,fun _=>rfl,fun _ _ h=>by cases h⟩
theorem ID.put {D:DataW Value} {f:MI} (h:ID D f) (x:Int) (v:Value):ID (D.put (keyI x) (.held v)) (putI f x v):=by
 refine ⟨h.map.put _ _,fun y=>?_,fun y u hy z=>?_⟩
 ·unfold putI
  by_cases e:y=x
  ·subst e
   rw [if_pos rfl,Maps.has_put_same h.map (keyI_key _)]
   rfl
  ·rw [if_neg e,Maps.has_put_other (fun h=>e (keyI_inj h)),h.has y]
 ·unfold putI at hy
  by_cases e:y=x
  ·subst e
   rw [if_pos rfl] at hy
   cases hy
   exact Maps.atKey_put_same h.map (keyI_key _) _ _
  ·rw [if_neg e] at hy
   rw [Maps.atKey_put_other (fun h=>e (keyI_inj h)),h.at_ y u hy]
theorem ID.del {D:DataW Value} {f:MI} (h:ID D f) (x:Int):ID (D.del (keyI x)) (delI f x):=by
 refine ⟨h.map.del _,fun y=>?_,fun y u hy z=>?_⟩
 ·unfold delI
  by_cases e:y=x
  ·subst e
   rw [if_pos rfl,Maps.has_del_same]
   rfl
  ·rw [if_neg e,Maps.has_del_other (fun h=>e (keyI_inj h)),h.has y]
 ·unfold delI at hy
  by_cases e:y=x
  ·subst e
   rw [if_pos rfl] at hy
   cases hy
  ·rw [if_neg e] at hy
   rw [Maps.atKey_del_other (fun h=>e (keyI_inj h)),h.at_ y u hy]
def IM (w:World) (b n:Nat) (f:MI):Prop:=∃ D:DataW Value,ID D f∧w.ownsMap Tryz.prog 3 heldR b n D
theorem IM.new {w:World} {b n:Nat} (h:w.ownsMap Tryz.prog 3 heldR b n (.map []:DataW Value)):IM w b n (fun _=>none):=⟨_,ID.new,h⟩
theorem IM.below {w w':World} {b n:Nat} {f:MI} (h:IM w b n f) (hb:Below w.heap.size w w'):IM w' b n f:=by
 obtain ⟨D,h1,h2⟩:=h
 exact ⟨D,h1,World.ownsMap.kept (row:=none) h2 ⟨hb.os,hb.tape,hb.output,hb.size,fun k hk _=>hb.block k hk⟩ (by simp)⟩
theorem IM.grown {w w':World} {b n:Nat} {f:MI} {row:Option Nat} (h:IM w b n f) (hg:w.grownBy w' row) (hr:some b≠row):IM w' b n f:=by
 obtain ⟨D,h1,h2⟩:=h
 exact ⟨D,h1,World.ownsMap.kept h2 hg hr⟩
theorem IM.lt {w:World} {b n:Nat} {f:MI} (h:IM w b n f):b<w.heap.size:=by
 obtain ⟨D,h1,h2⟩:=h
 exact h2.lt
theorem IM.more {w:World} {b n m:Nat} {f:MI} (h:IM w b n f) (hm:n≤m):IM w b m f:=by
 obtain ⟨D,h1,⟨es,clock,h2,h3,h4,h5⟩⟩:=h
 exact ⟨D,h1,⟨es,clock,h2,h3,Nat.le_trans h4 hm,h5⟩⟩
theorem IM.congr {w:World} {b n:Nat} {f g:MI} (h:IM w b n f) (e:∀ x,f x=g x):IM w b n g:=by
 rw [← (funext e:f=g)]
 exact h
theorem IM.look {w:World} {b n:Nat} {f:MI} (h:IM w b n f) {t e:TypeId} (ht:Tryz.prog.underlying t=some (.map 3 e)) {z:Value} (hz:(zeroValue e).run Tryz.prog w=.ok z w) (x:Int) (hx:I64 x) :
  (Instr.lookup t (.map (some b)) (.int .i64 x) false).run Tryz.prog w=.ok ((f x).getD z) w:=by
 obtain ⟨D,h1,h2⟩:=h
 obtain ⟨v,ps,hrun,hv⟩:=World.ownsMap.lookup h2 kint ht hz (zd:=.held z) (zp:=[]) rfl (keyI_of hx)
 rw [hrun]
 have:v=(f x).getD z:=by
  unfold heldR at hv
  simp only [Option.some.injEq,Prod.mk.injEq] at hv
  cases hf:f x with
  | none =>
   have hh:=h1.has x
   rw [hf] at hh
   rw [Maps.atKey_of_not_has hh] at hv
   simpa using hv.1
  | some u =>
   rw [h1.at_ x u hf] at hv
   simpa using hv.1
 rw [this]
section
variable (w:World) {ops:Array Oper} {rest:List Oper} {o:Oper} {a:Act} {Q:Exit→Act→World→Prop}
theorem wpList_im_ins (hg:o.guard=none) (m x v:Operand) (t e:TypeId) (hop:o.op=Op.insert t m x v) (ht:Tryz.prog.underlying t=some (.map 3 e)) (b n:Nat) (f:MI)
  (hm:a.eval m=.map (some b)) (h:IM w b n f) (hn:n<maxLen) (s:Int) (val:Value) (hx:a.eval x=.int .i64 s) (hv:a.eval v=val) (hs:I64 s)
  (hK:∀ w',IM w' b (n+1) (putI f s val)→w.grownBy w' (some b)→wpList Tryz.prog ops Q rest (a.put o.dst undef) w') :
  wpList Tryz.prog ops Q (o::rest) a w:=by
 obtain ⟨D,h1,h2⟩:=h
 refine wpList_plain hg fun K' hK'=>?_
 obtain ⟨w',hrun,r1,r2⟩:=h2.update kint ht hn (key:=.int .i64 s) (val:=val) (kl:=keyI s) (keyI_of hs) (d:=.held val) (ps:=[]) rfl
 unfold Oper.wp
 simp [execOp,hop,hm,hx,hv,hrun,Result.andThen]
 exact hK' _ _ (hK w' ⟨_,h1.put s val,r1⟩ r2)
end
end Go.Proofs.YtgcceepadlmelaaGreatDoor
namespace Go.Proofs.YtgcceepadlmelaaGreatDoor
set_option maxRecDepth 100000
set_option maxHeartbeats 8000000
open Go.RowKit
def chgV (s:Nat):Value:=.func (.func 77) #[] #[.pointer (some ⟨s,0,none⟩)]
def effF (s6 s7 s8 s9:Nat):MI:=putI (putI (putI (putI (putI (putI (putI (fun _=>none) 3 (.func (.func 43) #[] #[])) 4 (.func (.func 46) #[] #[])) 5 (.func (.func 48) #[] #[])) 6 (chgV s6)) 7 (chgV s7)) 8 (chgV s8)) 9 (chgV s9)
structure EffM (B:Nat) (w:World) (mb s6 s7 s8 s9:Nat):Prop where
 map:IM w mb 7 (effF s6 s7 s8 s9)
 c6:w.heap[s6]?=some (.cells #[.nilFunc] 95 (0,0))
 c7:w.heap[s7]?=some (.cells #[.func (.func 52) #[] #[]] 95 (0,0))
 c8:w.heap[s8]?=some (.cells #[.func (.func 53) #[] #[]] 95 (0,0))
 c9:w.heap[s9]?=some (.cells #[.func (.func 54) #[] #[]] 95 (0,0))
 lo:B≤mb∧B≤s6∧B≤s7∧B≤s8∧B≤s9
theorem change_any (set:Value) (w:World) (hs:set=.nilFunc∨∃ n,set=.func (.func n) #[] #[]):Calls Tryz.prog 51 #[set] w fun r w'=>∃ s,r=.returned (chgV s)∧w.heap.size≤s∧w'.heap[s]?=some (.cells #[set] 95 (0,0))∧Below w.heap.size w w':=by
 have HB:=lid (ba w (.cells #[set] 95))
 have HN:=lid (h_new rfl (w:=w) (.cells #[set] 95))
 rcases hs with rfl | ⟨n,rfl⟩
 all_goals
  go_enter Tryz.func51,Tryz.ntmps51
  go_wp2_with fail
  go_ret
  exact ⟨w.heap.size,rfl,Nat.le_refl _,HN.out,HB.out⟩
theorem effects_any (w:World):Calls Tryz.prog 26 #[] w fun r w'=>∃ mb s6 s7 s8 s9,r=.returned (.map (some mb))∧EffM w.heap.size w' mb s6 s7 s8 s9∧Below w.heap.size w w':=by
 have HM0:=lid (IM.new (World.ownsMap_made w Tryz.prog 3 heldR))
 have HB0:=lid (ba w (.map #[] 0))
 have HL0:Hid (w.heap.size<(w.alloc (.map #[] 0)).heap.size):=lid (by simp)
 have CH:=lid (fun set W h=>change_any set W h)
 obtain ⟨W0,hW0⟩:∃ W,w.alloc (.map #[] 0)=W:=⟨_,rfl⟩
 rw [hW0] at HM0 HB0 HL0
 have HW0:=lid hW0
 clear hW0
 go_enter Tryz.func26,Tryz.ntmps26
 go_wp2_with fail
 rw [run_makeMap,HW0.out]
 simp only [Result.andThen]
 rw [Oper.upon_value]
 go_wp2_with (refine wpList_im_ins _ rfl _ _ _ 66 89 rfl Tryz.underlying66 w.heap.size 0 _ rfl HM0.out (by simp only [maxLen];omega) _ _ rfl rfl ⟨by omega,by omega⟩ ?_)
 intro W1 hm1 hg1
 have HM1:=lid hm1
 have HB1:=lid (HB0.out.grown hg1 HB0.out.size (fun k hk=>by cases hk;exact Nat.le_refl _))
 have HL1:=lid (Nat.lt_of_lt_of_le HL0.out hg1.size)
 clear hm1 hg1
 go_wp2_with (refine wpList_im_ins _ rfl _ _ _ 66 89 rfl Tryz.underlying66 w.heap.size 1 _ rfl HM1.out (by simp only [maxLen];omega) _ _ rfl rfl ⟨by omega,by omega⟩ ?_)
 intro W2 hm2 hg2
 have HM2:=lid hm2
 have HB2:=lid (HB1.out.grown hg2 HB1.out.size (fun k hk=>by cases hk;exact Nat.le_refl _))
 have HL2:=lid (Nat.lt_of_lt_of_le HL1.out hg2.size)
 clear hm2 hg2
 go_wp2_with (refine wpList_im_ins _ rfl _ _ _ 66 89 rfl Tryz.underlying66 w.heap.size 2 _ rfl HM2.out (by simp only [maxLen];omega) _ _ rfl rfl ⟨by omega,by omega⟩ ?_)
 intro W3 hm3 hg3
 have HM3:=lid hm3
 have HB3:=lid (HB2.out.grown hg3 HB2.out.size (fun k hk=>by cases hk;exact Nat.le_refl _))
 have HL3:=lid (Nat.lt_of_lt_of_le HL2.out hg3.size)
 clear hm3 hg3
 go_wp2_with fail
 (with_reducible refine (CH.out _ W3 (.inl rfl)).mono ?_);rintro e W4 ⟨s6,rfl,hs6,hc6,hb4⟩
 have HB4:=lid (HB3.out.trans (hb4.mono HB3.out.size))
 have HM4:=lid (HM3.out.below hb4)
 have HL4:=lid (Nat.lt_of_lt_of_le HL3.out hb4.size)
 have HS6:Hid (w.heap.size<s6):=lid (Nat.lt_of_lt_of_le HL3.out hs6)
 have C6_4:=lid hc6
 clear hs6 hc6 hb4
 go_wp2_with (refine wpList_im_ins _ rfl _ _ _ 66 89 rfl Tryz.underlying66 w.heap.size 3 _ rfl HM4.out (by simp only [maxLen];omega) _ _ rfl rfl ⟨by omega,by omega⟩ ?_)
 intro W5 hm5 hg5
 have HM5:=lid hm5
 have HB5:=lid (HB4.out.grown hg5 HB4.out.size (fun k hk=>by cases hk;exact Nat.le_refl _))
 have HL5:=lid (Nat.lt_of_lt_of_le HL4.out hg5.size)
 have C6_5:=lid ((hg5.block _ (row_lt C6_4.out) (fun e=>by injection e with e;exact absurd e (Nat.ne_of_gt HS6.out))).trans C6_4.out)
 clear hm5 hg5
 go_wp2_with fail
 (with_reducible refine (CH.out _ W5 (.inr ⟨_,rfl⟩)).mono ?_);rintro e W6 ⟨s7,rfl,hs7,hc7,hb6⟩
 have HB6:=lid (HB5.out.trans (hb6.mono HB5.out.size))
 have HM6:=lid (HM5.out.below hb6)
 have HL6:=lid (Nat.lt_of_lt_of_le HL5.out hb6.size)
 have HS7:Hid (w.heap.size<s7):=lid (Nat.lt_of_lt_of_le HL5.out hs7)
 have C6_6:=lid ((hb6.block _ (row_lt C6_5.out)).trans C6_5.out)
 have C7_6:=lid hc7
 clear hs7 hc7 hb6
 go_wp2_with (refine wpList_im_ins _ rfl _ _ _ 66 89 rfl Tryz.underlying66 w.heap.size 4 _ rfl HM6.out (by simp only [maxLen];omega) _ _ rfl rfl ⟨by omega,by omega⟩ ?_)
 intro W7 hm7 hg7
 have HM7:=lid hm7
 have HB7:=lid (HB6.out.grown hg7 HB6.out.size (fun k hk=>by cases hk;exact Nat.le_refl _))
 have HL7:=lid (Nat.lt_of_lt_of_le HL6.out hg7.size)
 have C6_7:=lid ((hg7.block _ (row_lt C6_6.out) (fun e=>by injection e with e;exact absurd e (Nat.ne_of_gt HS6.out))).trans C6_6.out)
 have C7_7:=lid ((hg7.block _ (row_lt C7_6.out) (fun e=>by injection e with e;exact absurd e (Nat.ne_of_gt HS7.out))).trans C7_6.out)
 clear hm7 hg7
 go_wp2_with fail
 (with_reducible refine (CH.out _ W7 (.inr ⟨_,rfl⟩)).mono ?_);rintro e W8 ⟨s8,rfl,hs8,hc8,hb8⟩
 have HB8:=lid (HB7.out.trans (hb8.mono HB7.out.size))
 have HM8:=lid (HM7.out.below hb8)
 have HL8:=lid (Nat.lt_of_lt_of_le HL7.out hb8.size)
 have HS8:Hid (w.heap.size<s8):=lid (Nat.lt_of_lt_of_le HL7.out hs8)
 have C6_8:=lid ((hb8.block _ (row_lt C6_7.out)).trans C6_7.out)
 have C7_8:=lid ((hb8.block _ (row_lt C7_7.out)).trans C7_7.out)
 have C8_8:=lid hc8
 clear hs8 hc8 hb8
 go_wp2_with (refine wpList_im_ins _ rfl _ _ _ 66 89 rfl Tryz.underlying66 w.heap.size 5 _ rfl HM8.out (by simp only [maxLen];omega) _ _ rfl rfl ⟨by omega,by omega⟩ ?_)
 intro W9 hm9 hg9
 have HM9:=lid hm9
 have HB9:=lid (HB8.out.grown hg9 HB8.out.size (fun k hk=>by cases hk;exact Nat.le_refl _))
 have HL9:=lid (Nat.lt_of_lt_of_le HL8.out hg9.size)
 have C6_9:=lid ((hg9.block _ (row_lt C6_8.out) (fun e=>by injection e with e;exact absurd e (Nat.ne_of_gt HS6.out))).trans C6_8.out)
 have C7_9:=lid ((hg9.block _ (row_lt C7_8.out) (fun e=>by injection e with e;exact absurd e (Nat.ne_of_gt HS7.out))).trans C7_8.out)
 have C8_9:=lid ((hg9.block _ (row_lt C8_8.out) (fun e=>by injection e with e;exact absurd e (Nat.ne_of_gt HS8.out))).trans C8_8.out)
 clear hm9 hg9
 go_wp2_with fail
 (with_reducible refine (CH.out _ W9 (.inr ⟨_,rfl⟩)).mono ?_);rintro e W10 ⟨s9,rfl,hs9,hc9,hb10⟩
 have HB10:=lid (HB9.out.trans (hb10.mono HB9.out.size))
 have HM10:=lid (HM9.out.below hb10)
 have HL10:=lid (Nat.lt_of_lt_of_le HL9.out hb10.size)
 have HS9:Hid (w.heap.size<s9):=lid (Nat.lt_of_lt_of_le HL9.out hs9)
 have C6_10:=lid ((hb10.block _ (row_lt C6_9.out)).trans C6_9.out)
 have C7_10:=lid ((hb10.block _ (row_lt C7_9.out)).trans C7_9.out)
 have C8_10:=lid ((hb10.block _ (row_lt C8_9.out)).trans C8_9.out)
 have C9_10:=lid hc9
 clear hs9 hc9 hb10
 go_wp2_with (refine wpList_im_ins _ rfl _ _ _ 66 89 rfl Tryz.underlying66 w.heap.size 6 _ rfl HM10.out (by simp only [maxLen];omega) _ _ rfl rfl ⟨by omega,by omega⟩ ?_)
 intro W11 hm11 hg11
 have HM11:=lid hm11
 have HB11:=lid (HB10.out.grown hg11 HB10.out.size (fun k hk=>by cases hk;exact Nat.le_refl _))
 have HL11:=lid (Nat.lt_of_lt_of_le HL10.out hg11.size)
 have C6_11:=lid ((hg11.block _ (row_lt C6_10.out) (fun e=>by injection e with e;exact absurd e (Nat.ne_of_gt HS6.out))).trans C6_10.out)
 have C7_11:=lid ((hg11.block _ (row_lt C7_10.out) (fun e=>by injection e with e;exact absurd e (Nat.ne_of_gt HS7.out))).trans C7_10.out)
 have C8_11:=lid ((hg11.block _ (row_lt C8_10.out) (fun e=>by injection e with e;exact absurd e (Nat.ne_of_gt HS8.out))).trans C8_10.out)
 have C9_11:=lid ((hg11.block _ (row_lt C9_10.out) (fun e=>by injection e with e;exact absurd e (Nat.ne_of_gt HS9.out))).trans C9_10.out)
 clear hm11 hg11
 go_wp2_with fail
 go_ret
 exact ⟨w.heap.size,s6,s7,s8,s9,rfl,⟨HM11.out,C6_11.out,C7_11.out,C8_11.out,C9_11.out,Nat.le_refl _,Nat.le_of_lt HS6.out,Nat.le_of_lt HS7.out,Nat.le_of_lt HS8.out,Nat.le_of_lt HS9.out⟩,HB11.out⟩
end Go.Proofs.YtgcceepadlmelaaGreatDoor
namespace Go.Proofs.YtgcceepadlmelaaGreatDoor
open Go.RowKit
theorem wpList_append_slg {P:Program} {ops:Array Oper} {rest:List Oper} {o:Oper} {a:Act} {Q:Exit→Act→World→Prop} {w:World} (hgd:o.guard=none) (s x:Operand) (t:TypeId)
  (ho:o.op=.call { callee:=.builtin .append,args:=#[s,x],argTypes:=#[t,t] })
  (base:Nat) (e:TypeId) (z:Value) (size bytes:Nat) (hinfo:(P.info? e).map (fun i=>(i.zero,i.size,i.bytes))=some (some z,size,bytes)) (ht:P.underlying t=some (.slice e)) (hzs:z.cells.size=size) (hsz:0<size)
  (v:Value) (n:Nat) (xs:List Value) (hown:w.ownsRow base e size v n xs) (hs:a.eval s=v)
  (ao:Option Addr) (m c:Nat) (us:List Value) (hx:a.eval x=.slice ao m c) (hsl:Sl w size ao m us) (hz:ao=none→c=0) (h1:∀ u∈us,u.oneCell'=true)
  (h63:n+m≤maxLen) (hbytes:(n+m)*bytes≤140737488355328) (hbase:base≤w.heap.size)
  (h:∀ v' w',w'.ownsRow base e size v' (n+m) (xs++us)→Below base w w'→w.grownBy w' v.ownBlock→wpList P ops Q rest (a.put o.dst v') w'):wpList P ops Q (o::rest) a w:=by
 obtain ⟨i,hi,hz0,hz1,hz2⟩:=info_parts hinfo
 cases ao with
 | none =>
  obtain rfl:=hz rfl
  obtain rfl:m=0:=by
   rcases hsl.2 with h0 | ⟨b,o,e',_⟩
   ·exact h0
   ·cases e'
  obtain rfl:us=[]:=List.eq_nil_of_length_eq_zero (by rw [hsl.1];simp)
  refine wpList_append_own_none hgd s x t ho base e i size ht hi v n xs hs hown hx ?_
  exact h v w (by simpa using hown) (Below.refl _ _) ⟨rfl,rfl,rfl,Nat.le_refl _,fun _ _ _=>rfl⟩
 | some ad =>
  refine wpList_append_own _ hgd s x t ho base e i z size bytes ht hi hz0 hz1 hz2 hzs hsz v n xs hs hown ad m c us hx hsl.1 ?_ h1 h63 hbytes hbase ?_
  ·intro j u hu
   rcases hsl.2 with h0 | ⟨b,o',e',hlt,hc⟩
   ·have:=hsl.1
    rw [h0,Nat.zero_mul] at this
    rw [List.eq_nil_of_length_eq_zero this] at hu
    simp at hu
   ·cases e'
    rw [Addr.add_lit]
    exact hc j u hu
  ·intro v' w' hown' hg hn
   exact h v' w' hown' ((Below.refl _ _).grown hg hbase (fun k hk=>ownsRow_row hown k hk)) hg
theorem wpList_append_sl {P:Program} {ops:Array Oper} {rest:List Oper} {o:Oper} {a:Act} {Q:Exit→Act→World→Prop} {w:World} (hgd:o.guard=none) (s x:Operand) (t:TypeId)
  (ho:o.op=.call { callee:=.builtin .append,args:=#[s,x],argTypes:=#[t,t] })
  (base:Nat) (e:TypeId) (z:Value) (size bytes:Nat) (hinfo:(P.info? e).map (fun i=>(i.zero,i.size,i.bytes))=some (some z,size,bytes)) (ht:P.underlying t=some (.slice e)) (hzs:z.cells.size=size) (hsz:0<size)
  (v:Value) (n:Nat) (xs:List Value) (hown:w.ownsRow base e size v n xs) (hs:a.eval s=v)
  (ao:Option Addr) (m c:Nat) (us:List Value) (hx:a.eval x=.slice ao m c) (hsl:Sl w size ao m us) (hz:ao=none→c=0) (h1:∀ u∈us,u.oneCell'=true)
  (h63:n+m≤maxLen) (hbytes:(n+m)*bytes≤140737488355328) (hbase:base≤w.heap.size)
  (h:∀ v' w',w'.ownsRow base e size v' (n+m) (xs++us)→Below base w w'→wpList P ops Q rest (a.put o.dst v') w'):wpList P ops Q (o::rest) a w:=by
 exact wpList_append_slg hgd s x t ho base e z size bytes hinfo ht hzs hsz v n xs hown hs ao m c us hx hsl hz h1 h63 hbytes hbase fun v' w' p q _=>h v' w' p q
end Go.Proofs.YtgcceepadlmelaaGreatDoor
namespace Go.Proofs.YtgcceepadlmelaaGreatDoor
set_option maxRecDepth 100000
set_option maxHeartbeats 4000000
open Go.RowKit
theorem run_eql_slice_nil' {P:Program} (w:World) (t e:TypeId) (a:Option Addr) (n c n' c':Nat) (h:P.underlying t=some (.slice e)) :
  (binOp .eql t (.slice a n c) (.slice none n' c')).run P w=.ok (.bool a.isNone) w:=by
 simp only [binOp]
 simp [Op.equal,Op.maxDepth,Lib.run_equalIn_slice_nil w 9999 t e a n c n' c' h]
theorem svals_one (l:List ByteArray):∀ u∈svals l,u.oneCell'=true:=fun u h=>by
 obtain ⟨x,_,rfl⟩:=List.mem_map.1 h
 rfl
theorem dcs_one:∀ (l:List Dw),∀ u∈dcs l,u.oneCell'=true
 | [],_,h=>by cases h
 | e::l,u,h=>by
  rw [show dcs (e::l)=dce e++dcs l from rfl] at h
  rcases List.mem_append.1 h with h | h
  ·simp only [List.mem_cons,List.not_mem_nil,or_false] at h
   rcases h with rfl | rfl | rfl | rfl | rfl | rfl | rfl | rfl | rfl | rfl | rfl <;> rfl
  ·exact dcs_one l u h
theorem kcs_one:∀ (l:List Kw),∀ u∈kcs l,u.oneCell'=true
 | [],_,h=>by cases h
 | e::l,u,h=>by
  rw [show kcs (e::l)=kce e++kcs l from rfl] at h
  rcases List.mem_append.1 h with h | h
  ·simp only [List.mem_cons,List.not_mem_nil,or_false] at h
   rcases h with rfl | rfl | rfl | rfl | rfl <;> rfl
  ·exact kcs_one l u h
theorem info_str:(Tryz.prog.info? 9).map (fun i=>(i.zero,i.size,i.bytes))=some (some (.string ⟨#[]⟩),1,16):=by kernel_rfl
theorem info_decl:(Tryz.prog.info? 65).map (fun i=>(i.zero,i.size,i.bytes))=some (some (.agg #[.int .i64 0,.int .i64 0,.bool false,.slice none 0 0,.bool false,.int .i64 0,.string ⟨#[]⟩,.string ⟨#[]⟩,.int .i64 0,.int .i64 0,.slice none 0 0]),11,136):=by kernel_rfl
theorem info_edit:(Tryz.prog.info? 52).map (fun i=>(i.zero,i.size,i.bytes))=some (some (.agg #[.int .i64 0,.string ⟨#[]⟩,.string ⟨#[]⟩,.slice none 0 0,.slice none 0 0]),5,88):=by kernel_rfl
theorem CloneS_any (n cap:Nat) (ao:Option Addr) (xs:List Value) (w:World) (hs:Sl w 1 ao n xs) (h1:∀ u∈xs,u.oneCell'=true) (hz:ao=none→cap=0) (hn:n≤1000000) :
  Calls Tryz.prog 24 #[.slice ao n cap] w fun e w'=>∃ v',e=.returned v'∧w'.ownsRow w.heap.size 9 1 v' n xs∧Below w.heap.size w w':=by
 cases ao with
 | none =>
  obtain rfl:=hz rfl
  obtain rfl:n=0:=by
   rcases hs.2 with h0 | ⟨b,o,e',_⟩
   ·exact h0
   ·cases e'
  obtain rfl:xs=[]:=List.eq_nil_of_length_eq_zero (by rw [hs.1,Nat.zero_mul])
  clear hs hz hn h1
  go_enter Tryz.func24,Tryz.ntmps24
  go_wp2_with fail
  rw [run_eql_slice_nil' _ _ _ _ _ _ _ _ Tryz.underlying42]
  go_wp2_with fail
  go_ret
  exact ⟨_,rfl,World.ownsRow_nil _ _ _ _,Below.refl _ _⟩
 | some a =>
  have HA:=lid hs
  have H1:=lid h1
  clear hs hz h1
  go_enter Tryz.func24,Tryz.ntmps24
  go_wp2_with fail
  rw [run_eql_slice_nil' _ _ _ _ _ _ _ _ Tryz.underlying42]
  go_wp2_with (at_builtin;go_must (refine wpList_append_sl rfl _ _ 42 rfl w.heap.size 9 (.string ⟨#[]⟩) 1 16 info_str Tryz.underlying42 rfl (by decide) _ 0 [] (World.ownsRow_lit w #[] 0 (Nat.le_refl _) (by simp [maxLen]) rfl) rfl (some a) n cap xs rfl (HA.out.below (ba _ _)) (by intro h;cases h) H1.out (by simp [maxLen];omega) (by omega) (by simp) ?_))
  intro v5 w5 hown5 hb5
  go_wp2_with fail
  go_ret
  refine ⟨_,rfl,?_,(ba _ _).trans hb5⟩
  simpa using hown5
theorem CloneD_any (n cap:Nat) (ao:Option Addr) (xs:List Value) (w:World) (hs:Sl w 11 ao n xs) (h1:∀ u∈xs,u.oneCell'=true) (hz:ao=none→cap=0) (hn:n≤1000000) :
  Calls Tryz.prog 25 #[.slice ao n cap] w fun e w'=>∃ v',e=.returned v'∧w'.ownsRow w.heap.size 65 11 v' n xs∧Below w.heap.size w w':=by
 cases ao with
 | none =>
  obtain rfl:=hz rfl
  obtain rfl:n=0:=by
   rcases hs.2 with h0 | ⟨b,o,e',_⟩
   ·exact h0
   ·cases e'
  obtain rfl:xs=[]:=List.eq_nil_of_length_eq_zero (by rw [hs.1,Nat.zero_mul])
  clear hs hz hn h1
  go_enter Tryz.func25,Tryz.ntmps25
  go_wp2_with fail
  rw [run_eql_slice_nil' _ _ _ _ _ _ _ _ Tryz.underlying43]
  go_wp2_with fail
  go_ret
  exact ⟨_,rfl,World.ownsRow_nil _ _ _ _,Below.refl _ _⟩
 | some a =>
  have HA:=lid hs
  have H1:=lid h1
  clear hs hz h1
  go_enter Tryz.func25,Tryz.ntmps25
  go_wp2_with fail
  rw [run_eql_slice_nil' _ _ _ _ _ _ _ _ Tryz.underlying43]
  go_wp2_with (at_builtin;go_must (refine wpList_append_sl rfl _ _ 43 rfl w.heap.size 65 (.agg #[.int .i64 0,.int .i64 0,.bool false,.slice none 0 0,.bool false,.int .i64 0,.string ⟨#[]⟩,.string ⟨#[]⟩,.int .i64 0,.int .i64 0,.slice none 0 0]) 11 136 info_decl Tryz.underlying43 rfl (by decide) _ 0 [] (World.ownsRow_lit w #[] 0 (Nat.le_refl _) (by simp [maxLen]) rfl) rfl (some a) n cap xs rfl (HA.out.below (ba _ _)) (by intro h;cases h) H1.out (by simp [maxLen];omega) (by omega) (by simp) ?_))
  intro v5 w5 hown5 hb5
  go_wp2_with fail
  go_ret
  refine ⟨_,rfl,?_,(ba _ _).trans hb5⟩
  simpa using hown5
theorem CloneK_any (n cap:Nat) (ao:Option Addr) (xs:List Value) (w:World) (hs:Sl w 5 ao n xs) (h1:∀ u∈xs,u.oneCell'=true) (hz:ao=none→cap=0) (hn:n≤1000000) :
  Calls Tryz.prog 22 #[.slice ao n cap] w fun e w'=>∃ v',e=.returned v'∧w'.ownsRow w.heap.size 52 5 v' n xs∧Below w.heap.size w w':=by
 cases ao with
 | none =>
  obtain rfl:=hz rfl
  obtain rfl:n=0:=by
   rcases hs.2 with h0 | ⟨b,o,e',_⟩
   ·exact h0
   ·cases e'
  obtain rfl:xs=[]:=List.eq_nil_of_length_eq_zero (by rw [hs.1,Nat.zero_mul])
  clear hs hz hn h1
  go_enter Tryz.func22,Tryz.ntmps22
  go_wp2_with fail
  rw [run_eql_slice_nil' _ _ _ _ _ _ _ _ Tryz.underlying26]
  go_wp2_with fail
  go_ret
  exact ⟨_,rfl,World.ownsRow_nil _ _ _ _,Below.refl _ _⟩
 | some a =>
  have HA:=lid hs
  have H1:=lid h1
  clear hs hz h1
  go_enter Tryz.func22,Tryz.ntmps22
  go_wp2_with fail
  rw [run_eql_slice_nil' _ _ _ _ _ _ _ _ Tryz.underlying26]
  go_wp2_with (at_builtin;go_must (refine wpList_append_sl rfl _ _ 26 rfl w.heap.size 52 (.agg #[.int .i64 0,.string ⟨#[]⟩,.string ⟨#[]⟩,.slice none 0 0,.slice none 0 0]) 5 88 info_edit Tryz.underlying26 rfl (by decide) _ 0 [] (World.ownsRow_lit w #[] 0 (Nat.le_refl _) (by simp [maxLen]) rfl) rfl (some a) n cap xs rfl (HA.out.below (ba _ _)) (by intro h;cases h) H1.out (by simp [maxLen];omega) (by omega) (by simp) ?_))
  intro v5 w5 hown5 hb5
  go_wp2_with fail
  go_ret
  refine ⟨_,rfl,?_,(ba _ _).trans hb5⟩
  simpa using hown5
end Go.Proofs.YtgcceepadlmelaaGreatDoor
