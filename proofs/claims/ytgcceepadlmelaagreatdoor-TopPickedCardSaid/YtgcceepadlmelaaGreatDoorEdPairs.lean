import Derived.Test.YtgcceepadlmelaaGreatDoorEdDecl
namespace Go.Proofs.YtgcceepadlmelaaGreatDoor
set_option maxRecDepth 100000
set_option maxHeartbeats 16000000
open Go.RowKit
def zMw:Mw:=⟨⟨#[]⟩,none,[],0,none,[],0⟩
theorem zMw_A {w:World}:MwA w zMw:=⟨Nat.zero_le _,SA.empty,DLA.empty⟩
structure BoW where
 label:ByteArray
 inA:Bool
 inB:Bool
 a:Mw
 b:Mw
def BoW.x (p:BoW):ByteArray × Option Mx × Option Mx:=(p.label,if p.inA=true then some p.a.x else none,if p.inB=true then some p.b.x else none)
abbrev boe (p:BoW):List Value:=[.string p.label,.bool p.inA,.bool p.inB,.string p.a.label,.slice p.a.ua p.a.uses.length p.a.ucap,.slice p.a.da p.a.decls.length p.a.dcap,.string p.b.label,.slice p.b.ua p.b.uses.length p.b.ucap,.slice p.b.da p.b.decls.length p.b.dcap]
def bos (l:List BoW):List Value:=l.flatMap boe
theorem boe_length (p:BoW):(boe p).length=9:=rfl
theorem bos_append (l m:List BoW):bos (l++m)=bos l++bos m:=by simp [bos]
theorem bos_cell {l:List BoW} {k j:Nat} (h:k<l.length) (hj:j<9):(bos l)[k*9+j]?=(boe l[k])[j]?:=flat_at boe_length h hj
def BoOk (w:World) (A B:List Mw) (p:BoW):Prop:=(if p.inA=true then p.a∈A else p.a=zMw)∧(if p.inB=true then p.b∈B else p.b=zMw)∧MwA w p.a∧MwA w p.b∧p.label.size≤maxLen
theorem info_both:(Tryz.prog.info? 50).map (fun i=>(i.zero,i.size,i.bytes))=some (some (.agg #[.string ⟨#[]⟩,.bool false,.bool false,.string ⟨#[]⟩,.slice none 0 0,.slice none 0 0,.string ⟨#[]⟩,.slice none 0 0,.slice none 0 0]),9,152):=by kernel_rfl
theorem mla_first {w:World} {ao:Option Addr} {n cap:Nat} {d:Mw} {A:List Mw} (h:MLA w ao (n+1) cap (d::A)):∃ b o,ao=some ⟨b,o,none⟩∧b<w.heap.size∧MwA w d∧∀ W,Below w.heap.size w W→∀ i u,(mce d)[i]?=some u→W.cell? ⟨b,o+i,none⟩=some u:=by
 obtain ⟨b,o,e,hbz,hc⟩:=h.sl.at_ (k:=0) (by omega)
 refine ⟨b,o,e,hbz,h.el d (by simp),fun W hb i u hu=>?_⟩
 rw [bc hb hbz _]
 refine hc i u ?_
 rw [show mcs (d::A)=mce d++mcs A from rfl,List.getElem?_append_left (by obtain ⟨hi,_⟩:=List.getElem?_eq_some_iff.1 hu;exact hi)]
 exact hu
theorem mla_tail {w:World} {b o n cap:Nat} {d:Mw} {A:List Mw} (h:MLA w (some ⟨b,o,none⟩) (n+1) cap (d::A)):MLA w (if cap=1 then some ⟨b,o,none⟩ else some ⟨b,o+3,none⟩) n (cap-1) A:=by
 have hl:=h.len
 have hs:=h.sl.drop (k:=1) (c:=cap) (by omega) h.le
 have hc:=h.le
 have hm:=h.max
 refine ⟨by simpa using hl,?_,by omega,by omega,fun x hx=>h.el x (List.mem_cons_of_mem _ hx),fun e=>by split at e <;> cases e⟩
 have e:(mcs (d::A)).drop (1*3)=mcs A:=by
  rw [show mcs (d::A)=mce d++mcs A from rfl]
  rfl
 rw [e,Option.map_some,Addr.add_lit] at hs
 exact hs
theorem mla_dx {w:World} {ao:Option Addr} {n cap:Nat} {A:List Mw} (h:MLA w ao (n+1) cap A):∃ d A',A=d::A':=by
 have:=h.len
 cases A with
 | nil=>simp at this
 | cons d A'=>exact ⟨d,A',rfl⟩
theorem mla_nil {w:World} {ao:Option Addr} {cap:Nat} {A:List Mw} (h:MLA w ao 0 cap A):A=[]:=List.eq_nil_of_length_eq_zero h.len
theorem le_of_ltL {a b:ByteArray} (v:Bool) (h:ltL b a=!v):(Op.bytesLess a.toList b.toList || a.toList == b.toList)=v:=by
 rw [← less_total',ByteArray.toList_eq,ByteArray.toList_eq]
 show (!ltL _ _)=_
 rw [h,Bool.not_not]
structure PaI (w wr:World) (A0 B0:List Mw) (A B:List Mw) (f k N:Nat) (v:Value) (P:List BoW):Prop where
 cont:P.map BoW.x++pairsM (A.map Mw.x) (B.map Mw.x)=pairsM (A0.map Mw.x) (B0.map Mw.x)
 len:P.length=k
 few:k+f≤N
 own:wr.ownsRow w.heap.size 50 9 v k (bos P)
 el:∀ p∈P,BoOk w A0 B0 p
 subA:∀ m∈A,m∈A0
 subB:∀ m∈B,m∈B0
 b:Below w.heap.size w wr
theorem PaI.add {w wr w9:World} {A0 B0 A B A' B':List Mw} {f f' k N:Nat} {v v9:Value} {P:List BoW} {p:BoW} (h:PaI w wr A0 B0 A B f k N v P) (hp:BoOk w A0 B0 p)
  (hc:pairsM (A.map Mw.x) (B.map Mw.x)=p.x::pairsM (A'.map Mw.x) (B'.map Mw.x)) (hf:f'+1≤f) (hsA:∀ m∈A',m∈A) (hsB:∀ m∈B',m∈B) (own9:w9.ownsRow w.heap.size 50 9 v9 (k+1) (bos P++boe p)) (hb9:Below w.heap.size w w9):PaI w w9 A0 B0 A' B' f' (k+1) N v9 (P++[p]):=by
 refine ⟨?_,by rw [List.length_append,h.len];rfl,by have:=h.few;omega,?_,fun x hx=>?_,fun m hm=>h.subA m (hsA m hm),fun m hm=>h.subB m (hsB m hm),hb9⟩
 ·rw [← h.cont,hc,List.map_append,List.append_assoc]
  rfl
 ·rw [bos_append]
  simpa [bos] using own9
 ·rcases List.mem_append.1 hx with hx | hx
  ·exact h.el x hx
  ·rw [List.mem_singleton.1 hx];exact hp
theorem pairs_a (x:Mx) (a:List Mx):pairsM (x::a) []=(x.label,some x,none)::pairsM a []:=by rw [pairsM]
theorem pairs_b (y:Mx) (b:List Mx):pairsM [] (y::b)=(y.label,none,some y)::pairsM [] b:=by rw [pairsM]
theorem pairs_lt {x y:Mx} (a b:List Mx) (h:ltL x.label y.label=true):pairsM (x::a) (y::b)=(x.label,some x,none)::pairsM a (y::b):=by rw [pairsM,if_pos h]
theorem pairs_gt {x y:Mx} (a b:List Mx) (h:ltL y.label x.label=true) (h2:ltL x.label y.label=false):pairsM (x::a) (y::b)=(y.label,none,some y)::pairsM (x::a) b:=by rw [pairsM,if_neg (by rw [h2];simp),if_pos h]
theorem pairs_eq {x y:Mx} (a b:List Mx) (h1:ltL x.label y.label=false) (h2:ltL y.label x.label=false):pairsM (x::a) (y::b)=(x.label,some x,some y)::pairsM a b:=by rw [pairsM,if_neg (by rw [h1];simp),if_neg (by rw [h2];simp)]
theorem pairs_any (ao bo:Option Addr) (n ca m cb:Nat) (A B:List Mw) (w:World) (ha:MLA w ao n ca A) (hb:MLA w bo m cb B) (hn:n≤1000) (hm:m≤1000) :
  Calls Tryz.prog 17 #[.slice ao n ca,.slice bo m cb] w fun r w'=>∃ (v:Value) (P:List BoW),r=.returned v∧P.map BoW.x=pairsM (A.map Mw.x) (B.map Mw.x)∧w'.ownsRow w.heap.size 50 9 v P.length (bos P)∧(∀ p∈P,BoOk w A B p)∧P.length≤n+m∧Below w.heap.size w w':=by
 obtain ⟨N,hN⟩:∃ N,n+m=N:=⟨_,rfl⟩
 have hN6:N≤2000:=by omega
 rw [hN]
 obtain ⟨A0,hA0⟩:∃ A0,A0=A:=⟨_,rfl⟩
 obtain ⟨B0,hB0⟩:∃ B0,B0=B:=⟨_,rfl⟩
 have HI0:Hid (PaI w w A0 B0 A B (n+m) 0 N (.slice none 0 0) []):=lid ⟨by rw [hA0,hB0];rfl,rfl,by omega,World.ownsRow_nil _ _ _ _,(fun _ h=>by cases h),(by rw [hA0];exact fun _ h=>h),(by rw [hB0];exact fun _ h=>h),Below.refl _ _⟩
 have HA0:=lid ha
 have HB0:=lid hb
 rw [← hA0,← hB0]
 clear hN hA0 hB0
 go_enter Tryz.func17,Tryz.ntmps17
 go_wp2_with fail
 go_loopw [0,1,5] (fun v1 v2 v7 wr=>∃ (ao bo:Option Addr) (n ca m cb k:Nat) (A B:List Mw) (P:List BoW),v1=.slice ao n ca∧v2=.slice bo m cb∧n≤1000∧m≤1000∧Hid (MLA w ao n ca A)∧Hid (MLA w bo m cb B)∧Hid (PaI w wr A0 B0 A B (n+m) k N v7 P)) (fun v1 v2 _ _=>slN v1+slN v2)
 case atStart=>exact ⟨ao,bo,n,ca,m,cb,0,A,B,[],rfl,rfl,hn,hm,HA0,HB0,HI0⟩
 case round =>
  clear HA0 HB0 HI0 ha hb hn hm
  clear ao bo n ca m cb A B
  obtain ⟨ao,bo,n,ca,m,cb,k,A,B,P,rfl,rfl,hn,hm,HA,HB,HI⟩:=hrel
  have hca63:ca≤9223372036854775807:=HA.out.max
  have hcb63:cb≤9223372036854775807:=HB.out.max
  have hnca:n≤ca:=HA.out.le
  have hmcb:m≤cb:=HB.out.le
  have hwz:w.heap.size≤wr.heap.size:=HI.out.b.size
  cases n with
  | zero =>
   obtain rfl:=mla_nil HA.out
   cases m with
   | zero =>
    obtain rfl:=mla_nil HB.out
    have hkN:k≤N:=by have:=HI.out.few;omega
    go_wp2_with fail
    go_ret
    refine ⟨_,P,rfl,?_,by rw [HI.out.len];exact HI.out.own,HI.out.el,by rw [HI.out.len];exact hkN,HI.out.b⟩
    have:=HI.out.cont
    rwa [show pairsM (([]:List Mw).map Mw.x) (([]:List Mw).map Mw.x)=[] by simp [pairsM],List.append_nil] at this
   | succ m =>
    obtain ⟨y,B,rfl⟩:=mla_dx HB.out
    obtain ⟨b2,o2,rfl,hbzy,hdwy,hcy⟩:=mla_first HB.out
    have y0:wr.cell? ⟨b2,o2,none⟩=some (.string y.label):=hcy _ HI.out.b 0 _ rfl
    have y1:wr.cell? ⟨b2,o2+1,none⟩=some (.slice y.ua y.uses.length y.ucap):=hcy _ HI.out.b 1 _ rfl
    have y2:wr.cell? ⟨b2,o2+2,none⟩=some (.slice y.da y.decls.length y.dcap):=hcy _ HI.out.b 2 _ rfl
    have hlzy:b2<wr.heap.size:=Nat.lt_of_lt_of_le hbzy HI.out.b.size
    have HDy:=lid hdwy
    clear hcy hdwy
    have HP:Hid (BoOk w A0 B0 ⟨y.label,false,true,zMw,y⟩):=lid ⟨rfl,HI.out.subB y (by simp),zMw_A,HDy.out,HDy.out.sz⟩
    have HC:Hid (pairsM (([]:List Mw).map Mw.x) ((y::B).map Mw.x)=BoW.x ⟨y.label,false,true,zMw,y⟩::pairsM (([]:List Mw).map Mw.x) (B.map Mw.x)):=lid (pairs_b _ _)
    obtain ⟨X,hX⟩:∃ X,((wr.alloc (Obj.cells #[Value.string y.label,Value.bool false,Value.bool true,Value.string ⟨#[]⟩,Value.slice none 0 0,Value.slice none 0 0,Value.string y.label,Value.slice y.ua y.uses.length y.ucap,Value.slice y.da y.decls.length y.dcap] 50)).alloc (Obj.cells #[Value.string y.label,Value.bool false,Value.bool true,Value.string ⟨#[]⟩,Value.slice none 0 0,Value.slice none 0 0,Value.string y.label,Value.slice y.ua y.uses.length y.ucap,Value.slice y.da y.decls.length y.dcap] 50)).drew.drew.drew=X:=⟨_,rfl⟩
    have hbX:Below wr.heap.size wr X:=by rw [← hX];exact (((ba _ _).alloc (by simp) _)).drew.drew.drew
    have hEX:X.heap[wr.heap.size+1]?=some (.cells #[Value.string y.label,Value.bool false,Value.bool true,Value.string ⟨#[]⟩,Value.slice none 0 0,Value.slice none 0 0,Value.string y.label,Value.slice y.ua y.uses.length y.ucap,Value.slice y.da y.decls.length y.dcap] 50 (0,0)):=by rw [← hX];show ((wr.alloc _).alloc _).heap[_]?=_;exact h_new (by simp) _
    have HHX:=lid hX
    have HBX:=lid (HI.out.b.trans (hbX.mono HI.out.b.size))
    have HEX:=lid hEX
    have hz3:w.heap.size≤X.heap.size:=Nat.le_trans hwz hbX.size
    have HOX:Hid (X.ownsRow w.heap.size 50 9 u5 k (bos P)):=lid (own_keep HI.out.own (fun g hg=>hbX.block g (HI.out.own.lt g hg).2))
    have hkN2:k+1≤N:=by have:=HI.out.few;omega
    clear hX hbX hEX
    have HTB:=lid (mla_tail HB.out)
    by_cases hqcb:cb=1
    focus
     have dqcb:(cb == 1)=true:=by simpa using hqcb
     rw [if_pos hqcb,show cb-1=0 by omega] at HTB
    rotate_left
    focus
     have dqcb:(cb == 1)=false:=by simpa using hqcb
     rw [if_neg hqcb] at HTB
    rotate_left
    all_goals
     go_wp2_with fail
     refine qs (fun w'=>∃ s:Since wr.heap.size wr,w'=s.world) [(0,true),(1,true),(2,true),(3,true),(4,true),(5,true),(6,true),(7,true),(8,true),(9,true),(10,true),(11,true),(12,true),(13,true),(14,true),(15,true),(16,true),(17,true),(18,true),(19,true),(20,false)] (since (by first | exact (ba _ _).drew | exact (ba _ _).drew.drew | exact (ba _ _).drew.drew.drew | exact (ba _ _).drew.drew.drew.drew)) ?_
     repeat (first | (refine qk ?_;simp only [Act.put,q1,q2,q3]) | (refine qf ?_;intro K hK;go_big_quiet_op;go_big_quiet_on))
     refine qc ?_
     intro K hK
     go_wp2_with fail
     refine hK.out _ _ (since (by first | exact (ba _ _).drew | exact (ba _ _).drew.drew | exact (ba _ _).drew.drew.drew | exact (ba _ _).drew.drew.drew.drew)) ?_
     clear hK K
     repeat (first | (refine qk ?_;simp only [Act.put,q1,q2,q3]) | (refine qf ?_;intro K hK;go_big_quiet_op;go_big_quiet_on))
     refine seq_nil ?_
     go_wp2_with fail
     refine qs (fun w'=>∃ s:Since wr.heap.size wr,w'=s.world) [(0,true),(1,true),(2,true),(3,true),(4,true),(5,true),(6,true),(7,true),(8,true),(9,true),(10,true),(11,true),(12,true),(13,true),(14,true),(15,true),(16,true),(17,true),(18,true),(19,true),(20,false)] (since (by first | exact (ba _ _).drew | exact (ba _ _).drew.drew | exact (ba _ _).drew.drew.drew | exact (ba _ _).drew.drew.drew.drew)) ?_
     repeat (first | (refine qk ?_;simp only [Act.put,q1,q2,q3]) | (refine qf ?_;intro K hK;go_big_quiet_op;go_big_quiet_on))
     refine qc ?_
     intro K hK
     go_wp2_with fail
     refine hK.out _ _ (since (by first | exact (ba _ _).drew | exact (ba _ _).drew.drew | exact (ba _ _).drew.drew.drew | exact (ba _ _).drew.drew.drew.drew)) ?_
     clear hK K
     repeat (first | (refine qk ?_;simp only [Act.put,q1,q2,q3]) | (refine qf ?_;intro K hK;go_big_quiet_op;go_big_quiet_on))
     refine seq_nil ?_
     go_wp2_with fail
     refine qs (fun w'=>∃ s:Since wr.heap.size wr,w'=s.world) [(0,true),(1,true),(2,true),(3,true),(4,true),(5,true),(6,true),(7,true),(8,true),(9,true),(10,false),(11,true),(12,false),(13,false)] (since (by first | exact (ba _ _).drew | exact (ba _ _).drew.drew | exact (ba _ _).drew.drew.drew | exact (ba _ _).drew.drew.drew.drew)) ?_
     repeat (first | (refine qk ?_;simp only [Act.put,q1,q2,q3]) | (refine qf ?_;intro K hK;go_big_quiet_op;go_big_quiet_on))
     refine qc ?_
     intro K hK
     go_wp2_with fail
     refine hK.out _ _ (since (by first | exact (ba _ _).drew | exact (ba _ _).drew.drew | exact (ba _ _).drew.drew.drew | exact (ba _ _).drew.drew.drew.drew)) ?_
     clear hK K
     repeat (first | (refine qk ?_;simp only [Act.put,q1,q2,q3]) | (refine qf ?_;intro K hK;go_big_quiet_op;go_big_quiet_on))
     refine qc ?_
     intro K hK
     go_wp2_with fail
     refine hK.out _ _ (since (by first | exact (ba _ _).drew | exact (ba _ _).drew.drew | exact (ba _ _).drew.drew.drew | exact (ba _ _).drew.drew.drew.drew)) ?_
     clear hK K
     repeat (first | (refine qk ?_;simp only [Act.put,q1,q2,q3]) | (refine qf ?_;intro K hK;go_big_quiet_op;go_big_quiet_on))
     refine qc ?_
     intro K hK
     go_wp2_with fail
     refine hK.out _ _ (since (by first | exact (ba _ _).drew | exact (ba _ _).drew.drew | exact (ba _ _).drew.drew.drew | exact (ba _ _).drew.drew.drew.drew)) ?_
     clear hK K
     repeat (first | (refine qk ?_;simp only [Act.put,q1,q2,q3]) | (refine qf ?_;intro K hK;go_big_quiet_op;go_big_quiet_on))
     refine seq_nil ?_
     go_wp2_with (at_builtin;rw [HHX.out];go_must (refine wpList_append_sla rfl _ _ 47 rfl w.heap.size 50 (.agg #[.string ⟨#[]⟩,.bool false,.bool false,.string ⟨#[]⟩,.slice none 0 0,.slice none 0 0,.string ⟨#[]⟩,.slice none 0 0,.slice none 0 0]) 9 152 info_both Tryz.underlying47 rfl (by decide) u5 k (bos P) HOX.out rfl ⟨wr.heap.size+1,0,none⟩ 1 1 (boe ⟨y.label,false,true,zMw,y⟩) rfl (sl_row HEX.out rfl) (by simp [Value.oneCell']) (by simp only [maxLen];omega) (by omega) hz3 ?_))
     intro v9 w9 own9 hb9 hg9 hat9
     have HI9:Hid (PaI w w9 A0 B0 [] B (0+m) (k+1) N v9 (P++[⟨y.label,false,true,zMw,y⟩])):=lid (HI.out.add HP.out HC.out (by omega) (fun _ h=>h) (fun _ h=>List.mem_cons_of_mem _ h) own9 (HBX.out.trans hb9))
     clear own9 hb9 hg9 hat9
     try simp only [Act.put,q1,q2,q3]
     go_wp2_with fail
     go_roundw
     case measure=>simp only [slN];omega
     case rel=>exact ⟨_,_,0,_,m,_,k+1,[],B,P++[_],rfl,rfl,by omega,by omega,HA,HTB,HI9⟩
  | succ n =>
   obtain ⟨x,A,rfl⟩:=mla_dx HA.out
   cases m with
   | zero =>
    obtain rfl:=mla_nil HB.out
    obtain ⟨b1,o1,rfl,hbzx,hdwx,hcx⟩:=mla_first HA.out
    have x0:wr.cell? ⟨b1,o1,none⟩=some (.string x.label):=hcx _ HI.out.b 0 _ rfl
    have x1:wr.cell? ⟨b1,o1+1,none⟩=some (.slice x.ua x.uses.length x.ucap):=hcx _ HI.out.b 1 _ rfl
    have x2:wr.cell? ⟨b1,o1+2,none⟩=some (.slice x.da x.decls.length x.dcap):=hcx _ HI.out.b 2 _ rfl
    have hlzx:b1<wr.heap.size:=Nat.lt_of_lt_of_le hbzx HI.out.b.size
    have HDx:=lid hdwx
    clear hcx hdwx
    have HP:Hid (BoOk w A0 B0 ⟨x.label,true,false,x,zMw⟩):=lid ⟨HI.out.subA x (by simp),rfl,HDx.out,zMw_A,HDx.out.sz⟩
    have HC:Hid (pairsM ((x::A).map Mw.x) (([]:List Mw).map Mw.x)=BoW.x ⟨x.label,true,false,x,zMw⟩::pairsM (A.map Mw.x) (([]:List Mw).map Mw.x)):=lid (pairs_a _ _)
    obtain ⟨X,hX⟩:∃ X,((wr.alloc (Obj.cells #[Value.string x.label,Value.bool true,Value.bool false,Value.string x.label,Value.slice x.ua x.uses.length x.ucap,Value.slice x.da x.decls.length x.dcap,Value.string ⟨#[]⟩,Value.slice none 0 0,Value.slice none 0 0] 50)).alloc (Obj.cells #[Value.string x.label,Value.bool true,Value.bool false,Value.string x.label,Value.slice x.ua x.uses.length x.ucap,Value.slice x.da x.decls.length x.dcap,Value.string ⟨#[]⟩,Value.slice none 0 0,Value.slice none 0 0] 50)).drew.drew.drew=X:=⟨_,rfl⟩
    have hbX:Below wr.heap.size wr X:=by rw [← hX];exact (((ba _ _).alloc (by simp) _)).drew.drew.drew
    have hEX:X.heap[wr.heap.size+1]?=some (.cells #[Value.string x.label,Value.bool true,Value.bool false,Value.string x.label,Value.slice x.ua x.uses.length x.ucap,Value.slice x.da x.decls.length x.dcap,Value.string ⟨#[]⟩,Value.slice none 0 0,Value.slice none 0 0] 50 (0,0)):=by rw [← hX];show ((wr.alloc _).alloc _).heap[_]?=_;exact h_new (by simp) _
    have HHX:=lid hX
    have HBX:=lid (HI.out.b.trans (hbX.mono HI.out.b.size))
    have HEX:=lid hEX
    have hz3:w.heap.size≤X.heap.size:=Nat.le_trans hwz hbX.size
    have HOX:Hid (X.ownsRow w.heap.size 50 9 u5 k (bos P)):=lid (own_keep HI.out.own (fun g hg=>hbX.block g (HI.out.own.lt g hg).2))
    have hkN2:k+1≤N:=by have:=HI.out.few;omega
    clear hX hbX hEX
    have HTA:=lid (mla_tail HA.out)
    by_cases hqca:ca=1
    focus
     have dqca:(ca == 1)=true:=by simpa using hqca
     rw [if_pos hqca,show ca-1=0 by omega] at HTA
    rotate_left
    focus
     have dqca:(ca == 1)=false:=by simpa using hqca
     rw [if_neg hqca] at HTA
    rotate_left
    all_goals
     go_wp2_with fail
     refine qs (fun w'=>∃ s:Since wr.heap.size wr,w'=s.world) [(0,true),(1,true),(2,true),(3,true),(4,true),(5,true),(6,true),(7,true),(8,true),(9,true),(10,true),(11,true),(12,true),(13,true),(14,true),(15,true),(16,true),(17,true),(18,true),(19,true),(20,false)] (since (by first | exact (ba _ _).drew | exact (ba _ _).drew.drew | exact (ba _ _).drew.drew.drew | exact (ba _ _).drew.drew.drew.drew)) ?_
     repeat (first | (refine qk ?_;simp only [Act.put,q1,q2,q3]) | (refine qf ?_;intro K hK;go_big_quiet_op;go_big_quiet_on))
     refine qc ?_
     intro K hK
     go_wp2_with fail
     refine hK.out _ _ (since (by first | exact (ba _ _).drew | exact (ba _ _).drew.drew | exact (ba _ _).drew.drew.drew | exact (ba _ _).drew.drew.drew.drew)) ?_
     clear hK K
     repeat (first | (refine qk ?_;simp only [Act.put,q1,q2,q3]) | (refine qf ?_;intro K hK;go_big_quiet_op;go_big_quiet_on))
     refine seq_nil ?_
     go_wp2_with fail
     refine qs (fun w'=>∃ s:Since wr.heap.size wr,w'=s.world) [(0,true),(1,true),(2,true),(3,true),(4,true),(5,true),(6,true),(7,true),(8,true),(9,true),(10,true),(11,true),(12,true),(13,true),(14,true),(15,true),(16,true),(17,true),(18,true),(19,true),(20,false)] (since (by first | exact (ba _ _).drew | exact (ba _ _).drew.drew | exact (ba _ _).drew.drew.drew | exact (ba _ _).drew.drew.drew.drew)) ?_
     repeat (first | (refine qk ?_;simp only [Act.put,q1,q2,q3]) | (refine qf ?_;intro K hK;go_big_quiet_op;go_big_quiet_on))
     refine qc ?_
     intro K hK
     go_wp2_with fail
     refine hK.out _ _ (since (by first | exact (ba _ _).drew | exact (ba _ _).drew.drew | exact (ba _ _).drew.drew.drew | exact (ba _ _).drew.drew.drew.drew)) ?_
     clear hK K
     repeat (first | (refine qk ?_;simp only [Act.put,q1,q2,q3]) | (refine qf ?_;intro K hK;go_big_quiet_op;go_big_quiet_on))
     refine seq_nil ?_
     go_wp2_with fail
     refine qs (fun w'=>∃ s:Since wr.heap.size wr,w'=s.world) [(0,true),(1,true),(2,true),(3,true),(4,true),(5,true),(6,true),(7,true),(8,true),(9,true),(10,false),(11,true),(12,false),(13,false)] (since (by first | exact (ba _ _).drew | exact (ba _ _).drew.drew | exact (ba _ _).drew.drew.drew | exact (ba _ _).drew.drew.drew.drew)) ?_
     repeat (first | (refine qk ?_;simp only [Act.put,q1,q2,q3]) | (refine qf ?_;intro K hK;go_big_quiet_op;go_big_quiet_on))
     refine qc ?_
     intro K hK
     go_wp2_with fail
     refine hK.out _ _ (since (by first | exact (ba _ _).drew | exact (ba _ _).drew.drew | exact (ba _ _).drew.drew.drew | exact (ba _ _).drew.drew.drew.drew)) ?_
     clear hK K
     repeat (first | (refine qk ?_;simp only [Act.put,q1,q2,q3]) | (refine qf ?_;intro K hK;go_big_quiet_op;go_big_quiet_on))
     refine qc ?_
     intro K hK
     go_wp2_with fail
     refine hK.out _ _ (since (by first | exact (ba _ _).drew | exact (ba _ _).drew.drew | exact (ba _ _).drew.drew.drew | exact (ba _ _).drew.drew.drew.drew)) ?_
     clear hK K
     repeat (first | (refine qk ?_;simp only [Act.put,q1,q2,q3]) | (refine qf ?_;intro K hK;go_big_quiet_op;go_big_quiet_on))
     refine qc ?_
     intro K hK
     go_wp2_with fail
     refine hK.out _ _ (since (by first | exact (ba _ _).drew | exact (ba _ _).drew.drew | exact (ba _ _).drew.drew.drew | exact (ba _ _).drew.drew.drew.drew)) ?_
     clear hK K
     repeat (first | (refine qk ?_;simp only [Act.put,q1,q2,q3]) | (refine qf ?_;intro K hK;go_big_quiet_op;go_big_quiet_on))
     refine seq_nil ?_
     go_wp2_with (at_builtin;rw [HHX.out];go_must (refine wpList_append_sla rfl _ _ 47 rfl w.heap.size 50 (.agg #[.string ⟨#[]⟩,.bool false,.bool false,.string ⟨#[]⟩,.slice none 0 0,.slice none 0 0,.string ⟨#[]⟩,.slice none 0 0,.slice none 0 0]) 9 152 info_both Tryz.underlying47 rfl (by decide) u5 k (bos P) HOX.out rfl ⟨wr.heap.size+1,0,none⟩ 1 1 (boe ⟨x.label,true,false,x,zMw⟩) rfl (sl_row HEX.out rfl) (by simp [Value.oneCell']) (by simp only [maxLen];omega) (by omega) hz3 ?_))
     intro v9 w9 own9 hb9 hg9 hat9
     have HI9:Hid (PaI w w9 A0 B0 A [] (n+0) (k+1) N v9 (P++[⟨x.label,true,false,x,zMw⟩])):=lid (HI.out.add HP.out HC.out (by omega) (fun _ h=>List.mem_cons_of_mem _ h) (fun _ h=>h) own9 (HBX.out.trans hb9))
     clear own9 hb9 hg9 hat9
     try simp only [Act.put,q1,q2,q3]
     go_wp2_with fail
     go_roundw
     case measure=>simp only [slN];omega
     case rel=>exact ⟨_,_,n,_,0,_,k+1,A,[],P++[_],rfl,rfl,by omega,by omega,HTA,HB,HI9⟩
   | succ m =>
    obtain ⟨y,B,rfl⟩:=mla_dx HB.out
    cases hxy:ltL x.label y.label with
    | true =>
     have hyx:ltL y.label x.label=false:=by
      cases e:ltL y.label x.label with
      | false=>rfl
      | true=>have:=ltL_k.tr hxy e;rw [ltL_k.irr] at this;cases this
     have e1:=le_of_ltL (a:=x.label) (b:=y.label) true hyx
     have e2:=le_of_ltL (a:=y.label) (b:=x.label) false hxy
     obtain ⟨b1,o1,rfl,hbzx,hdwx,hcx⟩:=mla_first HA.out
     have x0:wr.cell? ⟨b1,o1,none⟩=some (.string x.label):=hcx _ HI.out.b 0 _ rfl
     have x1:wr.cell? ⟨b1,o1+1,none⟩=some (.slice x.ua x.uses.length x.ucap):=hcx _ HI.out.b 1 _ rfl
     have x2:wr.cell? ⟨b1,o1+2,none⟩=some (.slice x.da x.decls.length x.dcap):=hcx _ HI.out.b 2 _ rfl
     have hlzx:b1<wr.heap.size:=Nat.lt_of_lt_of_le hbzx HI.out.b.size
     have HDx:=lid hdwx
     clear hcx hdwx
     obtain ⟨b2,o2,rfl,hbzy,hdwy,hcy⟩:=mla_first HB.out
     have y0:wr.cell? ⟨b2,o2,none⟩=some (.string y.label):=hcy _ HI.out.b 0 _ rfl
     have y1:wr.cell? ⟨b2,o2+1,none⟩=some (.slice y.ua y.uses.length y.ucap):=hcy _ HI.out.b 1 _ rfl
     have y2:wr.cell? ⟨b2,o2+2,none⟩=some (.slice y.da y.decls.length y.dcap):=hcy _ HI.out.b 2 _ rfl
     have hlzy:b2<wr.heap.size:=Nat.lt_of_lt_of_le hbzy HI.out.b.size
     have HDy:=lid hdwy
     clear hcy hdwy
     have HP:Hid (BoOk w A0 B0 ⟨x.label,true,false,x,zMw⟩):=lid ⟨HI.out.subA x (by simp),rfl,HDx.out,zMw_A,HDx.out.sz⟩
     have HC:Hid (pairsM ((x::A).map Mw.x) ((y::B).map Mw.x)=BoW.x ⟨x.label,true,false,x,zMw⟩::pairsM (A.map Mw.x) ((y::B).map Mw.x)):=lid (pairs_lt _ _ hxy)
     obtain ⟨X,hX⟩:∃ X,((wr.alloc (Obj.cells #[Value.string x.label,Value.bool true,Value.bool false,Value.string x.label,Value.slice x.ua x.uses.length x.ucap,Value.slice x.da x.decls.length x.dcap,Value.string ⟨#[]⟩,Value.slice none 0 0,Value.slice none 0 0] 50)).alloc (Obj.cells #[Value.string x.label,Value.bool true,Value.bool false,Value.string x.label,Value.slice x.ua x.uses.length x.ucap,Value.slice x.da x.decls.length x.dcap,Value.string ⟨#[]⟩,Value.slice none 0 0,Value.slice none 0 0] 50)).drew.drew.drew=X:=⟨_,rfl⟩
     have hbX:Below wr.heap.size wr X:=by rw [← hX];exact (((ba _ _).alloc (by simp) _)).drew.drew.drew
     have hEX:X.heap[wr.heap.size+1]?=some (.cells #[Value.string x.label,Value.bool true,Value.bool false,Value.string x.label,Value.slice x.ua x.uses.length x.ucap,Value.slice x.da x.decls.length x.dcap,Value.string ⟨#[]⟩,Value.slice none 0 0,Value.slice none 0 0] 50 (0,0)):=by rw [← hX];show ((wr.alloc _).alloc _).heap[_]?=_;exact h_new (by simp) _
     have HHX:=lid hX
     have HBX:=lid (HI.out.b.trans (hbX.mono HI.out.b.size))
     have HEX:=lid hEX
     have hz3:w.heap.size≤X.heap.size:=Nat.le_trans hwz hbX.size
     have HOX:Hid (X.ownsRow w.heap.size 50 9 u5 k (bos P)):=lid (own_keep HI.out.own (fun g hg=>hbX.block g (HI.out.own.lt g hg).2))
     have hkN2:k+1≤N:=by have:=HI.out.few;omega
     clear hX hbX hEX
     have HTA:=lid (mla_tail HA.out)
     by_cases hqca:ca=1
     focus
      have dqca:(ca == 1)=true:=by simpa using hqca
      rw [if_pos hqca,show ca-1=0 by omega] at HTA
     rotate_left
     focus
      have dqca:(ca == 1)=false:=by simpa using hqca
      rw [if_neg hqca] at HTA
     rotate_left
     all_goals
      go_wp2_with fail
      refine qs (fun w'=>∃ s:Since wr.heap.size wr,w'=s.world) [(0,true),(1,true),(2,true),(3,true),(4,true),(5,true),(6,true),(7,true),(8,true),(9,true),(10,true),(11,true),(12,true),(13,true),(14,true),(15,true),(16,true),(17,true),(18,true),(19,true),(20,false)] (since (by first | exact (ba _ _).drew | exact (ba _ _).drew.drew | exact (ba _ _).drew.drew.drew | exact (ba _ _).drew.drew.drew.drew)) ?_
      repeat (first | (refine qk ?_;simp only [Act.put,q1,q2,q3]) | (refine qf ?_;intro K hK;go_big_quiet_op;go_big_quiet_on))
      refine qc ?_
      intro K hK
      go_wp2_with fail
      refine hK.out _ _ (since (by first | exact (ba _ _).drew | exact (ba _ _).drew.drew | exact (ba _ _).drew.drew.drew | exact (ba _ _).drew.drew.drew.drew)) ?_
      clear hK K
      repeat (first | (refine qk ?_;simp only [Act.put,q1,q2,q3]) | (refine qf ?_;intro K hK;go_big_quiet_op;go_big_quiet_on))
      refine seq_nil ?_
      go_wp2_with fail
      refine qs (fun w'=>∃ s:Since wr.heap.size wr,w'=s.world) [(0,true),(1,true),(2,true),(3,true),(4,true),(5,true),(6,true),(7,true),(8,true),(9,true),(10,true),(11,true),(12,true),(13,true),(14,true),(15,true),(16,true),(17,true),(18,true),(19,true),(20,false)] (since (by first | exact (ba _ _).drew | exact (ba _ _).drew.drew | exact (ba _ _).drew.drew.drew | exact (ba _ _).drew.drew.drew.drew)) ?_
      repeat (first | (refine qk ?_;simp only [Act.put,q1,q2,q3]) | (refine qf ?_;intro K hK;go_big_quiet_op;go_big_quiet_on))
      refine qc ?_
      intro K hK
      go_wp2_with fail
      refine hK.out _ _ (since (by first | exact (ba _ _).drew | exact (ba _ _).drew.drew | exact (ba _ _).drew.drew.drew | exact (ba _ _).drew.drew.drew.drew)) ?_
      clear hK K
      repeat (first | (refine qk ?_;simp only [Act.put,q1,q2,q3]) | (refine qf ?_;intro K hK;go_big_quiet_op;go_big_quiet_on))
      refine seq_nil ?_
      go_wp2_with fail
      refine qs (fun w'=>∃ s:Since wr.heap.size wr,w'=s.world) [(0,true),(1,true),(2,true),(3,true),(4,true),(5,true),(6,true),(7,true),(8,true),(9,true),(10,false),(11,true),(12,false),(13,false)] (since (by first | exact (ba _ _).drew | exact (ba _ _).drew.drew | exact (ba _ _).drew.drew.drew | exact (ba _ _).drew.drew.drew.drew)) ?_
      repeat (first | (refine qk ?_;simp only [Act.put,q1,q2,q3]) | (refine qf ?_;intro K hK;go_big_quiet_op;go_big_quiet_on))
      refine qc ?_
      intro K hK
      go_wp2_with fail
      refine hK.out _ _ (since (by first | exact (ba _ _).drew | exact (ba _ _).drew.drew | exact (ba _ _).drew.drew.drew | exact (ba _ _).drew.drew.drew.drew)) ?_
      clear hK K
      repeat (first | (refine qk ?_;simp only [Act.put,q1,q2,q3]) | (refine qf ?_;intro K hK;go_big_quiet_op;go_big_quiet_on))
      refine qc ?_
      intro K hK
      go_wp2_with fail
      refine hK.out _ _ (since (by first | exact (ba _ _).drew | exact (ba _ _).drew.drew | exact (ba _ _).drew.drew.drew | exact (ba _ _).drew.drew.drew.drew)) ?_
      clear hK K
      repeat (first | (refine qk ?_;simp only [Act.put,q1,q2,q3]) | (refine qf ?_;intro K hK;go_big_quiet_op;go_big_quiet_on))
      refine qc ?_
      intro K hK
      go_wp2_with fail
      refine hK.out _ _ (since (by first | exact (ba _ _).drew | exact (ba _ _).drew.drew | exact (ba _ _).drew.drew.drew | exact (ba _ _).drew.drew.drew.drew)) ?_
      clear hK K
      repeat (first | (refine qk ?_;simp only [Act.put,q1,q2,q3]) | (refine qf ?_;intro K hK;go_big_quiet_op;go_big_quiet_on))
      refine seq_nil ?_
      go_wp2_with (at_builtin;rw [HHX.out];go_must (refine wpList_append_sla rfl _ _ 47 rfl w.heap.size 50 (.agg #[.string ⟨#[]⟩,.bool false,.bool false,.string ⟨#[]⟩,.slice none 0 0,.slice none 0 0,.string ⟨#[]⟩,.slice none 0 0,.slice none 0 0]) 9 152 info_both Tryz.underlying47 rfl (by decide) u5 k (bos P) HOX.out rfl ⟨wr.heap.size+1,0,none⟩ 1 1 (boe ⟨x.label,true,false,x,zMw⟩) rfl (sl_row HEX.out rfl) (by simp [Value.oneCell']) (by simp only [maxLen];omega) (by omega) hz3 ?_))
      intro v9 w9 own9 hb9 hg9 hat9
      have HI9:Hid (PaI w w9 A0 B0 A (y::B) (n+(m+1)) (k+1) N v9 (P++[⟨x.label,true,false,x,zMw⟩])):=lid (HI.out.add HP.out HC.out (by omega) (fun _ h=>List.mem_cons_of_mem _ h) (fun _ h=>h) own9 (HBX.out.trans hb9))
      clear own9 hb9 hg9 hat9
      try simp only [Act.put,q1,q2,q3]
      go_wp2_with fail
      go_roundw
      case measure=>simp only [slN];omega
      case rel=>exact ⟨_,_,n,_,(m+1),_,k+1,A,(y::B),P++[_],rfl,rfl,by omega,by omega,HTA,HB,HI9⟩
    | false =>
     cases hyx:ltL y.label x.label with
     | true =>
      have e1:=le_of_ltL (a:=x.label) (b:=y.label) false hyx
      have e2:=le_of_ltL (a:=y.label) (b:=x.label) true hxy
      obtain ⟨b1,o1,rfl,hbzx,hdwx,hcx⟩:=mla_first HA.out
      have x0:wr.cell? ⟨b1,o1,none⟩=some (.string x.label):=hcx _ HI.out.b 0 _ rfl
      have x1:wr.cell? ⟨b1,o1+1,none⟩=some (.slice x.ua x.uses.length x.ucap):=hcx _ HI.out.b 1 _ rfl
      have x2:wr.cell? ⟨b1,o1+2,none⟩=some (.slice x.da x.decls.length x.dcap):=hcx _ HI.out.b 2 _ rfl
      have hlzx:b1<wr.heap.size:=Nat.lt_of_lt_of_le hbzx HI.out.b.size
      have HDx:=lid hdwx
      clear hcx hdwx
      obtain ⟨b2,o2,rfl,hbzy,hdwy,hcy⟩:=mla_first HB.out
      have y0:wr.cell? ⟨b2,o2,none⟩=some (.string y.label):=hcy _ HI.out.b 0 _ rfl
      have y1:wr.cell? ⟨b2,o2+1,none⟩=some (.slice y.ua y.uses.length y.ucap):=hcy _ HI.out.b 1 _ rfl
      have y2:wr.cell? ⟨b2,o2+2,none⟩=some (.slice y.da y.decls.length y.dcap):=hcy _ HI.out.b 2 _ rfl
      have hlzy:b2<wr.heap.size:=Nat.lt_of_lt_of_le hbzy HI.out.b.size
      have HDy:=lid hdwy
      clear hcy hdwy
      have HP:Hid (BoOk w A0 B0 ⟨y.label,false,true,zMw,y⟩):=lid ⟨rfl,HI.out.subB y (by simp),zMw_A,HDy.out,HDy.out.sz⟩
      have HC:Hid (pairsM ((x::A).map Mw.x) ((y::B).map Mw.x)=BoW.x ⟨y.label,false,true,zMw,y⟩::pairsM ((x::A).map Mw.x) (B.map Mw.x)):=lid (pairs_gt _ _ hyx hxy)
      obtain ⟨X,hX⟩:∃ X,((wr.alloc (Obj.cells #[Value.string y.label,Value.bool false,Value.bool true,Value.string ⟨#[]⟩,Value.slice none 0 0,Value.slice none 0 0,Value.string y.label,Value.slice y.ua y.uses.length y.ucap,Value.slice y.da y.decls.length y.dcap] 50)).alloc (Obj.cells #[Value.string y.label,Value.bool false,Value.bool true,Value.string ⟨#[]⟩,Value.slice none 0 0,Value.slice none 0 0,Value.string y.label,Value.slice y.ua y.uses.length y.ucap,Value.slice y.da y.decls.length y.dcap] 50)).drew.drew.drew=X:=⟨_,rfl⟩
      have hbX:Below wr.heap.size wr X:=by rw [← hX];exact (((ba _ _).alloc (by simp) _)).drew.drew.drew
      have hEX:X.heap[wr.heap.size+1]?=some (.cells #[Value.string y.label,Value.bool false,Value.bool true,Value.string ⟨#[]⟩,Value.slice none 0 0,Value.slice none 0 0,Value.string y.label,Value.slice y.ua y.uses.length y.ucap,Value.slice y.da y.decls.length y.dcap] 50 (0,0)):=by rw [← hX];show ((wr.alloc _).alloc _).heap[_]?=_;exact h_new (by simp) _
      have HHX:=lid hX
      have HBX:=lid (HI.out.b.trans (hbX.mono HI.out.b.size))
      have HEX:=lid hEX
      have hz3:w.heap.size≤X.heap.size:=Nat.le_trans hwz hbX.size
      have HOX:Hid (X.ownsRow w.heap.size 50 9 u5 k (bos P)):=lid (own_keep HI.out.own (fun g hg=>hbX.block g (HI.out.own.lt g hg).2))
      have hkN2:k+1≤N:=by have:=HI.out.few;omega
      clear hX hbX hEX
      have HTB:=lid (mla_tail HB.out)
      by_cases hqcb:cb=1
      focus
       have dqcb:(cb == 1)=true:=by simpa using hqcb
       rw [if_pos hqcb,show cb-1=0 by omega] at HTB
      rotate_left
      focus
       have dqcb:(cb == 1)=false:=by simpa using hqcb
       rw [if_neg hqcb] at HTB
      rotate_left
      all_goals
       go_wp2_with fail
       refine qs (fun w'=>∃ s:Since wr.heap.size wr,w'=s.world) [(0,true),(1,true),(2,true),(3,true),(4,true),(5,true),(6,true),(7,true),(8,true),(9,true),(10,true),(11,true),(12,true),(13,true),(14,true),(15,true),(16,true),(17,true),(18,true),(19,true),(20,false)] (since (by first | exact (ba _ _).drew | exact (ba _ _).drew.drew | exact (ba _ _).drew.drew.drew | exact (ba _ _).drew.drew.drew.drew)) ?_
       repeat (first | (refine qk ?_;simp only [Act.put,q1,q2,q3]) | (refine qf ?_;intro K hK;go_big_quiet_op;go_big_quiet_on))
       refine qc ?_
       intro K hK
       go_wp2_with fail
       refine hK.out _ _ (since (by first | exact (ba _ _).drew | exact (ba _ _).drew.drew | exact (ba _ _).drew.drew.drew | exact (ba _ _).drew.drew.drew.drew)) ?_
       clear hK K
       repeat (first | (refine qk ?_;simp only [Act.put,q1,q2,q3]) | (refine qf ?_;intro K hK;go_big_quiet_op;go_big_quiet_on))
       refine seq_nil ?_
       go_wp2_with fail
       refine qs (fun w'=>∃ s:Since wr.heap.size wr,w'=s.world) [(0,true),(1,true),(2,true),(3,true),(4,true),(5,true),(6,true),(7,true),(8,true),(9,true),(10,true),(11,true),(12,true),(13,true),(14,true),(15,true),(16,true),(17,true),(18,true),(19,true),(20,false)] (since (by first | exact (ba _ _).drew | exact (ba _ _).drew.drew | exact (ba _ _).drew.drew.drew | exact (ba _ _).drew.drew.drew.drew)) ?_
       repeat (first | (refine qk ?_;simp only [Act.put,q1,q2,q3]) | (refine qf ?_;intro K hK;go_big_quiet_op;go_big_quiet_on))
       refine qc ?_
       intro K hK
       go_wp2_with fail
       refine hK.out _ _ (since (by first | exact (ba _ _).drew | exact (ba _ _).drew.drew | exact (ba _ _).drew.drew.drew | exact (ba _ _).drew.drew.drew.drew)) ?_
       clear hK K
       repeat (first | (refine qk ?_;simp only [Act.put,q1,q2,q3]) | (refine qf ?_;intro K hK;go_big_quiet_op;go_big_quiet_on))
       refine seq_nil ?_
       go_wp2_with fail
       refine qs (fun w'=>∃ s:Since wr.heap.size wr,w'=s.world) [(0,true),(1,true),(2,true),(3,true),(4,true),(5,true),(6,true),(7,true),(8,true),(9,true),(10,false),(11,true),(12,false),(13,false)] (since (by first | exact (ba _ _).drew | exact (ba _ _).drew.drew | exact (ba _ _).drew.drew.drew | exact (ba _ _).drew.drew.drew.drew)) ?_
       repeat (first | (refine qk ?_;simp only [Act.put,q1,q2,q3]) | (refine qf ?_;intro K hK;go_big_quiet_op;go_big_quiet_on))
       refine qc ?_
       intro K hK
       go_wp2_with fail
       refine hK.out _ _ (since (by first | exact (ba _ _).drew | exact (ba _ _).drew.drew | exact (ba _ _).drew.drew.drew | exact (ba _ _).drew.drew.drew.drew)) ?_
       clear hK K
       repeat (first | (refine qk ?_;simp only [Act.put,q1,q2,q3]) | (refine qf ?_;intro K hK;go_big_quiet_op;go_big_quiet_on))
       refine qc ?_
       intro K hK
       go_wp2_with fail
       refine hK.out _ _ (since (by first | exact (ba _ _).drew | exact (ba _ _).drew.drew | exact (ba _ _).drew.drew.drew | exact (ba _ _).drew.drew.drew.drew)) ?_
       clear hK K
       repeat (first | (refine qk ?_;simp only [Act.put,q1,q2,q3]) | (refine qf ?_;intro K hK;go_big_quiet_op;go_big_quiet_on))
       refine qc ?_
       intro K hK
       go_wp2_with fail
       refine hK.out _ _ (since (by first | exact (ba _ _).drew | exact (ba _ _).drew.drew | exact (ba _ _).drew.drew.drew | exact (ba _ _).drew.drew.drew.drew)) ?_
       clear hK K
       repeat (first | (refine qk ?_;simp only [Act.put,q1,q2,q3]) | (refine qf ?_;intro K hK;go_big_quiet_op;go_big_quiet_on))
       refine seq_nil ?_
       go_wp2_with (at_builtin;rw [HHX.out];go_must (refine wpList_append_sla rfl _ _ 47 rfl w.heap.size 50 (.agg #[.string ⟨#[]⟩,.bool false,.bool false,.string ⟨#[]⟩,.slice none 0 0,.slice none 0 0,.string ⟨#[]⟩,.slice none 0 0,.slice none 0 0]) 9 152 info_both Tryz.underlying47 rfl (by decide) u5 k (bos P) HOX.out rfl ⟨wr.heap.size+1,0,none⟩ 1 1 (boe ⟨y.label,false,true,zMw,y⟩) rfl (sl_row HEX.out rfl) (by simp [Value.oneCell']) (by simp only [maxLen];omega) (by omega) hz3 ?_))
       intro v9 w9 own9 hb9 hg9 hat9
       have HI9:Hid (PaI w w9 A0 B0 (x::A) B ((n+1)+m) (k+1) N v9 (P++[⟨y.label,false,true,zMw,y⟩])):=lid (HI.out.add HP.out HC.out (by omega) (fun _ h=>h) (fun _ h=>List.mem_cons_of_mem _ h) own9 (HBX.out.trans hb9))
       clear own9 hb9 hg9 hat9
       try simp only [Act.put,q1,q2,q3]
       go_wp2_with fail
       go_roundw
       case measure=>simp only [slN];omega
       case rel=>exact ⟨_,_,(n+1),_,m,_,k+1,(x::A),B,P++[_],rfl,rfl,by omega,by omega,HA,HTB,HI9⟩
     | false =>
      have e1:=le_of_ltL (a:=x.label) (b:=y.label) true hyx
      have e2:=le_of_ltL (a:=y.label) (b:=x.label) true hxy
      obtain ⟨b1,o1,rfl,hbzx,hdwx,hcx⟩:=mla_first HA.out
      have x0:wr.cell? ⟨b1,o1,none⟩=some (.string x.label):=hcx _ HI.out.b 0 _ rfl
      have x1:wr.cell? ⟨b1,o1+1,none⟩=some (.slice x.ua x.uses.length x.ucap):=hcx _ HI.out.b 1 _ rfl
      have x2:wr.cell? ⟨b1,o1+2,none⟩=some (.slice x.da x.decls.length x.dcap):=hcx _ HI.out.b 2 _ rfl
      have hlzx:b1<wr.heap.size:=Nat.lt_of_lt_of_le hbzx HI.out.b.size
      have HDx:=lid hdwx
      clear hcx hdwx
      obtain ⟨b2,o2,rfl,hbzy,hdwy,hcy⟩:=mla_first HB.out
      have y0:wr.cell? ⟨b2,o2,none⟩=some (.string y.label):=hcy _ HI.out.b 0 _ rfl
      have y1:wr.cell? ⟨b2,o2+1,none⟩=some (.slice y.ua y.uses.length y.ucap):=hcy _ HI.out.b 1 _ rfl
      have y2:wr.cell? ⟨b2,o2+2,none⟩=some (.slice y.da y.decls.length y.dcap):=hcy _ HI.out.b 2 _ rfl
      have hlzy:b2<wr.heap.size:=Nat.lt_of_lt_of_le hbzy HI.out.b.size
      have HDy:=lid hdwy
      clear hcy hdwy
      have HP:Hid (BoOk w A0 B0 ⟨y.label,true,true,x,y⟩):=lid ⟨HI.out.subA x (by simp),HI.out.subB y (by simp),HDx.out,HDy.out,HDy.out.sz⟩
      have HC:Hid (pairsM ((x::A).map Mw.x) ((y::B).map Mw.x)=BoW.x ⟨y.label,true,true,x,y⟩::pairsM (A.map Mw.x) (B.map Mw.x)):=lid ((pairs_eq _ _ hxy hyx).trans (by have e:x.label=y.label:=(by rcases ltL_k.tot x.label y.label with h | h | h <;> first | exact h | (rw [hxy] at h;cases h) | (rw [hyx] at h;cases h));unfold BoW.x;simp only [if_pos];rw [← e];rfl))
      obtain ⟨X,hX⟩:∃ X,((wr.alloc (Obj.cells #[Value.string y.label,Value.bool true,Value.bool true,Value.string x.label,Value.slice x.ua x.uses.length x.ucap,Value.slice x.da x.decls.length x.dcap,Value.string y.label,Value.slice y.ua y.uses.length y.ucap,Value.slice y.da y.decls.length y.dcap] 50)).alloc (Obj.cells #[Value.string y.label,Value.bool true,Value.bool true,Value.string x.label,Value.slice x.ua x.uses.length x.ucap,Value.slice x.da x.decls.length x.dcap,Value.string y.label,Value.slice y.ua y.uses.length y.ucap,Value.slice y.da y.decls.length y.dcap] 50)).drew.drew.drew.drew=X:=⟨_,rfl⟩
      have hbX:Below wr.heap.size wr X:=by rw [← hX];exact (((ba _ _).alloc (by simp) _)).drew.drew.drew.drew
      have hEX:X.heap[wr.heap.size+1]?=some (.cells #[Value.string y.label,Value.bool true,Value.bool true,Value.string x.label,Value.slice x.ua x.uses.length x.ucap,Value.slice x.da x.decls.length x.dcap,Value.string y.label,Value.slice y.ua y.uses.length y.ucap,Value.slice y.da y.decls.length y.dcap] 50 (0,0)):=by rw [← hX];show ((wr.alloc _).alloc _).heap[_]?=_;exact h_new (by simp) _
      have HHX:=lid hX
      have HBX:=lid (HI.out.b.trans (hbX.mono HI.out.b.size))
      have HEX:=lid hEX
      have hz3:w.heap.size≤X.heap.size:=Nat.le_trans hwz hbX.size
      have HOX:Hid (X.ownsRow w.heap.size 50 9 u5 k (bos P)):=lid (own_keep HI.out.own (fun g hg=>hbX.block g (HI.out.own.lt g hg).2))
      have hkN2:k+1≤N:=by have:=HI.out.few;omega
      clear hX hbX hEX
      have HTA:=lid (mla_tail HA.out)
      by_cases hqca:ca=1
      focus
       have dqca:(ca == 1)=true:=by simpa using hqca
       rw [if_pos hqca,show ca-1=0 by omega] at HTA
      rotate_left
      focus
       have dqca:(ca == 1)=false:=by simpa using hqca
       rw [if_neg hqca] at HTA
      rotate_left
      all_goals
       have HTB:=lid (mla_tail HB.out)
       by_cases hqcb:cb=1
       focus
        have dqcb:(cb == 1)=true:=by simpa using hqcb
        rw [if_pos hqcb,show cb-1=0 by omega] at HTB
       rotate_left
       focus
        have dqcb:(cb == 1)=false:=by simpa using hqcb
        rw [if_neg hqcb] at HTB
       rotate_left
       all_goals
        go_wp2_with fail
        refine qs (fun w'=>∃ s:Since wr.heap.size wr,w'=s.world) [(0,true),(1,true),(2,true),(3,true),(4,true),(5,true),(6,true),(7,true),(8,true),(9,true),(10,true),(11,true),(12,true),(13,true),(14,true),(15,true),(16,true),(17,true),(18,true),(19,true),(20,false)] (since (by first | exact (ba _ _).drew | exact (ba _ _).drew.drew | exact (ba _ _).drew.drew.drew | exact (ba _ _).drew.drew.drew.drew)) ?_
        repeat (first | (refine qk ?_;simp only [Act.put,q1,q2,q3]) | (refine qf ?_;intro K hK;go_big_quiet_op;go_big_quiet_on))
        refine qc ?_
        intro K hK
        go_wp2_with fail
        refine hK.out _ _ (since (by first | exact (ba _ _).drew | exact (ba _ _).drew.drew | exact (ba _ _).drew.drew.drew | exact (ba _ _).drew.drew.drew.drew)) ?_
        clear hK K
        repeat (first | (refine qk ?_;simp only [Act.put,q1,q2,q3]) | (refine qf ?_;intro K hK;go_big_quiet_op;go_big_quiet_on))
        refine seq_nil ?_
        go_wp2_with fail
        refine qs (fun w'=>∃ s:Since wr.heap.size wr,w'=s.world) [(0,true),(1,true),(2,true),(3,true),(4,true),(5,true),(6,true),(7,true),(8,true),(9,true),(10,true),(11,true),(12,true),(13,true),(14,true),(15,true),(16,true),(17,true),(18,true),(19,true),(20,false)] (since (by first | exact (ba _ _).drew | exact (ba _ _).drew.drew | exact (ba _ _).drew.drew.drew | exact (ba _ _).drew.drew.drew.drew)) ?_
        repeat (first | (refine qk ?_;simp only [Act.put,q1,q2,q3]) | (refine qf ?_;intro K hK;go_big_quiet_op;go_big_quiet_on))
        refine qc ?_
        intro K hK
        go_wp2_with fail
        refine hK.out _ _ (since (by first | exact (ba _ _).drew | exact (ba _ _).drew.drew | exact (ba _ _).drew.drew.drew | exact (ba _ _).drew.drew.drew.drew)) ?_
        clear hK K
        repeat (first | (refine qk ?_;simp only [Act.put,q1,q2,q3]) | (refine qf ?_;intro K hK;go_big_quiet_op;go_big_quiet_on))
        refine seq_nil ?_
        go_wp2_with fail
        refine qs (fun w'=>∃ s:Since wr.heap.size wr,w'=s.world) [(0,true),(1,true),(2,true),(3,true),(4,true),(5,true),(6,true),(7,true),(8,true),(9,true),(10,false),(11,true),(12,false),(13,false)] (since (by first | exact (ba _ _).drew | exact (ba _ _).drew.drew | exact (ba _ _).drew.drew.drew | exact (ba _ _).drew.drew.drew.drew)) ?_
        repeat (first | (refine qk ?_;simp only [Act.put,q1,q2,q3]) | (refine qf ?_;intro K hK;go_big_quiet_op;go_big_quiet_on))
        refine qc ?_
        intro K hK
        go_wp2_with fail
        refine hK.out _ _ (since (by first | exact (ba _ _).drew | exact (ba _ _).drew.drew | exact (ba _ _).drew.drew.drew | exact (ba _ _).drew.drew.drew.drew)) ?_
        clear hK K
        repeat (first | (refine qk ?_;simp only [Act.put,q1,q2,q3]) | (refine qf ?_;intro K hK;go_big_quiet_op;go_big_quiet_on))
        refine qc ?_
        intro K hK
        go_wp2_with fail
        refine hK.out _ _ (since (by first | exact (ba _ _).drew | exact (ba _ _).drew.drew | exact (ba _ _).drew.drew.drew | exact (ba _ _).drew.drew.drew.drew)) ?_
        clear hK K
        repeat (first | (refine qk ?_;simp only [Act.put,q1,q2,q3]) | (refine qf ?_;intro K hK;go_big_quiet_op;go_big_quiet_on))
        refine qc ?_
        intro K hK
        go_wp2_with fail
        refine hK.out _ _ (since (by first | exact (ba _ _).drew | exact (ba _ _).drew.drew | exact (ba _ _).drew.drew.drew | exact (ba _ _).drew.drew.drew.drew)) ?_
        clear hK K
        repeat (first | (refine qk ?_;simp only [Act.put,q1,q2,q3]) | (refine qf ?_;intro K hK;go_big_quiet_op;go_big_quiet_on))
        refine seq_nil ?_
        go_wp2_with fail
        refine qs (fun w'=>∃ s:Since wr.heap.size wr,w'=s.world) [(0,true),(1,true),(2,true),(3,true),(4,true),(5,true),(6,true),(7,true),(8,true),(9,true),(10,false),(11,true),(12,false),(13,false)] (since (by first | exact (ba _ _).drew | exact (ba _ _).drew.drew | exact (ba _ _).drew.drew.drew | exact (ba _ _).drew.drew.drew.drew)) ?_
        repeat (first | (refine qk ?_;simp only [Act.put,q1,q2,q3]) | (refine qf ?_;intro K hK;go_big_quiet_op;go_big_quiet_on))
        refine qc ?_
        intro K hK
        go_wp2_with fail
        refine hK.out _ _ (since (by first | exact (ba _ _).drew | exact (ba _ _).drew.drew | exact (ba _ _).drew.drew.drew | exact (ba _ _).drew.drew.drew.drew)) ?_
        clear hK K
        repeat (first | (refine qk ?_;simp only [Act.put,q1,q2,q3]) | (refine qf ?_;intro K hK;go_big_quiet_op;go_big_quiet_on))
        refine qc ?_
        intro K hK
        go_wp2_with fail
        refine hK.out _ _ (since (by first | exact (ba _ _).drew | exact (ba _ _).drew.drew | exact (ba _ _).drew.drew.drew | exact (ba _ _).drew.drew.drew.drew)) ?_
        clear hK K
        repeat (first | (refine qk ?_;simp only [Act.put,q1,q2,q3]) | (refine qf ?_;intro K hK;go_big_quiet_op;go_big_quiet_on))
        refine qc ?_
        intro K hK
        go_wp2_with fail
        refine hK.out _ _ (since (by first | exact (ba _ _).drew | exact (ba _ _).drew.drew | exact (ba _ _).drew.drew.drew | exact (ba _ _).drew.drew.drew.drew)) ?_
        clear hK K
        repeat (first | (refine qk ?_;simp only [Act.put,q1,q2,q3]) | (refine qf ?_;intro K hK;go_big_quiet_op;go_big_quiet_on))
        refine seq_nil ?_
        go_wp2_with (at_builtin;rw [HHX.out];go_must (refine wpList_append_sla rfl _ _ 47 rfl w.heap.size 50 (.agg #[.string ⟨#[]⟩,.bool false,.bool false,.string ⟨#[]⟩,.slice none 0 0,.slice none 0 0,.string ⟨#[]⟩,.slice none 0 0,.slice none 0 0]) 9 152 info_both Tryz.underlying47 rfl (by decide) u5 k (bos P) HOX.out rfl ⟨wr.heap.size+1,0,none⟩ 1 1 (boe ⟨y.label,true,true,x,y⟩) rfl (sl_row HEX.out rfl) (by simp [Value.oneCell']) (by simp only [maxLen];omega) (by omega) hz3 ?_))
        intro v9 w9 own9 hb9 hg9 hat9
        have HI9:Hid (PaI w w9 A0 B0 A B (n+m) (k+1) N v9 (P++[⟨y.label,true,true,x,y⟩])):=lid (HI.out.add HP.out HC.out (by omega) (fun _ h=>List.mem_cons_of_mem _ h) (fun _ h=>List.mem_cons_of_mem _ h) own9 (HBX.out.trans hb9))
        clear own9 hb9 hg9 hat9
        try simp only [Act.put,q1,q2,q3]
        go_wp2_with fail
        go_roundw
        case measure=>simp only [slN];omega
        case rel=>exact ⟨_,_,n,_,m,_,k+1,A,B,P++[_],rfl,rfl,by omega,by omega,HTA,HTB,HI9⟩
end Go.Proofs.YtgcceepadlmelaaGreatDoor
