import Derived.Test.YtgcceepadlmelaaGreatDoorQAK
namespace Go.Proofs.YtgcceepadlmelaaGreatDoor
set_option maxRecDepth 100000
set_option maxHeartbeats 16000000
open Go.RowKit
def slN:Value→Nat
 | .slice _ n _=>n
 | _=>0
theorem dla_tail {w:World} {b o n cap:Nat} {d:Dw} {A:List Dw} (h:DLA w (some ⟨b,o,none⟩) (n+1) cap (d::A)):DLA w (if cap=1 then some ⟨b,o,none⟩ else some ⟨b,o+11,none⟩) n (cap-1) A:=by
 have hl:=h.len
 have hs:=h.sl.drop (k:=1) (c:=cap) (by omega) h.le
 have hc:=h.le
 have hm:=h.max
 refine ⟨by simpa using hl,?_,by omega,by omega,fun x hx=>h.el x (List.mem_cons_of_mem _ hx),fun e=>by split at e <;> cases e⟩
 have e:(dcs (d::A)).drop (1*11)=dcs A:=by
  rw [show dcs (d::A)=dce d++dcs A from rfl]
  rfl
 rw [e,Option.map_some,Addr.add_lit] at hs
 exact hs
theorem dla_head {w W:World} {ao:Option Addr} {n cap:Nat} {d:Dw} {A:List Dw} (h:DLA w ao (n+1) cap (d::A)) (hb:Below w.heap.size w W):∃ b o,ao=some ⟨b,o,none⟩∧b<w.heap.size∧DwA W d∧∀ i u,(dce d)[i]?=some u→W.cell? ⟨b,o+i,none⟩=some u:=by
 obtain ⟨b,o,e,hbz,hc⟩:=h.sl.at_ (k:=0) (by omega)
 refine ⟨b,o,e,hbz,(h.el d (by simp)).below hb,fun i u hu=>?_⟩
 rw [bc hb hbz _]
 refine hc i u ?_
 rw [show dcs (d::A)=dce d++dcs A from rfl,List.getElem?_append_left (by obtain ⟨hi,_⟩:=List.getElem?_eq_some_iff.1 hu;exact hi)]
 exact hu
theorem dla_first {w:World} {ao:Option Addr} {n cap:Nat} {d:Dw} {A:List Dw} (h:DLA w ao (n+1) cap (d::A)):∃ b o,ao=some ⟨b,o,none⟩∧b<w.heap.size∧DwA w d∧∀ W,Below w.heap.size w W→∀ i u,(dce d)[i]?=some u→W.cell? ⟨b,o+i,none⟩=some u:=by
 obtain ⟨b,o,e,hbz,hc⟩:=h.sl.at_ (k:=0) (by omega)
 refine ⟨b,o,e,hbz,h.el d (by simp),fun W hb i u hu=>?_⟩
 rw [bc hb hbz _]
 refine hc i u ?_
 rw [show dcs (d::A)=dce d++dcs A from rfl,List.getElem?_append_left (by obtain ⟨hi,_⟩:=List.getElem?_eq_some_iff.1 hu;exact hi)]
 exact hu
theorem grown_at {w w':World} {g:Option Nat} {k:Nat} (h:w.grownBy w' g) (hk:k<w.heap.size) (hg:g≠some k):w'.heap[k]?=w.heap[k]?:=h.block k hk (fun e=>hg e.symm)
theorem dla_dx {w:World} {ao:Option Addr} {n cap:Nat} {A:List Dw} (h:DLA w ao (n+1) cap A):∃ d A',A=d::A':=by
 have:=h.len
 cases A with
 | nil=>simp at this
 | cons d A'=>exact ⟨d,A',rfl⟩
theorem dla_nil {w:World} {ao:Option Addr} {cap:Nat} {A:List Dw} (h:DLA w ao 0 cap A):A=[]:=List.eq_nil_of_length_eq_zero h.len
def SlAt (w0 V:World) (bad:Nat→Prop) (ao:Option Addr) (cap:Nat) (L:List Dw):Prop :=
 (ao=none∧L=[]∧cap=0)∨∃ g d,ao=some ⟨g,0,none⟩∧¬ bad g∧V.heap[g]?=some (.cells (dca d) 65 (0,0))∧L=[d]∧cap=1∧DwA w0 d
structure KAt (w0 V:World) (bad:Nat→Prop) (k:Kw):Prop where
 pack:k.pack.size≤maxLen
 text:k.text.size≤maxLen
 old:SlAt w0 V bad k.oa k.ocap k.old
 new:SlAt w0 V bad k.na k.ncap k.new
theorem SlAt.keep {w0 V W:World} {bad bad':Nat→Prop} {ao:Option Addr} {cap:Nat} {L:List Dw} (h:SlAt w0 V bad ao cap L) (hk:∀ g,g<V.heap.size→¬ bad g→¬ bad' g∧W.heap[g]?=V.heap[g]?):SlAt w0 W bad' ao cap L:=by
 rcases h with h | ⟨g,d,h1,h2,h3,h4⟩
 ·exact .inl h
 ·obtain ⟨h5,h6⟩:=hk g (row_lt h3) h2
  exact .inr ⟨g,d,h1,h5,h6.trans h3,h4⟩
theorem KAt.keep {w0 V W:World} {bad bad':Nat→Prop} {k:Kw} (h:KAt w0 V bad k) (hk:∀ g,g<V.heap.size→¬ bad g→¬ bad' g∧W.heap[g]?=V.heap[g]?):KAt w0 W bad' k:=⟨h.pack,h.text,h.old.keep hk,h.new.keep hk⟩
structure DeI (w0 w wr:World) (T R:List Kc) (f k N:Nat) (v:Value) (K:List Kw):Prop where
 cont:K.map Kw.x++R=T
 len:K.length=k
 few:k+f≤N
 own:wr.ownsRow w.heap.size 52 5 v k (kcs K)
 el:∀ x∈K,KAt w0 wr (fun g=>g<w.heap.size∨v.ownBlock=some g) x
 b:Below w.heap.size w wr
 b0:Below w0.heap.size w0 wr
theorem DeI.below {w0 w wr w':World} {T R:List Kc} {f k N:Nat} {v:Value} {K:List Kw} (h:DeI w0 w wr T R f k N v K) (hb:Below wr.heap.size wr w'):DeI w0 w w' T R f k N v K :=
 ⟨h.cont,h.len,h.few,own_keep h.own (fun g hg=>hb.block g (h.own.lt g hg).2),fun x hx=>(h.el x hx).keep (fun g hg hbad=>⟨hbad,hb.block g hg⟩),h.b.trans (hb.mono h.b.size),h.b0.trans (hb.mono h.b0.size)⟩
theorem DeI.to {w0 w wr:World} {T R R':List Kc} {f f' k N:Nat} {v:Value} {K:List Kw} (h:DeI w0 w wr T R f k N v K) (e:R=R') (hf:f'≤f):DeI w0 w wr T R' f' k N v K :=
 ⟨by rw [← e];exact h.cont,h.len,by have:=h.few;omega,h.own,h.el,h.b,h.b0⟩
theorem dla_one {w:World} {R:Nat} {d:Dw} {us:Array Value} (h:w.heap[R]?=some (.cells us 65 (0,0))) (hu:us=dca d) (hm:DwA w d):DLA w (some ⟨R,0,none⟩) 1 1 [d]:=by
 subst hu
 exact ⟨rfl,by have:=sl_row (size:=11) (n:=1) h rfl;exact this,Nat.le_refl _,by simp [maxLen],fun x hx=>by rw [List.mem_singleton.1 hx];exact hm,fun e=>by cases e⟩
theorem DeI.add {w0 w wr X w9:World} {T R R':List Kc} {f f' k N:Nat} {v v9:Value} {K:List Kw} {k0:Kw} (h:DeI w0 w wr T R f k N v K) (hX:Below wr.heap.size wr X) (hk:KAt w0 X (fun g=>g<w.heap.size∨v.ownBlock=some g) k0)
  (hc:R=k0.x::R') (hf:f'+1≤f) (hw:w0.heap.size≤w.heap.size) (own9:w9.ownsRow w.heap.size 52 5 v9 (k+1) (kcs K++kce k0)) (hb9:Below w.heap.size X w9) (hg9:X.grownBy w9 v.ownBlock) (hat:v9.ownBlock=v.ownBlock∨v9.ownBlock=some X.heap.size):DeI w0 w w9 T R' f' (k+1) N v9 (K++[k0]):=by
 have hkg:∀ g,g<X.heap.size→¬ (g<w.heap.size∨v.ownBlock=some g)→¬ (g<w.heap.size∨v9.ownBlock=some g)∧w9.heap[g]?=X.heap[g]?:=fun g hg hbad=>by
  refine ⟨fun e=>?_,grown_at hg9 hg (fun e=>hbad (.inr e))⟩
  rcases e with e | e
  ·exact hbad (.inl e)
  ·rcases hat with h | h
   ·exact hbad (.inr (h.symm.trans e))
   ·rw [h] at e
    injection e with e
    omega
 refine ⟨?_,by rw [List.length_append,h.len];rfl,by have:=h.few;omega,?_,fun x hx=>?_,(h.b.trans (hX.mono h.b.size)).trans hb9,(h.b0.trans (hX.mono h.b0.size)).trans (hb9.mono hw)⟩
 ·rw [← h.cont,hc,List.map_append,List.append_assoc]
  rfl
 ·rw [kcs_append]
  simpa [kcs] using own9
 ·rcases List.mem_append.1 hx with hx | hx
  ·exact ((h.el x hx).keep (fun g hg hbad=>⟨hbad,hX.block g hg⟩)).keep hkg
  ·rw [List.mem_singleton.1 hx];exact hk.keep hkg
noncomputable def restP (lab:ByteArray) (x y:Dx):Nat→List Kc
 | 0=>partKs lab x y 7++partKs lab x y 8++partKs lab x y 9
 | 1=>partKs lab x y 8++partKs lab x y 9
 | 2=>partKs lab x y 9
 | _=>[]
theorem restP_next (lab:ByteArray) (x y:Dx) {j:Nat} (hj:j<3):restP lab x y j=partKs lab x y (7+(j:Int))++restP lab x y (j+1):=by
 match j,hj with
 | 0,_=>simp [restP]
 | 1,_=>simp [restP]
 | 2,_=>simp [restP]
theorem partKs_eq (lab:ByteArray) {x y:Dx} {k:Int} (h:menX k x=menX k y):partKs lab x y k=[]:=if_pos h
theorem partKs_ne (lab:ByteArray) {x y:Dx} {k:Int} (h:menX k x≠menX k y):partKs lab x y k=[⟨k,lab,⟨#[]⟩,[menX k x],[menX k y]⟩]:=if_neg h
abbrev zdA:Array Value:=#[.int .i64 0,.int .i64 0,.bool false,.slice none 0 0,.bool false,.int .i64 0,.string ⟨#[]⟩,.string ⟨#[]⟩,.int .i64 0,.int .i64 0,.slice none 0 0]
def Fk2 (w0:World) (a b:Dw) (s:Nat→Bool) (vs:List Value) (w:World):Prop :=
 ∃ x y p q,vs=[x,y,p,q]∧Below w0.heap.size w0 w∧(s 4=true→x=.agg (dca a))∧(s 9=true→y=.agg (dca b)) ∧
  (s 10=true→∃ g,p=.pointer (some ⟨g,0,none⟩)∧w0.heap.size≤g∧w.heap[g]?=some (.cells zdA 65 (0,0))) ∧
  (s 11=true→∃ g,q=.pointer (some ⟨g,0,none⟩)∧w0.heap.size≤g∧w.heap[g]?=some (.cells zdA 65 (0,0)))∧(s 10=true→s 11=true→p≠q)
theorem Fk2.call4 {w0 w w':World} {a b:Dw} {s:Nat→Bool} {x y p q:Value} (h:Fk2 w0 a b s [x,y,p,q] w) (hb:Below w.heap.size w w'):Fk2 w0 a b (upd s 4) [.agg (dca a),y,p,q] w':=by
 obtain ⟨_,_,_,_,e,h1,h2,h3,h4,h5,h6⟩:=h
 cases e
 refine ⟨_,_,_,_,rfl,h1.trans (hb.mono h1.size),fun _=>rfl,fun e=>h3 (by simpa [upd] using e),fun e=>?_,fun e=>?_,fun e1 e2=>h6 (by simpa [upd] using e1) (by simpa [upd] using e2)⟩
 ·obtain ⟨g,e,hg,hr⟩:=h4 (by simpa [upd] using e)
  exact ⟨g,e,hg,(hb.block _ (row_lt hr)).trans hr⟩
 ·obtain ⟨g,e,hg,hr⟩:=h5 (by simpa [upd] using e)
  exact ⟨g,e,hg,(hb.block _ (row_lt hr)).trans hr⟩
theorem Fk2.call9 {w0 w w':World} {a b:Dw} {s:Nat→Bool} {x y p q:Value} (h:Fk2 w0 a b s [x,y,p,q] w) (hb:Below w.heap.size w w'):Fk2 w0 a b (upd s 9) [x,.agg (dca b),p,q] w':=by
 obtain ⟨_,_,_,_,e,h1,h2,h3,h4,h5,h6⟩:=h
 cases e
 refine ⟨_,_,_,_,rfl,h1.trans (hb.mono h1.size),fun e=>h2 (by simpa [upd] using e),fun _=>rfl,fun e=>?_,fun e=>?_,fun e1 e2=>h6 (by simpa [upd] using e1) (by simpa [upd] using e2)⟩
 ·obtain ⟨g,e,hg,hr⟩:=h4 (by simpa [upd] using e)
  exact ⟨g,e,hg,(hb.block _ (row_lt hr)).trans hr⟩
 ·obtain ⟨g,e,hg,hr⟩:=h5 (by simpa [upd] using e)
  exact ⟨g,e,hg,(hb.block _ (row_lt hr)).trans hr⟩
theorem ptr_ne {g k:Nat} (h:g≠k):Value.pointer (some ⟨g,0,none⟩)≠Value.pointer (some ⟨k,0,none⟩):=fun e=>by injection e with e;injection e with e;injection e with e;exact h e
theorem Fk2.new10 {w0 w:World} {a b:Dw} {s:Nat→Bool} {x y p q:Value} (h:Fk2 w0 a b s [x,y,p,q] w):Fk2 w0 a b (upd s 10) [x,y,.pointer (some ⟨w.heap.size,0,none⟩),q] (w.alloc (.cells zdA 65)):=by
 obtain ⟨_,_,_,_,e,h1,h2,h3,h4,h5,h6⟩:=h
 cases e
 refine ⟨_,_,_,_,rfl,h1.alloc h1.size _,fun e=>h2 (by simpa [upd] using e),fun e=>h3 (by simpa [upd] using e),fun _=>⟨_,rfl,h1.size,h_new rfl _⟩,fun e=>?_,fun _ e2=>?_⟩
 ·obtain ⟨g,e,hg,hr⟩:=h5 (by simpa [upd] using e)
  exact ⟨g,e,hg,(h_old (row_lt hr) _).trans hr⟩
 ·obtain ⟨g,rfl,hg,hr⟩:=h5 (by simpa [upd] using e2)
  exact ptr_ne (by have:=row_lt hr;omega)
theorem Fk2.new11 {w0 w:World} {a b:Dw} {s:Nat→Bool} {x y p q:Value} (h:Fk2 w0 a b s [x,y,p,q] w):Fk2 w0 a b (upd s 11) [x,y,p,.pointer (some ⟨w.heap.size,0,none⟩)] (w.alloc (.cells zdA 65)):=by
 obtain ⟨_,_,_,_,e,h1,h2,h3,h4,h5,h6⟩:=h
 cases e
 refine ⟨_,_,_,_,rfl,h1.alloc h1.size _,fun e=>h2 (by simpa [upd] using e),fun e=>h3 (by simpa [upd] using e),fun e=>?_,fun _=>⟨_,rfl,h1.size,h_new rfl _⟩,fun e2 _=>?_⟩
 ·obtain ⟨g,e,hg,hr⟩:=h4 (by simpa [upd] using e)
  exact ⟨g,e,hg,(h_old (row_lt hr) _).trans hr⟩
 ·obtain ⟨g,rfl,hg,hr⟩:=h4 (by simpa [upd] using e2)
  exact ptr_ne (by have:=row_lt hr;omega)
theorem declEdits_any (lab:ByteArray) (hlab:lab.size≤maxLen) (ao bo:Option Addr) (n ca m cb:Nat) (A B:List Dw) (w0 w:World) (hw0:Below w0.heap.size w0 w) (ha:DLA w0 ao n ca A) (hb:DLA w0 bo m cb B) (hn:n≤1000) (hm:m≤1000) (hca:∀ d∈A,cntE d.body≤1000) :
  Calls Tryz.prog 19 #[.string lab,.slice ao n ca,.slice bo m cb] w fun r w'=>∃ (v:Value) (K:List Kw),r=.returned v∧K.map Kw.x=declKs lab (A.map Dw.x) (B.map Dw.x)∧w'.ownsRow w.heap.size 52 5 v K.length (kcs K)∧(∀ x∈K,KAt w0 w' (fun g=>g<w.heap.size∨v.ownBlock=some g) x)∧K.length≤3*(n+m)∧Below w.heap.size w w':=by
 obtain ⟨T,hT⟩:∃ T,declKs lab (A.map Dw.x) (B.map Dw.x)=T:=⟨_,rfl⟩
 obtain ⟨N,hN⟩:∃ N,3*(n+m)=N:=⟨_,rfl⟩
 have hN6:N≤6000:=by omega
 rw [hT,hN]
 have HI0:Hid (DeI w0 w w T (declKs lab (A.map Dw.x) (B.map Dw.x)) (3*(n+m)) 0 N (.slice none 0 0) []):=lid ⟨by rw [hT];rfl,rfl,by omega,World.ownsRow_nil _ _ _ _,(fun _ h=>by cases h),Below.refl _ _,hw0⟩
 have HA0:=lid ha
 have HB0:=lid hb
 have HCA:=lid hca
 have HLB:=lid hlab
 have hwb:w0.heap.size≤w.heap.size:=hw0.size
 clear hT hN hca hlab hw0
 go_enter Tryz.func19,Tryz.ntmps19
 go_wp2_with fail
 go_loopw [1,2,7] (fun v1 v2 v7 wr=>∃ (ao bo:Option Addr) (n ca m cb k:Nat) (A B:List Dw) (K:List Kw),v1=.slice ao n ca∧v2=.slice bo m cb∧n≤1000∧m≤1000∧Hid (DLA w0 ao n ca A)∧Hid (DLA w0 bo m cb B)∧Hid (∀ d∈A,cntE d.body≤1000)∧Hid (DeI w0 w wr T (declKs lab (A.map Dw.x) (B.map Dw.x)) (3*(n+m)) k N v7 K)) (fun v1 v2 _ _=>slN v1+slN v2)
 case atStart=>exact ⟨ao,bo,n,ca,m,cb,0,A,B,[],rfl,rfl,hn,hm,HA0,HB0,HCA,HI0⟩
 case round =>
  clear HA0 HB0 HCA HI0 ha hb hn hm
  clear ao bo n ca m cb A B
  obtain ⟨ao,bo,n,ca,m,cb,k,A,B,K,rfl,rfl,hn,hm,HA,HB,HCA,HI⟩:=hrel
  have hca63:ca≤9223372036854775807:=HA.out.max
  have hcb63:cb≤9223372036854775807:=HB.out.max
  have hnca:n≤ca:=HA.out.le
  have hmcb:m≤cb:=HB.out.le
  have hkN:k≤N:=by have:=HI.out.few;omega
  have hwz:w.heap.size≤wr.heap.size:=HI.out.b.size
  cases n with
  | zero =>
   obtain rfl:=dla_nil HA.out
   cases m with
   | zero =>
    obtain rfl:=dla_nil HB.out
    go_wp2_with fail
    go_ret
    refine ⟨_,K,rfl,?_,by rw [HI.out.len];exact HI.out.own,HI.out.el,by rw [HI.out.len];exact hkN,HI.out.b⟩
    have:=HI.out.cont
    rwa [show declKs lab (([]:List Dw).map Dw.x) (([]:List Dw).map Dw.x)=[] from declKs_nil lab,List.append_nil] at this
   | succ m =>
    obtain ⟨y,B,rfl⟩:=dla_dx HB.out
    obtain ⟨b2,o2,rfl,hbzy,hdwy,hcy⟩:=dla_head HB.out HI.out.b0
    have y0:wr.cell? ⟨b2,o2,none⟩=some (.int .i64 y.id):=hcy 0 _ rfl
    have y1:wr.cell? ⟨b2,o2+1,none⟩=some (.int .i64 y.kind):=hcy 1 _ rfl
    have y2:wr.cell? ⟨b2,o2+2,none⟩=some (.bool y.pub):=hcy 2 _ rfl
    have y3:wr.cell? ⟨b2,o2+3,none⟩=some (.slice y.na y.names.length y.ncap):=hcy 3 _ rfl
    have y4:wr.cell? ⟨b2,o2+4,none⟩=some (.bool y.doubt):=hcy 4 _ rfl
    have y5:wr.cell? ⟨b2,o2+5,none⟩=some (.int .i64 y.body.kind):=hcy 5 _ rfl
    have y6:wr.cell? ⟨b2,o2+6,none⟩=some (.string y.body.name):=hcy 6 _ rfl
    have y7:wr.cell? ⟨b2,o2+7,none⟩=some (.string y.body.more):=hcy 7 _ rfl
    have y8:wr.cell? ⟨b2,o2+8,none⟩=some (.int .i64 y.body.int):=hcy 8 _ rfl
    have y9:wr.cell? ⟨b2,o2+9,none⟩=some (.int .i64 y.body.den):=hcy 9 _ rfl
    have y10:wr.cell? ⟨b2,o2+10,none⟩=some (.slice y.body.ao y.body.sub.length y.body.cap):=hcy 10 _ rfl
    have hlzy:b2<wr.heap.size:=Nat.lt_of_lt_of_le hbzy HI.out.b0.size
    have HDy:=lid hdwy
    clear hcy hdwy
    have HD0y:Hid (DwA w0 y):=lid (HB.out.el y (by simp))
    obtain ⟨X,hX⟩:∃ X,((wr.alloc (Obj.cells #[.int .i64 y.id,.int .i64 y.kind,.bool y.pub,.slice y.na y.names.length y.ncap,.bool y.doubt,.int .i64 y.body.kind,.string y.body.name,.string y.body.more,.int .i64 y.body.int,.int .i64 y.body.den,.slice y.body.ao y.body.sub.length y.body.cap] 65)).alloc (Obj.cells #[.int .i64 5,.string lab,.string ⟨#[]⟩,.slice none 0 0,.slice (some ⟨wr.heap.size,0,none⟩) 1 1] 52)).drew.drew=X:=⟨_,rfl⟩
    have hbX:Below wr.heap.size wr X:=by rw [← hX];exact (((Below.refl _ _).alloc (Nat.le_refl _) _).alloc (by simp) _).drew.drew
    have hEX:X.heap[wr.heap.size+1]?=some (.cells #[.int .i64 5,.string lab,.string ⟨#[]⟩,.slice none 0 0,.slice (some ⟨wr.heap.size,0,none⟩) 1 1] 52 (0,0)):=by rw [← hX];show ((wr.alloc _).alloc _).heap[_]?=_;exact h_new (by simp) _
    have hDX:X.heap[wr.heap.size]?=some (.cells #[.int .i64 y.id,.int .i64 y.kind,.bool y.pub,.slice y.na y.names.length y.ncap,.bool y.doubt,.int .i64 y.body.kind,.string y.body.name,.string y.body.more,.int .i64 y.body.int,.int .i64 y.body.den,.slice y.body.ao y.body.sub.length y.body.cap] 65 (0,0)):=by rw [← hX];show ((wr.alloc _).alloc _).heap[_]?=_;exact (h_old (by simp) _).trans (h_new (by simp) _)
    have HHX:=lid hX
    have HBX:=lid hbX
    have HEX:=lid hEX
    have hne:u7.ownBlock≠some wr.heap.size:=fun e=>by have:=(HI.out.own.lt _ e).2;omega
    have HKA:Hid (KAt w0 X (fun g=>g<w.heap.size∨u7.ownBlock=some g) ⟨5,lab,⟨#[]⟩,none,[],0,some ⟨wr.heap.size,0,none⟩,[y],1⟩):=lid (by
     refine ⟨HLB.out,Nat.zero_le _,?_,?_⟩
     ·exact .inl ⟨rfl,rfl,rfl⟩
     ·exact .inr ⟨_,_,rfl,(fun e=>e.elim (fun e=>by omega) hne),hDX,rfl,rfl,HD0y.out⟩)
    have hz3:w.heap.size≤X.heap.size:=Nat.le_trans hwz hbX.size
    have HOX:Hid (X.ownsRow w.heap.size 52 5 u7 k (kcs K)):=lid (own_keep HI.out.own (fun g hg=>hbX.block g (HI.out.own.lt g hg).2))
    clear hX hbX hEX hDX hne
    go_wp2_with fail
    refine qd (fun w'=>∃ s:Since wr.heap.size wr,w'=s.world) [(0,true),(1,true),(2,true),(3,true),(4,true),(5,true),(6,true),(7,true),(8,true),(9,true),(10,true),(11,true),(12,true),(13,true),(14,true),(15,true),(16,true),(17,true),(18,true),(19,false)] ?_
    repeat (first | (refine qk ?_;simp only [Act.put,q1,q2,q3]) | (refine qf ?_;intro K hK;go_big_quiet_op;go_big_quiet_on))
    refine qc ?_
    intro K hK
    go_wp2_with fail
    refine hK.out _ _ (since (Below.refl _ _).drew) ?_
    clear hK K
    repeat (first | (refine qk ?_;simp only [Act.put,q1,q2,q3]) | (refine qf ?_;intro K hK;go_big_quiet_op;go_big_quiet_on))
    refine seq_nil ?_
    go_wp2_with fail
    refine qd (fun w'=>∃ s:Since wr.heap.size wr.drew,w'=s.world) [(0,true),(1,true),(2,true),(3,true),(4,true),(5,true),(6,true),(7,true),(8,true),(9,true),(10,true),(11,true),(12,true),(13,true),(14,false)] ?_
    repeat (first | (refine qk ?_;simp only [Act.put,q1,q2,q3]) | (refine qf ?_;intro K hK;go_big_quiet_op;go_big_quiet_on))
    refine qc ?_
    intro K hK
    go_wp2_with fail
    refine hK.out _ _ (since (Below.refl _ _).drew) ?_
    clear hK K
    repeat (first | (refine qk ?_;simp only [Act.put,q1,q2,q3]) | (refine qf ?_;intro K hK;go_big_quiet_op;go_big_quiet_on))
    refine seq_nil ?_
    go_wp2_with (at_builtin;rw [HHX.out];go_must (refine wpList_append_sla rfl _ _ 26 rfl w.heap.size 52 (.agg #[.int .i64 0,.string ⟨#[]⟩,.string ⟨#[]⟩,.slice none 0 0,.slice none 0 0]) 5 88 info_edit Tryz.underlying26 rfl (by decide) u7 k (kcs K) HOX.out rfl ⟨wr.heap.size+1,0,none⟩ 1 1 (kca ⟨5,lab,⟨#[]⟩,none,[],0,some ⟨wr.heap.size,0,none⟩,[y],1⟩).toList rfl (sl_row HEX.out rfl) (by simp [Value.oneCell']) (by simp only [maxLen];omega) (by omega) hz3 ?_))
    intro v9 w9 own9 hb9 hg9 hat9
    have HI9:=lid (HI.out.add (f':=3*(0+m)) (R':=declKs lab (([]).map Dw.x) ((B).map Dw.x)) HBX.out HKA.out (by exact declKs_add0 lab _ _) (by omega) hwb own9 hb9 hg9 hat9)
    clear own9 hb9 hg9 hat9
    try simp only [Act.put,q1,q2,q3]
    by_cases hc1:cb=1
    ·have d9:(cb == 1)=true:=by simpa using hc1
     have HT:=lid (dla_tail HB.out)
     rw [if_pos hc1,show cb-1=0 by omega] at HT
     go_wp2_with fail
     go_roundw
     case measure=>simp only [slN];omega
     case rel=>exact ⟨_,_,0,ca,m,_,k+1,[],B,K++[_],rfl,rfl,by omega,by omega,HA,HT,HCA,HI9⟩
    ·have d9:(cb == 1)=false:=by simpa using hc1
     have HT:=lid (dla_tail HB.out)
     rw [if_neg hc1] at HT
     go_wp2_with fail
     go_roundw
     case measure=>simp only [slN];omega
     case rel=>exact ⟨_,_,0,ca,m,_,k+1,[],B,K++[_],rfl,rfl,by omega,by omega,HA,HT,HCA,HI9⟩
  | succ n =>
   obtain ⟨x,A,rfl⟩:=dla_dx HA.out
   cases m with
   | zero =>
    obtain rfl:=dla_nil HB.out
    obtain ⟨b1,o1,rfl,hbzx,hdwx,hcx⟩:=dla_head HA.out HI.out.b0
    have x0:wr.cell? ⟨b1,o1,none⟩=some (.int .i64 x.id):=hcx 0 _ rfl
    have x1:wr.cell? ⟨b1,o1+1,none⟩=some (.int .i64 x.kind):=hcx 1 _ rfl
    have x2:wr.cell? ⟨b1,o1+2,none⟩=some (.bool x.pub):=hcx 2 _ rfl
    have x3:wr.cell? ⟨b1,o1+3,none⟩=some (.slice x.na x.names.length x.ncap):=hcx 3 _ rfl
    have x4:wr.cell? ⟨b1,o1+4,none⟩=some (.bool x.doubt):=hcx 4 _ rfl
    have x5:wr.cell? ⟨b1,o1+5,none⟩=some (.int .i64 x.body.kind):=hcx 5 _ rfl
    have x6:wr.cell? ⟨b1,o1+6,none⟩=some (.string x.body.name):=hcx 6 _ rfl
    have x7:wr.cell? ⟨b1,o1+7,none⟩=some (.string x.body.more):=hcx 7 _ rfl
    have x8:wr.cell? ⟨b1,o1+8,none⟩=some (.int .i64 x.body.int):=hcx 8 _ rfl
    have x9:wr.cell? ⟨b1,o1+9,none⟩=some (.int .i64 x.body.den):=hcx 9 _ rfl
    have x10:wr.cell? ⟨b1,o1+10,none⟩=some (.slice x.body.ao x.body.sub.length x.body.cap):=hcx 10 _ rfl
    have hlzx:b1<wr.heap.size:=Nat.lt_of_lt_of_le hbzx HI.out.b0.size
    have HDx:=lid hdwx
    clear hcx hdwx
    have HD0x:Hid (DwA w0 x):=lid (HA.out.el x (by simp))
    obtain ⟨X,hX⟩:∃ X,((wr.alloc (Obj.cells #[.int .i64 x.id,.int .i64 x.kind,.bool x.pub,.slice x.na x.names.length x.ncap,.bool x.doubt,.int .i64 x.body.kind,.string x.body.name,.string x.body.more,.int .i64 x.body.int,.int .i64 x.body.den,.slice x.body.ao x.body.sub.length x.body.cap] 65)).alloc (Obj.cells #[.int .i64 6,.string lab,.string ⟨#[]⟩,.slice (some ⟨wr.heap.size,0,none⟩) 1 1,.slice none 0 0] 52)).drew=X:=⟨_,rfl⟩
    have hbX:Below wr.heap.size wr X:=by rw [← hX];exact (((Below.refl _ _).alloc (Nat.le_refl _) _).alloc (by simp) _).drew
    have hEX:X.heap[wr.heap.size+1]?=some (.cells #[.int .i64 6,.string lab,.string ⟨#[]⟩,.slice (some ⟨wr.heap.size,0,none⟩) 1 1,.slice none 0 0] 52 (0,0)):=by rw [← hX];show ((wr.alloc _).alloc _).heap[_]?=_;exact h_new (by simp) _
    have hDX:X.heap[wr.heap.size]?=some (.cells #[.int .i64 x.id,.int .i64 x.kind,.bool x.pub,.slice x.na x.names.length x.ncap,.bool x.doubt,.int .i64 x.body.kind,.string x.body.name,.string x.body.more,.int .i64 x.body.int,.int .i64 x.body.den,.slice x.body.ao x.body.sub.length x.body.cap] 65 (0,0)):=by rw [← hX];show ((wr.alloc _).alloc _).heap[_]?=_;exact (h_old (by simp) _).trans (h_new (by simp) _)
    have HHX:=lid hX
    have HBX:=lid hbX
    have HEX:=lid hEX
    have hne:u7.ownBlock≠some wr.heap.size:=fun e=>by have:=(HI.out.own.lt _ e).2;omega
    have HKA:Hid (KAt w0 X (fun g=>g<w.heap.size∨u7.ownBlock=some g) ⟨6,lab,⟨#[]⟩,some ⟨wr.heap.size,0,none⟩,[x],1,none,[],0⟩):=lid (by
     refine ⟨HLB.out,Nat.zero_le _,?_,?_⟩
     ·exact .inr ⟨_,_,rfl,(fun e=>e.elim (fun e=>by omega) hne),hDX,rfl,rfl,HD0x.out⟩
     ·exact .inl ⟨rfl,rfl,rfl⟩)
    have hz3:w.heap.size≤X.heap.size:=Nat.le_trans hwz hbX.size
    have HOX:Hid (X.ownsRow w.heap.size 52 5 u7 k (kcs K)):=lid (own_keep HI.out.own (fun g hg=>hbX.block g (HI.out.own.lt g hg).2))
    clear hX hbX hEX hDX hne
    go_wp2_with fail
    refine qd (fun w'=>∃ s:Since wr.heap.size wr,w'=s.world) [(0,true),(1,true),(2,true),(3,true),(4,true),(5,true),(6,true),(7,true),(8,true),(9,true),(10,true),(11,true),(12,true),(13,true),(14,true),(15,true),(16,true),(17,true),(18,true),(19,false)] ?_
    repeat (first | (refine qk ?_;simp only [Act.put,q1,q2,q3]) | (refine qf ?_;intro K hK;go_big_quiet_op;go_big_quiet_on))
    refine qc ?_
    intro K hK
    go_wp2_with fail
    refine hK.out _ _ (since (Below.refl _ _).drew) ?_
    clear hK K
    repeat (first | (refine qk ?_;simp only [Act.put,q1,q2,q3]) | (refine qf ?_;intro K hK;go_big_quiet_op;go_big_quiet_on))
    refine seq_nil ?_
    go_wp2_with (at_builtin;rw [HHX.out];go_must (refine wpList_append_sla rfl _ _ 26 rfl w.heap.size 52 (.agg #[.int .i64 0,.string ⟨#[]⟩,.string ⟨#[]⟩,.slice none 0 0,.slice none 0 0]) 5 88 info_edit Tryz.underlying26 rfl (by decide) u7 k (kcs K) HOX.out rfl ⟨wr.heap.size+1,0,none⟩ 1 1 (kca ⟨6,lab,⟨#[]⟩,some ⟨wr.heap.size,0,none⟩,[x],1,none,[],0⟩).toList rfl (sl_row HEX.out rfl) (by simp [Value.oneCell']) (by simp only [maxLen];omega) (by omega) hz3 ?_))
    intro v9 w9 own9 hb9 hg9 hat9
    have HI9:=lid (HI.out.add (f':=3*(n+0)) (R':=declKs lab ((A).map Dw.x) (([]).map Dw.x)) HBX.out HKA.out (by exact declKs_rem0 lab _ _) (by omega) hwb own9 hb9 hg9 hat9)
    clear own9 hb9 hg9 hat9
    try simp only [Act.put,q1,q2,q3]
    by_cases hc1:ca=1
    ·have d9:(ca == 1)=true:=by simpa using hc1
     have HT:=lid (dla_tail HA.out)
     rw [if_pos hc1,show ca-1=0 by omega] at HT
     go_wp2_with fail
     go_roundw
     case measure=>simp only [slN];omega
     case rel=>exact ⟨_,_,n,_,0,cb,k+1,A,[],K++[_],rfl,rfl,by omega,by omega,HT,HB,lid (fun d hd=>HCA.out d (List.mem_cons_of_mem _ hd)),HI9⟩
    ·have d9:(ca == 1)=false:=by simpa using hc1
     have HT:=lid (dla_tail HA.out)
     rw [if_neg hc1] at HT
     go_wp2_with fail
     go_roundw
     case measure=>simp only [slN];omega
     case rel=>exact ⟨_,_,n,_,0,cb,k+1,A,[],K++[_],rfl,rfl,by omega,by omega,HT,HB,lid (fun d hd=>HCA.out d (List.mem_cons_of_mem _ hd)),HI9⟩
   | succ m =>
    obtain ⟨y,B,rfl⟩:=dla_dx HB.out
    by_cases hlt:x.id<y.id
    ·have d1:decide (x.id<y.id)=true:=by simpa using hlt
     obtain ⟨b1,o1,rfl,hbzx,hdwx,hcx⟩:=dla_head HA.out HI.out.b0
     have x0:wr.cell? ⟨b1,o1,none⟩=some (.int .i64 x.id):=hcx 0 _ rfl
     have x1:wr.cell? ⟨b1,o1+1,none⟩=some (.int .i64 x.kind):=hcx 1 _ rfl
     have x2:wr.cell? ⟨b1,o1+2,none⟩=some (.bool x.pub):=hcx 2 _ rfl
     have x3:wr.cell? ⟨b1,o1+3,none⟩=some (.slice x.na x.names.length x.ncap):=hcx 3 _ rfl
     have x4:wr.cell? ⟨b1,o1+4,none⟩=some (.bool x.doubt):=hcx 4 _ rfl
     have x5:wr.cell? ⟨b1,o1+5,none⟩=some (.int .i64 x.body.kind):=hcx 5 _ rfl
     have x6:wr.cell? ⟨b1,o1+6,none⟩=some (.string x.body.name):=hcx 6 _ rfl
     have x7:wr.cell? ⟨b1,o1+7,none⟩=some (.string x.body.more):=hcx 7 _ rfl
     have x8:wr.cell? ⟨b1,o1+8,none⟩=some (.int .i64 x.body.int):=hcx 8 _ rfl
     have x9:wr.cell? ⟨b1,o1+9,none⟩=some (.int .i64 x.body.den):=hcx 9 _ rfl
     have x10:wr.cell? ⟨b1,o1+10,none⟩=some (.slice x.body.ao x.body.sub.length x.body.cap):=hcx 10 _ rfl
     have hlzx:b1<wr.heap.size:=Nat.lt_of_lt_of_le hbzx HI.out.b0.size
     have HDx:=lid hdwx
     clear hcx hdwx
     obtain ⟨b2,o2,rfl,hbzy,hdwy,hcy⟩:=dla_head HB.out HI.out.b0
     have y0:wr.cell? ⟨b2,o2,none⟩=some (.int .i64 y.id):=hcy 0 _ rfl
     have hlzy:b2<wr.heap.size:=Nat.lt_of_lt_of_le hbzy HI.out.b0.size
     have HDy:=lid hdwy
     clear hcy hdwy
     have HD0x:Hid (DwA w0 x):=lid (HA.out.el x (by simp))
     obtain ⟨X,hX⟩:∃ X,((wr.alloc (Obj.cells #[.int .i64 x.id,.int .i64 x.kind,.bool x.pub,.slice x.na x.names.length x.ncap,.bool x.doubt,.int .i64 x.body.kind,.string x.body.name,.string x.body.more,.int .i64 x.body.int,.int .i64 x.body.den,.slice x.body.ao x.body.sub.length x.body.cap] 65)).alloc (Obj.cells #[.int .i64 6,.string lab,.string ⟨#[]⟩,.slice (some ⟨wr.heap.size,0,none⟩) 1 1,.slice none 0 0] 52)).drew=X:=⟨_,rfl⟩
     have hbX:Below wr.heap.size wr X:=by rw [← hX];exact (((Below.refl _ _).alloc (Nat.le_refl _) _).alloc (by simp) _).drew
     have hEX:X.heap[wr.heap.size+1]?=some (.cells #[.int .i64 6,.string lab,.string ⟨#[]⟩,.slice (some ⟨wr.heap.size,0,none⟩) 1 1,.slice none 0 0] 52 (0,0)):=by rw [← hX];show ((wr.alloc _).alloc _).heap[_]?=_;exact h_new (by simp) _
     have hDX:X.heap[wr.heap.size]?=some (.cells #[.int .i64 x.id,.int .i64 x.kind,.bool x.pub,.slice x.na x.names.length x.ncap,.bool x.doubt,.int .i64 x.body.kind,.string x.body.name,.string x.body.more,.int .i64 x.body.int,.int .i64 x.body.den,.slice x.body.ao x.body.sub.length x.body.cap] 65 (0,0)):=by rw [← hX];show ((wr.alloc _).alloc _).heap[_]?=_;exact (h_old (by simp) _).trans (h_new (by simp) _)
     have HHX:=lid hX
     have HBX:=lid hbX
     have HEX:=lid hEX
     have hne:u7.ownBlock≠some wr.heap.size:=fun e=>by have:=(HI.out.own.lt _ e).2;omega
     have HKA:Hid (KAt w0 X (fun g=>g<w.heap.size∨u7.ownBlock=some g) ⟨6,lab,⟨#[]⟩,some ⟨wr.heap.size,0,none⟩,[x],1,none,[],0⟩):=lid (by
      refine ⟨HLB.out,Nat.zero_le _,?_,?_⟩
      ·exact .inr ⟨_,_,rfl,(fun e=>e.elim (fun e=>by omega) hne),hDX,rfl,rfl,HD0x.out⟩
      ·exact .inl ⟨rfl,rfl,rfl⟩)
     have hz3:w.heap.size≤X.heap.size:=Nat.le_trans hwz hbX.size
     have HOX:Hid (X.ownsRow w.heap.size 52 5 u7 k (kcs K)):=lid (own_keep HI.out.own (fun g hg=>hbX.block g (HI.out.own.lt g hg).2))
     clear hX hbX hEX hDX hne
     go_wp2_with fail
     refine qd (fun w'=>∃ s:Since wr.heap.size wr,w'=s.world) [(0,true),(1,true),(2,true),(3,true),(4,true),(5,true),(6,true),(7,true),(8,true),(9,true),(10,true),(11,true),(12,true),(13,true),(14,true),(15,true),(16,true),(17,true),(18,true),(19,false)] ?_
     repeat (first | (refine qk ?_;simp only [Act.put,q1,q2,q3]) | (refine qf ?_;intro K hK;go_big_quiet_op;go_big_quiet_on))
     refine qc ?_
     intro K hK
     go_wp2_with fail
     refine hK.out _ _ (since (Below.refl _ _).drew) ?_
     clear hK K
     repeat (first | (refine qk ?_;simp only [Act.put,q1,q2,q3]) | (refine qf ?_;intro K hK;go_big_quiet_op;go_big_quiet_on))
     refine seq_nil ?_
     go_wp2_with (at_builtin;rw [HHX.out];go_must (refine wpList_append_sla rfl _ _ 26 rfl w.heap.size 52 (.agg #[.int .i64 0,.string ⟨#[]⟩,.string ⟨#[]⟩,.slice none 0 0,.slice none 0 0]) 5 88 info_edit Tryz.underlying26 rfl (by decide) u7 k (kcs K) HOX.out rfl ⟨wr.heap.size+1,0,none⟩ 1 1 (kca ⟨6,lab,⟨#[]⟩,some ⟨wr.heap.size,0,none⟩,[x],1,none,[],0⟩).toList rfl (sl_row HEX.out rfl) (by simp [Value.oneCell']) (by simp only [maxLen];omega) (by omega) hz3 ?_))
     intro v9 w9 own9 hb9 hg9 hat9
     have HI9:=lid (HI.out.add (f':=3*(n+(m+1))) (R':=declKs lab ((A).map Dw.x) (((y::B)).map Dw.x)) HBX.out HKA.out (by exact declKs_rem lab _ _ hlt) (by omega) hwb own9 hb9 hg9 hat9)
     clear own9 hb9 hg9 hat9
     try simp only [Act.put,q1,q2,q3]
     by_cases hc1:ca=1
     ·have d9:(ca == 1)=true:=by simpa using hc1
      have HT:=lid (dla_tail HA.out)
      rw [if_pos hc1,show ca-1=0 by omega] at HT
      go_wp2_with fail
      go_roundw
      case measure=>simp only [slN];omega
      case rel=>exact ⟨_,_,n,_,(m+1),cb,k+1,A,y::B,K++[_],rfl,rfl,by omega,by omega,HT,HB,lid (fun d hd=>HCA.out d (List.mem_cons_of_mem _ hd)),HI9⟩
     ·have d9:(ca == 1)=false:=by simpa using hc1
      have HT:=lid (dla_tail HA.out)
      rw [if_neg hc1] at HT
      go_wp2_with fail
      go_roundw
      case measure=>simp only [slN];omega
      case rel=>exact ⟨_,_,n,_,(m+1),cb,k+1,A,y::B,K++[_],rfl,rfl,by omega,by omega,HT,HB,lid (fun d hd=>HCA.out d (List.mem_cons_of_mem _ hd)),HI9⟩
    ·have d1:decide (x.id<y.id)=false:=by simpa using hlt
     by_cases hgt:y.id<x.id
     ·have d2:decide (y.id<x.id)=true:=by simpa using hgt
      obtain ⟨b1,o1,rfl,hbzx,hdwx,hcx⟩:=dla_head HA.out HI.out.b0
      have x0:wr.cell? ⟨b1,o1,none⟩=some (.int .i64 x.id):=hcx 0 _ rfl
      have hlzx:b1<wr.heap.size:=Nat.lt_of_lt_of_le hbzx HI.out.b0.size
      have HDx:=lid hdwx
      clear hcx hdwx
      obtain ⟨b2,o2,rfl,hbzy,hdwy,hcy⟩:=dla_head HB.out HI.out.b0
      have y0:wr.cell? ⟨b2,o2,none⟩=some (.int .i64 y.id):=hcy 0 _ rfl
      have y1:wr.cell? ⟨b2,o2+1,none⟩=some (.int .i64 y.kind):=hcy 1 _ rfl
      have y2:wr.cell? ⟨b2,o2+2,none⟩=some (.bool y.pub):=hcy 2 _ rfl
      have y3:wr.cell? ⟨b2,o2+3,none⟩=some (.slice y.na y.names.length y.ncap):=hcy 3 _ rfl
      have y4:wr.cell? ⟨b2,o2+4,none⟩=some (.bool y.doubt):=hcy 4 _ rfl
      have y5:wr.cell? ⟨b2,o2+5,none⟩=some (.int .i64 y.body.kind):=hcy 5 _ rfl
      have y6:wr.cell? ⟨b2,o2+6,none⟩=some (.string y.body.name):=hcy 6 _ rfl
      have y7:wr.cell? ⟨b2,o2+7,none⟩=some (.string y.body.more):=hcy 7 _ rfl
      have y8:wr.cell? ⟨b2,o2+8,none⟩=some (.int .i64 y.body.int):=hcy 8 _ rfl
      have y9:wr.cell? ⟨b2,o2+9,none⟩=some (.int .i64 y.body.den):=hcy 9 _ rfl
      have y10:wr.cell? ⟨b2,o2+10,none⟩=some (.slice y.body.ao y.body.sub.length y.body.cap):=hcy 10 _ rfl
      have hlzy:b2<wr.heap.size:=Nat.lt_of_lt_of_le hbzy HI.out.b0.size
      have HDy:=lid hdwy
      clear hcy hdwy
      have HD0y:Hid (DwA w0 y):=lid (HB.out.el y (by simp))
      obtain ⟨X,hX⟩:∃ X,((wr.alloc (Obj.cells #[.int .i64 y.id,.int .i64 y.kind,.bool y.pub,.slice y.na y.names.length y.ncap,.bool y.doubt,.int .i64 y.body.kind,.string y.body.name,.string y.body.more,.int .i64 y.body.int,.int .i64 y.body.den,.slice y.body.ao y.body.sub.length y.body.cap] 65)).alloc (Obj.cells #[.int .i64 5,.string lab,.string ⟨#[]⟩,.slice none 0 0,.slice (some ⟨wr.heap.size,0,none⟩) 1 1] 52)).drew.drew=X:=⟨_,rfl⟩
      have hbX:Below wr.heap.size wr X:=by rw [← hX];exact (((Below.refl _ _).alloc (Nat.le_refl _) _).alloc (by simp) _).drew.drew
      have hEX:X.heap[wr.heap.size+1]?=some (.cells #[.int .i64 5,.string lab,.string ⟨#[]⟩,.slice none 0 0,.slice (some ⟨wr.heap.size,0,none⟩) 1 1] 52 (0,0)):=by rw [← hX];show ((wr.alloc _).alloc _).heap[_]?=_;exact h_new (by simp) _
      have hDX:X.heap[wr.heap.size]?=some (.cells #[.int .i64 y.id,.int .i64 y.kind,.bool y.pub,.slice y.na y.names.length y.ncap,.bool y.doubt,.int .i64 y.body.kind,.string y.body.name,.string y.body.more,.int .i64 y.body.int,.int .i64 y.body.den,.slice y.body.ao y.body.sub.length y.body.cap] 65 (0,0)):=by rw [← hX];show ((wr.alloc _).alloc _).heap[_]?=_;exact (h_old (by simp) _).trans (h_new (by simp) _)
      have HHX:=lid hX
      have HBX:=lid hbX
      have HEX:=lid hEX
      have hne:u7.ownBlock≠some wr.heap.size:=fun e=>by have:=(HI.out.own.lt _ e).2;omega
      have HKA:Hid (KAt w0 X (fun g=>g<w.heap.size∨u7.ownBlock=some g) ⟨5,lab,⟨#[]⟩,none,[],0,some ⟨wr.heap.size,0,none⟩,[y],1⟩):=lid (by
       refine ⟨HLB.out,Nat.zero_le _,?_,?_⟩
       ·exact .inl ⟨rfl,rfl,rfl⟩
       ·exact .inr ⟨_,_,rfl,(fun e=>e.elim (fun e=>by omega) hne),hDX,rfl,rfl,HD0y.out⟩)
      have hz3:w.heap.size≤X.heap.size:=Nat.le_trans hwz hbX.size
      have HOX:Hid (X.ownsRow w.heap.size 52 5 u7 k (kcs K)):=lid (own_keep HI.out.own (fun g hg=>hbX.block g (HI.out.own.lt g hg).2))
      clear hX hbX hEX hDX hne
      go_wp2_with fail
      refine qd (fun w'=>∃ s:Since wr.heap.size wr,w'=s.world) [(0,true),(1,true),(2,true),(3,true),(4,true),(5,true),(6,true),(7,true),(8,true),(9,true),(10,true),(11,true),(12,true),(13,true),(14,true),(15,true),(16,true),(17,true),(18,true),(19,false)] ?_
      repeat (first | (refine qk ?_;simp only [Act.put,q1,q2,q3]) | (refine qf ?_;intro K hK;go_big_quiet_op;go_big_quiet_on))
      refine qc ?_
      intro K hK
      go_wp2_with fail
      refine hK.out _ _ (since (Below.refl _ _).drew) ?_
      clear hK K
      repeat (first | (refine qk ?_;simp only [Act.put,q1,q2,q3]) | (refine qf ?_;intro K hK;go_big_quiet_op;go_big_quiet_on))
      refine seq_nil ?_
      go_wp2_with fail
      refine qd (fun w'=>∃ s:Since wr.heap.size wr.drew,w'=s.world) [(0,true),(1,true),(2,true),(3,true),(4,true),(5,true),(6,true),(7,true),(8,true),(9,true),(10,true),(11,true),(12,true),(13,true),(14,false)] ?_
      repeat (first | (refine qk ?_;simp only [Act.put,q1,q2,q3]) | (refine qf ?_;intro K hK;go_big_quiet_op;go_big_quiet_on))
      refine qc ?_
      intro K hK
      go_wp2_with fail
      refine hK.out _ _ (since (Below.refl _ _).drew) ?_
      clear hK K
      repeat (first | (refine qk ?_;simp only [Act.put,q1,q2,q3]) | (refine qf ?_;intro K hK;go_big_quiet_op;go_big_quiet_on))
      refine seq_nil ?_
      go_wp2_with (at_builtin;rw [HHX.out];go_must (refine wpList_append_sla rfl _ _ 26 rfl w.heap.size 52 (.agg #[.int .i64 0,.string ⟨#[]⟩,.string ⟨#[]⟩,.slice none 0 0,.slice none 0 0]) 5 88 info_edit Tryz.underlying26 rfl (by decide) u7 k (kcs K) HOX.out rfl ⟨wr.heap.size+1,0,none⟩ 1 1 (kca ⟨5,lab,⟨#[]⟩,none,[],0,some ⟨wr.heap.size,0,none⟩,[y],1⟩).toList rfl (sl_row HEX.out rfl) (by simp [Value.oneCell']) (by simp only [maxLen];omega) (by omega) hz3 ?_))
      intro v9 w9 own9 hb9 hg9 hat9
      have HI9:=lid (HI.out.add (f':=3*((n+1)+m)) (R':=declKs lab (((x::A)).map Dw.x) ((B).map Dw.x)) HBX.out HKA.out (by exact declKs_add lab _ _ hgt) (by omega) hwb own9 hb9 hg9 hat9)
      clear own9 hb9 hg9 hat9
      try simp only [Act.put,q1,q2,q3]
      by_cases hc1:cb=1
      ·have d9:(cb == 1)=true:=by simpa using hc1
       have HT:=lid (dla_tail HB.out)
       rw [if_pos hc1,show cb-1=0 by omega] at HT
       go_wp2_with fail
       go_roundw
       case measure=>simp only [slN];omega
       case rel=>exact ⟨_,_,(n+1),ca,m,_,k+1,x::A,B,K++[_],rfl,rfl,by omega,by omega,HA,HT,HCA,HI9⟩
      ·have d9:(cb == 1)=false:=by simpa using hc1
       have HT:=lid (dla_tail HB.out)
       rw [if_neg hc1] at HT
       go_wp2_with fail
       go_roundw
       case measure=>simp only [slN];omega
       case rel=>exact ⟨_,_,(n+1),ca,m,_,k+1,x::A,B,K++[_],rfl,rfl,by omega,by omega,HA,HT,HCA,HI9⟩
     ·have d2:decide (y.id<x.id)=false:=by simpa using hgt
      have heq:x.id=y.id:=by omega
      obtain ⟨b1,o1,rfl,hbzx,hdwx,hcx⟩:=dla_first HA.out
      obtain ⟨b2,o2,rfl,hbzy,hdwy,hcy⟩:=dla_first HB.out
      have HCX:=lid hcx
      have HCY:=lid hcy
      have HD0x:=lid hdwx
      have HD0y:=lid hdwy
      clear hcx hcy hdwx hdwy
      have x0:wr.cell? ⟨b1,o1,none⟩=some (.int .i64 x.id):=HCX.out _ HI.out.b0 0 _ rfl
      have y0:wr.cell? ⟨b2,o2,none⟩=some (.int .i64 y.id):=HCY.out _ HI.out.b0 0 _ rfl
      have hlzx:b1<wr.heap.size:=Nat.lt_of_lt_of_le hbzx HI.out.b0.size
      have hlzy:b2<wr.heap.size:=Nat.lt_of_lt_of_le hbzy HI.out.b0.size
      have HCN:Hid (cntE x.body≤1000):=lid (HCA.out x (by simp))
      have HPX:Hid (restP lab x.x y.x 3=[]∧x.id=y.id):=lid ⟨rfl,heq⟩
      obtain ⟨W0,hW0⟩:∃ W,(wr.alloc (.cells #[.int .i64 7,.int .i64 8,.int .i64 9] 3)).drew.drew=W:=⟨_,rfl⟩
      have hb0:Below wr.heap.size wr W0:=by rw [← hW0];exact (ba _ _).drew.drew
      have hr0:W0.heap[wr.heap.size]?=some (.cells #[.int .i64 7,.int .i64 8,.int .i64 9] 3 (0,0)):=by rw [← hW0];show (wr.alloc _).heap[_]?=_;exact h_new rfl _
      have HW0:=lid hW0
      have HR0:=lid hr0
      have HB0:=lid hb0
      have HI0:Hid (DeI w0 w W0 T (restP lab x.x y.x 0++declKs lab (A.map Dw.x) (B.map Dw.x)) (3+3*(n+m)) k N u7 K):=lid ((HI.out.below hb0).to (declKs_both lab _ _ heq) (by omega))
      clear hW0 hr0 hb0 hlt hgt heq
      have em0:(((m:Int)+1) == 0)=false:=by first | (simp;done) | (simp;omega)
      have en0:(((n:Int)+1) == 0)=false:=by first | (simp;done) | (simp;omega)
      have em1:decide ((0:Int)<(m:Int)+1)=true:=by first | (simp;done) | (simp;omega)
      have en1:decide ((0:Int)<(n:Int)+1)=true:=by first | (simp;done) | (simp;omega)
      obtain ⟨wq,rfl⟩:∃ y,y=wr:=⟨_,rfl⟩
      go_wp2_with fail
      refine qd (fun w'=>∃ s:Since wq.heap.size wq,w'=s.world) [(0,true),(1,true),(2,true),(3,true),(4,true),(5,true),(6,true),(7,true),(8,true),(9,true),(10,true),(11,true),(12,true),(13,true),(14,true),(15,true),(16,true),(17,true),(18,true),(19,false)] ?_
      repeat (first | (refine qk ?_;simp only [Act.put,q1,q2,q3]) | (refine qf ?_;intro K hK;go_big_quiet_op;go_big_quiet_on))
      refine qc ?_
      intro K hK
      go_wp2_with fail
      refine hK.out _ _ (since (Below.refl _ _).drew) ?_
      clear hK K
      repeat (first | (refine qk ?_;simp only [Act.put,q1,q2,q3]) | (refine qf ?_;intro K hK;go_big_quiet_op;go_big_quiet_on))
      refine seq_nil ?_
      go_wp2_with fail
      refine qd (fun w'=>∃ s:Since wq.heap.size wq.drew,w'=s.world) [(0,true),(1,true),(2,true),(3,true),(4,true),(5,true),(6,true),(7,true),(8,true),(9,true),(10,true),(11,true),(12,true),(13,true),(14,false)] ?_
      repeat (first | (refine qk ?_;simp only [Act.put,q1,q2,q3]) | (refine qf ?_;intro K hK;go_big_quiet_op;go_big_quiet_on))
      refine qc ?_
      intro K hK
      go_wp2_with fail
      refine hK.out _ _ (since (Below.refl _ _).drew) ?_
      clear hK K
      repeat (first | (refine qk ?_;simp only [Act.put,q1,q2,q3]) | (refine qf ?_;intro K hK;go_big_quiet_op;go_big_quiet_on))
      refine seq_nil ?_
      go_wp2_with fail
      rw [HW0.out]
      clear x0 y0
      go_loopw [7,22] (fun v7 u22 wi=>∃ (j k:Nat) (K:List Kw),j≤3∧k≤N∧u22=.int .i64 j∧Hid (DeI w0 w wi T (restP lab x.x y.x j++declKs lab (A.map Dw.x) (B.map Dw.x)) ((3-j)+3*(n+m)) k N v7 K)∧Hid (wi.heap[wq.heap.size]?=some (.cells #[.int .i64 7,.int .i64 8,.int .i64 9] 3 (0,0))∧v7.ownBlock≠some wq.heap.size)) (fun _ u22 _=>3-(intOf u22).toNat)
      case atStart=>exact ⟨0,k,K,by omega,hkN,rfl,HI0,lid ⟨HR0.out,fun e=>by have:=(HI.out.own.lt _ e).2;omega⟩⟩
      case round =>
       clear HI HI0 HW0 hlzx hlzy hwz d1 d2
       clear hkN
       clear K k
       obtain ⟨j,k,K,hj,hkN,rfl,HI,HBI⟩:=hrel
       have hwz:w.heap.size≤wr.heap.size:=HI.out.b.size
       have hlzx:b1<wr.heap.size:=Nat.lt_of_lt_of_le hbzx HI.out.b0.size
       have hlzy:b2<wr.heap.size:=Nat.lt_of_lt_of_le hbzy HI.out.b0.size
       have hrr:=HBI.out.1
       by_cases hj3:j<3
       ·obtain ⟨kd,hkd⟩:∃ kd:Int,7+(j:Int)=kd:=⟨_,rfl⟩
        have kc:wr.cell? ⟨wq.heap.size,j,none⟩=some (.int .i64 kd):=by
         rw [row_cell hrr,← hkd]
         match j,hj3 with
         | 0,_=>rfl
         | 1,_=>rfl
         | 2,_=>rfl
        have lk:=row_lt hrr
        have dj:decide ((j:Int)<3)=true:=by simp;omega
        obtain ⟨mx,hmx⟩:∃ d,menW kd x=d:=⟨_,rfl⟩
        obtain ⟨my,hmy⟩:∃ d,menW kd y=d:=⟨_,rfl⟩
        have CMX:=lid (fun W=>mentioned_any kd x W)
        have CMY:=lid (fun W=>mentioned_any kd y W)
        rw [hmx] at CMX
        rw [hmy] at CMY
        have HMX:Hid (DwA w0 mx∧cntE mx.body≤1000∧mx.x=menX kd x.x):=lid (by rw [← hmx];exact ⟨menW_A HD0x.out,menW_cnt HCN.out,menW_x _ _⟩)
        have HMY:Hid (DwA w0 my∧my.x=menX kd y.x):=lid (by rw [← hmy];exact ⟨menW_A HD0y.out,menW_x _ _⟩)
        have HRN:Hid (restP lab x.x y.x j=partKs lab x.x y.x kd++restP lab x.x y.x (j+1)):=lid (by rw [← hkd];exact restP_next lab _ _ hj3)
        clear hmx hmy hkd hrr
        have x0:wr.cell? ⟨b1,o1,none⟩=some (.int .i64 x.id):=HCX.out _ HI.out.b0 0 _ rfl
        have x1:wr.cell? ⟨b1,o1+1,none⟩=some (.int .i64 x.kind):=HCX.out _ HI.out.b0 1 _ rfl
        have x2:wr.cell? ⟨b1,o1+2,none⟩=some (.bool x.pub):=HCX.out _ HI.out.b0 2 _ rfl
        have x3:wr.cell? ⟨b1,o1+3,none⟩=some (.slice x.na x.names.length x.ncap):=HCX.out _ HI.out.b0 3 _ rfl
        have x4:wr.cell? ⟨b1,o1+4,none⟩=some (.bool x.doubt):=HCX.out _ HI.out.b0 4 _ rfl
        have x5:wr.cell? ⟨b1,o1+5,none⟩=some (.int .i64 x.body.kind):=HCX.out _ HI.out.b0 5 _ rfl
        have x6:wr.cell? ⟨b1,o1+6,none⟩=some (.string x.body.name):=HCX.out _ HI.out.b0 6 _ rfl
        have x7:wr.cell? ⟨b1,o1+7,none⟩=some (.string x.body.more):=HCX.out _ HI.out.b0 7 _ rfl
        have x8:wr.cell? ⟨b1,o1+8,none⟩=some (.int .i64 x.body.int):=HCX.out _ HI.out.b0 8 _ rfl
        have x9:wr.cell? ⟨b1,o1+9,none⟩=some (.int .i64 x.body.den):=HCX.out _ HI.out.b0 9 _ rfl
        have x10:wr.cell? ⟨b1,o1+10,none⟩=some (.slice x.body.ao x.body.sub.length x.body.cap):=HCX.out _ HI.out.b0 10 _ rfl
        have y0:wr.cell? ⟨b2,o2,none⟩=some (.int .i64 y.id):=HCY.out _ HI.out.b0 0 _ rfl
        have y1:wr.cell? ⟨b2,o2+1,none⟩=some (.int .i64 y.kind):=HCY.out _ HI.out.b0 1 _ rfl
        have y2:wr.cell? ⟨b2,o2+2,none⟩=some (.bool y.pub):=HCY.out _ HI.out.b0 2 _ rfl
        have y3:wr.cell? ⟨b2,o2+3,none⟩=some (.slice y.na y.names.length y.ncap):=HCY.out _ HI.out.b0 3 _ rfl
        have y4:wr.cell? ⟨b2,o2+4,none⟩=some (.bool y.doubt):=HCY.out _ HI.out.b0 4 _ rfl
        have y5:wr.cell? ⟨b2,o2+5,none⟩=some (.int .i64 y.body.kind):=HCY.out _ HI.out.b0 5 _ rfl
        have y6:wr.cell? ⟨b2,o2+6,none⟩=some (.string y.body.name):=HCY.out _ HI.out.b0 6 _ rfl
        have y7:wr.cell? ⟨b2,o2+7,none⟩=some (.string y.body.more):=HCY.out _ HI.out.b0 7 _ rfl
        have y8:wr.cell? ⟨b2,o2+8,none⟩=some (.int .i64 y.body.int):=HCY.out _ HI.out.b0 8 _ rfl
        have y9:wr.cell? ⟨b2,o2+9,none⟩=some (.int .i64 y.body.den):=HCY.out _ HI.out.b0 9 _ rfl
        have y10:wr.cell? ⟨b2,o2+10,none⟩=some (.slice y.body.ao y.body.sub.length y.body.cap):=HCY.out _ HI.out.b0 10 _ rfl
        go_wp2_with fail
        refine wp_region_mix (fun w'=>∃ s:Since wr.heap.size wr,w'=s.world) [(0,true),(1,true),(2,true),(3,true),(5,true),(6,true),(7,true),(8,true)] [(4,[]),(9,[4]),(10,[]),(11,[])] [(12,false),(13,false)] (by kernel_rfl) (by kernel_rfl) (by intro c d v a w h;first | (cases d <;> exact h) | cases h.1) (since (Below.refl _ _).drew) ?_
        repeat (first | (refine qk ?_;simp only [Act.put,q1,q2,q3]) | (refine qf ?_;intro K hK;go_big_quiet_op;go_big_quiet_on))
        refine seq_nil (mix_go [30,35,10,11] [u30,u35,u10,u11] (Fk2 wr mx my) rfl (by simp only [putAll,Act.put,q1,q2,q3]) (fun s h=>⟨_,_,_,_,rfl,(Below.refl _ _).drew,fun e=>absurd e (by rw [h (4,[]) (by simp)];simp),fun e=>absurd e (by rw [h (9,[4]) (by simp)];simp),fun e=>absurd e (by rw [h (10,[]) (by simp)];simp),fun e=>absurd e (by rw [h (11,[]) (by simp)];simp),fun e=>absurd e (by rw [h (10,[]) (by simp)];simp)⟩) ⟨?_,?_,?_,?_,trivial⟩ ?_)
        ·intro s vs wm _ _ _ _ hR
         have hR':=lid hR
         obtain ⟨p1,p2,p3,p4,rfl,hB1,-⟩:=hR
         have HB1:=lid hB1
         simp only [putAll,Act.put,q1,q2,q3]
         refine mix_op (by rfl) ?_
         intro K hK
         clear hB1
         go_wp2_with fail
         (with_reducible refine (CMX.out wm).mono ?_);rintro e w4 ⟨rfl,hb4⟩
         go_wp2_with fail
         exact hK.out _ _ ⟨since (HB1.out.trans (hb4.mono HB1.out.size)),[_,p2,p3,p4],rfl,by simp only [putAll,Act.put,q1,q2,q3],hR'.out.call4 hb4⟩
        ·intro s vs wm _ _ _ _ hR
         have hR':=lid hR
         obtain ⟨p1,p2,p3,p4,rfl,hB1,-⟩:=hR
         have HB1:=lid hB1
         simp only [putAll,Act.put,q1,q2,q3]
         refine mix_op (by rfl) ?_
         intro K hK
         clear hB1
         go_wp2_with fail
         (with_reducible refine (CMY.out wm).mono ?_);rintro e w4 ⟨rfl,hb4⟩
         go_wp2_with fail
         exact hK.out _ _ ⟨since (HB1.out.trans (hb4.mono HB1.out.size)),[p1,_,p3,p4],rfl,by simp only [putAll,Act.put,q1,q2,q3],hR'.out.call9 hb4⟩
        ·intro s vs wm _ _ _ _ hR
         have hR':=lid hR
         obtain ⟨p1,p2,p3,p4,rfl,hB1,-⟩:=hR
         have HB1:=lid hB1
         simp only [putAll,Act.put,q1,q2,q3]
         refine mix_op (by rfl) ?_
         intro K hK
         clear hB1
         go_wp2_with fail
         exact hK.out _ _ ⟨since (HB1.out.alloc HB1.out.size _),[p1,p2,_,p4],rfl,by simp only [putAll,Act.put,q1,q2,q3],hR'.out.new10⟩
        ·intro s vs wm _ _ _ _ hR
         have hR':=lid hR
         obtain ⟨p1,p2,p3,p4,rfl,hB1,-⟩:=hR
         have HB1:=lid hB1
         simp only [putAll,Act.put,q1,q2,q3]
         refine mix_op (by rfl) ?_
         intro K hK
         clear hB1
         go_wp2_with fail
         exact hK.out _ _ ⟨since (HB1.out.alloc HB1.out.size _),[p1,p2,p3,_],rfl,by simp only [putAll,Act.put,q1,q2,q3],hR'.out.new11⟩
        ·intro s vs w8 _ hall _ hR
         obtain ⟨p1,p2,p3,p4,rfl,hB1,h4,h9,h10,h11,hpq⟩:=hR
         obtain rfl:=h4 (hall (4,[]) (by simp))
         obtain rfl:=h9 (hall (9,[4]) (by simp))
         obtain ⟨g,rfl,hgz,hrg⟩:=h10 (hall (10,[]) (by simp))
         obtain ⟨q,rfl,hqz,hrq⟩:=h11 (hall (11,[]) (by simp))
         have hgq:g≠q:=fun e=>hpq (hall (10,[]) (by simp)) (hall (11,[]) (by simp)) (by rw [e])
         clear h4 h9 h10 h11 hpq hall
         simp only [putAll,Act.put,q1,q2,q3]
         refine qc ?_
         intro K hK
         refine wpList_store_mid rfl 65 _ _ rfl g 0 (dca mx) rfl rfl (there_row hrg (by simp)) (by kernel_rfl) (by simp [Value.oneCell']) ?_
         obtain ⟨w9,hw9⟩:∃ y,w8.setCells g 0 (dca mx).toList=y:=⟨_,rfl⟩
         have h9:Below wr.heap.size wr w9:=by rw [← hw9];exact below_cells hgz _ _ _ hB1
         have hA9:w9.heap[g]?=some (.cells (dca mx) 65 (0,0)):=by rw [← hw9];exact row_whole hrg rfl
         have hB9:w9.heap[q]?=some (.cells zdA 65 (0,0)):=by rw [← hw9];exact (setCells_other (Ne.symm hgq) _ _ _).trans hrq
         rw [hw9]
         clear hw9
         simp only [Act.put]
         go_wp2_with fail
         refine hK.out _ _ (since h9) ?_
         clear hK K
         refine qc ?_
         intro K hK
         refine wpList_store_mid rfl 65 _ _ rfl q 0 (dca my) rfl rfl (there_row hB9 (by simp)) (by kernel_rfl) (by simp [Value.oneCell']) ?_
         obtain ⟨w10,hw10⟩:∃ y,w9.setCells q 0 (dca my).toList=y:=⟨_,rfl⟩
         have h10:Below wr.heap.size wr w10:=by rw [← hw10];exact below_cells hqz _ _ _ h9
         have hB10:w10.heap[q]?=some (.cells (dca my) 65 (0,0)):=by rw [← hw10];exact row_whole hB9 rfl
         have hA10:w10.heap[g]?=some (.cells (dca mx) 65 (0,0)):=by rw [← hw10];exact (setCells_other hgq _ _ _).trans hA9
         rw [hw10]
         simp only [Act.put]
         clear hw10 hrg hrq hA9 hB9 h9 hB1
         have H10:=lid h10
         have HG10:=lid hA10
         have HQ10:=lid hB10
         clear h10 hA10 hB10 hgz hqz hgq
         go_wp2_with fail
         refine hK.out _ _ (since H10.out) (seq_nil ?_)
         clear hK K
         clear x0 x1 x2 x3 x4 x5 x6 x7 x8 x9 x10
         clear y0 y1 y2 y3 y4 y5 y6 y7 y8 y9 y10
         clear kc lk
         have p0:w10.cell? ⟨g,0,none⟩=some (.int .i64 mx.id):=row_cell HG10.out 0
         have p1:w10.cell? ⟨g,1,none⟩=some (.int .i64 mx.kind):=row_cell HG10.out 1
         have p2:w10.cell? ⟨g,2,none⟩=some (.bool mx.pub):=row_cell HG10.out 2
         have p3:w10.cell? ⟨g,3,none⟩=some (.slice mx.na mx.names.length mx.ncap):=row_cell HG10.out 3
         have p4:w10.cell? ⟨g,4,none⟩=some (.bool mx.doubt):=row_cell HG10.out 4
         have p5:w10.cell? ⟨g,5,none⟩=some (.int .i64 mx.body.kind):=row_cell HG10.out 5
         have p6:w10.cell? ⟨g,6,none⟩=some (.string mx.body.name):=row_cell HG10.out 6
         have p7:w10.cell? ⟨g,7,none⟩=some (.string mx.body.more):=row_cell HG10.out 7
         have p8:w10.cell? ⟨g,8,none⟩=some (.int .i64 mx.body.int):=row_cell HG10.out 8
         have p9:w10.cell? ⟨g,9,none⟩=some (.int .i64 mx.body.den):=row_cell HG10.out 9
         have p10:w10.cell? ⟨g,10,none⟩=some (.slice mx.body.ao mx.body.sub.length mx.body.cap):=row_cell HG10.out 10
         have q0:w10.cell? ⟨q,0,none⟩=some (.int .i64 my.id):=row_cell HQ10.out 0
         have q1:w10.cell? ⟨q,1,none⟩=some (.int .i64 my.kind):=row_cell HQ10.out 1
         have q2:w10.cell? ⟨q,2,none⟩=some (.bool my.pub):=row_cell HQ10.out 2
         have q3:w10.cell? ⟨q,3,none⟩=some (.slice my.na my.names.length my.ncap):=row_cell HQ10.out 3
         have q4:w10.cell? ⟨q,4,none⟩=some (.bool my.doubt):=row_cell HQ10.out 4
         have q5:w10.cell? ⟨q,5,none⟩=some (.int .i64 my.body.kind):=row_cell HQ10.out 5
         have q6:w10.cell? ⟨q,6,none⟩=some (.string my.body.name):=row_cell HQ10.out 6
         have q7:w10.cell? ⟨q,7,none⟩=some (.string my.body.more):=row_cell HQ10.out 7
         have q8:w10.cell? ⟨q,8,none⟩=some (.int .i64 my.body.int):=row_cell HQ10.out 8
         have q9:w10.cell? ⟨q,9,none⟩=some (.int .i64 my.body.den):=row_cell HQ10.out 9
         have q10:w10.cell? ⟨q,10,none⟩=some (.slice my.body.ao my.body.sub.length my.body.cap):=row_cell HQ10.out 10
         have lg:=row_lt HG10.out
         have lq:=row_lt HQ10.out
         have HB10:=lid (HI.out.b0.trans (H10.out.mono HI.out.b0.size))
         have CE:=lid (equalDecl_any mx my w10 (HMX.out.1.below HB10.out) (HMY.out.1.below HB10.out) HMX.out.2.1)
         have HI10:=lid (HI.out.below H10.out)
         have HBI10:Hid (w10.heap[wq.heap.size]?=some (.cells #[.int .i64 7,.int .i64 8,.int .i64 9] 3 (0,0))∧u7.ownBlock≠some wq.heap.size):=lid ⟨(H10.out.block _ (row_lt HBI.out.1)).trans HBI.out.1,HBI.out.2⟩
         by_cases hxy:mx.x=my.x
         ·rw [pB_t hxy] at CE
          have HP:Hid (partKs lab x.x y.x kd=[]):=lid (partKs_eq lab (by rw [← HMX.out.2.2,← HMY.out.2];exact hxy))
          clear hxy
          go_wp2_with fail
          (with_reducible refine (CE.out).mono ?_);rintro e w11 ⟨rfl,hb11⟩
          have HI11:Hid (DeI w0 w w11 T (restP lab x.x y.x (j+1)++declKs lab (A.map Dw.x) (B.map Dw.x)) ((3-(j+1))+3*(n+m)) k N u7 K):=lid ((HI10.out.below hb11).to (by rw [HRN.out,HP.out,List.nil_append]) (by omega))
          have HBI11:Hid (w11.heap[wq.heap.size]?=some (.cells #[.int .i64 7,.int .i64 8,.int .i64 9] 3 (0,0))∧u7.ownBlock≠some wq.heap.size):=lid ⟨(hb11.block _ (row_lt HBI10.out.1)).trans HBI10.out.1,HBI10.out.2⟩
          clear hb11 CE
          go_wp2_with fail
          go_roundw
          case measure=>simp only [intOf];omega
          case rel=>exact ⟨j+1,k,K,by omega,hkN,by simp,HI11,HBI11⟩
         ·rw [pB_f hxy] at CE
          have HP:Hid (partKs lab x.x y.x kd=[⟨kd,lab,⟨#[]⟩,[mx.x],[my.x]⟩]):=lid (by rw [partKs_ne lab (fun e=>hxy (by rw [HMX.out.2.2,HMY.out.2];exact e)),HMX.out.2.2,HMY.out.2])
          clear hxy
          go_wp2_with fail
          (with_reducible refine (CE.out).mono ?_);rintro e w11 ⟨rfl,hb11⟩
          have HI11:=lid (HI10.out.below hb11)
          have HBI11:Hid (w11.heap[wq.heap.size]?=some (.cells #[.int .i64 7,.int .i64 8,.int .i64 9] 3 (0,0))∧u7.ownBlock≠some wq.heap.size):=lid ⟨(hb11.block _ (row_lt HBI10.out.1)).trans HBI10.out.1,HBI10.out.2⟩
          have HG11:=lid ((hb11.block _ lg).trans HG10.out)
          have HQ11:=lid ((hb11.block _ lq).trans HQ10.out)
          clear hb11 CE lg lq
          clear p0 p1 p2 p3 p4 p5 p6 p7 p8 p9 p10
          clear q0 q1 q2 q3 q4 q5 q6 q7 q8 q9 q10
          have p0:w11.cell? ⟨g,0,none⟩=some (.int .i64 mx.id):=row_cell HG11.out 0
          have p1:w11.cell? ⟨g,1,none⟩=some (.int .i64 mx.kind):=row_cell HG11.out 1
          have p2:w11.cell? ⟨g,2,none⟩=some (.bool mx.pub):=row_cell HG11.out 2
          have p3:w11.cell? ⟨g,3,none⟩=some (.slice mx.na mx.names.length mx.ncap):=row_cell HG11.out 3
          have p4:w11.cell? ⟨g,4,none⟩=some (.bool mx.doubt):=row_cell HG11.out 4
          have p5:w11.cell? ⟨g,5,none⟩=some (.int .i64 mx.body.kind):=row_cell HG11.out 5
          have p6:w11.cell? ⟨g,6,none⟩=some (.string mx.body.name):=row_cell HG11.out 6
          have p7:w11.cell? ⟨g,7,none⟩=some (.string mx.body.more):=row_cell HG11.out 7
          have p8:w11.cell? ⟨g,8,none⟩=some (.int .i64 mx.body.int):=row_cell HG11.out 8
          have p9:w11.cell? ⟨g,9,none⟩=some (.int .i64 mx.body.den):=row_cell HG11.out 9
          have p10:w11.cell? ⟨g,10,none⟩=some (.slice mx.body.ao mx.body.sub.length mx.body.cap):=row_cell HG11.out 10
          have q0:w11.cell? ⟨q,0,none⟩=some (.int .i64 my.id):=row_cell HQ11.out 0
          have q1:w11.cell? ⟨q,1,none⟩=some (.int .i64 my.kind):=row_cell HQ11.out 1
          have q2:w11.cell? ⟨q,2,none⟩=some (.bool my.pub):=row_cell HQ11.out 2
          have q3:w11.cell? ⟨q,3,none⟩=some (.slice my.na my.names.length my.ncap):=row_cell HQ11.out 3
          have q4:w11.cell? ⟨q,4,none⟩=some (.bool my.doubt):=row_cell HQ11.out 4
          have q5:w11.cell? ⟨q,5,none⟩=some (.int .i64 my.body.kind):=row_cell HQ11.out 5
          have q6:w11.cell? ⟨q,6,none⟩=some (.string my.body.name):=row_cell HQ11.out 6
          have q7:w11.cell? ⟨q,7,none⟩=some (.string my.body.more):=row_cell HQ11.out 7
          have q8:w11.cell? ⟨q,8,none⟩=some (.int .i64 my.body.int):=row_cell HQ11.out 8
          have q9:w11.cell? ⟨q,9,none⟩=some (.int .i64 my.body.den):=row_cell HQ11.out 9
          have q10:w11.cell? ⟨q,10,none⟩=some (.slice my.body.ao my.body.sub.length my.body.cap):=row_cell HQ11.out 10
          have lg:=row_lt HG11.out
          have lq:=row_lt HQ11.out
          obtain ⟨X,hX⟩:∃ X,((w11.alloc (Obj.cells #[.int .i64 mx.id,.int .i64 mx.kind,.bool mx.pub,.slice mx.na mx.names.length mx.ncap,.bool mx.doubt,.int .i64 mx.body.kind,.string mx.body.name,.string mx.body.more,.int .i64 mx.body.int,.int .i64 mx.body.den,.slice mx.body.ao mx.body.sub.length mx.body.cap] 65)).alloc (Obj.cells #[.int .i64 my.id,.int .i64 my.kind,.bool my.pub,.slice my.na my.names.length my.ncap,.bool my.doubt,.int .i64 my.body.kind,.string my.body.name,.string my.body.more,.int .i64 my.body.int,.int .i64 my.body.den,.slice my.body.ao my.body.sub.length my.body.cap] 65)).alloc (Obj.cells #[.int .i64 kd,.string lab,.string ⟨#[]⟩,.slice (some ⟨w11.heap.size,0,none⟩) 1 1,.slice (some ⟨w11.heap.size+1,0,none⟩) 1 1] 52)=X:=⟨_,rfl⟩
          have hbX:Below w11.heap.size w11 X:=by rw [← hX];exact (((Below.refl _ _).alloc (Nat.le_refl _) _).alloc (by simp) _).alloc (by simp <;> omega) _
          have hEX:X.heap[w11.heap.size+1+1]?=some (.cells #[.int .i64 kd,.string lab,.string ⟨#[]⟩,.slice (some ⟨w11.heap.size,0,none⟩) 1 1,.slice (some ⟨w11.heap.size+1,0,none⟩) 1 1] 52 (0,0)):=by rw [← hX];exact h_new (by simp) _
          have hYX:X.heap[w11.heap.size+1]?=some (.cells #[.int .i64 my.id,.int .i64 my.kind,.bool my.pub,.slice my.na my.names.length my.ncap,.bool my.doubt,.int .i64 my.body.kind,.string my.body.name,.string my.body.more,.int .i64 my.body.int,.int .i64 my.body.den,.slice my.body.ao my.body.sub.length my.body.cap] 65 (0,0)):=by rw [← hX];exact (h_old (by simp) _).trans (h_new (by simp) _)
          have hDX:X.heap[w11.heap.size]?=some (.cells #[.int .i64 mx.id,.int .i64 mx.kind,.bool mx.pub,.slice mx.na mx.names.length mx.ncap,.bool mx.doubt,.int .i64 mx.body.kind,.string mx.body.name,.string mx.body.more,.int .i64 mx.body.int,.int .i64 mx.body.den,.slice mx.body.ao mx.body.sub.length mx.body.cap] 65 (0,0)):=by rw [← hX];exact (h_old (by simp <;> omega) _).trans ((h_old (by simp) _).trans (h_new rfl _))
          have HHX:=lid hX
          have HBX:=lid hbX
          have HEX:=lid hEX
          have hne:∀ z,w11.heap.size≤z→u7.ownBlock≠some z:=fun z hz e=>by have:=(HI11.out.own.lt _ e).2;omega
          have HKA:Hid (KAt w0 X (fun g=>g<w.heap.size∨u7.ownBlock=some g) ⟨kd,lab,⟨#[]⟩,some ⟨w11.heap.size,0,none⟩,[mx],1,some ⟨w11.heap.size+1,0,none⟩,[my],1⟩):=lid (by
           have hz11:w.heap.size≤w11.heap.size:=HI11.out.b.size
           refine ⟨HLB.out,Nat.zero_le _,?_,?_⟩
           ·exact .inr ⟨_,_,rfl,(fun e=>e.elim (fun e=>by omega) (hne _ (Nat.le_refl _))),hDX,rfl,rfl,HMX.out.1⟩
           ·exact .inr ⟨_,_,rfl,(fun e=>e.elim (fun e=>by omega) (hne _ (by omega))),hYX,rfl,rfl,HMY.out.1⟩)
          have hz3:w.heap.size≤X.heap.size:=Nat.le_trans HI11.out.b.size hbX.size
          have HOX:Hid (X.ownsRow w.heap.size 52 5 u7 k (kcs K)):=lid (own_keep HI11.out.own (fun g hg=>hbX.block g (HI11.out.own.lt g hg).2))
          clear hX hbX hEX hDX hYX hne
          have hkN2:k+1≤N:=by have:=HI11.out.few;omega
          go_wp2_with (at_builtin;rw [HHX.out];go_must (refine wpList_append_sla rfl _ _ 26 rfl w.heap.size 52 (.agg #[.int .i64 0,.string ⟨#[]⟩,.string ⟨#[]⟩,.slice none 0 0,.slice none 0 0]) 5 88 info_edit Tryz.underlying26 rfl (by decide) u7 k (kcs K) HOX.out rfl ⟨w11.heap.size+1+1,0,none⟩ 1 1 (kca ⟨kd,lab,⟨#[]⟩,some ⟨w11.heap.size,0,none⟩,[mx],1,some ⟨w11.heap.size+1,0,none⟩,[my],1⟩).toList rfl (sl_row HEX.out rfl) (by simp [Value.oneCell']) (by simp only [maxLen];omega) (by omega) hz3 ?_))
          intro v9 w12 own9 hb9 hg9 hat9
          have HI12:Hid (DeI w0 w w12 T (restP lab x.x y.x (j+1)++declKs lab (A.map Dw.x) (B.map Dw.x)) ((3-(j+1))+3*(n+m)) (k+1) N v9 (K++[⟨kd,lab,⟨#[]⟩,some ⟨w11.heap.size,0,none⟩,[mx],1,some ⟨w11.heap.size+1,0,none⟩,[my],1⟩])):=lid (HI11.out.add HBX.out HKA.out (by rw [HRN.out,HP.out];rfl) (by omega) hwb own9 hb9 hg9 hat9)
          have HBI12:Hid (w12.heap[wq.heap.size]?=some (.cells #[.int .i64 7,.int .i64 8,.int .i64 9] 3 (0,0))∧v9.ownBlock≠some wq.heap.size):=lid (by
           have l1:=row_lt HBI11.out.1
           have l2:=HBX.out.size
           refine ⟨(grown_at hg9 (Nat.lt_of_lt_of_le l1 l2) HBI11.out.2).trans ((HBX.out.block _ l1).trans HBI11.out.1),fun e=>?_⟩
           rcases hat9 with h | h
           ·exact HBI11.out.2 (h.symm.trans e)
           ·rw [h] at e
            injection e with e
            omega)
          clear own9 hb9 hg9 hat9
          try simp only [Act.put,q1,q2,q3]
          go_wp2_with fail
          go_roundw
          case measure=>simp only [intOf];omega
          case rel=>exact ⟨j+1,k+1,K++[_],by omega,hkN2,by simp,HI12,HBI12⟩
       ·obtain rfl:j=3:=by omega
        have HI3:Hid (DeI w0 w wr T (declKs lab (A.map Dw.x) (B.map Dw.x)) (3*(n+m)) k N u7 K):=lid (HI.out.to (by rw [HPX.out.1,List.nil_append]) (by omega))
        have HI4:Hid (DeI w0 w wr.drew T (declKs lab (A.map Dw.x) (B.map Dw.x)) (3*(n+m)) k N u7 K):=lid (HI3.out.below (Below.refl _ _).drew)
        clear HI HI3 hrr hj3 HBI
        have HTA:=lid (dla_tail HA.out)
        have HTB:=lid (dla_tail HB.out)
        by_cases hc1:ca=1
        focus
         have d8:(ca == 1)=true:=by simpa using hc1
         rw [if_pos hc1,show ca-1=0 by omega] at HTA
        rotate_left
        focus
         have d8:(ca == 1)=false:=by simpa using hc1
         rw [if_neg hc1] at HTA
        rotate_left
        all_goals
         by_cases hc2:cb=1
         focus
          have d9:(cb == 1)=true:=by simpa using hc2
          rw [if_pos hc2,show cb-1=0 by omega] at HTB
         rotate_left
         focus
          have d9:(cb == 1)=false:=by simpa using hc2
          rw [if_neg hc2] at HTB
         rotate_left
         all_goals
          go_wp2_with fail
          refine qd (fun w'=>∃ s:Since wr.heap.size wr,w'=s.world) [(0,true),(1,true),(2,true),(3,true),(4,false),(5,false)] ?_
          repeat (first | (refine qk ?_;simp only [Act.put,q1,q2,q3]) | (refine qf ?_;intro K hK;go_big_quiet_op;go_big_quiet_on))
          refine qc ?_
          intro K hK
          go_wp2_with fail
          refine hK.out _ _ (since (Below.refl _ _).drew) ?_
          clear hK K
          repeat (first | (refine qk ?_;simp only [Act.put,q1,q2,q3]) | (refine qf ?_;intro K hK;go_big_quiet_op;go_big_quiet_on))
          refine qc ?_
          intro K hK
          go_wp2_with fail
          refine hK.out _ _ (since (Below.refl _ _).drew) ?_
          clear hK K
          repeat (first | (refine qk ?_;simp only [Act.put,q1,q2,q3]) | (refine qf ?_;intro K hK;go_big_quiet_op;go_big_quiet_on))
          refine seq_nil ?_
          go_wp2_with fail
          go_roundw
          case measure=>simp only [slN];omega
          case rel=>exact ⟨_,_,n,_,m,_,k,A,B,K,rfl,rfl,by omega,by omega,HTA,HTB,lid (fun d hd=>HCA.out d (List.mem_cons_of_mem _ hd)),HI4⟩
end Go.Proofs.YtgcceepadlmelaaGreatDoor
