import Derived.Test.YtgcceepadlmelaaGreatDoorQAQ
import Derived.Test.YtgcceepadlmelaaGreatDoorQAN
import Derived.Test.YtgcceepadlmelaaGreatDoorEdInv
namespace Go.Proofs.YtgcceepadlmelaaGreatDoor
def declX (l:ByteArray) (d:Dx):Prop:=∃ w:Dw,w.x=d∧declW l w
def bodyX (l:ByteArray) (e:Ex):Prop:=∃ w:Ew,w.x=e∧bodyW l w
theorem declX_all {l:ByteArray} {d:Dx} (h:declX l d) {w:Dw} (hw:w.x=d):declW l w:=by
 obtain ⟨v,rfl,h2⟩:=h
 exact declW_x hw.symm h2
theorem bodyX_all {l:ByteArray} {d:Ex} (h:bodyX l d) {w:Ew} (hw:w.x=d):bodyW l w:=by
 obtain ⟨v,rfl,h2⟩:=h
 exact bodyW_x hw.symm h2
def idV (i:Int):Prop:=1≤i∧i≤999999
def kindV (k:Int):Prop:=k=1∨k=2∨k=3
def DA.vld (l:ByteArray) (i:Int):DA→Prop
 | .add d=>declX l d∧d.id=i
 | .rem d=>declX l d∧d.id=i
 | .nam o n=>idV i∧namesE o=0∧namesE n=0∧o≠n
 | .bod o n=>idV i∧bodyX l o∧bodyX l n∧o≠n
 | .hed o n=>idV i∧kindV o.1∧kindV n.1∧o≠n
def useV (l u:ByteArray):Prop:=labB u=true∧nmB (alW u)=true∧u≠l
def MA.vld (l:ByteArray):MA→Prop
 | .use u _=>useV l u
 | .dec i a=>a.vld l i
def Ac.vld (l:ByteArray):Ac→Prop
 | .mod m=>m.vld l
 | _=>True
def Ed.vld (e:Ed):Prop:=labB e.l=true∧e.a.vld e.l
theorem Ed.vld_inv {e:Ed} (h:e.vld):e.inv.vld:=by
 obtain ⟨l,a⟩:=e
 refine ⟨h.1,?_⟩
 have h2:=h.2
 cases a with
 | add=>trivial
 | rem=>trivial
 | mod m =>
  cases m with
  | use u n=>exact h2
  | dec i a =>
   cases a with
   | add d=>exact h2
   | rem d=>exact h2
   | nam o n=>exact ⟨h2.1,h2.2.2.1,h2.2.1,Ne.symm h2.2.2.2⟩
   | bod o n=>exact ⟨h2.1,h2.2.2.1,h2.2.1,Ne.symm h2.2.2.2⟩
   | hed o n=>exact ⟨h2.1,h2.2.2.1,h2.2.1,Ne.symm h2.2.2.2⟩
theorem Ed.vld_fit {e:Ed} (h:e.vld):e.fit:=by
 obtain ⟨l,a⟩:=e
 intro m hm
 have h2:=h.2
 simp only at hm
 subst hm
 cases m with
 | use u n=>trivial
 | dec i a =>
  cases a with
  | add d=>exact h2.2
  | rem d=>exact h2.2
  | nam o n=>trivial
  | bod o n=>trivial
  | hed o n=>trivial
theorem declX_id {l:ByteArray} {d:Dx} (h:declX l d):idV d.id:=by
 obtain ⟨w,rfl,h2⟩:=h
 exact h2.1
theorem labB_ne {u:ByteArray} (h:labB u=true):u≠⟨#[]⟩:=by
 rintro rfl
 revert h
 decide +kernel
theorem Ed.vld_named {e:Ed} (h:e.vld):e.named:=by
 obtain ⟨l,a⟩:=e
 have h2:=h.2
 cases a with
 | add=>trivial
 | rem=>trivial
 | mod m =>
  cases m with
  | use u n=>exact labB_ne h2.1
  | dec i a =>
   show 1≤i
   cases a with
   | add d=>have h3:=(declX_id h2.1).1;rw [show d.id=i from h2.2] at h3;exact h3
   | rem d=>have h3:=(declX_id h2.1).1;rw [show d.id=i from h2.2] at h3;exact h3
   | nam o n=>exact h2.1.1
   | bod o n=>exact h2.1.1
   | hed o n=>exact h2.1.1
theorem mx_nil {l:List Dw} (h:l.map Dw.x=[]):l=[]:=List.map_eq_nil_iff.1 h
theorem mx_one {l:List Dw} {d:Dx} (h:l.map Dw.x=[d]):∃ a,l=[a]∧a.x=d:=by
 cases l with
 | nil=>cases h
 | cons a l =>
  cases l with
  | nil=>exact ⟨a,rfl,by injection h⟩
  | cons b l=>simp at h
theorem modW_bare {l:ByteArray} (h:labB l=true) (ua:Option Addr) (uc:Nat) (da:Option Addr) (dc:Nat):modW ⟨l,ua,[],uc,da,[],dc⟩ :=
 ⟨h,⟨by simp,(fun u hu=>by cases hu),List.Pairwise.nil⟩,fun i hi=>absurd hi (Nat.not_lt_zero _),by simp,(fun d hd=>by cases hd),List.Pairwise.nil⟩
theorem modW_use {l u:ByteArray} (h:labB l=true) (hu:useV l u) (ua:Option Addr) (uc:Nat) (da:Option Addr) (dc:Nat):modW ⟨l,ua,[u],uc,da,[],dc⟩:=by
 refine ⟨h,⟨by simp,fun v hv=>by rw [List.mem_singleton.1 hv];exact hu.1,List.pairwise_singleton _ _⟩,fun i hi=>?_,by simp,fun d hd=>(by cases hd),List.Pairwise.nil⟩
 have hi0:i=0:=by simp at hi;exact hi
 subst hi0
 have hne:(u.toList == l.toList)=false:=str_ne hu.2.2
 show useE1 l [u] 0 u=0
 unfold useE1
 rw [hu.2.1,hne]
 simp
theorem modW_dec {l:ByteArray} {d:Dw} (h:labB l=true) (hd:declW l d) (ua:Option Addr) (uc:Nat) (da:Option Addr) (dc:Nat):modW ⟨l,ua,[],uc,da,[d],dc⟩ :=
 ⟨h,⟨by simp,(fun u hu=>by cases hu),List.Pairwise.nil⟩,fun i hi=>absurd hi (Nat.not_lt_zero _),by simp,(fun e he=>by rw [List.mem_singleton.1 he];exact hd),List.pairwise_singleton _ _⟩
theorem okW_one {k i d:Int} {n m:ByteArray} (h:nodeC k i d n m 0=0):okW (.mk k n m i d none 0 []):=by
 have hp:preW 1 (.mk k n m i d none 0 [])=[(1,.mk k n m i d none 0 [])]:=by simp [preW,preWL]
 refine ⟨by rw [hp];simp,fun x hx=>?_,fun x hx=>?_⟩
 ·rw [hp] at hx
  rw [List.mem_singleton.1 hx]
  simp
 ·rw [hp] at hx
  rw [List.mem_singleton.1 hx]
  exact h
theorem bodyW_nil (l:ByteArray):bodyW l nilEw:=by
 refine ⟨okW_one (by decide +kernel),?_,?_,?_⟩
 ·rw [any_pre _ 1];rfl
 ·rw [freeE_eq];rfl
 ·rw [any_pre _ 1];rfl
theorem nmB_a:nmB aB=true:=pB_iff.2 (okW_one (by decide +kernel))
theorem namesE_a:namesE [aB]=0:=by
 unfold namesE
 simp [nmB_a]
theorem cnt_z {d:Dw} (h:d.body.x=zEx):cntE d.body≤1000:=by
 have h2:cntE d.body=cntE zEw:=cnt_x (h.trans zEw_x.symm)
 rw [h2]
 decide +kernel
theorem okW_few {e:Ew} (h:okW e):cntE e≤1000:=Nat.le_trans (okW_cnt h) (by omega)
theorem Ed.vld_k {e:Ed} (h:e.vld) {y:Kw} (hy:y.x=e.k):FitK y∧TestK y:=by
 obtain ⟨l,a⟩:=e
 obtain ⟨h1,h2⟩:=h
 simp only at h1 h2
 obtain ⟨kind,pack,text,oa,old,oc,na,new,nc⟩:=y
 unfold Kw.x at hy
 cases a with
 | add =>
  injection hy with e1 e2 e3 e4 e5
  simp only at e1 e2 e3 e4 e5
  subst e1 e2 e3
  obtain rfl:=mx_nil e4
  obtain rfl:=mx_nil e5
  exact ⟨.inl ⟨.inl rfl,rfl,rfl,rfl⟩,⟨fun _=>modW_bare h1,fun h=>by simp at h,fun h=>by simp at h⟩⟩
 | rem =>
  injection hy with e1 e2 e3 e4 e5
  simp only at e1 e2 e3 e4 e5
  subst e1 e2 e3
  obtain rfl:=mx_nil e4
  obtain rfl:=mx_nil e5
  exact ⟨.inl ⟨.inr rfl,rfl,rfl,rfl⟩,⟨fun _=>modW_bare h1,fun h=>by simp at h,fun h=>by simp at h⟩⟩
 | mod m =>
  cases m with
  | use u n =>
   cases n
   ·injection hy with e1 e2 e3 e4 e5
    simp only at e1 e2 e3 e4 e5
    subst e1 e2 e3
    obtain rfl:=mx_nil e4
    obtain rfl:=mx_nil e5
    exact ⟨.inr (.inl ⟨.inr rfl,rfl,rfl⟩),⟨fun h=>by simp at h,fun _=>modW_use h1 h2,fun h=>by simp at h⟩⟩
   ·injection hy with e1 e2 e3 e4 e5
    simp only at e1 e2 e3 e4 e5
    subst e1 e2 e3
    obtain rfl:=mx_nil e4
    obtain rfl:=mx_nil e5
    exact ⟨.inr (.inl ⟨.inl rfl,rfl,rfl⟩),⟨fun h=>by simp at h,fun _=>modW_use h1 h2,fun h=>by simp at h⟩⟩
  | dec i a =>
   have two:∀ {k:Int} {o n:Dw} {p:Dx→Dx},(k=7∨k=8∨k=9)→PartK k o n→cntE o.body≤1000→cntE n.body≤1000→(∀ d,d=o∨d=n→∀ na nc,declW l (cmplW k d na nc)) →
     FitK ⟨k,l,⟨#[]⟩,oa,[o],oc,na,[n],nc⟩∧TestK ⟨k,l,⟨#[]⟩,oa,[o],oc,na,[n],nc⟩:=fun {k o n p} hk hp c1 c2 ht =>
    ⟨.inr (.inr (.inr (.inr ⟨hk,rfl,o,n,rfl,rfl,hp,c1,c2⟩))),⟨fun h=>absurd (show k≤2 from h) (by omega),fun h=>absurd (show k=3∨k=4 from h) (by omega),fun _ d hd a c ua uc da dc=>modW_dec h1 (ht d (by simpa using hd) a c) ua uc da dc⟩⟩
   cases a with
   | add d =>
    injection hy with e1 e2 e3 e4 e5
    simp only at e1 e2 e3 e4 e5
    subst e1 e2 e3
    obtain rfl:=mx_nil e4
    obtain ⟨w,rfl,e6⟩:=mx_one e5
    refine ⟨.inr (.inr (.inl ⟨rfl,rfl,rfl,w,rfl⟩)),⟨fun h=>by simp at h,fun h=>by simp at h,fun _ v hv a c ua uc da dc=>?_⟩⟩
    obtain rfl:v=w:=by simpa using hv
    exact modW_dec h1 (declX_all h2.1 e6) ua uc da dc
   | rem d =>
    injection hy with e1 e2 e3 e4 e5
    simp only at e1 e2 e3 e4 e5
    subst e1 e2 e3
    obtain rfl:=mx_nil e5
    obtain ⟨w,rfl,e6⟩:=mx_one e4
    refine ⟨.inr (.inr (.inr (.inl ⟨rfl,rfl,⟨w,rfl⟩,rfl⟩))),⟨fun h=>by simp at h,fun h=>by simp at h,fun _ v hv a c ua uc da dc=>?_⟩⟩
    obtain rfl:v=w:=by simpa using hv
    exact modW_dec h1 (declX_all h2.1 e6) ua uc da dc
   | nam o n =>
    injection hy with e1 e2 e3 e4 e5
    simp only at e1 e2 e3 e4 e5
    subst e1 e2 e3
    obtain ⟨v,rfl,e6⟩:=mx_one e4
    obtain ⟨w,rfl,e7⟩:=mx_one e5
    obtain ⟨h3,h4,h5,h6⟩:=h2
    have v1:v.id=i∧v.names=o∧v.body.x=zEx:=⟨congrArg Dx.id e6,congrArg Dx.names e6,congrArg Dx.body e6⟩
    have w1:w.id=i∧w.names=n∧w.body.x=zEx:=⟨congrArg Dx.id e7,congrArg Dx.names e7,congrArg Dx.body e7⟩
    refine two (p:=id) (.inl rfl) ⟨?_,?_,v1.1.trans w1.1.symm,?_⟩ (cnt_z v1.2.2) (cnt_z w1.2.2) ?_
    ·rw [menW_x,e6];rfl
    ·rw [menW_x,e7];rfl
    ·rw [e6,e7]
     exact fun e=>h6 (congrArg Dx.names e)
    ·rintro d (rfl | rfl) a c
     ·refine ⟨?_,.inl rfl,?_,bodyW_nil _⟩
      ·show idV d.id;rw [v1.1];exact h3
      ·show namesE d.names=0;rw [v1.2.1];exact h4
     ·refine ⟨?_,.inl rfl,?_,bodyW_nil _⟩
      ·show idV d.id;rw [w1.1];exact h3
      ·show namesE d.names=0;rw [w1.2.1];exact h5
   | bod o n =>
    injection hy with e1 e2 e3 e4 e5
    simp only at e1 e2 e3 e4 e5
    subst e1 e2 e3
    obtain ⟨v,rfl,e6⟩:=mx_one e4
    obtain ⟨w,rfl,e7⟩:=mx_one e5
    obtain ⟨h3,h4,h5,h6⟩:=h2
    have v1:v.id=i∧v.body.x=o:=⟨congrArg Dx.id e6,congrArg Dx.body e6⟩
    have w1:w.id=i∧w.body.x=n:=⟨congrArg Dx.id e7,congrArg Dx.body e7⟩
    have b1:=bodyX_all h4 v1.2
    have b2:=bodyX_all h5 w1.2
    refine two (p:=id) (.inr (.inl rfl)) ⟨?_,?_,v1.1.trans w1.1.symm,?_⟩ (okW_few b1.1) (okW_few b2.1) ?_
    ·rw [menW_x,e6];rfl
    ·rw [menW_x,e7];rfl
    ·rw [e6,e7]
     exact fun e=>h6 (congrArg Dx.body e)
    ·rintro d (rfl | rfl) a c
     ·refine ⟨?_,.inl rfl,namesE_a,b1⟩
      show idV d.id;rw [v1.1];exact h3
     ·refine ⟨?_,.inl rfl,namesE_a,b2⟩
      show idV d.id;rw [w1.1];exact h3
   | hed o n =>
    injection hy with e1 e2 e3 e4 e5
    simp only at e1 e2 e3 e4 e5
    subst e1 e2 e3
    obtain ⟨v,rfl,e6⟩:=mx_one e4
    obtain ⟨w,rfl,e7⟩:=mx_one e5
    obtain ⟨h3,h4,h5,h6⟩:=h2
    have v1:v.id=i∧v.kind=o.1∧v.body.x=zEx∧v.x.hd=o:=⟨congrArg Dx.id e6,congrArg Dx.kind e6,congrArg Dx.body e6,congrArg Dx.hd e6⟩
    have w1:w.id=i∧w.kind=n.1∧w.body.x=zEx∧w.x.hd=n:=⟨congrArg Dx.id e7,congrArg Dx.kind e7,congrArg Dx.body e7,congrArg Dx.hd e7⟩
    refine two (p:=id) (.inr (.inr rfl)) ⟨?_,?_,v1.1.trans w1.1.symm,?_⟩ (cnt_z v1.2.2.1) (cnt_z w1.2.2.1) ?_
    ·rw [menW_x,e6];rfl
    ·rw [menW_x,e7];rfl
    ·intro e
     exact h6 (by rw [← v1.2.2.2,← w1.2.2.2,e])
    ·rintro d (rfl | rfl) a c
     ·refine ⟨?_,?_,namesE_a,bodyW_nil _⟩
      ·show idV d.id;rw [v1.1];exact h3
      ·show kindV d.kind;rw [v1.2.1];exact h4
     ·refine ⟨?_,?_,namesE_a,bodyW_nil _⟩
      ·show idV d.id;rw [w1.1];exact h3
      ·show kindV d.kind;rw [w1.2.1];exact h5
theorem inv_k {e:Ed} {y:Kw} (hy:y.x=e.k):(invK y).x=e.inv.k:=by
 obtain ⟨l,a⟩:=e
 obtain ⟨kind,pack,text,oa,old,oc,na,new,nc⟩:=y
 unfold Kw.x at hy
 cases a with
 | add=>injection hy with e1 e2 e3 e4 e5;simp only at e1 e2 e3 e4 e5;subst e1 e2 e3;unfold invK Kw.x;simp only [e4,e5];rfl
 | rem=>injection hy with e1 e2 e3 e4 e5;simp only at e1 e2 e3 e4 e5;subst e1 e2 e3;unfold invK Kw.x;simp only [e4,e5];rfl
 | mod m =>
  cases m with
  | use u n=>cases n <;> (injection hy with e1 e2 e3 e4 e5;simp only at e1 e2 e3 e4 e5;subst e1 e2 e3;unfold invK Kw.x;simp only [e4,e5];rfl)
  | dec i a=>cases a <;> (injection hy with e1 e2 e3 e4 e5;simp only at e1 e2 e3 e4 e5;subst e1 e2 e3;unfold invK Kw.x;simp only [e4,e5];rfl)
def MxV (m:Mx):Prop:=∃ w:Mw,w.x=m∧modW w
theorem MxV.all {m:Mx} (h:MxV m) {w:Mw} (hw:w.x=m):modW w:=by
 obtain ⟨v,rfl,h2⟩:=h
 exact modW_x hw.symm h2
theorem MxV.lab {m:Mx} (h:MxV m):labB m.label=true:=by
 obtain ⟨v,rfl,h2⟩:=h
 exact h2.lab
theorem MxV.use {m:Mx} (h:MxV m) {u:ByteArray} (hu:u∈m.uses):useV m.label u:=by
 obtain ⟨v,rfl,h2⟩:=h
 obtain ⟨i,hi,e⟩:=List.getElem_of_mem (show u∈v.uses from hu)
 have h3:=h2.use i hi
 rw [e] at h3
 unfold useE1 at h3
 refine ⟨h2.src.2.1 u hu,?_,?_⟩
 ·cases hn:nmB (alW u) with
  | true=>rfl
  | false=>rw [hn,if_pos rfl] at h3;cases h3
 ·intro e2
  have h4:(u.toList == v.label.toList)=true:=by rw [show u=v.label from e2];simp
  rw [h4] at h3
  split at h3
  ·cases h3
  ·split at h3
   ·cases h3
   ·simp at h3
theorem MxV.dec {m:Mx} (h:MxV m) {d:Dx} (hd:d∈m.decls):declX m.label d:=by
 obtain ⟨v,rfl,h2⟩:=h
 obtain ⟨y,hy,e1⟩:=List.mem_map.1 (show d∈v.decls.map Dw.x from hd)
 exact ⟨y,e1,h2.dec y hy⟩
theorem declX_parts {l:ByteArray} {d:Dx} (h:declX l d):idV d.id∧kindV d.kind∧namesE d.names=0∧bodyX l d.body:=by
 obtain ⟨w,rfl,h1,h2,h3,h4⟩:=h
 exact ⟨h1,h2,h3,_,rfl,h4⟩
theorem mem_partsV {l:ByteArray} {x y:Dx} (hx:declX l x) (hy:declX l y) {c:DA} (h:c∈partsE x y):c.vld l x.id:=by
 obtain ⟨a1,a2,a3,a4⟩:=declX_parts hx
 obtain ⟨b1,b2,b3,b4⟩:=declX_parts hy
 unfold partsE at h
 rcases List.mem_append.1 h with h | h
 ·rcases List.mem_append.1 h with h | h
  ·split at h
   ·cases h
   ·rename_i hne
    rw [List.mem_singleton.1 h];exact ⟨a1,a3,b3,hne⟩
  ·split at h
   ·cases h
   ·rename_i hne
    rw [List.mem_singleton.1 h];exact ⟨a1,a4,b4,hne⟩
 ·split at h
  ·cases h
  ·rename_i hne
   rw [List.mem_singleton.1 h];exact ⟨a1,a2,b2,hne⟩
theorem mem_declV {l:ByteArray}:∀ {a b:List Dx},(∀ x∈a,declX l x)→(∀ y∈b,declX l y)→∀ {m:MA},m∈declE a b→m.vld l
 | [],[],_,_,m,h=>by rw [declE] at h;cases h
 | x::a,[],ha,hb,m,h=>by
  rw [declE] at h
  rcases List.mem_cons.1 h with rfl | h
  ·exact ⟨ha x (List.mem_cons_self ..),rfl⟩
  ·exact mem_declV (fun z hz=>ha z (List.mem_cons_of_mem _ hz)) hb h
 | [],y::b,ha,hb,m,h=>by
  rw [declE] at h
  rcases List.mem_cons.1 h with rfl | h
  ·exact ⟨hb y (List.mem_cons_self ..),rfl⟩
  ·exact mem_declV ha (fun z hz=>hb z (List.mem_cons_of_mem _ hz)) h
 | x::a,y::b,ha,hb,m,h=>by
  rw [declE] at h
  split at h
  ·rcases List.mem_cons.1 h with rfl | h
   ·exact ⟨ha x (List.mem_cons_self ..),rfl⟩
   ·exact mem_declV (fun z hz=>ha z (List.mem_cons_of_mem _ hz)) hb h
  ·split at h
   ·rcases List.mem_cons.1 h with rfl | h
    ·exact ⟨hb y (List.mem_cons_self ..),rfl⟩
    ·exact mem_declV ha (fun z hz=>hb z (List.mem_cons_of_mem _ hz)) h
   ·rcases List.mem_append.1 h with h | h
    ·obtain ⟨c,hc,rfl⟩:=List.mem_map.1 h
     exact mem_partsV (ha x (List.mem_cons_self ..)) (hb y (List.mem_cons_self ..)) hc
    ·exact mem_declV (fun z hz=>ha z (List.mem_cons_of_mem _ hz)) (fun z hz=>hb z (List.mem_cons_of_mem _ hz)) h
termination_by a b=>a.length+b.length
theorem diff_vld {a b:List Mx} (ha:OkL a) (hb:OkL b) (va:∀ m∈a,MxV m) (vb:∀ m∈b,MxV m):∀ e∈diffE a b,e.vld:=by
 have hP:=pairs_ok a b ha.asc hb.asc
 have fA:∀ {p m},p∈pairsM a b→p.2.1=some m→m.label=p.1∧MxV m:=fun {p m} hp e=>by
  have h1:=(hP.at_ p hp).1
  rw [e] at h1
  exact ⟨(fnd_key h1.symm).1,va m (fnd_key h1.symm).2⟩
 have fB:∀ {p m},p∈pairsM a b→p.2.2=some m→m.label=p.1∧MxV m:=fun {p m} hp e=>by
  have h1:=(hP.at_ p hp).2.1
  rw [e] at h1
  exact ⟨(fnd_key h1.symm).1,vb m (fnd_key h1.symm).2⟩
 have hl:∀ p∈pairsM a b,labB p.1=true:=fun p hp=>by
  cases e1:p.2.1 with
  | some m=>obtain ⟨h2,h3⟩:=fA hp e1;rw [← h2];exact h3.lab
  | none =>
   cases e2:p.2.2 with
   | some m=>obtain ⟨h2,h3⟩:=fB hp e2;rw [← h2];exact h3.lab
   | none =>
    have h4:=(hP.at_ p hp).2.2
    rw [← (hP.at_ p hp).1,← (hP.at_ p hp).2.1,e1,e2] at h4
    simp at h4
 have uA:∀ p∈pairsM a b,∀ u∈uO p.2.1,useV p.1 u:=fun p hp u hu=>by
  cases e1:p.2.1 with
  | none=>rw [e1] at hu;cases hu
  | some m=>obtain ⟨h2,h3⟩:=fA hp e1;rw [e1] at hu;rw [← h2];exact h3.use hu
 have uB:∀ p∈pairsM a b,∀ u∈uO p.2.2,useV p.1 u:=fun p hp u hu=>by
  cases e1:p.2.2 with
  | none=>rw [e1] at hu;cases hu
  | some m=>obtain ⟨h2,h3⟩:=fB hp e1;rw [e1] at hu;rw [← h2];exact h3.use hu
 have dA:∀ p∈pairsM a b,∀ u∈dO p.2.1,declX p.1 u:=fun p hp u hu=>by
  cases e1:p.2.1 with
  | none=>rw [e1] at hu;cases hu
  | some m=>obtain ⟨h2,h3⟩:=fA hp e1;rw [e1] at hu;rw [← h2];exact h3.dec hu
 have dB:∀ p∈pairsM a b,∀ u∈dO p.2.2,declX p.1 u:=fun p hp u hu=>by
  cases e1:p.2.2 with
  | none=>rw [e1] at hu;cases hu
  | some m=>obtain ⟨h2,h3⟩:=fB hp e1;rw [e1] at hu;rw [← h2];exact h3.dec hu
 have huse:∀ {l:ByteArray} {n:Bool} {X Y:List ByteArray} {ac:Ac},labB l=true→(∀ u∈X,useV l u)→ac∈(useE n X Y).map Ac.mod→(Ed.mk l ac).vld:=fun {l n X Y ac} h0 hX h=>by
  obtain ⟨m,hm,rfl⟩:=List.mem_map.1 h
  obtain ⟨u,hu,rfl⟩:=List.mem_map.1 hm
  exact ⟨h0,hX u (List.mem_filter.1 hu).1⟩
 intro e he
 unfold diffE at he
 rcases List.mem_append.1 he with he | he
 ·obtain ⟨p,hp,ac,h1,rfl⟩:=mem_flatE.1 he
  unfold ph1 at h1
  split at h1
  ·cases h1
  ·rw [List.mem_singleton.1 h1]
   exact ⟨hl p hp,trivial⟩
 rcases List.mem_append.1 he with he | he
 ·obtain ⟨p,hp,ac,h1,rfl⟩:=mem_flatE.1 he
  exact huse (hl p hp) (uB p hp) h1
 rcases List.mem_append.1 he with he | he
 ·obtain ⟨p,hp,ac,h1,rfl⟩:=mem_flatE.1 he
  obtain ⟨m,hm,rfl⟩:=List.mem_map.1 h1
  exact ⟨hl p hp,mem_declV (dA p hp) (dB p hp) hm⟩
 rcases List.mem_append.1 he with he | he
 ·obtain ⟨p,hp,ac,h1,rfl⟩:=mem_flatE.1 he
  exact huse (hl p hp) (uA p hp) h1
 ·obtain ⟨p,hp,ac,h1,rfl⟩:=mem_flatE.1 he
  unfold ph5 at h1
  split at h1
  ·cases h1
  ·rw [List.mem_singleton.1 h1]
   exact ⟨hl p hp,trivial⟩
end Go.Proofs.YtgcceepadlmelaaGreatDoor
