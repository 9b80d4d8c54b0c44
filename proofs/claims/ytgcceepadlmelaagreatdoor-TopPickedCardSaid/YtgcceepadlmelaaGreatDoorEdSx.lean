import Derived.Test.YtgcceepadlmelaaGreatDoorQAS
import Derived.Test.YtgcceepadlmelaaGreatDoorEdEqx
import Derived.Test.YtgcceepadlmelaaGreatDoorQAK
namespace Go.Proofs.YtgcceepadlmelaaGreatDoor
set_option maxRecDepth 100000
set_option maxHeartbeats 16000000
open Go.RowKit
def TellB (p:Prop) (w:World) (r:Ending) (w':World):Prop:=r=.returned (.bool (pB p))∧Below w.heap.size w w'
theorem tell_t {p:Prop} {w w':World} (h:p) (hb:Below w.heap.size w w'):TellB p w (.returned (.bool true)) w':=⟨by rw [pB_t h],hb⟩
theorem tell_f {p:Prop} {w w':World} (h:¬ p) (hb:Below w.heap.size w w'):TellB p w (.returned (.bool false)) w':=⟨by rw [pB_f h],hb⟩
theorem map_all {α β:Type} {f:α→β} {l m:List α} {n:Nat} (hl:l.length=n) (hm:m.length=n):(l.map f=m.map f)↔∀ k (h1:k<l.length) (h2:k<m.length),f l[k]=f m[k]:=by
 constructor
 ·intro h k h1 h2
  have h3:=congrArg (fun z=>z[k]?) h
  simpa only [List.getElem?_map,List.getElem?_eq_getElem h1,List.getElem?_eq_getElem h2,Option.map_some,Option.some.injEq] using h3
 ·intro h
  refine List.ext_getElem (by simp;omega) fun i h1 h2=>?_
  rw [List.getElem_map,List.getElem_map]
  rw [List.length_map] at h1 h2
  exact h i h1 h2
theorem map_len {α β:Type} {f:α→β} {l m:List α} {n k:Nat} (hl:l.length=n) (hm:m.length=k) (h:¬ n=k):¬ l.map f=m.map f:=fun e=>h (by
 have:=congrArg List.length e
 rw [List.length_map,List.length_map] at this
 omega)
theorem d_iff (a b:Dw):a.x=b.x↔(a.id=b.id∧a.kind=b.kind∧a.pub=b.pub∧a.doubt=b.doubt)∧a.names=b.names∧a.body.x=b.body.x:=by
 constructor
 ·intro h
  exact ⟨⟨congrArg Dx.id h,congrArg Dx.kind h,congrArg Dx.pub h,congrArg Dx.doubt h⟩,congrArg Dx.names h,congrArg Dx.body h⟩
 ·rintro ⟨⟨h1,h2,h3,h4⟩,h5,h6⟩
  unfold Dw.x
  rw [h1,h2,h3,h4,h5,h6]
theorem k_iff (a b:Kw):a.x=b.x↔(a.kind=b.kind∧a.pack=b.pack∧a.text=b.text)∧a.old.map Dw.x=b.old.map Dw.x∧a.new.map Dw.x=b.new.map Dw.x:=by
 constructor
 ·intro h
  exact ⟨⟨congrArg Kc.kind h,congrArg Kc.pack h,congrArg Kc.text h⟩,congrArg Kc.old h,congrArg Kc.new h⟩
 ·rintro ⟨⟨h1,h2,h3⟩,h5,h6⟩
  unfold Kw.x
  rw [h1,h2,h3,h5,h6]
theorem heads3 {p0 p1 p2:Prop} (h:¬ (p0∧p1∧p2)):(¬ p0)∨(p0∧¬ p1)∨(p0∧p1∧¬ p2):=by
 by_cases h0:p0
 case neg=>exact .inl h0
 by_cases h1:p1
 case neg=>exact .inr (.inl ⟨h0,h1⟩)
 by_cases h2:p2
 case neg=>exact .inr (.inr (⟨h0,h1,h2⟩))
 exact absurd ⟨h0,h1,h2⟩ h
theorem heads4 {p0 p1 p2 p3:Prop} (h:¬ (p0∧p1∧p2∧p3)):(¬ p0)∨(p0∧¬ p1)∨(p0∧p1∧¬ p2)∨(p0∧p1∧p2∧¬ p3):=by
 by_cases h0:p0
 case neg=>exact .inl h0
 by_cases h1:p1
 case neg=>exact .inr (.inl ⟨h0,h1⟩)
 by_cases h2:p2
 case neg=>exact .inr (.inr (.inl ⟨h0,h1,h2⟩))
 by_cases h3:p3
 case neg=>exact .inr (.inr (.inr (⟨h0,h1,h2,h3⟩)))
 exact absurd ⟨h0,h1,h2,h3⟩ h
theorem heads6 {p0 p1 p2 p3 p4 p5:Prop} (h:¬ (p0∧p1∧p2∧p3∧p4∧p5)):(¬ p0)∨(p0∧¬ p1)∨(p0∧p1∧¬ p2)∨(p0∧p1∧p2∧¬ p3)∨(p0∧p1∧p2∧p3∧¬ p4)∨(p0∧p1∧p2∧p3∧p4∧¬ p5):=by
 by_cases h0:p0
 case neg=>exact .inl h0
 by_cases h1:p1
 case neg=>exact .inr (.inl ⟨h0,h1⟩)
 by_cases h2:p2
 case neg=>exact .inr (.inr (.inl ⟨h0,h1,h2⟩))
 by_cases h3:p3
 case neg=>exact .inr (.inr (.inr (.inl ⟨h0,h1,h2,h3⟩)))
 by_cases h4:p4
 case neg=>exact .inr (.inr (.inr (.inr (.inl ⟨h0,h1,h2,h3,h4⟩))))
 by_cases h5:p5
 case neg=>exact .inr (.inr (.inr (.inr (.inr (⟨h0,h1,h2,h3,h4,h5⟩)))))
 exact absurd ⟨h0,h1,h2,h3,h4,h5⟩ h
theorem SameX_upto:∀ (N:Nat) (a b:Ew),cntE a≤N→∀ w,EA w a→EA w b→Calls Tryz.prog 91 #[.agg (eca a),.agg (eca b)] w (TellB (a.x=b.x) w)
 | 0,a,_,hN,_,_,_=>by rw [cntE_eq] at hN;omega
 | N+1,a,b,hN,w,ha,hb=>by
  have ih:=SameX_upto N
  have hxi:=x_iff a b
  obtain ⟨n,hn⟩:∃ n,a.sub.length=n:=⟨_,rfl⟩
  obtain ⟨n2,hn2⟩:∃ n2,b.sub.length=n2:=⟨_,rfl⟩
  have ea:eca a=#[.int .i64 a.kind,.string a.name,.string a.more,.int .i64 a.int,.int .i64 a.den,.slice a.ao n a.cap]:=by rw [← hn]
  have eb:eca b=#[.int .i64 b.kind,.string b.name,.string b.more,.int .i64 b.int,.int .i64 b.den,.slice b.ao n2 b.cap]:=by rw [← hn2]
  rw [ea,eb]
  clear ea eb
  obtain ⟨W0,hW0⟩:∃ y,(w.alloc (.cells #[.int .i64 a.kind,.string a.name,.string a.more,.int .i64 a.int,.int .i64 a.den,.slice a.ao n a.cap] 63)).alloc (.cells #[.int .i64 b.kind,.string b.name,.string b.more,.int .i64 b.int,.int .i64 b.den,.slice b.ao n2 b.cap] 63)=y:=⟨_,rfl⟩
  have hb0:Below w.heap.size w W0:=by rw [← hW0];exact (ba _ _).alloc (by simp) _
  have HRR:Hid (∀ W,Below W0.heap.size W0 W→(W.cell? ⟨w.heap.size,0,none⟩=some (.int .i64 a.kind)∧W.cell? ⟨w.heap.size,1,none⟩=some (.string a.name)∧W.cell? ⟨w.heap.size,2,none⟩=some (.string a.more)∧W.cell? ⟨w.heap.size,3,none⟩=some (.int .i64 a.int)∧W.cell? ⟨w.heap.size,4,none⟩=some (.int .i64 a.den)∧W.cell? ⟨w.heap.size,5,none⟩=some (.slice a.ao n a.cap))∧(W.cell? ⟨w.heap.size+1,0,none⟩=some (.int .i64 b.kind)∧W.cell? ⟨w.heap.size+1,1,none⟩=some (.string b.name)∧W.cell? ⟨w.heap.size+1,2,none⟩=some (.string b.more)∧W.cell? ⟨w.heap.size+1,3,none⟩=some (.int .i64 b.int)∧W.cell? ⟨w.heap.size+1,4,none⟩=some (.int .i64 b.den)∧W.cell? ⟨w.heap.size+1,5,none⟩=some (.slice b.ao n2 b.cap))∧w.heap.size<W.heap.size∧w.heap.size+1<W.heap.size):=lid (fun W hb=>by
   have hR:W0.heap[w.heap.size]?=some (.cells #[.int .i64 a.kind,.string a.name,.string a.more,.int .i64 a.int,.int .i64 a.den,.slice a.ao n a.cap] 63 (0,0)):=by rw [← hW0];exact (h_old (by simp) _).trans (h_new rfl _)
   have hR2:W0.heap[w.heap.size+1]?=some (.cells #[.int .i64 b.kind,.string b.name,.string b.more,.int .i64 b.int,.int .i64 b.den,.slice b.ao n2 b.cap] 63 (0,0)):=by rw [← hW0];exact h_new (by simp) _
   have h1:=(hb.block _ (row_lt hR)).trans hR
   have h2:=(hb.block _ (row_lt hR2)).trans hR2
   exact ⟨⟨row_cell h1 0,row_cell h1 1,row_cell h1 2,row_cell h1 3,row_cell h1 4,row_cell h1 5⟩,⟨row_cell h2 0,row_cell h2 1,row_cell h2 2,row_cell h2 3,row_cell h2 4,row_cell h2 5⟩,row_lt h1,row_lt h2⟩)
  have HW0:=lid hW0
  have HB0:=lid hb0
  have HA:=lid (ha.lift hb0).subs
  have HB':=lid (hb.lift hb0).subs
  rw [hn] at HA
  rw [hn2] at HB'
  have ca:n≤a.cap:=by rw [← hn];exact ha.le
  have cb:n2≤b.cap:=by rw [← hn2];exact hb.le
  have ma:a.cap≤9223372036854775807:=ha.max
  have mb:b.cap≤9223372036854775807:=hb.max
  have IH:Hid (∀ (k:Nat) (h1:k<a.sub.length) (h2:k<b.sub.length) W,EA W a.sub[k]→EA W b.sub[k]→Calls Tryz.prog 91 #[.agg (eca a.sub[k]),.agg (eca b.sub[k])] W (TellB (a.sub[k].x=b.sub[k].x) W)):=lid (fun k h1 h2 W q1 q2=>ih _ _ (by have:=cntL_mem (List.getElem_mem h1);rw [cntE_eq] at hN;omega) W q1 q2)
  have HN:=lid (And.intro hn hn2)
  have HX:=lid hxi
  obtain ⟨⟨x0,x1,x2,x3,x4,x5⟩,⟨y0,y1,y2,y3,y4,y5⟩,lx,ly⟩:=HRR.out W0 (Below.refl _ _)
  clear hN ha hb hn hn2 hW0 hb0 ih hxi
  by_cases hall:a.kind=b.kind∧a.name=b.name∧a.more=b.more∧a.int=b.int∧a.den=b.den∧n=n2
  case neg =>
   have HV:Hid (¬ a.x=b.x):=lid (fun e=>by
    have h1:=HX.out.1 e
    by_cases hnn:n=n2
    ·exact hall ⟨h1.1.1,h1.1.2.1,h1.1.2.2.1,h1.1.2.2.2.1,h1.1.2.2.2.2,hnn⟩
    ·exact map_len HN.out.1 HN.out.2 hnn h1.2)
   rcases heads6 hall with h0 | ⟨h0,h1⟩ | ⟨h0,h1,h2⟩ | ⟨h0,h1,h2,h3⟩ | ⟨h0,h1,h2,h3,h4⟩ | ⟨h0,h1,h2,h3,h4,h5⟩
   focus
    have d0:(a.kind != b.kind)=true:=by simpa using h0
    clear h0
   rotate_left
   focus
    have d0:(a.kind != b.kind)=false:=by simp [h0]
    have d1:(a.name.toList == b.name.toList)=false:=str_ne h1
    clear h0 h1
   rotate_left
   focus
    have d0:(a.kind != b.kind)=false:=by simp [h0]
    have d1:(a.name.toList == b.name.toList)=true:=str_eq h1
    have d2:(a.more.toList == b.more.toList)=false:=str_ne h2
    clear h0 h1 h2
   rotate_left
   focus
    have d0:(a.kind != b.kind)=false:=by simp [h0]
    have d1:(a.name.toList == b.name.toList)=true:=str_eq h1
    have d2:(a.more.toList == b.more.toList)=true:=str_eq h2
    have d3:(a.int != b.int)=true:=by simpa using h3
    clear h0 h1 h2 h3
   rotate_left
   focus
    have d0:(a.kind != b.kind)=false:=by simp [h0]
    have d1:(a.name.toList == b.name.toList)=true:=str_eq h1
    have d2:(a.more.toList == b.more.toList)=true:=str_eq h2
    have d3:(a.int != b.int)=false:=by simp [h3]
    have d4:(a.den != b.den)=true:=by simpa using h4
    clear h0 h1 h2 h3 h4
   rotate_left
   focus
    have d0:(a.kind != b.kind)=false:=by simp [h0]
    have d1:(a.name.toList == b.name.toList)=true:=str_eq h1
    have d2:(a.more.toList == b.more.toList)=true:=str_eq h2
    have d3:(a.int != b.int)=false:=by simp [h3]
    have d4:(a.den != b.den)=false:=by simp [h4]
    have d5:((n:Int) != (n2:Int))=true:=by simp;omega
    clear h0 h1 h2 h3 h4 h5
   rotate_left
   all_goals
    clear hall
    go_enter Tryz.func91,Tryz.ntmps91
    go_wp2_with fail
    rw [HW0.out]
    go_wp2_with fail
    go_ret
    exact tell_f HV.out HB0.out
  obtain ⟨h0,h1,h2,h3,h4,h5⟩:=hall
  obtain rfl:n=n2:=h5
  have HX2:Hid (a.x=b.x↔∀ k (h1:k<a.sub.length) (h2:k<b.sub.length),a.sub[k].x=b.sub[k].x):=lid (by
   rw [HX.out,map_all HN.out.1 HN.out.2]
   exact ⟨fun h=>h.2,fun h=>⟨⟨h0,h1,h2,h3,h4⟩,h⟩⟩)
  have d0:(a.kind != b.kind)=false:=by simp [h0]
  have d1:(a.name.toList == b.name.toList)=true:=str_eq h1
  have d2:(a.more.toList == b.more.toList)=true:=str_eq h2
  have d3:(a.int != b.int)=false:=by simp [h3]
  have d4:(a.den != b.den)=false:=by simp [h4]
  clear h0 h1 h2 h3 h4
  go_enter Tryz.func91,Tryz.ntmps91
  go_wp2_with fail
  rw [HW0.out]
  go_wp2_with fail
  go_loopw [5] (fun u5 wr=>∃ k:Nat,k≤n∧u5=.int .i64 k∧Hid (Below W0.heap.size W0 wr)∧Hid (∀ j (h1:j<a.sub.length) (h2:j<b.sub.length),j<k→a.sub[j].x=b.sub[j].x)) (fun u5 _=>n-(intOf u5).toNat)
  case atStart=>exact ⟨0,Nat.zero_le _,rfl,lid (Below.refl _ _),lid (fun _ _ _ h=>by omega)⟩
  case round =>
   clear x0 x1 x2 x3 x4 x5 y0 y1 y2 y3 y4 y5 lx ly
   obtain ⟨k,hk,rfl,HB,HJ⟩:=hrel
   obtain ⟨⟨x0,x1,x2,x3,x4,x5⟩,⟨y0,y1,y2,y3,y4,y5⟩,lx,ly⟩:=HRR.out wr HB.out
   by_cases hkn:k<n
   ·have hk1:k<a.sub.length:=by rw [HN.out.1];exact hkn
    have hk2:k<b.sub.length:=by rw [HN.out.2];exact hkn
    obtain ⟨p,po,hao,hlp,hcp⟩:=el_row HA.out HB.out hkn hk1
    obtain ⟨q,qo,hbo,hlq,hcq⟩:=el_row HB'.out HB.out hkn hk2
    rw [hao] at x5
    rw [hbo] at y5
    have CI:=lid (fun W (hW:Below wr.heap.size wr W)=>IH.out k hk1 hk2 W ((HA.out.el _ (List.getElem_mem hk1)).lift (HB.out.trans (hW.mono HB.out.size))) ((HB'.out.el _ (List.getElem_mem hk2)).lift (HB.out.trans (hW.mono HB.out.size))))
    have HJ1:Hid (a.sub[k].x=b.sub[k].x→∀ j (h1:j<a.sub.length) (h2:j<b.sub.length),j<k+1→a.sub[j].x=b.sub[j].x):=lid (fun h j h1 h2 hj=>by
     by_cases e:j=k
     ·subst e;exact h
     ·exact HJ.out j h1 h2 (by omega))
    have HJ0:Hid (¬ a.sub[k].x=b.sub[k].x→¬ a.x=b.x):=lid (fun h e=>h (HX2.out.1 e k hk1 hk2))
    obtain ⟨s,hs⟩:∃ s,a.sub[k]=s:=⟨_,rfl⟩
    obtain ⟨t,ht⟩:∃ t,b.sub[k]=t:=⟨_,rfl⟩
    rw [hs] at hcp CI HJ1 HJ0
    rw [ht] at hcq CI HJ1 HJ0
    have s0:wr.cell? ⟨p,po+k*6,none⟩=some (.int .i64 s.kind):=by have:=hcp 0 _ rfl (by omega);exact this
    have s1:wr.cell? ⟨p,po+k*6+1,none⟩=some (.string s.name):=by have:=hcp 1 _ rfl (by omega);rwa [← Nat.add_assoc] at this
    have s2:wr.cell? ⟨p,po+k*6+2,none⟩=some (.string s.more):=by have:=hcp 2 _ rfl (by omega);rwa [← Nat.add_assoc] at this
    have s3:wr.cell? ⟨p,po+k*6+3,none⟩=some (.int .i64 s.int):=by have:=hcp 3 _ rfl (by omega);rwa [← Nat.add_assoc] at this
    have s4:wr.cell? ⟨p,po+k*6+4,none⟩=some (.int .i64 s.den):=by have:=hcp 4 _ rfl (by omega);rwa [← Nat.add_assoc] at this
    have s5:wr.cell? ⟨p,po+k*6+5,none⟩=some (.slice s.ao s.sub.length s.cap):=by have:=hcp 5 _ rfl (by omega);rwa [← Nat.add_assoc] at this
    have t0:wr.cell? ⟨q,qo+k*6,none⟩=some (.int .i64 t.kind):=by have:=hcq 0 _ rfl (by omega);exact this
    have t1:wr.cell? ⟨q,qo+k*6+1,none⟩=some (.string t.name):=by have:=hcq 1 _ rfl (by omega);rwa [← Nat.add_assoc] at this
    have t2:wr.cell? ⟨q,qo+k*6+2,none⟩=some (.string t.more):=by have:=hcq 2 _ rfl (by omega);rwa [← Nat.add_assoc] at this
    have t3:wr.cell? ⟨q,qo+k*6+3,none⟩=some (.int .i64 t.int):=by have:=hcq 3 _ rfl (by omega);rwa [← Nat.add_assoc] at this
    have t4:wr.cell? ⟨q,qo+k*6+4,none⟩=some (.int .i64 t.den):=by have:=hcq 4 _ rfl (by omega);rwa [← Nat.add_assoc] at this
    have t5:wr.cell? ⟨q,qo+k*6+5,none⟩=some (.slice t.ao t.sub.length t.cap):=by have:=hcq 5 _ rfl (by omega);rwa [← Nat.add_assoc] at this
    clear hcp hcq hs ht hk1 hk2 hao hbo
    go_wp2_with fail
    refine qd (fun w'=>∃ s:Since wr.heap.size wr,w'=s.world) [(0,true),(1,true),(2,true),(3,true),(4,true),(5,true),(6,true),(7,true),(8,true),(9,true),(10,false),(11,true)] ?_
    repeat (first | (refine qk ?_;simp only [Act.put,q1,q2,q3]) | (refine qf ?_;intro K hK;go_big_quiet_op;go_big_quiet_on))
    refine qc ?_
    intro K hK
    go_wp2_with fail
    (with_reducible refine (CI.out _ (Below.refl _ _).drew).mono ?_);rintro e w2 ⟨rfl,hb2⟩
    have HB2':=lid ((Below.refl wr.heap.size wr).drew.trans hb2)
    have HB2:=lid (HB.out.trans (HB2'.out.mono HB.out.size))
    clear hb2 CI
    go_wp2_with fail
    refine hK.out _ _ (since HB2'.out) ?_
    clear hK K
    repeat (first | (refine qk ?_;simp only [Act.put,q1,q2,q3]) | (refine qf ?_;intro K hK;go_big_quiet_op;go_big_quiet_on))
    refine seq_nil ?_
    obtain ⟨c,hc⟩:∃ c,pB (s.x=t.x)=c:=⟨_,rfl⟩
    rw [hc]
    cases c with
    | true =>
     have HJ2:=lid (HJ1.out (pB_iff.1 hc))
     clear hc HJ1 HJ0
     go_wp2_with fail
     go_roundw
     case rel=>exact ⟨k+1,by omega,by go_num,HB2,HJ2⟩
     case measure=>simp [intOf];omega
    | false =>
     have HV:=lid (HJ0.out (fun e=>by rw [pB_t e] at hc;cases hc))
     clear hc HJ1 HJ0
     go_wp2_with fail
     go_ret
     exact tell_f HV.out (HB0.out.trans (HB2.out.mono HB0.out.size))
   ·obtain rfl:k=n:=by omega
    have HV:Hid (a.x=b.x):=lid (HX2.out.2 (fun j h1 h2=>HJ.out j h1 h2 (by rw [← HN.out.1];exact h1)))
    clear hkn
    go_wp2_with fail
    go_ret
    exact tell_t HV.out (HB0.out.trans (HB.out.mono HB0.out.size))
theorem SameSx_any (ao bo:Option Addr) (n n2 ca cb:Nat) (l m:List ByteArray) (w:World) (ha:SA w ao n ca l) (hb:SA w bo n2 cb m):Calls Tryz.prog 41 #[.slice ao n ca,.slice bo n2 cb] w (TellB (l=m) w):=by
 have HA:=lid ha
 have HBB:=lid hb
 have c1:n≤ca:=ha.le
 have c2:n2≤cb:=hb.le
 have m1:ca≤9223372036854775807:=ha.max
 have m2:cb≤9223372036854775807:=hb.max
 clear ha hb
 by_cases hnn:n=n2
 case neg =>
  have d:((n:Int) != (n2:Int))=true:=by simp;omega
  have HV:Hid (¬ (l=m)):=lid (fun e=>hnn (by rw [← HA.out.len,← HBB.out.len,e]))
  clear hnn
  go_enter Tryz.func41,Tryz.ntmps41
  go_wp2_with fail
  go_ret
  exact tell_f HV.out (Below.refl _ _)
 obtain rfl:n=n2:=hnn
 go_enter Tryz.func41,Tryz.ntmps41
 go_wp2_with fail
 go_loopw [5] (fun u5 wr=>∃ k:Nat,k≤n∧u5=.int .i64 k∧Hid (Below w.heap.size w wr)∧Hid (∀ j (h1:j<l.length) (h2:j<m.length),j<k→l[j]=m[j])) (fun u5 _=>n-(intOf u5).toNat)
 case atStart=>exact ⟨0,Nat.zero_le _,rfl,lid (Below.refl _ _),lid (fun _ _ _ h=>by omega)⟩
 case round =>
  obtain ⟨k,hk,rfl,HB,HJ⟩:=hrel
  by_cases hkn:k<n
  ·have hk1:k<l.length:=by rw [HA.out.len];exact hkn
   have hk2:k<m.length:=by rw [HBB.out.len];exact hkn
   have HJ1:Hid (l[k]=m[k]→∀ j (h1:j<l.length) (h2:j<m.length),j<k+1→l[j]=m[j]):=lid (fun h j h1 h2 hj=>by
    by_cases e:j=k
    ·subst e;exact h
    ·exact HJ.out j h1 h2 (by omega))
   have HJ0:Hid (¬ (l[k]=m[k])→¬ (l=m)):=lid (fun h e=>h (by subst e;rfl))
   obtain ⟨p,po,rfl,hlp,hcp⟩:=HA.out.sl.at_ (k:=k) hkn
   obtain ⟨q,qo,rfl,hlq,hcq⟩:=HBB.out.sl.at_ (k:=k) hkn
   obtain ⟨x,hx⟩:∃ x,l[k]=x:=⟨_,rfl⟩
   obtain ⟨y,hy⟩:∃ y,m[k]=y:=⟨_,rfl⟩
   rw [hx,hy] at HJ1 HJ0
   have y0:wr.cell? ⟨p,po+k,none⟩=some (.string x):=by
    rw [bc HB.out hlp _]
    exact hcp k _ (by rw [← hx];simp [svals,hk1])
   have z0:wr.cell? ⟨q,qo+k,none⟩=some (.string y):=by
    rw [bc HB.out hlq _]
    exact hcq k _ (by rw [← hy];simp [svals,hk2])
   have l1:p<wr.heap.size:=Nat.lt_of_lt_of_le hlp HB.out.size
   have l2:q<wr.heap.size:=Nat.lt_of_lt_of_le hlq HB.out.size
   clear hcp hcq hx hy hk1 hk2
   by_cases hxy:x=y
   ·have dx:(x.toList == y.toList)=true:=str_eq hxy
    have HJ2:=lid (HJ1.out hxy)
    clear hxy HJ1 HJ0
    go_wp2_with fail
    refine qd (fun w'=>∃ s:Since wr.heap.size wr,w'=s.world) [(0,true),(1,true),(2,true),(3,true),(4,true),(5,true),(6,true),(7,true),(8,true)] ?_
    repeat (first | (refine qk ?_;simp only [Act.put,q1,q2,q3]) | (refine qf ?_;intro K hK;go_big_quiet_op;go_big_quiet_on))
    refine seq_nil ?_
    have HB2:Hid (Below w.heap.size w wr.drew):=lid HB.out.drew
    go_wp2_with fail
    go_roundw
    case rel=>exact ⟨k+1,by omega,by go_num,HB2,HJ2⟩
    case measure=>simp [intOf];omega
   ·have dx:(x.toList == y.toList)=false:=str_ne hxy
    have HV:=lid (HJ0.out hxy)
    clear hxy HJ1 HJ0
    go_wp2_with fail
    refine qd (fun w'=>∃ s:Since wr.heap.size wr,w'=s.world) [(0,true),(1,true),(2,true),(3,true),(4,true),(5,true),(6,true),(7,true),(8,true)] ?_
    repeat (first | (refine qk ?_;simp only [Act.put,q1,q2,q3]) | (refine qf ?_;intro K hK;go_big_quiet_op;go_big_quiet_on))
    refine seq_nil ?_
    have HB2:Hid (Below w.heap.size w wr.drew):=lid HB.out.drew
    go_wp2_with fail
    go_ret
    exact tell_f HV.out HB2.out
  ·obtain rfl:k=n:=by omega
   have HV:=lid (show l=m from List.ext_getElem (by rw [HA.out.len,HBB.out.len]) fun j h1 h2=>HJ.out j h1 h2 (by rw [← HA.out.len];exact h1))
   clear hkn
   go_wp2_with fail
   go_ret
   exact tell_t HV.out HB.out
theorem SameDx_any (a b:Dw) (w:World) (ha:DwA w a) (hb:DwA w b):Calls Tryz.prog 68 #[.agg (dca a),.agg (dca b)] w (TellB (a.x=b.x) w):=by
 have HX:=lid (d_iff a b)
 obtain ⟨W0,hW0⟩:∃ y,(w.alloc (.cells #[.int .i64 a.id,.int .i64 a.kind,.bool a.pub,.slice a.na a.names.length a.ncap,.bool a.doubt,.int .i64 a.body.kind,.string a.body.name,.string a.body.more,.int .i64 a.body.int,.int .i64 a.body.den,.slice a.body.ao a.body.sub.length a.body.cap] 65)).alloc (.cells #[.int .i64 b.id,.int .i64 b.kind,.bool b.pub,.slice b.na b.names.length b.ncap,.bool b.doubt,.int .i64 b.body.kind,.string b.body.name,.string b.body.more,.int .i64 b.body.int,.int .i64 b.body.den,.slice b.body.ao b.body.sub.length b.body.cap] 65)=y:=⟨_,rfl⟩
 have hb0:Below w.heap.size w W0:=by rw [← hW0];exact (ba _ _).alloc (by simp) _
 have HRR:Hid (∀ W,Below W0.heap.size W0 W→(W.cell? ⟨w.heap.size,0,none⟩=some (.int .i64 a.id)∧W.cell? ⟨w.heap.size,1,none⟩=some (.int .i64 a.kind)∧W.cell? ⟨w.heap.size,2,none⟩=some (.bool a.pub)∧W.cell? ⟨w.heap.size,3,none⟩=some (.slice a.na a.names.length a.ncap)∧W.cell? ⟨w.heap.size,4,none⟩=some (.bool a.doubt)∧W.cell? ⟨w.heap.size,5,none⟩=some (.int .i64 a.body.kind)∧W.cell? ⟨w.heap.size,6,none⟩=some (.string a.body.name)∧W.cell? ⟨w.heap.size,7,none⟩=some (.string a.body.more)∧W.cell? ⟨w.heap.size,8,none⟩=some (.int .i64 a.body.int)∧W.cell? ⟨w.heap.size,9,none⟩=some (.int .i64 a.body.den)∧W.cell? ⟨w.heap.size,10,none⟩=some (.slice a.body.ao a.body.sub.length a.body.cap))∧(W.cell? ⟨w.heap.size+1,0,none⟩=some (.int .i64 b.id)∧W.cell? ⟨w.heap.size+1,1,none⟩=some (.int .i64 b.kind)∧W.cell? ⟨w.heap.size+1,2,none⟩=some (.bool b.pub)∧W.cell? ⟨w.heap.size+1,3,none⟩=some (.slice b.na b.names.length b.ncap)∧W.cell? ⟨w.heap.size+1,4,none⟩=some (.bool b.doubt)∧W.cell? ⟨w.heap.size+1,5,none⟩=some (.int .i64 b.body.kind)∧W.cell? ⟨w.heap.size+1,6,none⟩=some (.string b.body.name)∧W.cell? ⟨w.heap.size+1,7,none⟩=some (.string b.body.more)∧W.cell? ⟨w.heap.size+1,8,none⟩=some (.int .i64 b.body.int)∧W.cell? ⟨w.heap.size+1,9,none⟩=some (.int .i64 b.body.den)∧W.cell? ⟨w.heap.size+1,10,none⟩=some (.slice b.body.ao b.body.sub.length b.body.cap))∧w.heap.size<W.heap.size∧w.heap.size+1<W.heap.size):=lid (fun W hb=>by
  have hR:W0.heap[w.heap.size]?=some (.cells #[.int .i64 a.id,.int .i64 a.kind,.bool a.pub,.slice a.na a.names.length a.ncap,.bool a.doubt,.int .i64 a.body.kind,.string a.body.name,.string a.body.more,.int .i64 a.body.int,.int .i64 a.body.den,.slice a.body.ao a.body.sub.length a.body.cap] 65 (0,0)):=by rw [← hW0];exact (h_old (by simp) _).trans (h_new rfl _)
  have hR2:W0.heap[w.heap.size+1]?=some (.cells #[.int .i64 b.id,.int .i64 b.kind,.bool b.pub,.slice b.na b.names.length b.ncap,.bool b.doubt,.int .i64 b.body.kind,.string b.body.name,.string b.body.more,.int .i64 b.body.int,.int .i64 b.body.den,.slice b.body.ao b.body.sub.length b.body.cap] 65 (0,0)):=by rw [← hW0];exact h_new (by simp) _
  have h1:=(hb.block _ (row_lt hR)).trans hR
  have h2:=(hb.block _ (row_lt hR2)).trans hR2
  exact ⟨⟨row_cell h1 0,row_cell h1 1,row_cell h1 2,row_cell h1 3,row_cell h1 4,row_cell h1 5,row_cell h1 6,row_cell h1 7,row_cell h1 8,row_cell h1 9,row_cell h1 10⟩,⟨row_cell h2 0,row_cell h2 1,row_cell h2 2,row_cell h2 3,row_cell h2 4,row_cell h2 5,row_cell h2 6,row_cell h2 7,row_cell h2 8,row_cell h2 9,row_cell h2 10⟩,row_lt h1,row_lt h2⟩)
 have HW0:=lid hW0
 have HB0:=lid hb0
 have CS:=lid (SameSx_any a.na b.na a.names.length b.names.length a.ncap b.ncap a.names b.names W0 (ha.below hb0).names (hb.below hb0).names)
 have CE:=lid (fun W (hW:Below W0.heap.size W0 W)=>SameX_upto (cntE a.body) a.body b.body (Nat.le_refl _) W ((ha.below hb0).body.lift hW) ((hb.below hb0).body.lift hW))
 clear ha hb hW0 hb0
 obtain ⟨⟨x0,x1,x2,x3,x4,x5,x6,x7,x8,x9,x10⟩,⟨y0,y1,y2,y3,y4,y5,y6,y7,y8,y9,y10⟩,lx,ly⟩:=HRR.out W0 (Below.refl _ _)
 by_cases hall:a.id=b.id∧a.kind=b.kind∧a.pub=b.pub∧a.doubt=b.doubt
 case neg =>
  have HV:Hid (¬ a.x=b.x):=lid (fun e=>hall (HX.out.1 e).1)
  rcases heads4 hall with h0 | ⟨h0,h1⟩ | ⟨h0,h1,h2⟩ | ⟨h0,h1,h2,h3⟩
  focus
   have d0:(a.id == b.id)=false:=by simpa using h0
   clear h0
  rotate_left
  focus
   have d0:(a.id == b.id)=true:=by simp [h0]
   have d1:(a.kind == b.kind)=false:=by simpa using h1
   clear h0 h1
  rotate_left
  focus
   have d0:(a.id == b.id)=true:=by simp [h0]
   have d1:(a.kind == b.kind)=true:=by simp [h1]
   have d2:(a.pub == b.pub)=false:=by simpa using h2
   clear h0 h1 h2
  rotate_left
  focus
   have d0:(a.id == b.id)=true:=by simp [h0]
   have d1:(a.kind == b.kind)=true:=by simp [h1]
   have d2:(a.pub == b.pub)=true:=by simp [h2]
   have d3:(a.doubt == b.doubt)=false:=by simpa using h3
   clear h0 h1 h2 h3
  rotate_left
  all_goals
   clear hall
   go_enter Tryz.func68,Tryz.ntmps68
   go_wp2_with fail
   rw [HW0.out]
   go_wp2_with fail
   go_ret
   exact tell_f HV.out HB0.out
 obtain ⟨h0,h1,h2,h3⟩:=hall
 have HX2:Hid (a.x=b.x↔a.names=b.names∧a.body.x=b.body.x):=lid (HX.out.trans ⟨fun h=>h.2,fun h=>⟨⟨h0,h1,h2,h3⟩,h⟩⟩)
 have d0:(a.id == b.id)=true:=by simp [h0]
 have d1:(a.kind == b.kind)=true:=by simp [h1]
 have d2:(a.pub == b.pub)=true:=by simp [h2]
 have d3:(a.doubt == b.doubt)=true:=by simp [h3]
 clear h0 h1 h2 h3
 go_enter Tryz.func68,Tryz.ntmps68
 go_wp2_with fail
 rw [HW0.out]
 go_wp2_with fail
 (with_reducible refine (CS.out).mono ?_);rintro e w1 ⟨rfl,hb1⟩
 have HB1:=lid hb1
 clear hb1 CS x0 y0 x1 y1 x2 y2 x3 y3 x4 y4 x5 y5 x6 y6 x7 y7 x8 y8 x9 y9 x10 y10 lx ly
 obtain ⟨⟨x0,x1,x2,x3,x4,x5,x6,x7,x8,x9,x10⟩,⟨y0,y1,y2,y3,y4,y5,y6,y7,y8,y9,y10⟩,lx,ly⟩:=HRR.out w1 HB1.out
 obtain ⟨c,hc⟩:∃ c,pB (a.names=b.names)=c:=⟨_,rfl⟩
 rw [hc]
 cases c with
 | false =>
  have HV:Hid (¬ a.x=b.x):=lid (fun e=>by rw [pB_t (HX2.out.1 e).1] at hc;cases hc)
  clear hc CE
  go_wp2_with fail
  go_ret
  exact tell_f HV.out (HB0.out.trans (HB1.out.mono HB0.out.size))
 | true =>
  have HX3:Hid ((a.body.x=b.body.x)=(a.x=b.x)):=lid (propext ⟨fun h=>HX2.out.2 ⟨pB_iff.1 hc,h⟩,fun h=>(HX2.out.1 h).2⟩)
  clear hc
  go_wp2_with fail
  (with_reducible refine (CE.out _ HB1.out).mono ?_);rintro e w2 ⟨rfl,hb2⟩
  have HB2:=lid (HB1.out.trans (hb2.mono HB1.out.size))
  clear hb2
  rw [HX3.out]
  go_wp2_with fail
  go_ret
  exact ⟨rfl,HB0.out.trans (HB2.out.mono HB0.out.size)⟩
theorem SameDsx_any (ao bo:Option Addr) (n n2 ca cb:Nat) (l m:List Dw) (w:World) (ha:DLA w ao n ca l) (hb:DLA w bo n2 cb m):Calls Tryz.prog 42 #[.slice ao n ca,.slice bo n2 cb] w (TellB (l.map Dw.x=m.map Dw.x) w):=by
 have HA:=lid ha
 have HBB:=lid hb
 have c1:n≤ca:=ha.le
 have c2:n2≤cb:=hb.le
 have m1:ca≤9223372036854775807:=ha.max
 have m2:cb≤9223372036854775807:=hb.max
 clear ha hb
 by_cases hnn:n=n2
 case neg =>
  have d:((n:Int) != (n2:Int))=true:=by simp;omega
  have HV:Hid (¬ (l.map Dw.x=m.map Dw.x)):=lid (map_len HA.out.len HBB.out.len hnn)
  clear hnn
  go_enter Tryz.func42,Tryz.ntmps42
  go_wp2_with fail
  go_ret
  exact tell_f HV.out (Below.refl _ _)
 obtain rfl:n=n2:=hnn
 go_enter Tryz.func42,Tryz.ntmps42
 go_wp2_with fail
 go_loopw [5] (fun u5 wr=>∃ k:Nat,k≤n∧u5=.int .i64 k∧Hid (Below w.heap.size w wr)∧Hid (∀ j (h1:j<l.length) (h2:j<m.length),j<k→l[j].x=m[j].x)) (fun u5 _=>n-(intOf u5).toNat)
 case atStart=>exact ⟨0,Nat.zero_le _,rfl,lid (Below.refl _ _),lid (fun _ _ _ h=>by omega)⟩
 case round =>
  obtain ⟨k,hk,rfl,HB,HJ⟩:=hrel
  by_cases hkn:k<n
  ·have hk1:k<l.length:=by rw [HA.out.len];exact hkn
   have hk2:k<m.length:=by rw [HBB.out.len];exact hkn
   have HJ1:Hid (l[k].x=m[k].x→∀ j (h1:j<l.length) (h2:j<m.length),j<k+1→l[j].x=m[j].x):=lid (fun h j h1 h2 hj=>by
    by_cases e:j=k
    ·subst e;exact h
    ·exact HJ.out j h1 h2 (by omega))
   have HJ0:Hid (¬ (l[k].x=m[k].x)→¬ (l.map Dw.x=m.map Dw.x)):=lid (fun h e=>h ((map_all HA.out.len HBB.out.len).1 e k hk1 hk2))
   obtain ⟨p,po,rfl,hlp,hcp⟩:=HA.out.sl.at_ (k:=k) hkn
   obtain ⟨q,qo,rfl,hlq,hcq⟩:=HBB.out.sl.at_ (k:=k) hkn
   have CI:=lid (fun W (hW:Below w.heap.size w W)=>SameDx_any l[k] m[k] W ((HA.out.el _ (List.getElem_mem hk1)).below hW) ((HBB.out.el _ (List.getElem_mem hk2)).below hW))
   obtain ⟨s,hs⟩:∃ s,l[k]=s:=⟨_,rfl⟩
   obtain ⟨t,ht⟩:∃ t,m[k]=t:=⟨_,rfl⟩
   rw [hs,ht] at CI HJ1 HJ0
   have hc1:∀ i u,(dce s)[i]?=some u→i<11→wr.cell? ⟨p,po+(k*11+i),none⟩=some u:=fun i u hu hi=>by rw [bc HB.out hlp _];exact hcp _ u (by rw [show (dcs l)[k*11+i]?=(dce l[k])[i]? from flat_at dce_length hk1 hi,hs];exact hu)
   have hc2:∀ i u,(dce t)[i]?=some u→i<11→wr.cell? ⟨q,qo+(k*11+i),none⟩=some u:=fun i u hu hi=>by rw [bc HB.out hlq _];exact hcq _ u (by rw [show (dcs m)[k*11+i]?=(dce m[k])[i]? from flat_at dce_length hk2 hi,ht];exact hu)
   have s0:wr.cell? ⟨p,po+k*11,none⟩=some (.int .i64 s.id):=by have:=hc1 0 _ rfl (by omega);exact this
   have s1:wr.cell? ⟨p,po+k*11+1,none⟩=some (.int .i64 s.kind):=by have:=hc1 1 _ rfl (by omega);rwa [← Nat.add_assoc] at this
   have s2:wr.cell? ⟨p,po+k*11+2,none⟩=some (.bool s.pub):=by have:=hc1 2 _ rfl (by omega);rwa [← Nat.add_assoc] at this
   have s3:wr.cell? ⟨p,po+k*11+3,none⟩=some (.slice s.na s.names.length s.ncap):=by have:=hc1 3 _ rfl (by omega);rwa [← Nat.add_assoc] at this
   have s4:wr.cell? ⟨p,po+k*11+4,none⟩=some (.bool s.doubt):=by have:=hc1 4 _ rfl (by omega);rwa [← Nat.add_assoc] at this
   have s5:wr.cell? ⟨p,po+k*11+5,none⟩=some (.int .i64 s.body.kind):=by have:=hc1 5 _ rfl (by omega);rwa [← Nat.add_assoc] at this
   have s6:wr.cell? ⟨p,po+k*11+6,none⟩=some (.string s.body.name):=by have:=hc1 6 _ rfl (by omega);rwa [← Nat.add_assoc] at this
   have s7:wr.cell? ⟨p,po+k*11+7,none⟩=some (.string s.body.more):=by have:=hc1 7 _ rfl (by omega);rwa [← Nat.add_assoc] at this
   have s8:wr.cell? ⟨p,po+k*11+8,none⟩=some (.int .i64 s.body.int):=by have:=hc1 8 _ rfl (by omega);rwa [← Nat.add_assoc] at this
   have s9:wr.cell? ⟨p,po+k*11+9,none⟩=some (.int .i64 s.body.den):=by have:=hc1 9 _ rfl (by omega);rwa [← Nat.add_assoc] at this
   have s10:wr.cell? ⟨p,po+k*11+10,none⟩=some (.slice s.body.ao s.body.sub.length s.body.cap):=by have:=hc1 10 _ rfl (by omega);rwa [← Nat.add_assoc] at this
   have t0:wr.cell? ⟨q,qo+k*11,none⟩=some (.int .i64 t.id):=by have:=hc2 0 _ rfl (by omega);exact this
   have t1:wr.cell? ⟨q,qo+k*11+1,none⟩=some (.int .i64 t.kind):=by have:=hc2 1 _ rfl (by omega);rwa [← Nat.add_assoc] at this
   have t2:wr.cell? ⟨q,qo+k*11+2,none⟩=some (.bool t.pub):=by have:=hc2 2 _ rfl (by omega);rwa [← Nat.add_assoc] at this
   have t3:wr.cell? ⟨q,qo+k*11+3,none⟩=some (.slice t.na t.names.length t.ncap):=by have:=hc2 3 _ rfl (by omega);rwa [← Nat.add_assoc] at this
   have t4:wr.cell? ⟨q,qo+k*11+4,none⟩=some (.bool t.doubt):=by have:=hc2 4 _ rfl (by omega);rwa [← Nat.add_assoc] at this
   have t5:wr.cell? ⟨q,qo+k*11+5,none⟩=some (.int .i64 t.body.kind):=by have:=hc2 5 _ rfl (by omega);rwa [← Nat.add_assoc] at this
   have t6:wr.cell? ⟨q,qo+k*11+6,none⟩=some (.string t.body.name):=by have:=hc2 6 _ rfl (by omega);rwa [← Nat.add_assoc] at this
   have t7:wr.cell? ⟨q,qo+k*11+7,none⟩=some (.string t.body.more):=by have:=hc2 7 _ rfl (by omega);rwa [← Nat.add_assoc] at this
   have t8:wr.cell? ⟨q,qo+k*11+8,none⟩=some (.int .i64 t.body.int):=by have:=hc2 8 _ rfl (by omega);rwa [← Nat.add_assoc] at this
   have t9:wr.cell? ⟨q,qo+k*11+9,none⟩=some (.int .i64 t.body.den):=by have:=hc2 9 _ rfl (by omega);rwa [← Nat.add_assoc] at this
   have t10:wr.cell? ⟨q,qo+k*11+10,none⟩=some (.slice t.body.ao t.body.sub.length t.body.cap):=by have:=hc2 10 _ rfl (by omega);rwa [← Nat.add_assoc] at this
   have l1:p<wr.heap.size:=Nat.lt_of_lt_of_le hlp HB.out.size
   have l2:q<wr.heap.size:=Nat.lt_of_lt_of_le hlq HB.out.size
   clear hcp hcq hc1 hc2 hs ht hk1 hk2
   go_wp2_with fail
   refine qd (fun w'=>∃ s:Since wr.heap.size wr,w'=s.world) [(0,true),(1,true),(2,true),(3,true),(4,true),(5,true),(6,true),(7,true),(8,false),(9,true)] ?_
   repeat (first | (refine qk ?_;simp only [Act.put,q1,q2,q3]) | (refine qf ?_;intro K hK;go_big_quiet_op;go_big_quiet_on))
   refine qc ?_
   intro K hK
   go_wp2_with fail
   (with_reducible refine (CI.out _ HB.out.drew).mono ?_);rintro e w2 ⟨rfl,hb2⟩
   have HB2':=lid ((Below.refl wr.heap.size wr).drew.trans hb2)
   have HB2:=lid (HB.out.trans (HB2'.out.mono HB.out.size))
   clear hb2 CI
   go_wp2_with fail
   refine hK.out _ _ (since HB2'.out) ?_
   clear hK K
   repeat (first | (refine qk ?_;simp only [Act.put,q1,q2,q3]) | (refine qf ?_;intro K hK;go_big_quiet_op;go_big_quiet_on))
   refine seq_nil ?_
   obtain ⟨c,hc⟩:∃ c,pB (s.x=t.x)=c:=⟨_,rfl⟩
   rw [hc]
   cases c with
   | true =>
    have HJ2:=lid (HJ1.out (pB_iff.1 hc))
    clear hc HJ1 HJ0
    go_wp2_with fail
    go_roundw
    case rel=>exact ⟨k+1,by omega,by go_num,HB2,HJ2⟩
    case measure=>simp [intOf];omega
   | false =>
    have HV:=lid (HJ0.out (fun e=>by rw [pB_t e] at hc;cases hc))
    clear hc HJ1 HJ0
    go_wp2_with fail
    go_ret
    exact tell_f HV.out HB2.out
  ·obtain rfl:k=n:=by omega
   have HV:=lid ((map_all HA.out.len HBB.out.len).2 (fun j h1 h2=>HJ.out j h1 h2 (by rw [← HA.out.len];exact h1)))
   clear hkn
   go_wp2_with fail
   go_ret
   exact tell_t HV.out HB.out
theorem SameK_any (a b:Kw) (w:World) (ha:KwA w a) (hb:KwA w b):Calls Tryz.prog 34 #[.agg (kca a),.agg (kca b)] w (TellB (a.x=b.x) w):=by
 have HX:=lid (k_iff a b)
 obtain ⟨W0,hW0⟩:∃ y,(w.alloc (.cells #[.int .i64 a.kind,.string a.pack,.string a.text,.slice a.oa a.old.length a.ocap,.slice a.na a.new.length a.ncap] 52)).alloc (.cells #[.int .i64 b.kind,.string b.pack,.string b.text,.slice b.oa b.old.length b.ocap,.slice b.na b.new.length b.ncap] 52)=y:=⟨_,rfl⟩
 have hb0:Below w.heap.size w W0:=by rw [← hW0];exact (ba _ _).alloc (by simp) _
 have HRR:Hid (∀ W,Below W0.heap.size W0 W→(W.cell? ⟨w.heap.size,0,none⟩=some (.int .i64 a.kind)∧W.cell? ⟨w.heap.size,1,none⟩=some (.string a.pack)∧W.cell? ⟨w.heap.size,2,none⟩=some (.string a.text)∧W.cell? ⟨w.heap.size,3,none⟩=some (.slice a.oa a.old.length a.ocap)∧W.cell? ⟨w.heap.size,4,none⟩=some (.slice a.na a.new.length a.ncap))∧(W.cell? ⟨w.heap.size+1,0,none⟩=some (.int .i64 b.kind)∧W.cell? ⟨w.heap.size+1,1,none⟩=some (.string b.pack)∧W.cell? ⟨w.heap.size+1,2,none⟩=some (.string b.text)∧W.cell? ⟨w.heap.size+1,3,none⟩=some (.slice b.oa b.old.length b.ocap)∧W.cell? ⟨w.heap.size+1,4,none⟩=some (.slice b.na b.new.length b.ncap))∧w.heap.size<W.heap.size∧w.heap.size+1<W.heap.size):=lid (fun W hb=>by
  have hR:W0.heap[w.heap.size]?=some (.cells #[.int .i64 a.kind,.string a.pack,.string a.text,.slice a.oa a.old.length a.ocap,.slice a.na a.new.length a.ncap] 52 (0,0)):=by rw [← hW0];exact (h_old (by simp) _).trans (h_new rfl _)
  have hR2:W0.heap[w.heap.size+1]?=some (.cells #[.int .i64 b.kind,.string b.pack,.string b.text,.slice b.oa b.old.length b.ocap,.slice b.na b.new.length b.ncap] 52 (0,0)):=by rw [← hW0];exact h_new (by simp) _
  have h1:=(hb.block _ (row_lt hR)).trans hR
  have h2:=(hb.block _ (row_lt hR2)).trans hR2
  exact ⟨⟨row_cell h1 0,row_cell h1 1,row_cell h1 2,row_cell h1 3,row_cell h1 4⟩,⟨row_cell h2 0,row_cell h2 1,row_cell h2 2,row_cell h2 3,row_cell h2 4⟩,row_lt h1,row_lt h2⟩)
 have HW0:=lid hW0
 have HB0:=lid hb0
 have CS:=lid (SameDsx_any a.oa b.oa a.old.length b.old.length a.ocap b.ocap a.old b.old W0 (ha.below hb0).old (hb.below hb0).old)
 have CE:=lid (fun W (hW:Below W0.heap.size W0 W)=>SameDsx_any a.na b.na a.new.length b.new.length a.ncap b.ncap a.new b.new W ((ha.below hb0).new.below hW) ((hb.below hb0).new.below hW))
 clear ha hb hW0 hb0
 obtain ⟨⟨x0,x1,x2,x3,x4⟩,⟨y0,y1,y2,y3,y4⟩,lx,ly⟩:=HRR.out W0 (Below.refl _ _)
 by_cases hall:a.kind=b.kind∧a.pack=b.pack∧a.text=b.text
 case neg =>
  have HV:Hid (¬ a.x=b.x):=lid (fun e=>hall (HX.out.1 e).1)
  rcases heads3 hall with h0 | ⟨h0,h1⟩ | ⟨h0,h1,h2⟩
  focus
   have d0:(a.kind == b.kind)=false:=by simpa using h0
   clear h0
  rotate_left
  focus
   have d0:(a.kind == b.kind)=true:=by simp [h0]
   have d1:(a.pack.toList == b.pack.toList)=false:=str_ne h1
   clear h0 h1
  rotate_left
  focus
   have d0:(a.kind == b.kind)=true:=by simp [h0]
   have d1:(a.pack.toList == b.pack.toList)=true:=str_eq h1
   have d2:(a.text.toList == b.text.toList)=false:=str_ne h2
   clear h0 h1 h2
  rotate_left
  all_goals
   clear hall
   go_enter Tryz.func34,Tryz.ntmps34
   go_wp2_with fail
   rw [HW0.out]
   go_wp2_with fail
   go_ret
   exact tell_f HV.out HB0.out
 obtain ⟨h0,h1,h2⟩:=hall
 have HX2:Hid (a.x=b.x↔a.old.map Dw.x=b.old.map Dw.x∧a.new.map Dw.x=b.new.map Dw.x):=lid (HX.out.trans ⟨fun h=>h.2,fun h=>⟨⟨h0,h1,h2⟩,h⟩⟩)
 have d0:(a.kind == b.kind)=true:=by simp [h0]
 have d1:(a.pack.toList == b.pack.toList)=true:=str_eq h1
 have d2:(a.text.toList == b.text.toList)=true:=str_eq h2
 clear h0 h1 h2
 go_enter Tryz.func34,Tryz.ntmps34
 go_wp2_with fail
 rw [HW0.out]
 go_wp2_with fail
 (with_reducible refine (CS.out).mono ?_);rintro e w1 ⟨rfl,hb1⟩
 have HB1:=lid hb1
 clear hb1 CS x0 y0 x1 y1 x2 y2 x3 y3 x4 y4 lx ly
 obtain ⟨⟨x0,x1,x2,x3,x4⟩,⟨y0,y1,y2,y3,y4⟩,lx,ly⟩:=HRR.out w1 HB1.out
 obtain ⟨c,hc⟩:∃ c,pB (a.old.map Dw.x=b.old.map Dw.x)=c:=⟨_,rfl⟩
 rw [hc]
 cases c with
 | false =>
  have HV:Hid (¬ a.x=b.x):=lid (fun e=>by rw [pB_t (HX2.out.1 e).1] at hc;cases hc)
  clear hc CE
  go_wp2_with fail
  go_ret
  exact tell_f HV.out (HB0.out.trans (HB1.out.mono HB0.out.size))
 | true =>
  have HX3:Hid ((a.new.map Dw.x=b.new.map Dw.x)=(a.x=b.x)):=lid (propext ⟨fun h=>HX2.out.2 ⟨pB_iff.1 hc,h⟩,fun h=>(HX2.out.1 h).2⟩)
  clear hc
  go_wp2_with fail
  (with_reducible refine (CE.out _ HB1.out).mono ?_);rintro e w2 ⟨rfl,hb2⟩
  have HB2:=lid (HB1.out.trans (hb2.mono HB1.out.size))
  clear hb2
  rw [HX3.out]
  go_wp2_with fail
  go_ret
  exact ⟨rfl,HB0.out.trans (HB2.out.mono HB0.out.size)⟩
end Go.Proofs.YtgcceepadlmelaaGreatDoor
