import Derived.Test.YtgcceepadlmelaaGreatDoorEdDf
namespace Go.Proofs.YtgcceepadlmelaaGreatDoor
set_option maxRecDepth 100000
set_option maxHeartbeats 16000000
open Go.RowKit
def oppK (k:Int):Int:=if k=1∨k=3∨k=5 then k+1 else if k=2∨k=4∨k=6 then k-1 else k
theorem opposite_fn (k:Int) (w:World) (h1:1≤k) (h9:k≤9):Calls Tryz.prog 33 #[.int .i64 k] w fun r w'=>r=.returned (.int .i64 (oppK k))∧w=w':=by
 have:k=1∨k=2∨k=3∨k=4∨k=5∨k=6∨k=7∨k=8∨k=9:=by omega
 rcases this with rfl | rfl | rfl | rfl | rfl | rfl | rfl | rfl | rfl <;>
 ·go_enter Tryz.func33,Tryz.ntmps33
  go_wp2_with fail
  go_ret
  exact ⟨rfl,rfl⟩
def invK (x:Kw):Kw:=⟨oppK x.kind,x.pack,x.text,x.na,x.new,x.ncap,x.oa,x.old,x.ocap⟩
theorem drop_lay {cur:Array Value} {vs:List Value} {q n:Nat} (hs:cur.size=n*5) (hv:vs.length=5) (hq:q<n):(layAt cur (q*5) vs).toList.drop (q*5)=vs++cur.toList.drop ((q+1)*5):=by
 have hsz:(layAt cur (q*5) vs).size=cur.size:=layAt_size _ _ _
 have hqn:(q+1)*5≤n*5:=Nat.mul_le_mul_right _ hq
 refine List.ext_getElem? fun i=>?_
 rw [List.getElem?_drop,Array.getElem?_toList]
 by_cases hi:q*5+i<cur.size
 ·rw [layAt_get? vs cur (q*5) _ (by omega)]
  by_cases h5:i<5
  ·rw [if_pos ⟨by omega,by omega⟩,Nat.add_sub_cancel_left,List.getElem?_append_left (by omega)]
  ·rw [if_neg (by omega),List.getElem?_append_right (by omega),List.getElem?_drop,hv,show (q+1)*5+(i-5)=q*5+i by omega,Array.getElem?_toList]
 ·have hcl:cur.toList.length=cur.size:=Array.length_toList
  rw [Array.getElem?_eq_none (by omega),List.getElem?_eq_none (by rw [List.length_append,List.length_drop,hv];omega)]
theorem wpList_store_to {P:Program} {ops:Array Oper} {rest:List Oper} {op:Oper} {a:Act} {w:World} {Q:Exit→Act→World→Prop} (hgd:op.guard=none) (ty:TypeId) (x y:Operand) (ho:op.op=.store ty x y)
  (b o:Nat) (cells:Array Value) (hx:a.eval x=.pointer (some ⟨b,o,none⟩)) (hy:a.eval y=.agg cells)
  (ht:w.there b o cells.size) (hi:(P.info? ty).map (·.size)=some cells.size) (h1:cells.all (·.oneCell')=true)
  (h:∀ W,Hid (w.setCells b o cells.toList=W)→wpList P ops Q rest (a.put op.dst undef) W):wpList P ops Q (op::rest) a w :=
 wpList_store_mid hgd ty x y ho b o cells hx hy ht hi h1 (h _ (lid rfl))
def IvR (W:World) (x:Kw) (ok:Int) (s:Nat→Bool) (vs:List Value) (w:World):Prop :=
 ∃ a b c d,vs=[a,b,c,d]∧W=w∧(s 1=true→a=.int .i64 x.kind)∧(s 2=true→b=.int .i64 ok)∧(s 4=true→c=.slice x.na x.new.length x.ncap)∧(s 6=true→d=.slice x.oa x.old.length x.ocap)
theorem IvR.s1 {W w:World} {x:Kw} {ok:Int} {s:Nat→Bool} {a b c d:Value} (h:IvR W x ok s [a,b,c,d] w):IvR W x ok (upd s 1) [.int .i64 x.kind,b,c,d] w:=by
 obtain ⟨_,_,_,_,e,h0,h1,h2,h3,h4⟩:=h
 cases e
 exact ⟨_,_,_,_,rfl,h0,fun _=>rfl,fun e=>h2 (by simpa [upd] using e),fun e=>h3 (by simpa [upd] using e),fun e=>h4 (by simpa [upd] using e)⟩
theorem IvR.s2 {W w:World} {x:Kw} {ok:Int} {s:Nat→Bool} {a b c d:Value} (h:IvR W x ok s [a,b,c,d] w):IvR W x ok (upd s 2) [a,.int .i64 ok,c,d] w:=by
 obtain ⟨_,_,_,_,e,h0,h1,h2,h3,h4⟩:=h
 cases e
 exact ⟨_,_,_,_,rfl,h0,fun e=>h1 (by simpa [upd] using e),fun _=>rfl,fun e=>h3 (by simpa [upd] using e),fun e=>h4 (by simpa [upd] using e)⟩
theorem IvR.s4 {W w:World} {x:Kw} {ok:Int} {s:Nat→Bool} {a b c d:Value} (h:IvR W x ok s [a,b,c,d] w):IvR W x ok (upd s 4) [a,b,.slice x.na x.new.length x.ncap,d] w:=by
 obtain ⟨_,_,_,_,e,h0,h1,h2,h3,h4⟩:=h
 cases e
 exact ⟨_,_,_,_,rfl,h0,fun e=>h1 (by simpa [upd] using e),fun e=>h2 (by simpa [upd] using e),fun _=>rfl,fun e=>h4 (by simpa [upd] using e)⟩
theorem IvR.s6 {W w:World} {x:Kw} {ok:Int} {s:Nat→Bool} {a b c d:Value} (h:IvR W x ok s [a,b,c,d] w):IvR W x ok (upd s 6) [a,b,c,.slice x.oa x.old.length x.ocap] w:=by
 obtain ⟨_,_,_,_,e,h0,h1,h2,h3,h4⟩:=h
 cases e
 exact ⟨_,_,_,_,rfl,h0,fun e=>h1 (by simpa [upd] using e),fun e=>h2 (by simpa [upd] using e),fun e=>h3 (by simpa [upd] using e),fun _=>rfl⟩
theorem Invert_any (ao:Option Addr) (n cap:Nat) (K:List Kw) (w:World) (h:KLA w ao n cap K) (hn:n≤100000) (hk:∀ x∈K,1≤x.kind∧x.kind≤9) :
  Calls Tryz.prog 13 #[.slice ao n cap] w fun r w'=>∃ g,r=.returned (.slice (some ⟨g,0,none⟩) n n)∧w'.ownsRow w.heap.size 52 5 (.slice (some ⟨g,0,none⟩) n n) n (kcs (K.reverse.map invK))∧Below w.heap.size w w':=by
 have HKL:=lid h
 have HK:=lid hk
 have hcn:n≤cap:=h.le
 have hc63:cap≤9223372036854775807:=h.max
 clear h hk
 go_enter Tryz.func13,Tryz.ntmps13
 obtain ⟨ii,hi,hz0,hz1,hz2⟩:=info_parts info_edit
 have HII:=lid (And.intro hi (And.intro hz0 (And.intro hz1 hz2)))
 clear hi hz0 hz1 hz2
 go_wp2_with (at_make;go_must (refine wpList_make_full w rfl _ _ 26 rfl w.heap.size 52 ii (.agg #[.int .i64 0,.string ⟨#[]⟩,.string ⟨#[]⟩,.slice none 0 0,.slice none 0 0]) 5 Tryz.underlying26 HII.out.1 HII.out.2.1 HII.out.2.2.1 _ _ n n n rfl rfl rfl rfl (by rw [HII.out.2.2.2];omega) (by simp only [maxLen];omega) (Nat.le_refl _) ?_))
 intro w1 own1 hg1
 obtain ⟨R,hR⟩:∃ R,w.heap.size=R:=⟨_,rfl⟩
 have hb1:Below w.heap.size w w1:=(Below.refl _ _).grown hg1 (Nat.le_refl _) (fun k hk=>by cases hk)
 obtain ⟨cur,hcb,hch,-,-,hcs,-⟩:=own_formK own1
 rw [hR] at hch
 have HI0:Hid (∃ cur:Array Value,w1.heap[R]?=some (.cells cur 52 (0,0))∧cur.size=n*5∧cur.toList.drop ((n-0)*5)=kcs ((K.take 0).reverse.map invK)):=lid ⟨cur,hch,hcs,by rw [List.drop_of_length_le (by rw [Array.length_toList,hcs];simp)];rfl⟩
 have HB1:=lid hb1
 have HRR:=lid hR
 rw [hR]
 clear own1 hg1 hb1 hcb hch hcs hR cur HII ii
 go_wp2_with fail
 go_loopw [11] (fun u11 wr=>∃ j:Nat,j≤n∧u11=.int .i64 j∧Hid (∃ cur:Array Value,wr.heap[R]?=some (.cells cur 52 (0,0))∧cur.size=n*5∧cur.toList.drop ((n-j)*5)=kcs ((K.take j).reverse.map invK))∧Hid (Below w.heap.size w wr)) (fun u11 _=>n-(intOf u11).toNat)
 case atStart=>exact ⟨0,Nat.zero_le _,rfl,HI0,HB1⟩
 case round =>
  clear HI0 HB1
  obtain ⟨j,hj,rfl,HI,HB⟩:=hrel
  obtain ⟨cur,hch,hcs,hcd⟩:=HI.out
  have hRz:R<wr.heap.size:=row_lt hch
  by_cases hjn:j<n
  ·have hjl:j<K.length:=by rw [HKL.out.len];exact hjn
   obtain ⟨x,hx⟩:∃ x,K[j]=x:=⟨_,rfl⟩
   obtain ⟨b,o,rfl,hbz,hc⟩:=HKL.out.sl.at_ (k:=j) hjn
   have hcm:∀ i u,(kce x)[i]?=some u→i<5→wr.cell? ⟨b,o+(j*5+i),none⟩=some u:=fun i u hu hi=>by rw [bc HB.out hbz _];exact hc _ u (by rw [show (kcs K)[j*5+i]?=(kce K[j])[i]? from flat_at kce_length hjl hi,hx];exact hu)
   have y0:wr.cell? ⟨b,o+j*5,none⟩=some (.int .i64 x.kind):=by have:=hcm 0 _ rfl (by omega);exact this
   have y1:wr.cell? ⟨b,o+j*5+1,none⟩=some (.string x.pack):=by have:=hcm 1 _ rfl (by omega);rwa [← Nat.add_assoc] at this
   have y2:wr.cell? ⟨b,o+j*5+2,none⟩=some (.string x.text):=by have:=hcm 2 _ rfl (by omega);rwa [← Nat.add_assoc] at this
   have y3:wr.cell? ⟨b,o+j*5+3,none⟩=some (.slice x.oa x.old.length x.ocap):=by have:=hcm 3 _ rfl (by omega);rwa [← Nat.add_assoc] at this
   have y4:wr.cell? ⟨b,o+j*5+4,none⟩=some (.slice x.na x.new.length x.ncap):=by have:=hcm 4 _ rfl (by omega);rwa [← Nat.add_assoc] at this
   have hbz2:b<wr.heap.size:=Nat.lt_of_lt_of_le hbz HB.out.size
   have HAT:Hid (K[j]?=some x):=lid (by rw [← hx];exact List.getElem?_eq_getElem hjl)
   have hkx:=HK.out x (by rw [← hx];exact List.getElem_mem hjl)
   have CO:=lid (fun W=>opposite_fn x.kind W hkx.1 hkx.2)
   obtain ⟨q,hq⟩:∃ q,q+1+j=n:=⟨n-1-j,by omega⟩
   have hqn:q<n:=by omega
   have eq1:(n:Int)-1-(j:Int)=(q:Int):=by omega
   have HCH:=lid hch
   have HCS:=lid hcs
   have HCD:=lid hcd
   have HQ:=lid hq
   obtain ⟨ok,hok⟩:∃ y,oppK x.kind=y:=⟨_,rfl⟩
   rw [hok] at CO
   have HOK:=lid hok
   have HTH:Hid (∀ W:World,W.heap[R]?=wr.heap[R]?→W.there R (q*5) 5):=lid (fun W hW=>there_row (hW.trans HCH.out) (by rw [HCS.out];have:=Nat.mul_le_mul_right 5 (show q+1≤n by omega);omega))
   clear hcm hc hx hjl hch hcs hcd hkx hok hq
   go_wp2_with fail
   refine wp_region_mix (fun w'=>∃ s:Since wr.heap.size wr,w'=s.world) [(0,true),(3,true),(5,true)] [(1,[]),(2,[1]),(4,[]),(6,[])] [(7,true),(8,false),(9,true),(10,false),(11,true),(12,false)] (by kernel_rfl) (by kernel_rfl) (by intro c d v a w h;first | (cases d <;> exact h) | cases h.1) (since (by first | exact (ba _ _).drew | exact (ba _ _).drew.drew)) ?_
   repeat (first | (refine qk ?_;simp only [Act.put,q1,q2,q3]) | (refine qf ?_;intro K hK;go_big_quiet_op;go_big_quiet_on))
   refine seq_nil (mix_go [17,18,20,22] [u17,u18,u20,u22] (IvR _ x ok) rfl (by simp only [putAll,Act.put,q1,q2,q3]) (fun s h=>⟨_,_,_,_,rfl,rfl,fun e=>absurd e (by rw [h (1,[]) (by simp)];simp),fun e=>absurd e (by rw [h (2,[1]) (by simp)];simp),fun e=>absurd e (by rw [h (4,[]) (by simp)];simp),fun e=>absurd e (by rw [h (6,[]) (by simp)];simp)⟩) ⟨?_,?_,?_,?_,trivial⟩ ?_)
   ·intro s vs wm _ _ hneed _ hR
    have hR':=lid hR
    obtain ⟨p1,p2,p3,p4,rfl,rfl,r1,-⟩:=hR
    simp only [putAll,Act.put,q1,q2,q3]
    refine mix_op (by rfl) ?_
    intro K' hK'
    go_wp2_with fail
    exact hK'.out _ _ ⟨since (by first | exact (ba _ _).drew | exact (ba _ _).drew.drew),[_,p2,p3,p4],rfl,by simp only [putAll,Act.put,q1,q2,q3],hR'.out.s1⟩
   ·intro s vs wm _ _ hneed _ hR
    have hR':=lid hR
    obtain ⟨p1,p2,p3,p4,rfl,rfl,r1,-⟩:=hR
    obtain rfl:=r1 (hneed 1 (by simp))
    simp only [putAll,Act.put,q1,q2,q3]
    refine mix_op (by rfl) ?_
    intro K' hK'
    go_wp2_with fail
    (with_reducible refine (CO.out _).mono ?_);rintro e w4 ⟨rfl,rfl⟩
    go_wp2_with fail
    exact hK'.out _ _ ⟨since (by first | exact (ba _ _).drew | exact (ba _ _).drew.drew),[_,_,p3,p4],rfl,by simp only [putAll,Act.put,q1,q2,q3],hR'.out.s2⟩
   ·intro s vs wm _ _ hneed _ hR
    have hR':=lid hR
    obtain ⟨p1,p2,p3,p4,rfl,rfl,r1,-⟩:=hR
    simp only [putAll,Act.put,q1,q2,q3]
    refine mix_op (by rfl) ?_
    intro K' hK'
    go_wp2_with fail
    exact hK'.out _ _ ⟨since (by first | exact (ba _ _).drew | exact (ba _ _).drew.drew),[p1,p2,_,p4],rfl,by simp only [putAll,Act.put,q1,q2,q3],hR'.out.s4⟩
   ·intro s vs wm _ _ hneed _ hR
    have hR':=lid hR
    obtain ⟨p1,p2,p3,p4,rfl,rfl,r1,-⟩:=hR
    simp only [putAll,Act.put,q1,q2,q3]
    refine mix_op (by rfl) ?_
    intro K' hK'
    go_wp2_with fail
    exact hK'.out _ _ ⟨since (by first | exact (ba _ _).drew | exact (ba _ _).drew.drew),[p1,p2,p3,_],rfl,by simp only [putAll,Act.put,q1,q2,q3],hR'.out.s6⟩
   intro s vs wm _ hall _ hR
   obtain ⟨p1,p2,p3,p4,rfl,rfl,r1,r2,r4,r6⟩:=hR
   obtain rfl:=r1 (hall (1,[]) (by simp))
   obtain rfl:=r2 (hall (2,[1]) (by simp))
   obtain rfl:=r4 (hall (4,[]) (by simp))
   obtain rfl:=r6 (hall (6,[]) (by simp))
   clear r1 r2 r4 r6 hall
   simp only [putAll,Act.put,q1,q2,q3]
   repeat (first | (refine qk ?_;simp only [Act.put,q1,q2,q3]) | (refine qf ?_;intro K hK;go_big_quiet_op;go_big_quiet_on))
   refine qc ?_
   intro K' hK'
   go_wp2_with fail
   refine hK'.out _ _ (since (by first | exact (ba _ _).drew | exact (ba _ _).drew.drew)) ?_
   clear hK' K'
   repeat (first | (refine qk ?_;simp only [Act.put,q1,q2,q3]) | (refine qf ?_;intro K hK;go_big_quiet_op;go_big_quiet_on))
   refine qc ?_
   intro K' hK'
   go_wp2_with fail
   refine hK'.out _ _ (since (by first | exact (ba _ _).drew | exact (ba _ _).drew.drew)) ?_
   clear hK' K'
   repeat (first | (refine qk ?_;simp only [Act.put,q1,q2,q3]) | (refine qf ?_;intro K hK;go_big_quiet_op;go_big_quiet_on))
   refine qc ?_
   intro K' hK'
   go_wp2_with fail
   refine hK'.out _ _ (since (by first | exact (ba _ _).drew | exact (ba _ _).drew.drew)) ?_
   clear hK' K'
   refine seq_nil ?_
   obtain ⟨X,hX⟩:∃ X,(wr.alloc (Obj.cells #[.int .i64 ok,.string x.pack,.string x.text,.slice x.na x.new.length x.ncap,.slice x.oa x.old.length x.ocap] 52)).drew=X:=⟨_,rfl⟩
   have hbX:Below wr.heap.size wr X:=by rw [← hX];exact (ba _ _).drew
   have HXX:=lid hX
   have hRX:X.heap[wr.heap.size]?=some (.cells #[.int .i64 ok,.string x.pack,.string x.text,.slice x.na x.new.length x.ncap,.slice x.oa x.old.length x.ocap] 52 (0,0)):=by rw [← hX];show (wr.alloc _).heap[_]?=_;exact h_new rfl _
   rw [hX]
   have x0:X.cell? ⟨wr.heap.size,0,none⟩=some (.int .i64 ok):=row_cell hRX 0
   have x1:X.cell? ⟨wr.heap.size,1,none⟩=some (.string x.pack):=row_cell hRX 1
   have x2:X.cell? ⟨wr.heap.size,2,none⟩=some (.string x.text):=row_cell hRX 2
   have x3:X.cell? ⟨wr.heap.size,3,none⟩=some (.slice x.na x.new.length x.ncap):=row_cell hRX 3
   have x4:X.cell? ⟨wr.heap.size,4,none⟩=some (.slice x.oa x.old.length x.ocap):=row_cell hRX 4
   have lx:=row_lt hRX
   have hXR:X.heap[R]?=wr.heap[R]?:=hbX.block _ hRz
   have HBX:=lid hbX
   have HXR:=lid hXR
   clear hX hbX hRX hXR
   go_wp2_with (refine wpList_store_to rfl 52 (.tmp 33) (.tmp 32) rfl R (q*5) #[.int .i64 ok,.string x.pack,.string x.text,.slice x.na x.new.length x.ncap,.slice x.oa x.old.length x.ocap] rfl rfl (HTH.out X HXR.out) (by kernel_rfl) (by simp [Value.oneCell']) ?_)
   intro w9 hw9
   have HI9:Hid (∃ cur:Array Value,w9.heap[R]?=some (.cells cur 52 (0,0))∧cur.size=n*5∧cur.toList.drop ((n-(j+1))*5)=kcs ((K.take (j+1)).reverse.map invK)):=lid (by
    refine ⟨layAt cur (q*5) (kce (invK x)),?_,by rw [layAt_size];exact HCS.out,?_⟩
    ·rw [← hw9.out]
     have:=row_setCells (kce (invK x)) (q*5) X cur (HXR.out.trans HCH.out)
     rw [show kce (invK x)=[.int .i64 ok,.string x.pack,.string x.text,.slice x.na x.new.length x.ncap,.slice x.oa x.old.length x.ocap] by rw [← HOK.out];rfl] at this ⊢
     exact this
    ·have hq:=HQ.out
     rw [show n-(j+1)=q by omega,drop_lay HCS.out rfl hqn,show q+1=n-j by omega,HCD.out,take_next HAT.out,List.reverse_append,List.reverse_singleton,List.singleton_append,List.map_cons]
     rfl)
   have HB9:Hid (Below w.heap.size w w9):=lid (by
    rw [← hw9.out]
    exact below_cells (Nat.le_of_eq HRR.out) _ _ _ (HB.out.trans (HBX.out.mono HB.out.size)))
   clear hw9 x0 x1 x2 x3 x4 y0 y1 y2 y3 y4 lx
   try simp only [Act.put,q1,q2,q3]
   go_wp2_with fail
   go_roundw
   case measure=>simp only [intOf];omega
   case rel=>exact ⟨j+1,by omega,by simp,HI9,HB9⟩
  ·obtain rfl:j=n:=by omega
   have HE:Hid (wr.ownsRow w.heap.size 52 5 (.slice (some ⟨R,0,none⟩) j j) j (kcs (K.reverse.map invK))):=lid (by
    have hT:K.take j=K:=List.take_of_length_le (Nat.le_of_eq HKL.out.len)
    rw [hT,Nat.sub_self,Nat.zero_mul,List.drop_zero] at hcd
    have hl:(kcs (K.reverse.map invK)).length=j*5:=by rw [kcs_length,List.length_map,List.length_reverse,HKL.out.len]
    exact ⟨hl,.inr ⟨R,j,cur,rfl,Nat.le_of_eq HRR.out,hch,Nat.le_refl _,by simp only [maxLen];omega,hcs,by rw [hcd,List.take_of_length_le (Nat.le_of_eq hl)]⟩⟩)
   clear hcd hcs hch hjn
   go_wp2_with fail
   go_ret
   exact ⟨R,rfl,HE.out,HB.out⟩
end Go.Proofs.YtgcceepadlmelaaGreatDoor
