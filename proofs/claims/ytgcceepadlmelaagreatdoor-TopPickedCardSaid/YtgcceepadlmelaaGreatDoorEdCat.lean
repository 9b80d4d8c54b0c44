import Derived.Lib.AppendZeros
import Derived.Test.YtgcceepadlmelaaGreatDoorQAC
namespace Go.Proofs.YtgcceepadlmelaaGreatDoor
set_option maxRecDepth 100000
set_option maxHeartbeats 8000000
open Go.RowKit
structure VRow where
 ao:Option Addr
 cap:Nat
 n:Nat
 us:List Value
structure RowIn (w:World) (sz:Nat) (x:VRow):Prop where
 sl:Sl w sz x.ao x.n x.us
 nil:x.ao=none→x.cap=0
 one:∀ u∈x.us,u.oneCell'=true
theorem RowIn.below {w w':World} {sz:Nat} {x:VRow} (h:RowIn w sz x) (hb:Below w.heap.size w w'):RowIn w' sz x:=⟨h.sl.below hb,h.nil,h.one⟩
def joinN (R:List VRow):Nat:=(R.map VRow.n).sum
def joinU (R:List VRow):List Value:=R.flatMap VRow.us
theorem joinN_take {R:List VRow} {k:Nat} (h:k<R.length):joinN (R.take (k+1))=joinN (R.take k)+(R[k]).n:=by
 unfold joinN
 rw [List.take_succ_eq_append_getElem h,List.map_append,List.sum_append]
 simp
theorem joinU_take {R:List VRow} {k:Nat} (h:k<R.length):joinU (R.take (k+1))=joinU (R.take k)++(R[k]).us:=by
 unfold joinU
 rw [List.take_succ_eq_append_getElem h,List.flatMap_append]
 simp
theorem joinN_le (R:List VRow) (k:Nat):joinN (R.take k)≤joinN R:=by
 have h2:joinN (R.take k)+joinN (R.drop k)=joinN R:=by
  unfold joinN
  rw [← List.sum_append,← List.map_append,List.take_append_drop]
 omega
theorem GrowD (n:Nat) (w:World) (h1:n≤100000) :
  Calls Tryz.prog 95 #[.slice none 0 0,.int .i64 n] w fun e w'=>∃ v',e=.returned v'∧w'.ownsRow w.heap.size 65 11 v' 0 []∧Below w.heap.size w w':=by
 by_cases h0:n=0
 ·subst h0
  go_enter Tryz.func95,Tryz.ntmps95
  go_wp2_with fail
  go_ret
  exact ⟨_,rfl,World.ownsRow_nil _ _ _ _,Below.refl _ _⟩
 have h0:0<n:=Nat.pos_of_ne_zero h0
 obtain ⟨i,hi,hz0,hz1,hz2⟩:=info_parts info_decl
 have d0:decide ((n:Int)<0)=false:=by simp
 have d1:decide ((0:Int)<(n:Int))=true:=by simp;omega
 have HR:=Lib.run_append_nil_zeros (P:=Tryz.prog) w 43 3 43 65 i (.agg #[.int .i64 0,.int .i64 0,.bool false,.slice none 0 0,.bool false,.int .i64 0,.string ⟨#[]⟩,.string ⟨#[]⟩,.int .i64 0,.int .i64 0,.slice none 0 0]) .i64 .i64 Tryz.underlying43 Tryz.underlying3 hi hz0 n h0 (by omega) (by omega) (by rw [hz2];omega)
 have hg:=grownCap_ge w n 0 65
 have hm:=grownCap_le_maxLen w n 0 65 (by simp only [maxLen];omega)
 generalize hG:grownCap w n 0 65=Gc at *
 have hown:(w.drew.alloc (.cells (Builtin.zeroCells (Value.cells (.agg #[.int .i64 0,.int .i64 0,.bool false,.slice none 0 0,.bool false,.int .i64 0,.string ⟨#[]⟩,.string ⟨#[]⟩,.int .i64 0,.int .i64 0,.slice none 0 0])) n++Builtin.zeroCells (Value.cells (.agg #[.int .i64 0,.int .i64 0,.bool false,.slice none 0 0,.bool false,.int .i64 0,.string ⟨#[]⟩,.string ⟨#[]⟩,.int .i64 0,.int .i64 0,.slice none 0 0])) (Gc-n)) 65)).ownsRow w.heap.size 65 11 (.slice (some ⟨w.heap.size,0,none⟩) 0 Gc) 0 [] :=
  World.ownsRow_made w.drew _ Gc (Nat.le_refl _) hm (by rw [Array.size_append,size_zeroCells,size_zeroCells];simp [Value.cells];omega)
 have hb:Below w.heap.size w (w.drew.alloc (.cells (Builtin.zeroCells (Value.cells (.agg #[.int .i64 0,.int .i64 0,.bool false,.slice none 0 0,.bool false,.int .i64 0,.string ⟨#[]⟩,.string ⟨#[]⟩,.int .i64 0,.int .i64 0,.slice none 0 0])) n++Builtin.zeroCells (Value.cells (.agg #[.int .i64 0,.int .i64 0,.bool false,.slice none 0 0,.bool false,.int .i64 0,.string ⟨#[]⟩,.string ⟨#[]⟩,.int .i64 0,.int .i64 0,.slice none 0 0])) (Gc-n)) 65)):=(Below.refl _ _).drew.alloc (Nat.le_refl _) _
 generalize w.drew.alloc (.cells (Builtin.zeroCells (Value.cells (.agg #[.int .i64 0,.int .i64 0,.bool false,.slice none 0 0,.bool false,.int .i64 0,.string ⟨#[]⟩,.string ⟨#[]⟩,.int .i64 0,.int .i64 0,.slice none 0 0])) n++Builtin.zeroCells (Value.cells (.agg #[.int .i64 0,.int .i64 0,.bool false,.slice none 0 0,.bool false,.int .i64 0,.string ⟨#[]⟩,.string ⟨#[]⟩,.int .i64 0,.int .i64 0,.slice none 0 0])) (Gc-n)) 65)=W at *
 clear hi hz0 hz1 hz2 hG
 go_enter Tryz.func95,Tryz.ntmps95
 go_wp2_with (at_builtin;go_must (refine Lib.wpList_append_run _ rfl _ _ 43 3 rfl _ _ rfl rfl _ _ HR ?_))
 go_wp2_with fail
 go_ret
 exact ⟨_,rfl,hown,hb⟩
theorem ConcatD_any (R:List VRow) (b r:Nat) (w:World) (hr:R.length=r) (hb:b<w.heap.size) (hc:∀ j (h:j<R.length),w.cell? ⟨b,j,none⟩=some (.slice (R[j]).ao (R[j]).n (R[j]).cap)) (hin:∀ x∈R,RowIn w 11 x) (hR:R.length≤10) (hn:joinN R≤100000) :
  Calls Tryz.prog 79 #[.slice (some ⟨b,0,none⟩) r r] w fun e w'=>∃ v',e=.returned v'∧w'.ownsRow w.heap.size 65 11 v' (joinN R) (joinU R)∧Below w.heap.size w w':=by
 have HC:=lid hc
 have HR:=lid hin
 have HJ:=lid (joinN_le R)
 have HT:=lid (fun k (h:k<R.length)=>joinN_take h)
 have HU:=lid (fun k (h:k<R.length)=>joinU_take h)
 have HA:Hid (joinN (R.take R.length)=joinN R∧joinU (R.take R.length)=joinU R):=lid (by rw [List.take_length];exact ⟨rfl,rfl⟩)
 obtain ⟨N,hN⟩:∃ N,joinN R=N:=⟨_,rfl⟩
 have HNN:=lid hN
 have Hr:=lid hr
 rw [hN] at hn
 rw [hr] at hR
 clear hc hin hr
 rw [hN]
 clear hN
 go_enter Tryz.func79,Tryz.ntmps79
 go_wp2_with fail
 go_loopw [3,5,11] (fun s _ i wr=>∃ (k:Nat),k≤r∧i=.int .i64 k∧s=.int .i64 (joinN (R.take k):Nat)∧wr=w) (fun _ _ i _=>r-(intOf i).toNat)
 case atStart=>exact ⟨0,Nat.zero_le _,rfl,rfl,rfl⟩
 case round =>
  obtain ⟨k,hk,rfl,rfl,rfl⟩:=hrel
  by_cases hlt:k<r
  ·have hkl:k<R.length:=by rw [Hr.out];exact hlt
   have c0:=HC.out k hkl
   have HS:=lid (HT.out k hkl)
   have hl1:joinN (R.take (k+1))≤N:=by have:=HJ.out (k+1);rw [HNN.out] at this;exact this
   rw [HS.out] at hl1
   obtain ⟨J0,hJ0⟩:∃ J0,joinN (R.take k)=J0:=⟨_,rfl⟩
   obtain ⟨m,hm⟩:∃ m,(R[k]).n=m:=⟨_,rfl⟩
   rw [hJ0,hm] at hl1
   rw [hm] at c0
   have HL2:Hid (joinN (R.take (k+1))=J0+m):=lid (by rw [HS.out,hJ0,hm])
   rw [hJ0]
   generalize (R[k]).cap=cp at *
   generalize (R[k]).ao=ao at *
   clear hJ0 hm HS
   have dneg:decide ((J0:Int)+(m:Int)<0)=false:=by simp;omega
   go_wp2_with fail
   go_roundw
   case rel=>exact ⟨k+1,by omega,by go_num,by rw [HL2.out];go_num,trivial⟩
   case measure=>simp [intOf];omega
  ·obtain rfl:k=r:=by omega
   have HE:Hid (joinN (R.take k)=N):=lid (by rw [← Hr.out,HA.out.1,HNN.out])
   rw [HE.out]
   go_wp2_with fail
   obtain ⟨w0,rfl⟩:∃ w0,w0=wr:=⟨_,rfl⟩
   (with_reducible refine (GrowD N w0 hn).mono ?_);rintro e w1 ⟨v1,rfl,hown1,hb1⟩
   go_wp2_with fail
   go_loopw [6,8,27] (fun v _ i w2=>∃ (c:Nat),c≤k∧i=.int .i64 c∧Hid (w2.ownsRow w0.heap.size 65 11 v (joinN (R.take c)) (joinU (R.take c)))∧Below w0.heap.size w0 w2) (fun _ _ i _=>k-(intOf i).toNat)
   case atStart=>exact ⟨0,Nat.zero_le _,rfl,lid hown1,hb1⟩
   case round =>
    obtain ⟨c,hc,rfl,HO,hb2⟩:=hrel
    by_cases hlt:c<k
    ·have hcl:c<R.length:=by rw [Hr.out];exact hlt
     have c0:=(bc hb2 hb c).trans (HC.out c hcl)
     have hbr:b<wr.heap.size:=by have:=hb2.size;omega
     have HS:=lid (HT.out c hcl)
     have HSU:=lid (HU.out c hcl)
     have HIN:=lid ((HR.out (R[c]) (List.getElem_mem hcl)).below hb2)
     have hl1:joinN (R.take (c+1))≤N:=by have:=HJ.out (c+1);rw [HNN.out] at this;exact this
     rw [HS.out] at hl1
     have dk:decide ((c:Int)<(k:Int))=true:=by simp;omega
     obtain ⟨x,hx⟩:∃ x,R[c]=x:=⟨_,rfl⟩
     rw [hx] at c0 HS HIN HSU hl1
     obtain ⟨ao,cp,m,us⟩:=x
     simp only at c0 hl1
     have HO':=HO.out
     obtain ⟨J,hJ⟩:∃ J,joinN (R.take c)=J:=⟨_,rfl⟩
     obtain ⟨U,hU⟩:∃ U,joinU (R.take c)=U:=⟨_,rfl⟩
     rw [hJ] at HS HO' hl1
     rw [hU] at HSU HO'
     have HS2:Hid (joinN (R.take (c+1))=J+m):=lid HS.out
     have HU2:Hid (joinU (R.take (c+1))=U++us):=lid HSU.out
     clear hx HS HSU hJ hU HO
     go_wp2_with (at_builtin;go_must (refine wpList_append_sl rfl _ _ 43 rfl w0.heap.size 65 (.agg #[.int .i64 0,.int .i64 0,.bool false,.slice none 0 0,.bool false,.int .i64 0,.string ⟨#[]⟩,.string ⟨#[]⟩,.int .i64 0,.int .i64 0,.slice none 0 0]) 11 136 info_decl Tryz.underlying43 rfl (by decide) _ _ _ HO' rfl ao m cp us rfl HIN.out.1 HIN.out.2 HIN.out.3 (by simp only [maxLen];omega) (by omega) hb2.size ?_))
     intro v5 w5 hown5 hb5
     go_wp2_with fail
     go_roundw
     case rel=>exact ⟨c+1,by omega,by go_num,lid (by rw [HS2.out,HU2.out];exact hown5),hb2.trans hb5⟩
     case measure=>simp [intOf];omega
    ·obtain rfl:c=k:=by omega
     have hfin:=HO.out
     rw [← Hr.out,HA.out.1,HA.out.2,HNN.out] at hfin
     go_wp2_with fail
     go_ret
     exact ⟨_,rfl,hfin,hb2⟩
theorem GrowK (n:Nat) (w:World) (h1:n≤100000) :
  Calls Tryz.prog 40 #[.slice none 0 0,.int .i64 n] w fun e w'=>∃ v',e=.returned v'∧w'.ownsRow w.heap.size 52 5 v' 0 []∧Below w.heap.size w w':=by
 by_cases h0:n=0
 ·subst h0
  go_enter Tryz.func40,Tryz.ntmps40
  go_wp2_with fail
  go_ret
  exact ⟨_,rfl,World.ownsRow_nil _ _ _ _,Below.refl _ _⟩
 have h0:0<n:=Nat.pos_of_ne_zero h0
 obtain ⟨i,hi,hz0,hz1,hz2⟩:=info_parts info_edit
 have d0:decide ((n:Int)<0)=false:=by simp
 have d1:decide ((0:Int)<(n:Int))=true:=by simp;omega
 have HR:=Lib.run_append_nil_zeros (P:=Tryz.prog) w 26 3 26 52 i (.agg #[.int .i64 0,.string ⟨#[]⟩,.string ⟨#[]⟩,.slice none 0 0,.slice none 0 0]) .i64 .i64 Tryz.underlying26 Tryz.underlying3 hi hz0 n h0 (by omega) (by omega) (by rw [hz2];omega)
 have hg:=grownCap_ge w n 0 52
 have hm:=grownCap_le_maxLen w n 0 52 (by simp only [maxLen];omega)
 generalize hG:grownCap w n 0 52=Gc at *
 have hown:(w.drew.alloc (.cells (Builtin.zeroCells (Value.cells (.agg #[.int .i64 0,.string ⟨#[]⟩,.string ⟨#[]⟩,.slice none 0 0,.slice none 0 0])) n++Builtin.zeroCells (Value.cells (.agg #[.int .i64 0,.string ⟨#[]⟩,.string ⟨#[]⟩,.slice none 0 0,.slice none 0 0])) (Gc-n)) 52)).ownsRow w.heap.size 52 5 (.slice (some ⟨w.heap.size,0,none⟩) 0 Gc) 0 [] :=
  World.ownsRow_made w.drew _ Gc (Nat.le_refl _) hm (by rw [Array.size_append,size_zeroCells,size_zeroCells];simp [Value.cells];omega)
 have hb:Below w.heap.size w (w.drew.alloc (.cells (Builtin.zeroCells (Value.cells (.agg #[.int .i64 0,.string ⟨#[]⟩,.string ⟨#[]⟩,.slice none 0 0,.slice none 0 0])) n++Builtin.zeroCells (Value.cells (.agg #[.int .i64 0,.string ⟨#[]⟩,.string ⟨#[]⟩,.slice none 0 0,.slice none 0 0])) (Gc-n)) 52)):=(Below.refl _ _).drew.alloc (Nat.le_refl _) _
 generalize w.drew.alloc (.cells (Builtin.zeroCells (Value.cells (.agg #[.int .i64 0,.string ⟨#[]⟩,.string ⟨#[]⟩,.slice none 0 0,.slice none 0 0])) n++Builtin.zeroCells (Value.cells (.agg #[.int .i64 0,.string ⟨#[]⟩,.string ⟨#[]⟩,.slice none 0 0,.slice none 0 0])) (Gc-n)) 52)=W at *
 clear hi hz0 hz1 hz2 hG
 go_enter Tryz.func40,Tryz.ntmps40
 go_wp2_with (at_builtin;go_must (refine Lib.wpList_append_run _ rfl _ _ 26 3 rfl _ _ rfl rfl _ _ HR ?_))
 go_wp2_with fail
 go_ret
 exact ⟨_,rfl,hown,hb⟩
theorem ConcatK_any (R:List VRow) (b r:Nat) (w:World) (hr:R.length=r) (hb:b<w.heap.size) (hc:∀ j (h:j<R.length),w.cell? ⟨b,j,none⟩=some (.slice (R[j]).ao (R[j]).n (R[j]).cap)) (hin:∀ x∈R,RowIn w 5 x) (hR:R.length≤10) (hn:joinN R≤100000) :
  Calls Tryz.prog 20 #[.slice (some ⟨b,0,none⟩) r r] w fun e w'=>∃ v',e=.returned v'∧w'.ownsRow w.heap.size 52 5 v' (joinN R) (joinU R)∧Below w.heap.size w w':=by
 have HC:=lid hc
 have HR:=lid hin
 have HJ:=lid (joinN_le R)
 have HT:=lid (fun k (h:k<R.length)=>joinN_take h)
 have HU:=lid (fun k (h:k<R.length)=>joinU_take h)
 have HA:Hid (joinN (R.take R.length)=joinN R∧joinU (R.take R.length)=joinU R):=lid (by rw [List.take_length];exact ⟨rfl,rfl⟩)
 obtain ⟨N,hN⟩:∃ N,joinN R=N:=⟨_,rfl⟩
 have HNN:=lid hN
 have Hr:=lid hr
 rw [hN] at hn
 rw [hr] at hR
 clear hc hin hr
 rw [hN]
 clear hN
 go_enter Tryz.func20,Tryz.ntmps20
 go_wp2_with fail
 go_loopw [3,5,11] (fun s _ i wr=>∃ (k:Nat),k≤r∧i=.int .i64 k∧s=.int .i64 (joinN (R.take k):Nat)∧wr=w) (fun _ _ i _=>r-(intOf i).toNat)
 case atStart=>exact ⟨0,Nat.zero_le _,rfl,rfl,rfl⟩
 case round =>
  obtain ⟨k,hk,rfl,rfl,rfl⟩:=hrel
  by_cases hlt:k<r
  ·have hkl:k<R.length:=by rw [Hr.out];exact hlt
   have c0:=HC.out k hkl
   have HS:=lid (HT.out k hkl)
   have hl1:joinN (R.take (k+1))≤N:=by have:=HJ.out (k+1);rw [HNN.out] at this;exact this
   rw [HS.out] at hl1
   obtain ⟨J0,hJ0⟩:∃ J0,joinN (R.take k)=J0:=⟨_,rfl⟩
   obtain ⟨m,hm⟩:∃ m,(R[k]).n=m:=⟨_,rfl⟩
   rw [hJ0,hm] at hl1
   rw [hm] at c0
   have HL2:Hid (joinN (R.take (k+1))=J0+m):=lid (by rw [HS.out,hJ0,hm])
   rw [hJ0]
   generalize (R[k]).cap=cp at *
   generalize (R[k]).ao=ao at *
   clear hJ0 hm HS
   have dneg:decide ((J0:Int)+(m:Int)<0)=false:=by simp;omega
   go_wp2_with fail
   go_roundw
   case rel=>exact ⟨k+1,by omega,by go_num,by rw [HL2.out];go_num,trivial⟩
   case measure=>simp [intOf];omega
  ·obtain rfl:k=r:=by omega
   have HE:Hid (joinN (R.take k)=N):=lid (by rw [← Hr.out,HA.out.1,HNN.out])
   rw [HE.out]
   go_wp2_with fail
   obtain ⟨w0,rfl⟩:∃ w0,w0=wr:=⟨_,rfl⟩
   (with_reducible refine (GrowK N w0 hn).mono ?_);rintro e w1 ⟨v1,rfl,hown1,hb1⟩
   go_wp2_with fail
   go_loopw [6,8,27] (fun v _ i w2=>∃ (c:Nat),c≤k∧i=.int .i64 c∧Hid (w2.ownsRow w0.heap.size 52 5 v (joinN (R.take c)) (joinU (R.take c)))∧Below w0.heap.size w0 w2) (fun _ _ i _=>k-(intOf i).toNat)
   case atStart=>exact ⟨0,Nat.zero_le _,rfl,lid hown1,hb1⟩
   case round =>
    obtain ⟨c,hc,rfl,HO,hb2⟩:=hrel
    by_cases hlt:c<k
    ·have hcl:c<R.length:=by rw [Hr.out];exact hlt
     have c0:=(bc hb2 hb c).trans (HC.out c hcl)
     have hbr:b<wr.heap.size:=by have:=hb2.size;omega
     have HS:=lid (HT.out c hcl)
     have HSU:=lid (HU.out c hcl)
     have HIN:=lid ((HR.out (R[c]) (List.getElem_mem hcl)).below hb2)
     have hl1:joinN (R.take (c+1))≤N:=by have:=HJ.out (c+1);rw [HNN.out] at this;exact this
     rw [HS.out] at hl1
     have dk:decide ((c:Int)<(k:Int))=true:=by simp;omega
     obtain ⟨x,hx⟩:∃ x,R[c]=x:=⟨_,rfl⟩
     rw [hx] at c0 HS HIN HSU hl1
     obtain ⟨ao,cp,m,us⟩:=x
     simp only at c0 hl1
     have HO':=HO.out
     obtain ⟨J,hJ⟩:∃ J,joinN (R.take c)=J:=⟨_,rfl⟩
     obtain ⟨U,hU⟩:∃ U,joinU (R.take c)=U:=⟨_,rfl⟩
     rw [hJ] at HS HO' hl1
     rw [hU] at HSU HO'
     have HS2:Hid (joinN (R.take (c+1))=J+m):=lid HS.out
     have HU2:Hid (joinU (R.take (c+1))=U++us):=lid HSU.out
     clear hx HS HSU hJ hU HO
     go_wp2_with (at_builtin;go_must (refine wpList_append_sl rfl _ _ 26 rfl w0.heap.size 52 (.agg #[.int .i64 0,.string ⟨#[]⟩,.string ⟨#[]⟩,.slice none 0 0,.slice none 0 0]) 5 88 info_edit Tryz.underlying26 rfl (by decide) _ _ _ HO' rfl ao m cp us rfl HIN.out.1 HIN.out.2 HIN.out.3 (by simp only [maxLen];omega) (by omega) hb2.size ?_))
     intro v5 w5 hown5 hb5
     go_wp2_with fail
     go_roundw
     case rel=>exact ⟨c+1,by omega,by go_num,lid (by rw [HS2.out,HU2.out];exact hown5),hb2.trans hb5⟩
     case measure=>simp [intOf];omega
    ·obtain rfl:c=k:=by omega
     have hfin:=HO.out
     rw [← Hr.out,HA.out.1,HA.out.2,HNN.out] at hfin
     go_wp2_with fail
     go_ret
     exact ⟨_,rfl,hfin,hb2⟩
end Go.Proofs.YtgcceepadlmelaaGreatDoor
