import Derived.Test.YtgcceepadlmelaaGreatDoorQAD
import Derived.Test.YtgcceepadlmelaaGreatDoorQAC
import Derived.Test.YtgcceepadlmelaaGreatDoorEdFreeC
import Derived.Test.YtgcceepadlmelaaGreatDoorQAE
import Derived.Test.YtgcceepadlmelaaGreatDoorEdTests
import Derived.Test.YtgcceepadlmelaaGreatDoorEdInsS
namespace Go.Proofs.YtgcceepadlmelaaGreatDoor
set_option maxRecDepth 100000
set_option maxHeartbeats 8000000
open Go.RowKit
theorem Insert_mod (l:List Mw) (v:Value) (n i:Nat) (x:Mw) (base xb:Nat) (w:World) (hn:l.length=n) (hm:n≤1000000) (hs:w.ownsRow base 45 3 v n (mcs l)) (hbase:base≤w.heap.size) (hi:i≤n)
  (hx:w.heap[xb]?=some (.cells (mca x) 45 (0,0))) (hne:v.ownBlock≠some xb) :
  Calls Tryz.prog 59 #[v,.int .i64 i,.slice (some ⟨xb,0,none⟩) 1 1] w fun e w'=>∃ v',e=.returned v'∧w'.ownsRow base 45 3 v' (n+1) (mcs (l.take i++x::l.drop i))∧Below base w w'∧Else w w' v∧(v'.ownBlock=v.ownBlock∨v'.ownBlock=some w.heap.size):=by
 have hsx:Sl w 3 (some ⟨xb,0,none⟩) 1 (mce x):=⟨rfl,.inr ⟨xb,0,rfl,row_lt hx,fun j u hu=>by rw [Nat.zero_add,row_cell hx];simpa using hu⟩⟩
 have h1x:∀ u∈mce x,u.oneCell'=true:=fun u hu=>mcs_one [x] u (by simpa [mcs] using hu)
 rcases Nat.lt_or_ge i n with hin | hin
 case inr =>
  obtain rfl:i=n:=by omega
  obtain ⟨ao,cap,rfl⟩:=own_slice hs
  have HS:=lid hs
  have HX:=lid hsx
  have H1:=lid h1x
  have HF:Hid (mcs l++mce x=mcs (l.take i++x::l.drop i)):=lid (by rw [List.take_of_length_le (by omega),List.drop_of_length_le (by omega)];simp [mcs])
  have hcap:i≤cap:=by
   obtain ⟨_,_,e,h1,_⟩:=Sl.of_own hs
   cases e
   exact h1
  have hmx:cap≤9223372036854775807:=by
   obtain ⟨_,_,e,_,h1,_⟩:=Sl.of_own hs
   cases e
   exact h1
  clear hs hsx h1x hx hne hn
  rcases Decidable.em (cap=i) with rfl | hci
  all_goals
   go_enter Tryz.func59,Tryz.ntmps59
   go_wp2_with (at_builtin;go_must (refine wpList_append_sla rfl _ _ 22 rfl base 45 (.agg #[.string ⟨#[]⟩,.slice none 0 0,.slice none 0 0]) 3 64 info_mod Tryz.underlying22 rfl (by decide) _ _ _ HS.out rfl ⟨xb,0,none⟩ 1 1 (mce x) rfl HX.out H1.out (by simp only [maxLen];omega) (by omega) hbase ?_))
   intro v5 w5 hown5 hb5 hg5 hat5
   have HAT:=lid hat5
   clear hat5
   rw [HF.out] at hown5
   have HEL:=lid hg5.block
   clear hg5
   go_wp2_with fail
   go_ret
   exact ⟨_,rfl,hown5,hb5,HEL.out,HAT.out⟩
 case inl =>
  rcases hs.2 with ⟨hv,h0⟩ | ⟨g,cap,cur,rfl,hg,hcur,hncap,hmax,hsz,htk⟩
  ·exfalso
   have h1:=hs.1
   rw [h0] at h1
   simp at h1
   omega
  have hmx:cap≤9223372036854775807:=hmax
  have hgx:g≠xb:=fun e=>hne (by rw [e];rfl)
  have hAl:(mcs l).length=n*3:=by rw [mcs_length,hn]
  have hpl:i*3≤(mcs l).length:=by rw [hAl];exact Nat.mul_le_mul_right _ hi
  have hdl:((mcs l).drop (i*3)).length=(n-i)*3:=by rw [List.length_drop,hAl,Nat.sub_mul]
  have hres:(mcs l).take (i*3)++mce x++(mcs l).drop (i*3)=mcs (l.take i++x::l.drop i):=by
   unfold mcs
   rw [flat_take mce_length,flat_drop mce_length]
   simp
  have hc:∀ j u,(mcs l)[j]?=some u→w.cell? ⟨g,0+j,none⟩=some u:=fun j u hu=>by
   rw [Nat.zero_add,row_cell hcur]
   have:=congrArg (fun z=>z[j]?) htk
   simp only [List.getElem?_take] at this
   rw [hu] at this
   split at this
   ·simpa using this
   ·cases this
  have hwrap:IntKind.i64.wrap ((i:Int)+1)=(i:Int)+1:=by rw [IntKind.wrap_i64];omega
  have hgl:=row_lt hcur
  have hxl:=row_lt hx
  have hxs:∀ {W:World},W.heap[xb]?=some (.cells (mca x) 45 (0,0))→∀ j u,(mce x)[j]?=some u→W.cell? ((⟨xb,0,none⟩:Addr).add j)=some u:=fun h j u hu=>by
   rw [Addr.add_lit,Nat.zero_add,row_cell h]
   simpa using hu
  rcases Nat.lt_or_ge n cap with hroom | hroom
  ·-- there is room
   have hcz:(n+1)*3≤cap*3:=Nat.mul_le_mul_right _ hroom
   obtain ⟨cur1,h1⟩:∃ y,layAt cur (i*3+3) ((mcs l).drop (i*3))=y:=⟨_,rfl⟩
   obtain ⟨W1,hW1⟩:∃ y,w.drew.setCells g (i*3+3) ((mcs l).drop (i*3))=y:=⟨_,rfl⟩
   have hr1:W1.heap[g]?=some (.cells cur1 45 (0,0)):=by rw [← hW1,← h1];exact row_setCells _ _ w.drew cur hcur
   have hs1:cur1.size=cap*3:=by rw [← h1,layAt_size,hsz]
   have hb1:Below base w W1:=by rw [← hW1];exact below_cells hg _ _ _ (Below.refl _ _).drew
   have hx1:W1.heap[xb]?=some (.cells (mca x) 45 (0,0)):=by
    rw [← hW1,← hx]
    exact setCells_other (Ne.symm hgx) _ _ _
   have HEL:Hid (Else w (W1.setCells g (i*3) (mce x)) (.slice (some ⟨g,0,none⟩) n cap)):=lid (fun k hk hkg=>by
    have hkg':k≠g:=fun e=>hkg (by rw [e];rfl)
    rw [setCells_other hkg' _ _ _,← hW1,setCells_other hkg' _ _ _]
    rfl)
   have hcp1:∀ ty dc sc,(Builtin.copy_ #[22,22] ty #[.slice (some ⟨g,(i+1)*3,none⟩) (n+1-(i+1)) dc,.slice (some ⟨g,i*3,none⟩) (n+1-i) sc]).run Tryz.prog w.drew=.ok (goInt (n-i:Nat)) W1:=fun ty dc sc=>by
    rw [← hW1,show (i+1)*3=i*3+3 by omega]
    exact run_copy_rows w.drew _ _ ty 45 3 g (i*3+3) _ dc ⟨g,i*3,none⟩ _ sc _ cur 45 Tryz.underlying22 (by kernel_rfl) (n-i) (by simp only [Nat.min_def];split <;> omega) hdl
     (fun j u hu=>by rw [Addr.add_lit];rw [List.getElem?_drop] at hu;have:=hc _ u hu;rwa [Nat.zero_add] at this) hcur (by rw [hdl,hsz];omega) (fun u hu=>mcs_one l u (List.mem_of_mem_drop hu))
   have hcp2:∀ (W:World),W.heap=W1.heap→∀ ty dc,(Builtin.copy_ #[22,22] ty #[.slice (some ⟨g,i*3,none⟩) (n+1-i) dc,.slice (some ⟨xb,0,none⟩) 1 1]).run Tryz.prog W=.ok (goInt (1:Nat)) (W.setCells g (i*3) (mce x)):=fun W hW ty dc =>
    run_copy_rows W _ _ ty 45 3 g (i*3) _ dc ⟨xb,0,none⟩ _ 1 _ cur1 45 Tryz.underlying22 (by kernel_rfl) 1 (by simp only [Nat.min_def];split <;> omega) rfl (hxs (by rw [hW];exact hx1)) (by rw [hW];exact hr1) (by rw [hs1];show i*3+3≤_;omega) h1x
   have hov:∀ lb cb,(callFunc 87 #[.slice (some ⟨xb,0,none⟩) 1 1,.slice (some ⟨g,(i+1)*3,none⟩) lb cb]).run Tryz.prog w=.ok (.value (.bool false)) w:=fun lb cb=>by
    rw [run_callFunc_extern Tryz.func87 (by kernel_rfl) (by kernel_rfl) (by kernel_rfl) (e:=Extern.SlicesOverlaps.overlaps #[22,22] #[4]) (by kernel_rfl),
     Lib.run_overlaps_apart w 22 4 45 Tryz.underlying22 3 (by intro w;kernel_rfl) ⟨xb,0,none⟩ ⟨g,(i+1)*3,none⟩ 1 1 lb cb (Ne.symm hgx) 45 45 _ _ (show w.shape? xb=_ by unfold World.shape?;rw [hx]) (show w.shape? g=_ by unfold World.shape?;rw [hcur]) (by rw [hsz];omega) (row_fz hx _) (row_fz hx _)]
    rfl
   have HF:Hid ((layAt cur1 (i*3) (mce x)).toList.take ((n+1)*3)=mcs (l.take i++x::l.drop i)):=lid (by
    rw [← hres,← h1]
    have:=ins_row (cur:=cur) (us:=mce x) hpl (by rw [hAl];exact htk) (by rw [hAl,hsz];show _+3≤_;omega)
    rw [hAl] at this
    rw [show (n+1)*3=n*3+(mce x).length by show _=_+3;omega]
    exact this)
   have HR2:Hid ((W1.setCells g (i*3) (mce x)).heap[g]?=_):=lid (row_setCells (mce x) _ _ _ hr1)
   have HB2:=lid (below_cells hg (mce x) (i*3) _ hb1)
   have HS1:=lid hs1
   have HLEN:Hid ((mcs (l.take i++x::l.drop i)).length=(n+1)*3):=lid (by rw [mcs_length];simp;omega)
   have e1:((i:Int) == (n:Int))=false:=beq_eq_false_iff_ne.2 (by omega)
   have e2:decide ((n:Int)+1>(cap:Int))=false:=by simp;omega
   have HC1:=lid hcp1
   have HC2:=lid hcp2
   have HB1:=lid hb1
   clear hcp1 hcp2 hb1 hs1 hr1 hx1 h1 hW1 htk hsz hcur hs hsx h1x hx hne hn hAl hpl hdl hres hc hxs
   go_enter Tryz.func59,Tryz.ntmps59
   go_wp2_with fail
   refine qd (fun w'=>∃ s:Since base w,w'=s.world) [(0,true),(1,true),(2,true),(3,true),(4,true),(5,true),(6,true),(7,true),(8,false)] ?_
   repeat (first | (refine qk ?_;simp only [Act.put,q1,q2,q3]) | (refine qf ?_;intro K hK;go_big_quiet_op;go_big_quiet_on))
   refine qc ?_
   intro K hK
   refine Lib.wpList_copy_run _ rfl _ _ 22 22 rfl (.slice (some ⟨g,(i+1)*3,none⟩) (n+1-(i+1)) (cap-(i+1))) (.slice (some ⟨g,i*3,none⟩) (n+1-i) (cap-i)) (by simp [Act.eval]) (by simp [Act.eval]) (HC1.out _ _ _) ?_
   go_wp2_with fail
   refine hK.out _ _ (since HB1.out) ?_
   clear hK K
   refine seq_nil ?_
   go_wp2_with fail
   rw [HC2.out W1 rfl]
   simp only [Result.andThen]
   rw [Oper.upon_value]
   go_wp2_with fail
   go_ret
   exact ⟨_,rfl,⟨HLEN.out,.inr ⟨g,cap,_,rfl,hg,HR2.out,by omega,hmax,by rw [layAt_size];exact HS1.out,HF.out⟩⟩,HB2.out,HEL.out,.inl rfl⟩
  ·-- there is none
   obtain rfl:n=cap:=by omega
   have hik:i+(n+1-i)=n+1:=by omega
   have hkk:(n:Int)+1-(i:Int)=((n+1-i:Nat):Int):=by omega
   obtain ⟨i0,hi0,hz0,hzs,hzb⟩:=info_parts info_mod
   have hold:(Builtin.firstCells i0.size i (.slice (some ⟨g,0,none⟩) i n)).run Tryz.prog w.drew=.ok ((mcs l).take (i*3)).toArray w.drew:=by
    rw [hzs]
    exact run_firstCells_some w.drew 3 i ⟨g,0,none⟩ i n _ (by rw [List.length_take,hAl];omega) (fun j u hj=>by
     rw [Addr.add_lit]
     rw [List.getElem?_take] at hj
     split at hj
     ·exact hc j u hj
     ·cases hj)
   obtain ⟨G,hG⟩:∃ y,grownCap w (n+1) n 45=y:=⟨_,rfl⟩
   have hGn:n+1≤G:=by rw [← hG];exact grownCap_ge w _ _ _
   have hGm:G≤maxLen:=by
    rw [← hG]
    exact grownCap_le_maxLen w (n+1) n 45 (by unfold maxLen;omega)
   have hG63:G≤9223372036854775807:=hGm
   obtain ⟨ROW,hROW⟩:∃ y,((mcs l).take (i*3)).toArray++Builtin.zeroCells (Value.cells (.agg #[.string ⟨#[]⟩,.slice none 0 0,.slice none 0 0])) (n+1-i)++Builtin.zeroCells (Value.cells (.agg #[.string ⟨#[]⟩,.slice none 0 0,.slice none 0 0])) (G-(n+1))=y:=⟨_,rfl⟩
   have hrz:∀ ty,(Builtin.append_ #[22,3] ty #[.slice (some ⟨g,0,none⟩) i n,.int .i64 ((n:Int)+1-(i:Int))]).run Tryz.prog w=.ok (.slice (some ⟨w.heap.size,0,none⟩) (n+1) G) (w.drew.alloc (.cells ROW 45)):=fun ty=>by
    have h:=Lib.run_append_grow_zeros w 22 3 ty 45 i0 _ .i64 .i64 Tryz.underlying22 Tryz.underlying3 hi0 hz0 (some ⟨g,0,none⟩) i n ((mcs l).take (i*3)) hold (n+1-i) (by omega) (by omega) (by omega) (by omega) (by rw [hzb];omega) (by rw [hzb,hik];exact growslice_fits (by omega) (by omega))
    rw [hik,hG,hROW] at h
    rw [hkk]
    exact h
   have hzc:∀ k,(Builtin.zeroCells (Value.cells (.agg #[.string ⟨#[]⟩,.slice none 0 0,.slice none 0 0])) k).size=k*3:=fun k=>by
    have:=zeroCells_length (Value.cells (.agg #[.string ⟨#[]⟩,.slice none 0 0,.slice none 0 0])) k
    rwa [Array.length_toList] at this
   have hRs:ROW.size=G*3:=by
    rw [← hROW,Array.size_append,Array.size_append,hzc,hzc]
    simp only [List.size_toArray,List.length_take,hAl]
    omega
   have hRt:ROW.toList.take (i*3)=(mcs l).take (i*3):=by
    have e:((mcs l).take (i*3)).length=i*3:=by rw [List.length_take];omega
    rw [← hROW,Array.toList_append,Array.toList_append,List.append_assoc,List.take_append_of_le_length (show _≤((mcs l).take (i*3)).length by omega),List.take_of_length_le (show ((mcs l).take (i*3)).length≤_ by omega)]
   have hGz:(n+1)*3≤G*3:=Nat.mul_le_mul_right _ hGn
   obtain ⟨W1,hW1⟩:∃ y,w.drew.alloc (.cells ROW 45)=y:=⟨_,rfl⟩
   rw [hW1] at hrz
   have hr1:W1.heap[w.heap.size]?=some (.cells ROW 45 (0,0)):=by rw [← hW1];exact heap_alloc_new w.drew _
   have ho1:∀ k,k<w.heap.size→W1.heap[k]?=w.heap[k]?:=fun k hk=>by rw [← hW1];exact Below.heap_alloc w.drew _ _ hk
   have hb1:Below base w W1:=by rw [← hW1];exact (Below.refl _ _).drew.alloc hbase _
   have hx1:=(ho1 xb hxl).trans hx
   have hg1:=(ho1 g hgl).trans hcur
   obtain ⟨R1,hR1⟩:∃ y,layAt ROW (i*3) (mce x)=y:=⟨_,rfl⟩
   obtain ⟨W2,hW2⟩:∃ y,W1.setCells w.heap.size (i*3) (mce x)=y:=⟨_,rfl⟩
   have hr2:W2.heap[w.heap.size]?=some (.cells R1 45 (0,0)):=by rw [← hW2,← hR1];exact row_setCells _ _ _ _ hr1
   have hb2:Below base w W2:=by rw [← hW2];exact below_cells hbase _ _ _ hb1
   have hg2:W2.heap[g]?=some (.cells cur 45 (0,0)):=by rw [← hW2,setCells_other (by omega) _ _ _];exact hg1
   have HEL:Hid (Else w (W2.drew.setCells w.heap.size ((i+1)*3) ((mcs l).drop (i*3))) (.slice (some ⟨g,0,none⟩) n n)):=lid (fun k hk _=>by
    rw [setCells_other (by omega) _ _ _]
    show W2.heap[k]?=_
    rw [← hW2,setCells_other (by omega) _ _ _]
    exact ho1 k hk)
   have hs1:R1.size=G*3:=by rw [← hR1,layAt_size,hRs]
   have hcp1:∀ ty dc,(Builtin.copy_ #[22,22] ty #[.slice (some ⟨w.heap.size,i*3,none⟩) (n+1-i) dc,.slice (some ⟨xb,0,none⟩) 1 1]).run Tryz.prog W1=.ok (goInt (1:Nat)) W2:=fun ty dc=>by
    rw [← hW2]
    exact run_copy_rows W1 _ _ ty 45 3 w.heap.size (i*3) _ dc ⟨xb,0,none⟩ _ 1 _ ROW 45 Tryz.underlying22 (by kernel_rfl) 1 (by simp only [Nat.min_def];split <;> omega) rfl (hxs hx1) hr1 (by rw [hRs];show i*3+3≤_;omega) h1x
   have hcp2:∀ ty dc sc,(Builtin.copy_ #[22,22] ty #[.slice (some ⟨w.heap.size,(i+1)*3,none⟩) (n+1-(i+1)) dc,.slice (some ⟨g,i*3,none⟩) (n-i) sc]).run Tryz.prog W2.drew=.ok (goInt (n-i:Nat)) (W2.drew.setCells w.heap.size ((i+1)*3) ((mcs l).drop (i*3))):=fun ty dc sc =>
    run_copy_rows W2.drew _ _ ty 45 3 w.heap.size ((i+1)*3) _ dc ⟨g,i*3,none⟩ _ sc _ R1 45 Tryz.underlying22 (by kernel_rfl) (n-i) (by simp only [Nat.min_def];split <;> omega) hdl
     (fun j u hu=>by
      rw [Addr.add_lit]
      rw [List.getElem?_drop] at hu
      have:=hc _ u hu
      rw [Nat.zero_add] at this
      rw [row_cell hcur] at this
      rw [row_cell (w:=W2.drew) hg2]
      exact this) hr2 (by rw [hdl,hs1];omega) (fun u hu=>mcs_one l u (List.mem_of_mem_drop hu))
   have HF:Hid ((layAt R1 ((i+1)*3) ((mcs l).drop (i*3))).toList.take ((n+1)*3)=mcs (l.take i++x::l.drop i)):=lid (by
    rw [← hres,← hR1]
    have:=ins_row2 (R:=ROW) (us:=mce x) hpl hRt (by rw [hAl,hRs];show _+3≤_;omega)
    rw [hAl] at this
    rw [show (n+1)*3=n*3+(mce x).length by show _=_+3;omega,show (i+1)*3=i*3+(mce x).length by show _=_+3;omega]
    exact this)
   have HR3:Hid ((W2.drew.setCells w.heap.size ((i+1)*3) ((mcs l).drop (i*3))).heap[w.heap.size]?=_):=lid (row_setCells ((mcs l).drop (i*3)) _ W2.drew _ hr2)
   have HB3:=lid (below_cells hbase ((mcs l).drop (i*3)) ((i+1)*3) W2.drew hb2.drew)
   have HS1:=lid hs1
   have HLEN:Hid ((mcs (l.take i++x::l.drop i)).length=(n+1)*3):=lid (by rw [mcs_length];simp;omega)
   have e1:((i:Int) == (n:Int))=false:=beq_eq_false_iff_ne.2 (by omega)
   have e2:decide ((n:Int)+1>(n:Int))=true:=by simp;omega
   have HRZ:=lid hrz
   have HC1:=lid hcp1
   have HC2:=lid hcp2
   have HB2:=lid hb2
   have hGi:¬ (G=i):=by omega
   have hGim:¬ (G=i+1):=by omega
   have hci:¬ (n=i):=by omega
   clear hrz hcp1 hcp2 hb1 hb2 hs1 hr1 hr2 hx1 hg1 hg2 hW1 hW2 hR1 hRs hRt hROW hzc hG htk hsz hcur hs hsx h1x hx hne hn hAl hpl hdl hres hc hxs hkk hik hold hi0 hz0 hzs hzb ho1
   go_enter Tryz.func59,Tryz.ntmps59
   go_wp2_with (at_builtin;go_must (refine Lib.wpList_append_run _ rfl _ _ _ _ rfl _ _ rfl rfl _ _ (HRZ.out _) ?_))
   rw [HC1.out]
   simp only [Result.andThen]
   rw [Oper.upon_value]
   go_wp2_with fail
   simp only [Act.put,q1,q2,q3]
   refine qd (fun w'=>∃ s:Since base W2,w'=s.world) [(0,true),(1,true),(2,true),(3,true),(4,true),(5,true),(6,true),(7,true),(8,false)] ?_
   repeat (first | (refine qk ?_;simp only [Act.put,q1,q2,q3]) | (refine qf ?_;intro K hK;go_big_quiet_op;go_big_quiet_on))
   refine qc ?_
   intro K hK
   refine Lib.wpList_copy_run _ rfl _ _ 22 22 rfl (.slice (some ⟨w.heap.size,(i+1)*3,none⟩) (n+1-(i+1)) (G-(i+1))) (.slice (some ⟨g,i*3,none⟩) (n-i) (n-i)) (by simp [Act.eval]) (by simp [Act.eval]) (HC2.out _ _ _) ?_
   go_wp2_with fail
   refine hK.out _ _ (since (below_cells hbase _ _ _ (Below.refl _ _).drew)) ?_
   clear hK K
   refine seq_nil ?_
   go_wp2_with fail
   go_ret
   exact ⟨_,rfl,⟨HLEN.out,.inr ⟨w.heap.size,G,_,rfl,hbase,HR3.out,by omega,hGm,by rw [layAt_size];exact HS1.out,HF.out⟩⟩,HB3.out,HEL.out,.inr rfl⟩
end Go.Proofs.YtgcceepadlmelaaGreatDoor
