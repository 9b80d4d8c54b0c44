import Derived.ArgAppend
import Derived.Test.YtgcceepadlmelaaGreatDoorEdInsS
import Derived.Test.YtgcceepadlmelaaGreatDoorEdTests
import Derived.Test.YtgcceepadlmelaaGreatDoorEdMP
import Derived.Test.YtgcceepadlmelaaGreatDoorEdInsD
import Derived.Test.YtgcceepadlmelaaGreatDoorEdInsM
import Derived.Test.YtgcceepadlmelaaGreatDoorQAI
import Derived.Test.YtgcceepadlmelaaGreatDoorQAE
namespace Go.Proofs.YtgcceepadlmelaaGreatDoor
set_option maxRecDepth 100000
set_option maxHeartbeats 8000000
open Go.RowKit
theorem zero_mod:∀ w,(zeroValue 45).run Tryz.prog w=.ok (.agg #[.string ⟨#[]⟩,.slice none 0 0,.slice none 0 0]) w:=Tryz.zeroValue45
theorem Delete_mod (l:List Mw) (v:Value) (n i:Nat) (base:Nat) (w:World) (hn:l.length=n) (hm:n≤1000000) (hs:w.ownsRow base 45 3 v n (mcs l)) (hi:i<n) :
  Calls Tryz.prog 60 #[v,.int .i64 i,.int .i64 ((i:Int)+1)] w fun e w'=>∃ v',e=.returned v'∧w'.ownsRow base 45 3 v' (n-1) (mcs (l.take i++l.drop (i+1)))∧Below base w w'∧Else w w' v∧v'.ownBlock=v.ownBlock:=by
 rcases hs.2 with ⟨hv,h0⟩ | ⟨g,cap,cur,rfl,hg,hcur,hncap,hmax,hsz,htk⟩
 ·omega
 have hmx:cap≤9223372036854775807:=hmax
 have hAl:(mcs l).length=n*3:=by rw [mcs_length,hn]
 have hcl:cap*3=cur.size:=hsz.symm
 have hnc:n*3≤cap*3:=Nat.mul_le_mul_right _ hncap
 have hin:(i+1)*3≤n*3:=Nat.mul_le_mul_right _ hi
 obtain ⟨m,hm1⟩:∃ m,n=i+1+m:=⟨n-(i+1),by omega⟩
 have hdl:((mcs l).drop ((i+1)*3)).length=m*3:=by rw [List.length_drop,hAl,hm1];omega
 have hd2:(mcs l).drop ((i+1)*3)=mcs (l.drop (i+1)):=by unfold mcs;rw [flat_drop mce_length]
 have ht2:(mcs l).take (i*3)=mcs (l.take i):=by unfold mcs;rw [flat_take mce_length]
 have hres:(mcs l).take (i*3)++(mcs l).drop ((i+1)*3)=mcs (l.take i++l.drop (i+1)):=by rw [hd2,ht2];simp [mcs]
 have hc:∀ j u,(mcs l)[j]?=some u→w.cell? ⟨g,0+j,none⟩=some u:=fun j u hu=>by
  rw [Nat.zero_add,row_cell hcur]
  have:=congrArg (fun z=>z[j]?) htk
  simp only [List.getElem?_take] at this
  rw [hu] at this
  split at this
  ·simpa using this
  ·cases this
 obtain ⟨cur1,h1⟩:∃ y,layAt cur (i*3) ((mcs l).drop ((i+1)*3))=y:=⟨_,rfl⟩
 obtain ⟨W1,hW1⟩:∃ y,w.drew.setCells g (i*3) ((mcs l).drop ((i+1)*3))=y:=⟨_,rfl⟩
 have hr1:W1.heap[g]?=some (.cells cur1 45 (0,0)):=by rw [← hW1,← h1];exact row_setCells _ _ w.drew cur hcur
 have hs1:cur1.size=cap*3:=by rw [← h1,layAt_size,hsz]
 have hb1:Below base w W1:=by rw [← hW1];exact below_cells hg _ _ _ (Below.refl _ _).drew
 obtain ⟨i0,hi0,hz0,hzs,hzb⟩:=info_parts info_mod
 have hroom:i+m≤cap:=by omega
 have hap:∀ ty c2,(Builtin.append_ #[22,22] ty #[.slice (some ⟨g,0,none⟩) i cap,.slice (some ⟨g,(i+1)*3,none⟩) (n-(i+1)) c2]).run Tryz.prog w.drew=.ok (.slice (some ⟨g,0,none⟩) (n-1) cap) W1:=fun ty c2=>by
  have h:=run_append_room_cells (P:=Tryz.prog) w.drew 22 ty 45 i0 Tryz.underlying22 hi0 g 0 i cap ⟨g,(i+1)*3,none⟩ m c2 ((mcs l).drop ((i+1)*3)) (by rw [hdl,hzs])
   (fun j u hu=>by
    rw [Addr.add_lit]
    rw [List.getElem?_drop] at hu
    have:=hc _ u hu
    rwa [Nat.zero_add] at this) (fun u hu=>mcs_one l u (List.mem_of_mem_drop hu)) hroom
   (fun j hj=>by
    rw [hdl] at hj
    rw [hzs,Nat.zero_add]
    show ((w.drew).cell? _).isSome=true
    rw [row_cell (w:=w.drew) hcur,Array.getElem?_eq_getElem (by rw [hsz];omega)]
    rfl)
   (fun j hj=>row_fz (w:=w.drew) hcur _)
  rw [hzs,Nat.zero_add,hW1] at h
  rw [show n-(i+1)=m by omega,show n-1=i+m by omega]
  exact h
 have HAP0:Hid (∀ ty c2,m=0→(Builtin.append_ #[22,22] ty #[.slice (some ⟨g,0,none⟩) i cap,.slice (some ⟨g,0,none⟩) 0 c2]).run Tryz.prog w.drew=.ok (.slice (some ⟨g,0,none⟩) (n-1) cap) W1):=lid (fun ty c2 hm0=>by
  subst hm0
  have h:=run_append_room_cells (P:=Tryz.prog) w.drew 22 ty 45 i0 Tryz.underlying22 hi0 g 0 i cap ⟨g,0,none⟩ 0 c2 [] (by simp) (fun j u hu=>by simp at hu) (fun u hu=>by cases hu) hroom (fun j hj=>by cases hj) (fun j hj=>by cases hj)
  have h0:(mcs l).drop ((i+1)*3)=[]:=List.eq_nil_of_length_eq_zero (by rw [hdl,Nat.zero_mul])
  rw [h0] at hW1
  rw [show n-1=i+0 by omega,← hW1]
  exact h)
 have hcl2:∀ (W:World),W.heap=W1.heap→∀ ty c,(Builtin.clear_ #[22] ty #[.slice (some ⟨g,(n-1)*3,none⟩) (n-(n-1)) c]).run Tryz.prog W=.ok (.tuple #[]) (W.setCells g ((n-1)*3) (Builtin.zeroCells (Value.cells (.agg #[.string ⟨#[]⟩,.slice none 0 0,.slice none 0 0])) 1).toList):=fun W hW ty c=>by
  have h:=run_clear_cells (P:=Tryz.prog) W 22 45 ty _ Tryz.underlying22 zero_mod (by intro k hk;have:k<3:=hk;match k,this with | 0,_=>rfl | 1,_=>rfl | 2,_=>rfl) g ((n-1)*3) 1 c (by omega)
   (fun t ht=>by rw [row_cell (by rw [hW];exact hr1),Array.getElem?_eq_getElem (show (n-1)*3+t<cur1.size by rw [hs1];have:t<1*3:=ht;omega)];rfl) (fun t _=>row_fz (by rw [hW];exact hr1) _)
  rw [show n-(n-1)=1 by omega]
  exact h
 have HEL:∀ (W:World),W.heap=W1.heap→∀ us,Else w (W.setCells g ((n-1)*3) us) (.slice (some ⟨g,0,none⟩) n cap):=fun W hW us k hk hkg=>by
  have hkg':k≠g:=fun e=>hkg (by rw [e];rfl)
  rw [setCells_other hkg' _ _ _,hW,← hW1,setCells_other hkg' _ _ _]
  rfl
 have HF:Hid ((layAt cur1 ((n-1)*3) (Builtin.zeroCells (Value.cells (.agg #[.string ⟨#[]⟩,.slice none 0 0,.slice none 0 0])) 1).toList).toList.take ((n-1)*3)=mcs (l.take i++l.drop (i+1))):=lid (by
  have hzl:(Builtin.zeroCells (Value.cells (.agg #[.string ⟨#[]⟩,.slice none 0 0,.slice none 0 0])) 1).toList.length=1*3:=zeroCells_length _ _
  rw [layAt_take (by rw [hs1,hzl];omega),← hres,← h1]
  have h9:(n-1)*3=i*3+((mcs l).drop ((i+1)*3)).length:=by rw [hdl,hm1];omega
  rw [h9,layAt_more (by rw [hdl];omega)]
  congr 1
  have:=congrArg (List.take (i*3)) htk
  rw [List.take_take,Nat.min_eq_left (by omega)] at this
  exact this)
 have HR2:∀ (W:World),W.heap=W1.heap→∀ us,(W.setCells g ((n-1)*3) us).heap[g]?=some (.cells (layAt cur1 ((n-1)*3) us) 45 (0,0)):=fun W hW us=>row_setCells us _ W _ (by rw [hW];exact hr1)
 have HS1:=lid hs1
 have HLEN:Hid ((mcs (l.take i++l.drop (i+1))).length=(n-1)*3):=lid (by rw [mcs_length];simp;omega)
 have e1:((i:Int) == (i:Int)+1)=false:=beq_eq_false_iff_ne.2 (by omega)
 have hwrap:IntKind.i64.wrap ((i:Int)+1)=(i:Int)+1:=by rw [IntKind.wrap_i64];omega
 have HAP:=lid hap
 have HCL:=lid hcl2
 have HB1:=lid hb1
 have HRR:=lid HR2
 have HEE:=lid HEL
 have hgl:=row_lt hcur
 have hn1:¬ (n=i):=by omega
 clear hap hcl2 hb1 hs1 HR2 HEL hr1 h1 hW1 htk hsz hcur hs hn hAl hdl hd2 ht2 hres hc hi0 hz0 hzs hzb hcl hroom
 rcases Decidable.em (cap=i+1) with hce | hce
 ·have HAP1:=lid (fun ty=>HAP0.out ty 0 (by omega))
  clear HAP0 HAP
  obtain rfl:n=i+1:=by omega
  subst hce
  clear hm1 hnc hin hncap hi hn1
  rw [Nat.add_sub_cancel] at HAP1 HF HLEN
  simp only [Nat.add_sub_cancel] at HCL HRR HEE
  have hq1:i+1-i=1:=by omega
  simp only [hq1] at HCL
  clear hq1
  go_enter Tryz.func60,Tryz.ntmps60
  go_wp2_with fail
  refine qd (fun w'=>∃ s:Since base w,w'=s.world) [(0,true),(1,true),(2,true),(3,true),(4,true),(5,true),(6,false),(7,false)] ?_
  repeat (first | (refine qk ?_;simp only [Act.put,q1,q2,q3]) | (refine qf ?_;intro K hK;go_big_quiet_op;go_big_quiet_on))
  refine qc ?_
  intro K hK
  refine Lib.wpList_append_run _ rfl _ _ _ _ rfl (.slice (some ⟨g,0,none⟩) i (i+1)) (.slice (some ⟨g,0,none⟩) 0 0) (by simp [Act.eval]) (by simp [Act.eval]) _ _ (HAP1.out _) ?_
  go_wp2_with fail
  refine hK.out _ _ (since HB1.out) ?_
  clear hK K
  refine qc ?_
  intro K hK
  go_wp2_with fail
  refine hK.out _ _ (since HB1.out) ?_
  clear hK K
  repeat (first | (refine qk ?_;simp only [Act.put,q1,q2,q3]) | (refine qf ?_;intro K hK;go_big_quiet_op;go_big_quiet_on))
  refine seq_nil ?_
  have hcl:=HCL.out W1 rfl
  go_wp2_with fail
  go_ret
  exact ⟨_,rfl,⟨HLEN.out,.inr ⟨g,i+1,_,rfl,hg,HRR.out W1 rfl _,by omega,hmax,by rw [layAt_size];exact HS1.out,HF.out⟩⟩,below_cells hg _ _ _ HB1.out,HEE.out W1 rfl _,rfl⟩
 ·have hci:¬ (i+1=cap):=fun e=>hce e.symm
  clear hm1 hnc hin
  go_enter Tryz.func60,Tryz.ntmps60
  go_wp2_with fail
  refine qd (fun w'=>∃ s:Since base w,w'=s.world) [(0,true),(1,true),(2,true),(3,true),(4,true),(5,true),(6,false),(7,false)] ?_
  repeat (first | (refine qk ?_;simp only [Act.put,q1,q2,q3]) | (refine qf ?_;intro K hK;go_big_quiet_op;go_big_quiet_on))
  refine qc ?_
  intro K hK
  refine Lib.wpList_append_run _ rfl _ _ _ _ rfl (.slice (some ⟨g,0,none⟩) i cap) (.slice (some ⟨g,(i+1)*3,none⟩) (n-(i+1)) (cap-(i+1))) (by simp [Act.eval]) (by simp [Act.eval]) _ _ (HAP.out _ _) ?_
  go_wp2_with fail
  refine hK.out _ _ (since HB1.out) ?_
  clear hK K
  refine qc ?_
  intro K hK
  go_wp2_with fail
  refine hK.out _ _ (since HB1.out) ?_
  clear hK K
  repeat (first | (refine qk ?_;simp only [Act.put,q1,q2,q3]) | (refine qf ?_;intro K hK;go_big_quiet_op;go_big_quiet_on))
  refine seq_nil ?_
  have hcl:=HCL.out W1 rfl
  go_wp2_with fail
  go_ret
  exact ⟨_,rfl,⟨HLEN.out,.inr ⟨g,cap,_,rfl,hg,HRR.out W1 rfl _,by omega,hmax,by rw [layAt_size];exact HS1.out,HF.out⟩⟩,below_cells hg _ _ _ HB1.out,HEE.out W1 rfl _,rfl⟩
end Go.Proofs.YtgcceepadlmelaaGreatDoor
namespace Go.Proofs.YtgcceepadlmelaaGreatDoor
open Go.RowKit
def UsR (w0 W W2:World) (g cap:Nat) (L:List Mw) (j:Nat) (hj:j<L.length) (ao:Option Addr) (us:List ByteArray) (c:Nat):Prop :=
 MO w0 (W2.setCell ⟨g,j*3+1,none⟩ (.slice ao us.length c)) (.slice (some ⟨g,0,none⟩) L.length cap) (L.set j ⟨L[j].label,ao,us,c,L[j].da,L[j].decls,L[j].dcap⟩) ∧
 Stp W (W2.setCell ⟨g,j*3+1,none⟩ (.slice ao us.length c)) (.slice (some ⟨g,0,none⟩) L.length cap) (.slice (some ⟨g,0,none⟩) L.length cap) L (L.set j ⟨L[j].label,ao,us,c,L[j].da,L[j].decls,L[j].dcap⟩)
def DcR (w0 W W2:World) (g cap:Nat) (L:List Mw) (j:Nat) (hj:j<L.length) (ao:Option Addr) (us:List Dw) (c:Nat):Prop :=
 MO w0 (W2.setCell ⟨g,j*3+2,none⟩ (.slice ao us.length c)) (.slice (some ⟨g,0,none⟩) L.length cap) (L.set j ⟨L[j].label,L[j].ua,L[j].uses,L[j].ucap,ao,us,c⟩) ∧
 Stp W (W2.setCell ⟨g,j*3+2,none⟩ (.slice ao us.length c)) (.slice (some ⟨g,0,none⟩) L.length cap) (.slice (some ⟨g,0,none⟩) L.length cap) L (L.set j ⟨L[j].label,L[j].ua,L[j].uses,L[j].ucap,ao,us,c⟩)
theorem ins_len {α:Type} {l:List α} {i:Nat} (hi:i≤l.length) (x:α):(l.take i++x::l.drop i).length=l.length+1:=by simp;omega
theorem del_len {α:Type} {l:List α} {i:Nat} (hi:i<l.length):(l.take i++l.drop (i+1)).length=l.length-1:=by simp;omega
theorem mem_ins {α:Type} {l:List α} {i:Nat} {x y:α} (h:y∈l.take i++x::l.drop i):y=x∨y∈l:=by
 rcases List.mem_append.1 h with h | h
 ·exact .inr (List.mem_of_mem_take h)
 ·rcases List.mem_cons.1 h with h | h
  ·exact .inl h
  ·exact .inr (List.mem_of_mem_drop h)
theorem mem_del {α:Type} {l:List α} {i:Nat} {y:α} (h:y∈l.take i++l.drop (i+1)):y∈l:=by
 rcases List.mem_append.1 h with h | h
 ·exact List.mem_of_mem_take h
 ·exact List.mem_of_mem_drop h
theorem InsU_any {w0 W:World} {L:List Mw} {g cap:Nat} (h:MO w0 W (.slice (some ⟨g,0,none⟩) L.length cap) L) {j:Nat} (hj:j<L.length) {i xb:Nat} {x:ByteArray} {us:List ByteArray} (hus:us=L[j].uses.take i++x::L[j].uses.drop i) (hi:i≤L[j].uses.length) (hm:L[j].uses.length≤1000000)
  (hx:W.heap[xb]?=some (.cells #[.string x] 9 (0,0))) (hxn:(uV L[j]).ownBlock≠some xb) (hxs:x.size≤maxLen) :
  Calls Tryz.prog 45 #[.slice L[j].ua L[j].uses.length L[j].ucap,.int .i64 i,.slice (some ⟨xb,0,none⟩) 1 1] W fun e W2=>∃ ao c,e=.returned (.slice ao us.length c)∧Else W W2 (uV L[j])∧UsR w0 W W2 g cap L j hj ao us c∧(W2.cell? ⟨g,j*3+1,none⟩=some (.slice L[j].ua L[j].uses.length L[j].ucap)∧W2.frozen? ⟨g,j*3+1,none⟩=false∧g<W2.heap.size):=by
 have hE:=h.el _ (List.getElem_mem hj)
 refine (Insert_str L[j].uses (uV L[j]) L[j].uses.length i x w0.heap.size xb W rfl hm (by rw [scs_eq];exact hE.us) h.bel.size hi hx hxn).mono ?_
 rintro e W2 ⟨v',rfl,h1,h2,h3,h4⟩
 have hl:us.length=L[j].uses.length+1:=by rw [hus];exact ins_len hi x
 rw [← hus,scs_eq,← hl] at h1
 obtain ⟨ao,c,rfl⟩:=own_slice h1
 have hle:W.heap.size≤W2.heap.size:=h2.size
 obtain ⟨p1,p2,p3⟩:=h.uses hj (h.bel.trans h2) hle h3 h1 (h4.imp id (fun e=>⟨_,e,Nat.le_refl _⟩)) (fun u hu=>by
  rw [hus] at hu
  rcases mem_ins hu with rfl | hu
  ·exact hxs
  ·exact hE.usz u hu)
 exact ⟨ao,c,rfl,h3,⟨p1,p2⟩,p3⟩
theorem InsD_any {w0 W:World} {L:List Mw} {g cap:Nat} (h:MO w0 W (.slice (some ⟨g,0,none⟩) L.length cap) L) {j:Nat} (hj:j<L.length) {i xb:Nat} {x:Dw} {us:List Dw} (hus:us=L[j].decls.take i++x::L[j].decls.drop i) (hi:i≤L[j].decls.length) (hm:L[j].decls.length≤1000000)
  (hx:W.heap[xb]?=some (.cells (dca x) 65 (0,0))) (hxn:(dV L[j]).ownBlock≠some xb) (hxs:DwA w0 x) :
  Calls Tryz.prog 50 #[.slice L[j].da L[j].decls.length L[j].dcap,.int .i64 i,.slice (some ⟨xb,0,none⟩) 1 1] W fun e W2=>∃ ao c,e=.returned (.slice ao us.length c)∧Else W W2 (dV L[j])∧DcR w0 W W2 g cap L j hj ao us c∧(W2.cell? ⟨g,j*3+2,none⟩=some (.slice L[j].da L[j].decls.length L[j].dcap)∧W2.frozen? ⟨g,j*3+2,none⟩=false∧g<W2.heap.size):=by
 have hE:=h.el _ (List.getElem_mem hj)
 refine (Insert_dec L[j].decls (dV L[j]) L[j].decls.length i x w0.heap.size xb W rfl hm hE.ds h.bel.size hi hx hxn).mono ?_
 rintro e W2 ⟨v',rfl,h1,h2,h3,h4⟩
 have hl:us.length=L[j].decls.length+1:=by rw [hus];exact ins_len hi x
 rw [← hus,← hl] at h1
 obtain ⟨ao,c,rfl⟩:=own_slice h1
 obtain ⟨p1,p2,p3⟩:=h.decls hj (h.bel.trans h2) h2.size h3 h1 (h4.imp id (fun e=>⟨_,e,Nat.le_refl _⟩)) (fun u hu=>by
  rw [hus] at hu
  rcases mem_ins hu with rfl | hu
  ·exact hxs
  ·exact hE.del u hu)
 exact ⟨ao,c,rfl,h3,⟨p1,p2⟩,p3⟩
theorem DelU_any {w0 W:World} {L:List Mw} {g cap:Nat} (h:MO w0 W (.slice (some ⟨g,0,none⟩) L.length cap) L) {j:Nat} (hj:j<L.length) {i:Nat} {us:List ByteArray} (hus:us=L[j].uses.take i++L[j].uses.drop (i+1)) (hi:i<L[j].uses.length) (hm:L[j].uses.length≤1000000) :
  Calls Tryz.prog 47 #[.slice L[j].ua L[j].uses.length L[j].ucap,.int .i64 i,.int .i64 ((i:Int)+1)] W fun e W2=>∃ ao c,e=.returned (.slice ao us.length c)∧Else W W2 (uV L[j])∧UsR w0 W W2 g cap L j hj ao us c∧(W2.cell? ⟨g,j*3+1,none⟩=some (.slice L[j].ua L[j].uses.length L[j].ucap)∧W2.frozen? ⟨g,j*3+1,none⟩=false∧g<W2.heap.size):=by
 have hE:=h.el _ (List.getElem_mem hj)
 refine (Delete_str L[j].uses (uV L[j]) L[j].uses.length i w0.heap.size W rfl hm (by rw [scs_eq];exact hE.us) hi).mono ?_
 rintro e W2 ⟨v',rfl,h1,h2,h3,h4⟩
 have hl:us.length=L[j].uses.length-1:=by rw [hus];exact del_len hi
 rw [← hus,scs_eq,← hl] at h1
 obtain ⟨ao,c,rfl⟩:=own_slice h1
 obtain ⟨p1,p2,p3⟩:=h.uses hj (h.bel.trans h2) h2.size h3 h1 (.inl h4) (fun u hu=>hE.usz u (mem_del (by rw [← hus];exact hu)))
 exact ⟨ao,c,rfl,h3,⟨p1,p2⟩,p3⟩
theorem DelD_any {w0 W:World} {L:List Mw} {g cap:Nat} (h:MO w0 W (.slice (some ⟨g,0,none⟩) L.length cap) L) {j:Nat} (hj:j<L.length) {i:Nat} {us:List Dw} (hus:us=L[j].decls.take i++L[j].decls.drop (i+1)) (hi:i<L[j].decls.length) (hm:L[j].decls.length≤1000000) :
  Calls Tryz.prog 78 #[.slice L[j].da L[j].decls.length L[j].dcap,.int .i64 i,.int .i64 ((i:Int)+1)] W fun e W2=>∃ ao c,e=.returned (.slice ao us.length c)∧Else W W2 (dV L[j])∧DcR w0 W W2 g cap L j hj ao us c∧(W2.cell? ⟨g,j*3+2,none⟩=some (.slice L[j].da L[j].decls.length L[j].dcap)∧W2.frozen? ⟨g,j*3+2,none⟩=false∧g<W2.heap.size):=by
 have hE:=h.el _ (List.getElem_mem hj)
 refine (Delete_dec L[j].decls (dV L[j]) L[j].decls.length i w0.heap.size W rfl hm hE.ds hi).mono ?_
 rintro e W2 ⟨v',rfl,h1,h2,h3,h4⟩
 have hl:us.length=L[j].decls.length-1:=by rw [hus];exact del_len hi
 rw [← hus,← hl] at h1
 obtain ⟨ao,c,rfl⟩:=own_slice h1
 obtain ⟨p1,p2,p3⟩:=h.decls hj (h.bel.trans h2) h2.size h3 h1 (.inl h4) (fun u hu=>hE.del u (mem_del (by rw [← hus];exact hu)))
 exact ⟨ao,c,rfl,h3,⟨p1,p2⟩,p3⟩
theorem bare_E {w0 w:World} {l:ByteArray} (h:l.size≤maxLen):MoE w0 w ⟨l,none,[],0,none,[],0⟩:=⟨h,World.ownsRow_nil _ _ _ _,fun _ h=>(by cases h),World.ownsRow_nil _ _ _ _,fun _ h=>(by cases h)⟩
theorem InsM_any {w0 W:World} {L:List Mw} {v:Value} (h:MO w0 W v L) {i xb:Nat} {l:ByteArray} (hi:i≤L.length) (hm:L.length≤1000000) (hl:l.size≤maxLen)
  (hx:W.heap[xb]?=some (.cells #[.string l,.slice none 0 0,.slice none 0 0] 45 (0,0))) (hxn:v.ownBlock≠some xb) :
  Calls Tryz.prog 59 #[v,.int .i64 i,.slice (some ⟨xb,0,none⟩) 1 1] W fun e W2=>∃ v',e=.returned v'∧MO w0 W2 v' (L.take i++⟨l,none,[],0,none,[],0⟩::L.drop i)∧Stp W W2 v v' L (L.take i++⟨l,none,[],0,none,[],0⟩::L.drop i):=by
 have hbl:blkM ⟨l,none,[],0,none,[],0⟩=[]:=rfl
 refine (Insert_mod L v L.length i ⟨l,none,[],0,none,[],0⟩ w0.heap.size xb W rfl hm h.own h.bel.size hi hx hxn).mono ?_
 rintro e W2 ⟨v',rfl,h1,h2,h3,h4⟩
 have hfm:(L.take i++⟨l,none,[],0,none,[],0⟩::L.drop i).flatMap blkM=L.flatMap blkM:=by
  rw [List.flatMap_append,List.flatMap_cons,hbl,List.nil_append,← List.flatMap_append,List.take_append_drop]
 have hk:∀ k,k<W.heap.size→k∉obs v→W2.heap[k]?=W.heap[k]?:=fun k hk hn=>h3 k hk (fun e=>hn (mem_obs.2 e.symm))
 have hv:∀ k∈obs v',k∈obs v∨W.heap.size≤k:=fun k hk=>by
  rw [mem_obs] at hk
  rcases h4 with h5 | h5
  ·exact .inl (mem_obs.2 (by rw [← h5,hk]))
  ·rw [h5] at hk
   cases hk
   exact .inr (Nat.le_refl _)
 refine ⟨v',rfl,h.re (h.bel.trans h2) (by rw [ins_len hi];exact h1) hk hv (by rw [hfm];exact List.Sublist.refl _) (fun m hm=>?_),⟨fun k h5 h6 _=>hk k h5 h6,fun k h5=>?_,h2.size⟩⟩
 ·rcases mem_ins hm with rfl | hm
  ·exact .inr (bare_E hl)
  ·exact .inl hm
 ·rw [hfm] at h5
  rcases h5 with h5 | h5
  ·exact (hv k h5).imp .inl id
  ·exact .inl (.inr h5)
theorem DelM_any {w0 W:World} {L:List Mw} {v:Value} (h:MO w0 W v L) {i:Nat} (hi:i<L.length) (hm:L.length≤1000000) :
  Calls Tryz.prog 60 #[v,.int .i64 i,.int .i64 ((i:Int)+1)] W fun e W2=>∃ v',e=.returned v'∧MO w0 W2 v' (L.take i++L.drop (i+1))∧Stp W W2 v v' L (L.take i++L.drop (i+1)):=by
 refine (Delete_mod L v L.length i w0.heap.size W rfl hm h.own hi).mono ?_
 rintro e W2 ⟨v',rfl,h1,h2,h3,h4⟩
 have hsl:List.Sublist (L.take i++L.drop (i+1)) L:=by
  conv=>rhs;rw [← List.take_append_drop i L]
  refine (List.Sublist.refl _).append ?_
  rw [← List.drop_drop]
  exact List.drop_sublist _ _
 have hfm:List.Sublist ((L.take i++L.drop (i+1)).flatMap blkM) (L.flatMap blkM):=by
  rw [List.flatMap_append]
  conv=>rhs;rw [list_at hi,List.flatMap_append,List.flatMap_cons]
  exact (List.Sublist.refl _).append (List.sublist_append_right _ _)
 have hk:∀ k,k<W.heap.size→k∉obs v→W2.heap[k]?=W.heap[k]?:=fun k hk hn=>h3 k hk (fun e=>hn (mem_obs.2 e.symm))
 have hv:∀ k∈obs v',k∈obs v∨W.heap.size≤k:=fun k hk=>by
  rw [mem_obs,h4] at hk
  exact .inl (mem_obs.2 hk)
 refine ⟨v',rfl,h.re (h.bel.trans h2) (by rw [del_len hi];exact h1) hk hv hfm (fun m hm=>.inl (hsl.subset hm)),⟨fun k h5 h6 _=>hk k h5 h6,fun k h5=>?_,h2.size⟩⟩
 rcases h5 with h5 | h5
 ·exact (hv k h5).imp .inl id
 ·exact .inl (.inr (hfm.subset h5))
end Go.Proofs.YtgcceepadlmelaaGreatDoor
namespace Go.Proofs.YtgcceepadlmelaaGreatDoor
set_option maxRecDepth 100000
set_option maxHeartbeats 8000000
open Go.RowKit
theorem mcs_cell {l:List Mw} {k j:Nat} (h:k<l.length) (hj:j<3):(mcs l)[k*3+j]?=(mce l[k])[j]?:=flat_at mce_length h hj
theorem fit_kind {k:Kw} (h:FitK k):1≤k.kind∧k.kind≤9:=by
 rcases h with ⟨h,_⟩ | ⟨h,_⟩ | ⟨h,_⟩ | ⟨h,_⟩ | ⟨h,_⟩ <;> omega
theorem EdCheck_any (k:Kw) (w:World) (h:KwA w k) (hf:FitK k) (ht:TestK k):Calls Tryz.prog 27 #[.agg (kca k)] w fun r w'=>r=.returned (.int .i64 0)∧Below w.heap.size w w':=by
 obtain ⟨W1,hW1⟩:∃ y,w.alloc (.cells (kca k) 52)=y:=⟨_,rfl⟩
 have hb1:Below w.heap.size w W1:=by rw [← hW1];exact ba _ _
 have hR1:W1.heap[w.heap.size]?=some (.cells (kca k) 52 (0,0)):=by rw [← hW1];exact h_new rfl _
 have HK1:=lid (h.below hb1)
 have HF:=lid hf
 have HT:=lid ht
 have HW1:=lid hW1
 have HB1:=lid hb1
 have HR1:=lid hR1
 obtain ⟨hk1,hk9⟩:=fit_kind hf
 have d1:decide (k.kind<1)=false:=by simp;omega
 have d9:decide (9<k.kind)=false:=by simp;omega
 have x0:W1.cell? ⟨w.heap.size,0,none⟩=some (.int .i64 k.kind):=row_cell hR1 0
 have x1:W1.cell? ⟨w.heap.size,1,none⟩=some (.string k.pack):=row_cell hR1 1
 have x2:W1.cell? ⟨w.heap.size,2,none⟩=some (.string k.text):=row_cell hR1 2
 have x3:W1.cell? ⟨w.heap.size,3,none⟩=some (.slice k.oa k.old.length k.ocap):=row_cell hR1 3
 have x4:W1.cell? ⟨w.heap.size,4,none⟩=some (.slice k.na k.new.length k.ncap):=row_cell hR1 4
 have lk:=row_lt hR1
 clear h hf ht hW1 hb1 hR1 hk1 hk9
 go_enter Tryz.func27,Tryz.ntmps27
 go_wp2_with fail
 rw [HW1.out]
 (with_reducible refine (fits_any k W1 HK1.out HF.out).mono ?_);rintro e w2 ⟨rfl,hb2⟩
 have HB2:=lid (HB1.out.trans (hb2.mono HB1.out.size))
 have HR2:=lid ((hb2.block _ lk).trans HR1.out)
 have HK2:=lid (HK1.out.below hb2)
 clear hb2 x0 x1 x2 x3 x4 lk
 have x0:w2.cell? ⟨w.heap.size,0,none⟩=some (.int .i64 k.kind):=row_cell HR2.out 0
 have x1:w2.cell? ⟨w.heap.size,1,none⟩=some (.string k.pack):=row_cell HR2.out 1
 have x2:w2.cell? ⟨w.heap.size,2,none⟩=some (.string k.text):=row_cell HR2.out 2
 have x3:w2.cell? ⟨w.heap.size,3,none⟩=some (.slice k.oa k.old.length k.ocap):=row_cell HR2.out 3
 have x4:w2.cell? ⟨w.heap.size,4,none⟩=some (.slice k.na k.new.length k.ncap):=row_cell HR2.out 4
 have lk:=row_lt HR2.out
 go_wp2_with fail
 (with_reducible refine (tests_any k w2 HK2.out HF.out HT.out).mono ?_);rintro e w3 ⟨ao,cap,L,rfl,hml,hmv,hb3⟩
 have HB3:=lid (HB2.out.trans (hb3.mono HB2.out.size))
 obtain ⟨n,hn⟩:∃ n,L.length=n:=⟨_,rfl⟩
 rw [hn] at hml ⊢
 have HML:=lid hml
 have HMV:=lid hmv
 have HN:=lid hn
 have hc63:cap≤9223372036854775807:=hml.max
 have hnc:n≤cap:=hml.le
 clear hml hmv hb3 hn x0 x1 x2 x3 x4 lk
 go_wp2_with fail
 go_loopw [20] (fun u20 wr=>∃ j:Nat,j≤n∧u20=.int .i64 j∧Hid (Below w3.heap.size w3 wr)) (fun u20 _=>n-(intOf u20).toNat)
 case atStart=>exact ⟨0,Nat.zero_le _,rfl,lid (Below.refl _ _)⟩
 case round =>
  obtain ⟨j,hj,rfl,HBR⟩:=hrel
  by_cases hjn:j<n
  ·have hjl:j<L.length:=by rw [HN.out];exact hjn
   obtain ⟨m,hm⟩:∃ m,L[j]=m:=⟨_,rfl⟩
   obtain ⟨b,o,rfl,hbz,hc⟩:=HML.out.sl.at_ (k:=j) hjn
   have hcm:∀ i u,(mce m)[i]?=some u→i<3→wr.cell? ⟨b,o+(j*3+i),none⟩=some u:=fun i u hu hi=>by rw [bc HBR.out hbz _];exact hc _ u (by rw [mcs_cell hjl hi,hm];exact hu)
   have y0:wr.cell? ⟨b,o+j*3,none⟩=some (.string m.label):=by have:=hcm 0 _ rfl (by omega);exact this
   have y1:wr.cell? ⟨b,o+j*3+1,none⟩=some (.slice m.ua m.uses.length m.ucap):=by have:=hcm 1 _ rfl (by omega);rwa [← Nat.add_assoc] at this
   have y2:wr.cell? ⟨b,o+j*3+2,none⟩=some (.slice m.da m.decls.length m.dcap):=by have:=hcm 2 _ rfl (by omega);rwa [← Nat.add_assoc] at this
   have hbz2:b<wr.heap.size:=Nat.lt_of_lt_of_le hbz HBR.out.size
   obtain ⟨X,hX⟩:∃ X,wr.alloc (.cells #[.string m.label,.slice m.ua m.uses.length m.ucap,.slice m.da m.decls.length m.dcap] 45)=X:=⟨_,rfl⟩
   have hbX:Below wr.heap.size wr X:=by rw [← hX];exact ba _ _
   have HMA:Hid (MwA X m):=lid ((HML.out.el m (by rw [← hm];exact List.getElem_mem hjl)).below (HBR.out.trans (hbX.mono HBR.out.size)))
   have HMM:Hid (modW m):=lid (HMV.out m (by rw [← hm];exact List.getElem_mem hjl))
   have HX:=lid hX
   have HBX:=lid (HBR.out.trans (hbX.mono HBR.out.size))
   clear hc hcm hm hX hbX hjl
   go_wp2_with fail
   rw [HX.out]
   (with_reducible refine (Check_any m X HMA.out).mono ?_);rintro e w4 ⟨q,rfl,hq,hb4⟩
   obtain rfl:q=0:=hq.2 HMM.out
   have HB4:=lid (HBX.out.trans (hb4.mono HBX.out.size))
   clear hq hb4 y0 y1 y2
   go_wp2_with fail
   go_roundw
   case measure=>simp only [intOf];omega
   case rel=>exact ⟨j+1,by omega,by simp,HB4⟩
  ·obtain rfl:j=n:=by omega
   clear hjn
   go_wp2_with fail
   go_ret
   exact ⟨rfl,HB3.out.trans (HBR.out.mono HB3.out.size)⟩
end Go.Proofs.YtgcceepadlmelaaGreatDoor
namespace Go.Proofs.YtgcceepadlmelaaGreatDoor
set_option maxRecDepth 100000
set_option maxHeartbeats 8000000
open Go.RowKit
theorem mla_at {w W:World} {ao:Option Addr} {n cap j:Nat} {L:List Mw} (h:MLA w ao n cap L) (hb:Below w.heap.size w W) (hj:j<n):∃ b o m,ao=some ⟨b,o,none⟩∧b<w.heap.size∧L[j]?=some m∧m∈L∧MwA W m∧(∀ i u,(mce m)[i]?=some u→i<3→W.cell? ⟨b,o+(j*3+i),none⟩=some u):=by
 have hjl:j<L.length:=by rw [h.len];exact hj
 obtain ⟨b,o,e,hbz,hc⟩:=h.sl.at_ (k:=j) hj
 refine ⟨b,o,L[j],e,hbz,List.getElem?_eq_getElem hjl,List.getElem_mem hjl,(h.el _ (List.getElem_mem hjl)).below hb,fun i u hu hi=>?_⟩
 rw [bc hb hbz _]
 exact hc _ u (by rw [mcs_cell hjl hi];exact hu)
theorem take_next {α:Type} {L:List α} {j:Nat} {x:α} (h:L[j]?=some x):L.take (j+1)=L.take j++[x]:=by
 obtain ⟨hj,e⟩:=List.getElem?_eq_some_iff.1 h
 rw [List.take_succ_eq_append_getElem hj,e]
theorem less_total':∀ (a b:List UInt8),(!Op.bytesLess a b)=(Op.bytesLess b a || b == a)
 | [],[]=>rfl
 | [],_::_=>rfl
 | _::_,[]=>rfl
 | x::a,y::b=>by
  have ih:=less_total' a b
  unfold Op.bytesLess
  by_cases h1:x<y
  ·have h2:¬ y<x:=by intro h;exact absurd (UInt8.lt_trans h1 h) (UInt8.lt_irrefl x)
   have h3:¬ y=x:=by intro h;subst h;exact UInt8.lt_irrefl _ h1
   simp [h1,h2,h3]
  ·by_cases h2:y<x
   ·have h3:¬ x=y:=by intro h;subst h;exact UInt8.lt_irrefl _ h2
    simp [h1,h2,h3]
   ·have h3:x=y:=UInt8.le_antisymm (UInt8.not_lt.1 h2) (UInt8.not_lt.1 h1)
    subst h3
    have hx:¬ x<x:=UInt8.lt_irrefl x
    simp only [hx,decide_false,Bool.false_or,beq_self_eq_true,Bool.true_and]
    rw [ih]
    simp
def OrdM (L:List Mw):Prop:=L.Pairwise fun x y=>ltL x.label y.label=true
theorem ord_snoc {l:List Mw} {x y:Mw} (h:OrdM (l++[x])) (hy:ltL x.label y.label=true):OrdM (l++[x]++[y]):=by
 unfold OrdM at *
 rw [List.pairwise_append] at h ⊢
 rw [List.pairwise_append]
 refine ⟨⟨h.1,h.2.1,h.2.2⟩,List.pairwise_singleton _ _,fun a ha b hb=>?_⟩
 rw [List.mem_singleton.1 hb]
 rcases List.mem_append.1 ha with ha | ha
 ·exact ltL_k.tr (h.2.2 a ha x (List.mem_singleton.2 rfl)) hy
 ·rw [List.mem_singleton.1 ha]
  exact hy
theorem checkEach_any (ao:Option Addr) (n cap:Nat) (L:List Mw) (w:World) (h:MLA w ao n cap L):Calls Tryz.prog 29 #[.slice ao n cap] w fun r w'=>∃ q:Int,r=.returned (.int .i64 q)∧(q=0↔∀ m∈L,modW m)∧Below w.heap.size w w':=by
 have HML:=lid h
 have hc63:cap≤9223372036854775807:=h.max
 have hnc:n≤cap:=h.le
 obtain ⟨P,hP⟩:∃ P,(∀ m∈L,modW m)=P:=⟨_,rfl⟩
 rw [hP]
 have HP:=lid hP
 clear h hP
 go_enter Tryz.func29,Tryz.ntmps29
 go_wp2_with fail
 go_loopw [8] (fun u20 wr=>∃ j:Nat,j≤n∧u20=.int .i64 j∧Hid (∀ m∈L.take j,modW m)∧Hid (Below w.heap.size w wr)) (fun u20 _=>n-(intOf u20).toNat)
 case atStart=>exact ⟨0,Nat.zero_le _,rfl,lid (fun _ h=>by simp at h),lid (Below.refl _ _)⟩
 case round =>
  obtain ⟨j,hj,rfl,HA,HBR⟩:=hrel
  by_cases hjn:j<n
  ·obtain ⟨X,hX⟩:∃ X,wr=X:=⟨_,rfl⟩
   obtain ⟨b,o,m,rfl,hbz,hat,hmem,hMA,hcm⟩:=mla_at HML.out HBR.out hjn
   clear hX X
   have y0:wr.cell? ⟨b,o+j*3,none⟩=some (.string m.label):=by have:=hcm 0 _ rfl (by omega);exact this
   have y1:wr.cell? ⟨b,o+j*3+1,none⟩=some (.slice m.ua m.uses.length m.ucap):=by have:=hcm 1 _ rfl (by omega);rwa [← Nat.add_assoc] at this
   have y2:wr.cell? ⟨b,o+j*3+2,none⟩=some (.slice m.da m.decls.length m.dcap):=by have:=hcm 2 _ rfl (by omega);rwa [← Nat.add_assoc] at this
   have hbz2:b<wr.heap.size:=Nat.lt_of_lt_of_le hbz HBR.out.size
   obtain ⟨X,hX⟩:∃ X,wr.alloc (.cells #[.string m.label,.slice m.ua m.uses.length m.ucap,.slice m.da m.decls.length m.dcap] 45)=X:=⟨_,rfl⟩
   have hbX:Below wr.heap.size wr X:=by rw [← hX];exact ba _ _
   have CK:=lid (Check_any m X (hMA.below hbX))
   have HX:=lid hX
   have HBX:=lid (HBR.out.trans (hbX.mono HBR.out.size))
   have HMEM:=lid hmem
   have HAT:=lid hat
   clear hcm hX hbX hMA hat hmem
   go_wp2_with fail
   rw [HX.out]
   (with_reducible refine (CK.out).mono ?_);rintro e w4 ⟨q,rfl,hq,hb4⟩
   have HB4:=lid (HBX.out.trans (hb4.mono HBX.out.size))
   have HQ:=lid hq
   clear hq hb4 y0 y1 y2 CK
   cases uq:(q == 0) with
   | false =>
    have hq0:q≠0:=by simpa using uq
    have HV:Hid (q=0↔P):=lid ⟨fun h=>absurd h hq0,fun h=>by rw [← HP.out] at h;exact HQ.out.2 (h m HMEM.out)⟩
    clear hq0
    go_wp2_with fail
    go_ret
    exact ⟨q,rfl,HV.out,HB4.out⟩
   | true =>
    obtain rfl:q=0:=by simpa using uq
    have HA2:Hid (∀ m∈L.take (j+1),modW m):=lid (fun x hx=>by
     rw [take_next HAT.out] at hx
     rcases List.mem_append.1 hx with hx | hx
     ·exact HA.out x hx
     ·rw [List.mem_singleton.1 hx];exact HQ.out.1 rfl)
    clear uq
    go_wp2_with fail
    go_roundw
    case measure=>simp only [intOf];omega
    case rel=>exact ⟨j+1,by omega,by simp,HA2,HB4⟩
  ·obtain rfl:j=n:=by omega
   have HV:Hid P:=lid (by rw [← HP.out];have:=HA.out;rwa [List.take_of_length_le (Nat.le_of_eq HML.out.len)] at this)
   clear hjn
   go_wp2_with fail
   go_ret
   exact ⟨0,rfl,⟨fun _=>HV.out,fun _=>rfl⟩,HBR.out⟩
theorem checkList_any (ao:Option Addr) (n cap:Nat) (L:List Mw) (w:World) (h:MLA w ao n cap L):Calls Tryz.prog 16 #[.slice ao n cap] w fun r w'=>∃ q:Int,r=.returned (.int .i64 q)∧(q=0↔OrdM L∧∀ m∈L,modW m)∧Below w.heap.size w w':=by
 have HML:=lid h
 have hc63:cap≤9223372036854775807:=h.max
 have hnc:n≤cap:=h.le
 have CE:=lid (fun (W:World) (hb:Below w.heap.size w W)=>checkEach_any ao n cap L W (h.below hb))
 obtain ⟨P,hP⟩:∃ P,(OrdM L∧∀ m∈L,modW m)=P:=⟨_,rfl⟩
 rw [hP]
 have HP:=lid hP
 clear h hP
 go_enter Tryz.func16,Tryz.ntmps16
 go_wp2_with fail
 go_loopw [6] (fun u20 wr=>∃ j:Nat,j≤n∧u20=.int .i64 j∧Hid (OrdM (L.take j))∧Hid (Below w.heap.size w wr)) (fun u20 _=>n-(intOf u20).toNat)
 case atStart=>exact ⟨0,Nat.zero_le _,rfl,lid List.Pairwise.nil,lid (Below.refl _ _)⟩
 case round =>
  obtain ⟨j,hj,rfl,HA,HBR⟩:=hrel
  by_cases hjn:j<n
  ·obtain ⟨b,o,m,hao,hbz,hat,hmem,-,hcm⟩:=mla_at HML.out HBR.out hjn
   have HAT:=lid hat
   by_cases hj0:j=0
   ·subst hj0
    have HA2:Hid (OrdM (L.take (0+1))):=lid (by rw [take_next HAT.out];exact List.pairwise_singleton _ _)
    clear hao hbz hat hmem hcm
    go_wp2_with fail
    refine qd (fun w'=>∃ s:Since wr.heap.size wr,w'=s.world) [(0,true),(1,true),(2,true),(3,true),(4,true),(5,true),(6,true),(7,true),(8,true),(9,true),(10,true),(11,true),(12,true),(13,true),(14,true),(15,true)] ?_
    repeat (first | (refine qk ?_;simp only [Act.put,q1,q2,q3]) | (refine qf ?_;intro K hK;go_big_quiet_op;go_big_quiet_on))
    refine seq_nil ?_
    go_wp2_with fail
    go_roundw
    case measure=>simp only [intOf];omega
    case rel=>exact ⟨1,by omega,rfl,HA2,lid HBR.out.drew⟩
   ·obtain ⟨i,hj1⟩:∃ i,i+1=j:=⟨j-1,by omega⟩
    obtain ⟨b',o',m',hao',hbz',hat',hmem',-,hcm'⟩:=mla_at HML.out HBR.out (show i<n by omega)
    rw [hao] at hao'
    injection hao' with e9
    injection e9 with e91 e92
    subst e91 e92
    subst hao
    have y0:wr.cell? ⟨b,o+j*3,none⟩=some (.string m.label):=by have:=hcm 0 _ rfl (by omega);exact this
    have z0:wr.cell? ⟨b,o+i*3,none⟩=some (.string m'.label):=by have:=hcm' 0 _ rfl (by omega);exact this
    have hbz2:b<wr.heap.size:=Nat.lt_of_lt_of_le hbz HBR.out.size
    have e1:(j:Int)-1=(i:Int):=by omega
    have e2:decide ((0:Int)<(j:Int))=true:=by simp;omega
    have e3:decide (0<j)=true:=by simp;omega
    have hin:i<n:=by omega
    have HAT':=lid hat'
    have HII:=lid hj1
    clear hcm hcm' hat hat' hmem hmem' hj0 hj1
    cases hlt:ltL m'.label m.label with
    | true =>
     have HA2:Hid (OrdM (L.take (j+1))):=lid (by
      have h0:=take_next HAT'.out
      rw [HII.out] at h0
      rw [take_next HAT.out,h0]
      exact ord_snoc (by rw [← h0];exact HA.out) hlt)
     have d1:(Op.bytesLess m.label.toList m'.label.toList || m.label.toList == m'.label.toList)=false:=by rw [← less_total',ByteArray.toList_eq,ByteArray.toList_eq];show (!ltL _ _)=_;rw [hlt];rfl
     clear hlt
     go_wp2_with fail
     refine qd (fun w'=>∃ s:Since wr.heap.size wr,w'=s.world) [(0,true),(1,true),(2,true),(3,true),(4,true),(5,true),(6,true),(7,true),(8,true),(9,true),(10,true),(11,true),(12,true),(13,true),(14,true),(15,true)] ?_
     repeat (first | (refine qk ?_;simp only [Act.put,q1,q2,q3]) | (refine qf ?_;intro K hK;go_big_quiet_op;go_big_quiet_on))
     refine seq_nil ?_
     go_wp2_with fail
     go_roundw
     case measure=>simp only [intOf];omega
     case rel=>exact ⟨j+1,by omega,by simp,HA2,lid HBR.out.drew⟩
    | false =>
     have HV:Hid (¬ P):=lid (fun h=>by
      rw [← HP.out] at h
      obtain ⟨hl1,e1⟩:=List.getElem?_eq_some_iff.1 HAT.out
      obtain ⟨hl2,e2⟩:=List.getElem?_eq_some_iff.1 HAT'.out
      have:=List.pairwise_iff_getElem.1 h.1 i j hl2 hl1 (by have:=HII.out;omega)
      rw [e1,e2,hlt] at this
      cases this)
     have d1:(Op.bytesLess m.label.toList m'.label.toList || m.label.toList == m'.label.toList)=true:=by rw [← less_total',ByteArray.toList_eq,ByteArray.toList_eq];show (!ltL _ _)=_;rw [hlt];rfl
     clear hlt
     go_wp2_with fail
     refine qd (fun w'=>∃ s:Since wr.heap.size wr,w'=s.world) [(0,true),(1,true),(2,true),(3,true),(4,true),(5,true),(6,true),(7,true),(8,true),(9,true),(10,true),(11,true),(12,true),(13,true),(14,true),(15,true)] ?_
     repeat (first | (refine qk ?_;simp only [Act.put,q1,q2,q3]) | (refine qf ?_;intro K hK;go_big_quiet_op;go_big_quiet_on))
     refine seq_nil ?_
     go_wp2_with fail
     go_ret
     exact ⟨_,rfl,⟨fun h=>by simp at h,fun h=>absurd h HV.out⟩,HBR.out.drew⟩
  ·obtain rfl:j=n:=by omega
   have HV:Hid (OrdM L):=lid (by have:=HA.out;rwa [List.take_of_length_le (Nat.le_of_eq HML.out.len)] at this)
   clear hjn
   go_wp2_with fail
   (with_reducible refine (CE.out _ HBR.out).mono ?_);rintro e w4 ⟨q,rfl,hq,hb4⟩
   have HQ:Hid (q=0↔P):=lid (hq.trans (by rw [← HP.out];exact ⟨fun h=>⟨HV.out,h⟩,fun h=>h.2⟩))
   have HB4:=lid (HBR.out.trans (hb4.mono HBR.out.size))
   clear hq hb4
   go_wp2_with fail
   go_ret
   exact ⟨q,rfl,HQ.out,HB4.out⟩
end Go.Proofs.YtgcceepadlmelaaGreatDoor
namespace Go.Proofs.YtgcceepadlmelaaGreatDoor
set_option maxRecDepth 100000
set_option maxHeartbeats 8000000
open Go.RowKit
def useK (kind:Int) (lab u:ByteArray):Kw:=⟨kind,lab,u,none,[],0,none,[],0⟩
def useKs (kind:Int) (lab:ByteArray) (us os:List ByteArray):List Kw:=(us.filter fun u=>!inS os u).map (useK kind lab)
theorem useKs_len (kind:Int) (lab:ByteArray) (us os:List ByteArray):(useKs kind lab us os).length≤us.length:=by
 unfold useKs
 rw [List.length_map]
 exact List.length_filter_le _ _
theorem useKs_next (kind:Int) (lab:ByteArray) (us os:List ByteArray) {j:Nat} {u:ByteArray} (h:us[j]?=some u):useKs kind lab (us.take (j+1)) os=useKs kind lab (us.take j) os++(if inS os u=true then [] else [useK kind lab u]):=by
 rw [take_next h]
 unfold useKs
 rw [List.filter_append,List.map_append]
 congr 1
 by_cases e:inS os u=true
 ·rw [if_pos e]
  simp [e]
 ·rw [if_neg e]
  simp [e]
theorem useEdits_any (kind:Int) (lab:ByteArray) (ua oa:Option Addr) (n uc m oc:Nat) (us os:List ByteArray) (w:World) (hu:SA w ua n uc us) (ho:SA w oa m oc os) (hn:n≤1000) (hm:m≤1000) :
  Calls Tryz.prog 18 #[.int .i64 kind,.string lab,.slice ua n uc,.slice oa m oc] w fun r w'=>∃ v,r=.returned v∧w'.ownsRow w.heap.size 52 5 v (useKs kind lab us os).length (kcs (useKs kind lab us os))∧Below w.heap.size w w':=by
 have HU:=lid hu
 have CC:=lid (fun (s:ByteArray) (W:World) (hb:Below w.heap.size w W)=>ContainsS_any os m oc oa s W (by omega) ho.len (ho.sl.below hb))
 have hc63:uc≤9223372036854775807:=hu.max
 have hnc:n≤uc:=hu.le
 clear hu ho
 go_enter Tryz.func18,Tryz.ntmps18
 go_wp2_with fail
 go_loopw [9,14] (fun v9 u14 wr=>∃ (j k:Nat) (K:List Kw),j≤n∧u14=.int .i64 j∧k≤j∧Hid (K=useKs kind lab (us.take j) os∧K.length=k)∧Hid (wr.ownsRow w.heap.size 52 5 v9 k (kcs K))∧Hid (Below w.heap.size w wr)) (fun _ u14 _=>n-(intOf u14).toNat)
 case atStart=>exact ⟨0,0,[],Nat.zero_le _,rfl,Nat.le_refl _,lid ⟨by simp [useKs],rfl⟩,lid (World.ownsRow_nil _ _ _ _),lid (Below.refl _ _)⟩
 case round =>
  obtain ⟨j,k,K,hj,rfl,hkj,HK,HO,HB⟩:=hrel
  by_cases hjn:j<n
  ·have hjl:j<us.length:=by rw [HU.out.len];exact hjn
   obtain ⟨u,hx⟩:∃ u,us[j]=u:=⟨_,rfl⟩
   obtain ⟨b,o,rfl,hbz,hc⟩:=HU.out.sl.at_ (k:=j) hjn
   have ck:wr.cell? ⟨b,o+j,none⟩=some (.string u):=by rw [bc HB.out hbz _,← hx];have:=hc j _ (svals_at hjl);exact this
   have hbz2:b<wr.heap.size:=Nat.lt_of_lt_of_le hbz HB.out.size
   have HAT:Hid (us[j]?=some u):=lid (by rw [← hx];exact List.getElem?_eq_getElem hjl)
   have hwz:w.heap.size≤wr.heap.size:=HB.out.size
   clear hc hx hjl
   cases hin:inS os u with
   | true =>
    have HK2:Hid (K=useKs kind lab (us.take (j+1)) os∧K.length=k):=lid ⟨by rw [useKs_next kind lab us os HAT.out,if_pos hin,List.append_nil];exact HK.out.1,HK.out.2⟩
    go_wp2_with fail
    (with_reducible refine (CC.out u _ HB.out).mono ?_);rintro e w2 ⟨rfl,rfl⟩
    rw [hin]
    go_wp2_with fail
    go_roundw
    case measure=>simp only [intOf];omega
    case rel=>exact ⟨j+1,k,K,by omega,by simp,by omega,HK2,HO,HB⟩
   | false =>
    have HK2:Hid (K++[useK kind lab u]=useKs kind lab (us.take (j+1)) os∧(K++[useK kind lab u]).length=k+1):=lid ⟨by rw [useKs_next kind lab us os HAT.out,if_neg (by rw [hin];simp),HK.out.1],by rw [List.length_append,HK.out.2];rfl⟩
    go_wp2_with fail
    (with_reducible refine (CC.out u _ HB.out).mono ?_);rintro e w2 ⟨rfl,rfl⟩
    rw [hin]
    go_wp2_with (at_builtin;go_must (refine wpList_append_new (kca (useK kind lab u)) rfl _ _ 26 rfl w.heap.size 52 (.agg #[.int .i64 0,.string ⟨#[]⟩,.string ⟨#[]⟩,.slice none 0 0,.slice none 0 0]) 5 88 info_edit Tryz.underlying26 rfl (by decide) _ k _ HO.out rfl rfl rfl (by intro u hu;simp only [List.mem_cons,List.not_mem_nil,or_false] at hu;rcases hu with rfl | rfl | rfl | rfl | rfl <;> rfl) (by simp only [maxLen];omega) (by omega) hwz ?_))
    intro v3 w3 own3 hb3 _
    have HO3:Hid (w3.ownsRow w.heap.size 52 5 v3 (k+1) (kcs (K++[useK kind lab u]))):=lid (by rw [kcs_append];exact own3)
    have HB3:=lid (HB.out.trans hb3)
    clear own3 hb3
    try simp only [Act.put,q1,q2,q3]
    go_wp2_with fail
    go_roundw
    case measure=>simp only [intOf];omega
    case rel=>exact ⟨j+1,k+1,K++[useK kind lab u],by omega,by simp,by omega,HK2,HO3,HB3⟩
  ·obtain rfl:j=n:=by omega
   have HE:Hid (useKs kind lab us os=K∧K.length=k):=lid ⟨by rw [HK.out.1,List.take_of_length_le (Nat.le_of_eq HU.out.len)],HK.out.2⟩
   clear hjn
   go_wp2_with fail
   go_ret
   exact ⟨_,rfl,by rw [HE.out.1,HE.out.2];exact HO.out,HB.out⟩
end Go.Proofs.YtgcceepadlmelaaGreatDoor
