import Derived.Test.YtgcceepadlmelaaGreatDoorEdBindA
import Derived.ArgAppend
import Derived.Test.YtgcceepadlmelaaGreatDoorEdInsS
namespace Go.Proofs.YtgcceepadlmelaaGreatDoor
set_option maxRecDepth 100000
set_option maxHeartbeats 8000000
open Go.RowKit
def srcV (us:List ByteArray):Prop:=us.length≤20∧(∀ u∈us,labB u=true)∧AscU us
theorem asc_snoc {l:List ByteArray} {x y:ByteArray} (h:AscU (l++[x])) (hy:ltL x y=true):AscU (l++[x]++[y]):=by
 unfold AscU AscK at *
 rw [List.pairwise_append] at h ⊢
 rw [List.pairwise_append]
 refine ⟨⟨h.1,h.2.1,h.2.2⟩,List.pairwise_singleton _ _,fun a ha b hb=>?_⟩
 rw [List.mem_singleton.1 hb]
 rcases List.mem_append.1 ha with ha | ha
 ·exact ltL_k.tr (h.2.2 a ha x (List.mem_singleton.2 rfl)) hy
 ·rw [List.mem_singleton.1 ha]
  exact hy
theorem CheckSource_any (us:List ByteArray) (ao:Option Addr) (cap:Nat) (w:World) (h:SA w ao us.length cap us) :
  Calls Tryz.prog 81 #[.agg #[.slice ao us.length cap,.slice none 0 0]] w fun r w'=>∃ q:Int,r=.returned (.int .i64 q)∧(q=0↔srcV us)∧Below w.heap.size w w':=by
 obtain ⟨n,hn⟩:∃ n,us.length=n:=⟨_,rfl⟩
 obtain ⟨W1,hW1⟩:∃ y,w.alloc (.cells #[.slice ao n cap,.slice none 0 0] 120)=y:=⟨_,rfl⟩
 have hb1:Below w.heap.size w W1:=by rw [← hW1];exact ba _ _
 have hR1:W1.heap[w.heap.size]?=some (.cells #[.slice ao n cap,.slice none 0 0] 120 (0,0)):=by rw [← hW1];exact h_new rfl _
 rw [hn] at h
 have HH:=lid h
 have HN:=lid hn
 have HW1:=lid hW1
 have HB1:=lid hb1
 have HR1:=lid hR1
 have hcm:cap≤9223372036854775807:=h.max
 have hnc:n≤cap:=h.le
 have CL:=lid (fun (v:ByteArray) W (hv:v.size≤maxLen)=>Label_fn v W hv)
 rw [hn]
 clear h hn hW1 hb1 hR1
 by_cases h20:n≤20
 case neg =>
  have d:decide ((20:Int)<(n:Int))=true:=by simp;omega
  have HV:Hid (¬ srcV us):=lid (fun h=>h20 (by rw [← HN.out];exact h.1))
  clear h20
  go_enter Tryz.func81,Tryz.ntmps81
  go_wp2_with fail
  rw [HW1.out]
  go_ret
  exact ⟨_,rfl,⟨fun h=>by simp at h,fun h=>absurd h HV.out⟩,HB1.out⟩
 have d:decide ((20:Int)<(n:Int))=false:=by simp;omega
 have hmm:=@run_makeMap Tryz.prog
 go_enter Tryz.func81,Tryz.ntmps81
 go_wp2_with fail
 rw [HW1.out]
 go_loopw [16] (fun u16 wr=>∃ k:Nat,k≤n∧u16=.int .i64 k∧Hid (∀ u∈us.take k,labB u=true)∧Hid (AscU (us.take k))∧Hid (Below w.heap.size w wr)∧Hid (wr.heap[w.heap.size]?=some (.cells #[.slice ao n cap,.slice none 0 0] 120 (0,0)))) (fun u16 _=>n-(intOf u16).toNat)
 case atStart=>exact ⟨0,Nat.zero_le _,rfl,lid (fun _ h=>by simp at h),lid (by simp [AscK]),HB1,HR1⟩
 case round =>
  clear HB1 HR1 HW1
  obtain ⟨k,hk,rfl,HL,HA,HB,HR⟩:=hrel
  have r0:wr.cell? ⟨w.heap.size,0,none⟩=some (.slice ao n cap):=row_cell HR.out 0
  have r1:wr.cell? ⟨w.heap.size,1,none⟩=some (.slice none 0 0):=row_cell HR.out 1
  have lr:=row_lt HR.out
  by_cases hkn:k<n
  ·have hkl:k<us.length:=by have:=HN.out;omega
   obtain ⟨v,hv⟩:∃ v,us[k]=v:=⟨_,rfl⟩
   obtain ⟨b,o,rfl,hbz,hc⟩:=HH.out.sl.at_ (k:=k) hkn
   have ck:wr.cell? ⟨b,o+k,none⟩=some (.string v):=by rw [bc HB.out hbz _];exact hc k _ (by rw [svals_at hkl,hv])
   have hbz2:b<wr.heap.size:=Nat.lt_of_lt_of_le hbz HB.out.size
   have HMV:Hid (v.size≤maxLen):=lid (by rw [← hv];exact HH.out.sz _ (List.getElem_mem hkl))
   have HT:Hid (us.take (k+1)=us.take k++[v]):=lid (by rw [List.take_succ_eq_append_getElem hkl,hv])
   have HMEM:Hid (v∈us):=lid (by rw [← hv];exact List.getElem_mem hkl)
   have HKL:=lid hkl
   have HHV:=lid hv
   have HCC:Hid (∀ j (hj:j<us.length),w.cell? ⟨b,o+j,none⟩=some (.string us[j])):=lid (fun j hj=>hc j _ (svals_at hj))
   clear hc
   cases hlb:labB v with
   | false =>
    have HV:Hid (¬ srcV us):=lid (fun h=>by rw [h.2.1 v HMEM.out] at hlb;cases hlb)
    go_wp2_with fail
    (with_reducible refine (CL.out v _ HMV.out).mono ?_);rintro e w3 ⟨rfl,hb3⟩
    have HB3:=lid (HB.out.trans (hb3.mono HB.out.size))
    rw [hlb]
    clear hb3 ck r0 r1 lr
    go_wp2_with fail
    go_ret
    exact ⟨_,rfl,⟨fun h=>by simp at h,fun h=>absurd h HV.out⟩,HB3.out⟩
   | true =>
    have HLB:=lid hlb
    have HL2:Hid (∀ u∈us.take (k+1),labB u=true):=lid (fun u hu=>by
     rw [HT.out] at hu
     rcases List.mem_append.1 hu with hu | hu
     ·exact HL.out u hu
     ·rw [List.mem_singleton.1 hu];exact HLB.out)
    by_cases hk0:k=0
    ·subst hk0
     have HA2:Hid (AscU (us.take (0+1))):=lid (by rw [HT.out];simp [AscK])
     replace ck:wr.cell? ⟨b,o,none⟩=some (.string v):=ck
     go_wp2_with fail
     (with_reducible refine (CL.out v _ HMV.out).mono ?_);rintro e w3 ⟨rfl,hb3⟩
     have HB3:=lid (HB.out.trans (hb3.mono HB.out.size))
     have HR3:=lid ((hb3.block _ lr).trans HR.out)
     rw [hlb]
     clear hb3 ck r0 r1 lr
     go_wp2_with fail
     go_roundw
     case measure=>simp only [intOf];omega
     case rel=>exact ⟨1,by omega,rfl,HL2,HA2,HB3,HR3⟩
    ·obtain ⟨j,hj⟩:∃ j,j+1=k:=⟨k-1,by omega⟩
     have hjl:j<us.length:=by have:=HKL.out;omega
     obtain ⟨x,hx⟩:∃ x,us[j]=x:=⟨_,rfl⟩
     have HTJ:Hid (us.take k=us.take j++[x]):=lid (by rw [← hj,List.take_succ_eq_append_getElem hjl,hx])
     have HCX:Hid (w.cell? ⟨b,o+j,none⟩=some (.string x)):=lid (by rw [← hx];exact HCC.out j hjl)
     have HXV:Hid (srcV us→ltL x v=true):=lid (fun h=>by
      have:=List.pairwise_iff_getElem.1 h.2.2 j k hjl HKL.out (by omega)
      rw [hx,HHV.out] at this
      exact this)
     have e1:(k:Int)-1=(j:Int):=by omega
     have e2:decide ((0:Int)<(k:Int))=true:=by simp;omega
     have hjn:j<n:=by omega
     clear hx hjl hj hk0
     go_wp2_with fail
     (with_reducible refine (CL.out v _ HMV.out).mono ?_);rintro e w3 ⟨rfl,hb3⟩
     have HB3:=lid (HB.out.trans (hb3.mono HB.out.size))
     have HR3:=lid ((hb3.block _ lr).trans HR.out)
     rw [hlb]
     have s0:w3.cell? ⟨w.heap.size,0,none⟩=some (.slice (some ⟨b,o,none⟩) n cap):=row_cell HR3.out 0
     have ls:=row_lt HR3.out
     have cj:w3.cell? ⟨b,o+j,none⟩=some (.string x):=by rw [bc HB3.out hbz _];exact HCX.out
     have hbz3:b<w3.heap.size:=Nat.lt_of_lt_of_le hbz HB3.out.size
     clear hb3 ck r0 r1 lr
     cases hlt:Op.bytesLess x.toList v.toList with
     | true =>
      have HA2:Hid (AscU (us.take (k+1))):=lid (by
       rw [HT.out,HTJ.out]
       exact asc_snoc (by rw [← HTJ.out];exact HA.out) (by unfold ltL;rw [← ByteArray.toList_eq,← ByteArray.toList_eq];exact hlt))
      go_wp2_with fail
      go_roundw
      case measure=>simp only [intOf];omega
      case rel=>exact ⟨k+1,by omega,by simp,HL2,HA2,HB3,HR3⟩
     | false =>
      have HV:Hid (¬ srcV us):=lid (fun h=>by
       have:=HXV.out h
       unfold ltL at this
       rw [← ByteArray.toList_eq,← ByteArray.toList_eq,hlt] at this
       cases this)
      go_wp2_with fail
      go_ret
      exact ⟨_,rfl,⟨fun h=>by simp at h,fun h=>absurd h HV.out⟩,HB3.out⟩
  ·obtain rfl:k=n:=by omega
   have HE:Hid (us.take k=us):=lid (List.take_of_length_le (by rw [HN.out];exact Nat.le_refl _))
   have HV:Hid (srcV us):=lid ⟨by rw [HN.out];exact h20,by rw [← HE.out];exact HL.out,by rw [← HE.out];exact HA.out⟩
   obtain ⟨W5,hW5⟩:∃ y,wr.alloc (.map #[] 0)=y:=⟨_,rfl⟩
   have hb5:Below wr.heap.size wr W5:=by rw [← hW5];exact ba _ _
   have HB5:=lid (HB.out.trans (hb5.mono HB.out.size))
   have HR5:=lid ((hb5.block _ lr).trans HR.out)
   have c5:W5.cell? ⟨w.heap.size,1,none⟩=some (.slice none 0 0):=row_cell HR5.out 1
   have l5:=row_lt HR5.out
   clear hkn hb5
   go_wp2_with fail
   refine wp_loop_rounds 1 ?_
   rw [rounds_succ]
   go_wp2_with fail
   go_ret
   exact ⟨_,rfl,⟨fun _=>HV.out,fun _=>rfl⟩,HB5.out⟩
end Go.Proofs.YtgcceepadlmelaaGreatDoor
namespace Go.Proofs.YtgcceepadlmelaaGreatDoor
set_option maxRecDepth 100000
set_option maxHeartbeats 8000000
open Go.RowKit
theorem zero_str:∀ w,(zeroValue 9).run Tryz.prog w=.ok (.string ⟨#[]⟩) w:=Tryz.zeroValue9
theorem Delete_str (l:List ByteArray) (v:Value) (n i:Nat) (base:Nat) (w:World) (hn:l.length=n) (hm:n≤1000000) (hs:w.ownsRow base 9 1 v n (scs l)) (hi:i<n) :
  Calls Tryz.prog 47 #[v,.int .i64 i,.int .i64 ((i:Int)+1)] w fun e w'=>∃ v',e=.returned v'∧w'.ownsRow base 9 1 v' (n-1) (scs (l.take i++l.drop (i+1)))∧Below base w w'∧Else w w' v∧v'.ownBlock=v.ownBlock:=by
 rcases hs.2 with ⟨hv,h0⟩ | ⟨g,cap,cur,rfl,hg,hcur,hncap,hmax,hsz,htk⟩
 ·omega
 have hmx:cap≤9223372036854775807:=hmax
 have hAl:(scs l).length=n*1:=by rw [scs_length,hn]
 have hcl:cap*1=cur.size:=hsz.symm
 have hnc:n*1≤cap*1:=Nat.mul_le_mul_right _ hncap
 have hin:(i+1)*1≤n*1:=Nat.mul_le_mul_right _ hi
 obtain ⟨m,hm1⟩:∃ m,n=i+1+m:=⟨n-(i+1),by omega⟩
 have hdl:((scs l).drop ((i+1)*1)).length=m*1:=by rw [List.length_drop,hAl,hm1];omega
 have hd2:(scs l).drop ((i+1)*1)=scs (l.drop (i+1)):=by unfold scs;rw [flat_drop sce_length]
 have ht2:(scs l).take (i*1)=scs (l.take i):=by unfold scs;rw [flat_take sce_length]
 have hres:(scs l).take (i*1)++(scs l).drop ((i+1)*1)=scs (l.take i++l.drop (i+1)):=by rw [hd2,ht2];simp [scs]
 have hc:∀ j u,(scs l)[j]?=some u→w.cell? ⟨g,0+j,none⟩=some u:=fun j u hu=>by
  rw [Nat.zero_add,row_cell hcur]
  have:=congrArg (fun z=>z[j]?) htk
  simp only [List.getElem?_take] at this
  rw [hu] at this
  split at this
  ·simpa using this
  ·cases this
 obtain ⟨cur1,h1⟩:∃ y,layAt cur (i*1) ((scs l).drop ((i+1)*1))=y:=⟨_,rfl⟩
 obtain ⟨W1,hW1⟩:∃ y,w.drew.setCells g (i*1) ((scs l).drop ((i+1)*1))=y:=⟨_,rfl⟩
 have hr1:W1.heap[g]?=some (.cells cur1 9 (0,0)):=by rw [← hW1,← h1];exact row_setCells _ _ w.drew cur hcur
 have hs1:cur1.size=cap*1:=by rw [← h1,layAt_size,hsz]
 have hb1:Below base w W1:=by rw [← hW1];exact below_cells hg _ _ _ (Below.refl _ _).drew
 obtain ⟨i0,hi0,hz0,hzs,hzb⟩:=info_parts info_str
 have hroom:i+m≤cap:=by omega
 have hap:∀ ty c2,(Builtin.append_ #[42,42] ty #[.slice (some ⟨g,0,none⟩) i cap,.slice (some ⟨g,(i+1)*1,none⟩) (n-(i+1)) c2]).run Tryz.prog w.drew=.ok (.slice (some ⟨g,0,none⟩) (n-1) cap) W1:=fun ty c2=>by
  have h:=run_append_room_cells (P:=Tryz.prog) w.drew 42 ty 9 i0 Tryz.underlying42 hi0 g 0 i cap ⟨g,(i+1)*1,none⟩ m c2 ((scs l).drop ((i+1)*1)) (by rw [hdl,hzs])
   (fun j u hu=>by
    rw [Addr.add_lit]
    rw [List.getElem?_drop] at hu
    have:=hc _ u hu
    rwa [Nat.zero_add] at this) (fun u hu=>scs_one l u (List.mem_of_mem_drop hu)) hroom
   (fun j hj=>by
    rw [hdl] at hj
    rw [hzs,Nat.zero_add]
    show ((w.drew).cell? _).isSome=true
    rw [row_cell (w:=w.drew) hcur,Array.getElem?_eq_getElem (by rw [hsz];omega)]
    rfl)
   (fun j hj=>row_fz (w:=w.drew) hcur _)
  rw [hzs,Nat.zero_add,hW1] at h
  rw [show n-(i+1)=m by omega,show n-1=i+m by omega]
  exact h
 have HAP0:Hid (∀ ty c2,m=0→(Builtin.append_ #[42,42] ty #[.slice (some ⟨g,0,none⟩) i cap,.slice (some ⟨g,0,none⟩) 0 c2]).run Tryz.prog w.drew=.ok (.slice (some ⟨g,0,none⟩) (n-1) cap) W1):=lid (fun ty c2 hm0=>by
  subst hm0
  have h:=run_append_room_cells (P:=Tryz.prog) w.drew 42 ty 9 i0 Tryz.underlying42 hi0 g 0 i cap ⟨g,0,none⟩ 0 c2 [] (by simp) (fun j u hu=>by simp at hu) (fun u hu=>by cases hu) hroom (fun j hj=>by cases hj) (fun j hj=>by cases hj)
  have h0:(scs l).drop ((i+1)*1)=[]:=List.eq_nil_of_length_eq_zero (by rw [hdl,Nat.zero_mul])
  rw [h0] at hW1
  rw [show n-1=i+0 by omega,← hW1]
  exact h)
 have hcl2:∀ (W:World),W.heap=W1.heap→∀ ty c,(Builtin.clear_ #[42] ty #[.slice (some ⟨g,(n-1)*1,none⟩) (n-(n-1)) c]).run Tryz.prog W=.ok (.tuple #[]) (W.setCells g ((n-1)*1) (Builtin.zeroCells (Value.cells (.string ⟨#[]⟩)) 1).toList):=fun W hW ty c=>by
  have h:=run_clear_cells (P:=Tryz.prog) W 42 9 ty _ Tryz.underlying42 zero_str (by intro k hk;have:k<1:=hk;match k,this with | 0,_=>rfl) g ((n-1)*1) 1 c (by omega)
   (fun t ht=>by rw [row_cell (by rw [hW];exact hr1),Array.getElem?_eq_getElem (show (n-1)*1+t<cur1.size by rw [hs1];have:t<1*1:=ht;omega)];rfl) (fun t _=>row_fz (by rw [hW];exact hr1) _)
  rw [show n-(n-1)=1 by omega]
  exact h
 have HEL:∀ (W:World),W.heap=W1.heap→∀ us,Else w (W.setCells g ((n-1)*1) us) (.slice (some ⟨g,0,none⟩) n cap):=fun W hW us k hk hkg=>by
  have hkg':k≠g:=fun e=>hkg (by rw [e];rfl)
  rw [setCells_other hkg' _ _ _,hW,← hW1,setCells_other hkg' _ _ _]
  rfl
 have HF:Hid ((layAt cur1 ((n-1)*1) (Builtin.zeroCells (Value.cells (.string ⟨#[]⟩)) 1).toList).toList.take ((n-1)*1)=scs (l.take i++l.drop (i+1))):=lid (by
  have hzl:(Builtin.zeroCells (Value.cells (.string ⟨#[]⟩)) 1).toList.length=1*1:=zeroCells_length _ _
  rw [layAt_take (by rw [hs1,hzl];omega),← hres,← h1]
  have h9:(n-1)*1=i*1+((scs l).drop ((i+1)*1)).length:=by rw [hdl,hm1];omega
  rw [h9,layAt_more (by rw [hdl];omega)]
  congr 1
  have:=congrArg (List.take (i*1)) htk
  rw [List.take_take,Nat.min_eq_left (by omega)] at this
  exact this)
 have HR2:∀ (W:World),W.heap=W1.heap→∀ us,(W.setCells g ((n-1)*1) us).heap[g]?=some (.cells (layAt cur1 ((n-1)*1) us) 9 (0,0)):=fun W hW us=>row_setCells us _ W _ (by rw [hW];exact hr1)
 have HS1:=lid hs1
 have HLEN:Hid ((scs (l.take i++l.drop (i+1))).length=(n-1)*1):=lid (by rw [scs_length];simp;omega)
 have e1:((i:Int) == (i:Int)+1)=false:=beq_eq_false_iff_ne.2 (by omega)
 have hwrap:IntKind.i64.wrap ((i:Int)+1)=(i:Int)+1:=by rw [IntKind.wrap_i64];omega
 have HAP:=lid hap
 have HCL:=lid hcl2
 have HB1:=lid hb1
 have HRR:=lid HR2
 have HEE:=lid HEL
 have hgl:=row_lt hcur
 have hn1:¬ (n=i):=by omega
 clear hap hcl2 hb1 hs1 HR2 HEL hr1 h1 hW1 htk hsz hcur hs hn hAl hdl hd2 ht2 hres hc hi0 hz0 hzs hzb hcl hroom
 rcases Decidable.em (cap=i+1) with hce | hce
 ·have HAP1:=lid (fun ty=>HAP0.out ty 0 (by omega))
  clear HAP0 HAP
  obtain rfl:n=i+1:=by omega
  subst hce
  clear hm1 hnc hin hncap hi hn1
  rw [Nat.add_sub_cancel] at HAP1 HF HLEN
  simp only [Nat.add_sub_cancel] at HCL HRR HEE
  have hq1:i+1-i=1:=by omega
  simp only [hq1] at HCL
  clear hq1
  simp only [Nat.mul_one] at HAP1 HCL HRR HEE HF HS1 HLEN
  go_enter Tryz.func47,Tryz.ntmps47
  go_wp2_with fail
  refine qd (fun w'=>∃ s:Since base w,w'=s.world) [(0,true),(1,true),(2,true),(3,true),(4,true),(5,true),(6,false),(7,false)] ?_
  repeat (first | (refine qk ?_;simp only [Act.put,q1,q2,q3]) | (refine qf ?_;intro K hK;go_big_quiet_op;go_big_quiet_on))
  refine qc ?_
  intro K hK
  refine Lib.wpList_append_run _ rfl _ _ _ _ rfl (.slice (some ⟨g,0,none⟩) i (i+1)) (.slice (some ⟨g,0,none⟩) 0 0) (by simp [Act.eval]) (by simp [Act.eval]) _ _ (HAP1.out _) ?_
  go_wp2_with fail
  refine hK.out _ _ (since HB1.out) ?_
  clear hK K
  refine qc ?_
  intro K hK
  go_wp2_with fail
  refine hK.out _ _ (since HB1.out) ?_
  clear hK K
  repeat (first | (refine qk ?_;simp only [Act.put,q1,q2,q3]) | (refine qf ?_;intro K hK;go_big_quiet_op;go_big_quiet_on))
  refine seq_nil ?_
  have hcl:=HCL.out W1 rfl
  go_wp2_with fail
  go_ret
  exact ⟨_,rfl,⟨by simpa using HLEN.out,.inr ⟨g,i+1,_,rfl,hg,HRR.out W1 rfl _,by omega,hmax,by rw [layAt_size];simpa using HS1.out,by rw [Nat.mul_one];exact HF.out⟩⟩,below_cells hg _ _ _ HB1.out,HEE.out W1 rfl _,rfl⟩
 ·have hci:¬ (i+1=cap):=fun e=>hce e.symm
  clear hm1 hnc hin
  simp only [Nat.mul_one] at HAP HCL HRR HEE HF HS1 HLEN
  go_enter Tryz.func47,Tryz.ntmps47
  go_wp2_with fail
  refine qd (fun w'=>∃ s:Since base w,w'=s.world) [(0,true),(1,true),(2,true),(3,true),(4,true),(5,true),(6,false),(7,false)] ?_
  repeat (first | (refine qk ?_;simp only [Act.put,q1,q2,q3]) | (refine qf ?_;intro K hK;go_big_quiet_op;go_big_quiet_on))
  refine qc ?_
  intro K hK
  refine Lib.wpList_append_run _ rfl _ _ _ _ rfl (.slice (some ⟨g,0,none⟩) i cap) (.slice (some ⟨g,(i+1),none⟩) (n-(i+1)) (cap-(i+1))) (by simp [Act.eval]) (by simp [Act.eval]) _ _ (HAP.out _ _) ?_
  go_wp2_with fail
  refine hK.out _ _ (since HB1.out) ?_
  clear hK K
  refine qc ?_
  intro K hK
  go_wp2_with fail
  refine hK.out _ _ (since HB1.out) ?_
  clear hK K
  repeat (first | (refine qk ?_;simp only [Act.put,q1,q2,q3]) | (refine qf ?_;intro K hK;go_big_quiet_op;go_big_quiet_on))
  refine seq_nil ?_
  have hcl:=HCL.out W1 rfl
  go_wp2_with fail
  go_ret
  exact ⟨_,rfl,⟨by simpa using HLEN.out,.inr ⟨g,cap,_,rfl,hg,HRR.out W1 rfl _,by omega,hmax,by rw [layAt_size];simpa using HS1.out,by rw [Nat.mul_one];exact HF.out⟩⟩,below_cells hg _ _ _ HB1.out,HEE.out W1 rfl _,rfl⟩
end Go.Proofs.YtgcceepadlmelaaGreatDoor
namespace Go.Proofs.YtgcceepadlmelaaGreatDoor
set_option maxRecDepth 100000
set_option maxHeartbeats 8000000
open Go.RowKit
theorem zero_dec:∀ w,(zeroValue 65).run Tryz.prog w=.ok (.agg #[.int .i64 0,.int .i64 0,.bool false,.slice none 0 0,.bool false,.int .i64 0,.string ⟨#[]⟩,.string ⟨#[]⟩,.int .i64 0,.int .i64 0,.slice none 0 0]) w:=Tryz.zeroValue65
theorem Delete_dec (l:List Dw) (v:Value) (n i:Nat) (base:Nat) (w:World) (hn:l.length=n) (hm:n≤1000000) (hs:w.ownsRow base 65 11 v n (dcs l)) (hi:i<n) :
  Calls Tryz.prog 78 #[v,.int .i64 i,.int .i64 ((i:Int)+1)] w fun e w'=>∃ v',e=.returned v'∧w'.ownsRow base 65 11 v' (n-1) (dcs (l.take i++l.drop (i+1)))∧Below base w w'∧Else w w' v∧v'.ownBlock=v.ownBlock:=by
 rcases hs.2 with ⟨hv,h0⟩ | ⟨g,cap,cur,rfl,hg,hcur,hncap,hmax,hsz,htk⟩
 ·omega
 have hmx:cap≤9223372036854775807:=hmax
 have hAl:(dcs l).length=n*11:=by rw [dcs_length,hn]
 have hcl:cap*11=cur.size:=hsz.symm
 have hnc:n*11≤cap*11:=Nat.mul_le_mul_right _ hncap
 have hin:(i+1)*11≤n*11:=Nat.mul_le_mul_right _ hi
 obtain ⟨m,hm1⟩:∃ m,n=i+1+m:=⟨n-(i+1),by omega⟩
 have hdl:((dcs l).drop ((i+1)*11)).length=m*11:=by rw [List.length_drop,hAl,hm1];omega
 have hd2:(dcs l).drop ((i+1)*11)=dcs (l.drop (i+1)):=by unfold dcs;rw [flat_drop dce_length]
 have ht2:(dcs l).take (i*11)=dcs (l.take i):=by unfold dcs;rw [flat_take dce_length]
 have hres:(dcs l).take (i*11)++(dcs l).drop ((i+1)*11)=dcs (l.take i++l.drop (i+1)):=by rw [hd2,ht2];simp [dcs]
 have hc:∀ j u,(dcs l)[j]?=some u→w.cell? ⟨g,0+j,none⟩=some u:=fun j u hu=>by
  rw [Nat.zero_add,row_cell hcur]
  have:=congrArg (fun z=>z[j]?) htk
  simp only [List.getElem?_take] at this
  rw [hu] at this
  split at this
  ·simpa using this
  ·cases this
 obtain ⟨cur1,h1⟩:∃ y,layAt cur (i*11) ((dcs l).drop ((i+1)*11))=y:=⟨_,rfl⟩
 obtain ⟨W1,hW1⟩:∃ y,w.drew.setCells g (i*11) ((dcs l).drop ((i+1)*11))=y:=⟨_,rfl⟩
 have hr1:W1.heap[g]?=some (.cells cur1 65 (0,0)):=by rw [← hW1,← h1];exact row_setCells _ _ w.drew cur hcur
 have hs1:cur1.size=cap*11:=by rw [← h1,layAt_size,hsz]
 have hb1:Below base w W1:=by rw [← hW1];exact below_cells hg _ _ _ (Below.refl _ _).drew
 obtain ⟨i0,hi0,hz0,hzs,hzb⟩:=info_parts info_decl
 have hroom:i+m≤cap:=by omega
 have hap:∀ ty c2,(Builtin.append_ #[43,43] ty #[.slice (some ⟨g,0,none⟩) i cap,.slice (some ⟨g,(i+1)*11,none⟩) (n-(i+1)) c2]).run Tryz.prog w.drew=.ok (.slice (some ⟨g,0,none⟩) (n-1) cap) W1:=fun ty c2=>by
  have h:=run_append_room_cells (P:=Tryz.prog) w.drew 43 ty 65 i0 Tryz.underlying43 hi0 g 0 i cap ⟨g,(i+1)*11,none⟩ m c2 ((dcs l).drop ((i+1)*11)) (by rw [hdl,hzs])
   (fun j u hu=>by
    rw [Addr.add_lit]
    rw [List.getElem?_drop] at hu
    have:=hc _ u hu
    rwa [Nat.zero_add] at this) (fun u hu=>dcs_one l u (List.mem_of_mem_drop hu)) hroom
   (fun j hj=>by
    rw [hdl] at hj
    rw [hzs,Nat.zero_add]
    show ((w.drew).cell? _).isSome=true
    rw [row_cell (w:=w.drew) hcur,Array.getElem?_eq_getElem (by rw [hsz];omega)]
    rfl)
   (fun j hj=>row_fz (w:=w.drew) hcur _)
  rw [hzs,Nat.zero_add,hW1] at h
  rw [show n-(i+1)=m by omega,show n-1=i+m by omega]
  exact h
 have HAP0:Hid (∀ ty c2,m=0→(Builtin.append_ #[43,43] ty #[.slice (some ⟨g,0,none⟩) i cap,.slice (some ⟨g,0,none⟩) 0 c2]).run Tryz.prog w.drew=.ok (.slice (some ⟨g,0,none⟩) (n-1) cap) W1):=lid (fun ty c2 hm0=>by
  subst hm0
  have h:=run_append_room_cells (P:=Tryz.prog) w.drew 43 ty 65 i0 Tryz.underlying43 hi0 g 0 i cap ⟨g,0,none⟩ 0 c2 [] (by simp) (fun j u hu=>by simp at hu) (fun u hu=>by cases hu) hroom (fun j hj=>by cases hj) (fun j hj=>by cases hj)
  have h0:(dcs l).drop ((i+1)*11)=[]:=List.eq_nil_of_length_eq_zero (by rw [hdl,Nat.zero_mul])
  rw [h0] at hW1
  rw [show n-1=i+0 by omega,← hW1]
  exact h)
 have hcl2:∀ (W:World),W.heap=W1.heap→∀ ty c,(Builtin.clear_ #[43] ty #[.slice (some ⟨g,(n-1)*11,none⟩) (n-(n-1)) c]).run Tryz.prog W=.ok (.tuple #[]) (W.setCells g ((n-1)*11) (Builtin.zeroCells (Value.cells (.agg #[.int .i64 0,.int .i64 0,.bool false,.slice none 0 0,.bool false,.int .i64 0,.string ⟨#[]⟩,.string ⟨#[]⟩,.int .i64 0,.int .i64 0,.slice none 0 0])) 1).toList):=fun W hW ty c=>by
  have h:=run_clear_cells (P:=Tryz.prog) W 43 65 ty _ Tryz.underlying43 zero_dec (by intro k hk;have:k<11:=hk;match k,this with | 0,_=>rfl | 1,_=>rfl | 2,_=>rfl | 3,_=>rfl | 4,_=>rfl | 5,_=>rfl | 6,_=>rfl | 7,_=>rfl | 8,_=>rfl | 9,_=>rfl | 10,_=>rfl) g ((n-1)*11) 1 c (by omega)
   (fun t ht=>by rw [row_cell (by rw [hW];exact hr1),Array.getElem?_eq_getElem (show (n-1)*11+t<cur1.size by rw [hs1];have:t<1*11:=ht;omega)];rfl) (fun t _=>row_fz (by rw [hW];exact hr1) _)
  rw [show n-(n-1)=1 by omega]
  exact h
 have HEL:∀ (W:World),W.heap=W1.heap→∀ us,Else w (W.setCells g ((n-1)*11) us) (.slice (some ⟨g,0,none⟩) n cap):=fun W hW us k hk hkg=>by
  have hkg':k≠g:=fun e=>hkg (by rw [e];rfl)
  rw [setCells_other hkg' _ _ _,hW,← hW1,setCells_other hkg' _ _ _]
  rfl
 have HF:Hid ((layAt cur1 ((n-1)*11) (Builtin.zeroCells (Value.cells (.agg #[.int .i64 0,.int .i64 0,.bool false,.slice none 0 0,.bool false,.int .i64 0,.string ⟨#[]⟩,.string ⟨#[]⟩,.int .i64 0,.int .i64 0,.slice none 0 0])) 1).toList).toList.take ((n-1)*11)=dcs (l.take i++l.drop (i+1))):=lid (by
  have hzl:(Builtin.zeroCells (Value.cells (.agg #[.int .i64 0,.int .i64 0,.bool false,.slice none 0 0,.bool false,.int .i64 0,.string ⟨#[]⟩,.string ⟨#[]⟩,.int .i64 0,.int .i64 0,.slice none 0 0])) 1).toList.length=1*11:=zeroCells_length _ _
  rw [layAt_take (by rw [hs1,hzl];omega),← hres,← h1]
  have h9:(n-1)*11=i*11+((dcs l).drop ((i+1)*11)).length:=by rw [hdl,hm1];omega
  rw [h9,layAt_more (by rw [hdl];omega)]
  congr 1
  have:=congrArg (List.take (i*11)) htk
  rw [List.take_take,Nat.min_eq_left (by omega)] at this
  exact this)
 have HR2:∀ (W:World),W.heap=W1.heap→∀ us,(W.setCells g ((n-1)*11) us).heap[g]?=some (.cells (layAt cur1 ((n-1)*11) us) 65 (0,0)):=fun W hW us=>row_setCells us _ W _ (by rw [hW];exact hr1)
 have HS1:=lid hs1
 have HLEN:Hid ((dcs (l.take i++l.drop (i+1))).length=(n-1)*11):=lid (by rw [dcs_length];simp;omega)
 have e1:((i:Int) == (i:Int)+1)=false:=beq_eq_false_iff_ne.2 (by omega)
 have hwrap:IntKind.i64.wrap ((i:Int)+1)=(i:Int)+1:=by rw [IntKind.wrap_i64];omega
 have HAP:=lid hap
 have HCL:=lid hcl2
 have HB1:=lid hb1
 have HRR:=lid HR2
 have HEE:=lid HEL
 have hgl:=row_lt hcur
 have hn1:¬ (n=i):=by omega
 clear hap hcl2 hb1 hs1 HR2 HEL hr1 h1 hW1 htk hsz hcur hs hn hAl hdl hd2 ht2 hres hc hi0 hz0 hzs hzb hcl hroom
 rcases Decidable.em (cap=i+1) with hce | hce
 ·have HAP1:=lid (fun ty=>HAP0.out ty 0 (by omega))
  clear HAP0 HAP
  obtain rfl:n=i+1:=by omega
  subst hce
  clear hm1 hnc hin hncap hi hn1
  rw [Nat.add_sub_cancel] at HAP1 HF HLEN
  simp only [Nat.add_sub_cancel] at HCL HRR HEE
  have hq1:i+1-i=1:=by omega
  simp only [hq1] at HCL
  clear hq1
  go_enter Tryz.func78,Tryz.ntmps78
  go_wp2_with fail
  refine qd (fun w'=>∃ s:Since base w,w'=s.world) [(0,true),(1,true),(2,true),(3,true),(4,true),(5,true),(6,false),(7,false)] ?_
  repeat (first | (refine qk ?_;simp only [Act.put,q1,q2,q3]) | (refine qf ?_;intro K hK;go_big_quiet_op;go_big_quiet_on))
  refine qc ?_
  intro K hK
  refine Lib.wpList_append_run _ rfl _ _ _ _ rfl (.slice (some ⟨g,0,none⟩) i (i+1)) (.slice (some ⟨g,0,none⟩) 0 0) (by simp [Act.eval]) (by simp [Act.eval]) _ _ (HAP1.out _) ?_
  go_wp2_with fail
  refine hK.out _ _ (since HB1.out) ?_
  clear hK K
  refine qc ?_
  intro K hK
  go_wp2_with fail
  refine hK.out _ _ (since HB1.out) ?_
  clear hK K
  repeat (first | (refine qk ?_;simp only [Act.put,q1,q2,q3]) | (refine qf ?_;intro K hK;go_big_quiet_op;go_big_quiet_on))
  refine seq_nil ?_
  have hcl:=HCL.out W1 rfl
  go_wp2_with fail
  go_ret
  exact ⟨_,rfl,⟨HLEN.out,.inr ⟨g,i+1,_,rfl,hg,HRR.out W1 rfl _,by omega,hmax,by rw [layAt_size];exact HS1.out,HF.out⟩⟩,below_cells hg _ _ _ HB1.out,HEE.out W1 rfl _,rfl⟩
 ·have hci:¬ (i+1=cap):=fun e=>hce e.symm
  clear hm1 hnc hin
  go_enter Tryz.func78,Tryz.ntmps78
  go_wp2_with fail
  refine qd (fun w'=>∃ s:Since base w,w'=s.world) [(0,true),(1,true),(2,true),(3,true),(4,true),(5,true),(6,false),(7,false)] ?_
  repeat (first | (refine qk ?_;simp only [Act.put,q1,q2,q3]) | (refine qf ?_;intro K hK;go_big_quiet_op;go_big_quiet_on))
  refine qc ?_
  intro K hK
  refine Lib.wpList_append_run _ rfl _ _ _ _ rfl (.slice (some ⟨g,0,none⟩) i cap) (.slice (some ⟨g,(i+1)*11,none⟩) (n-(i+1)) (cap-(i+1))) (by simp [Act.eval]) (by simp [Act.eval]) _ _ (HAP.out _ _) ?_
  go_wp2_with fail
  refine hK.out _ _ (since HB1.out) ?_
  clear hK K
  refine qc ?_
  intro K hK
  go_wp2_with fail
  refine hK.out _ _ (since HB1.out) ?_
  clear hK K
  repeat (first | (refine qk ?_;simp only [Act.put,q1,q2,q3]) | (refine qf ?_;intro K hK;go_big_quiet_op;go_big_quiet_on))
  refine seq_nil ?_
  have hcl:=HCL.out W1 rfl
  go_wp2_with fail
  go_ret
  exact ⟨_,rfl,⟨HLEN.out,.inr ⟨g,cap,_,rfl,hg,HRR.out W1 rfl _,by omega,hmax,by rw [layAt_size];exact HS1.out,HF.out⟩⟩,below_cells hg _ _ _ HB1.out,HEE.out W1 rfl _,rfl⟩
end Go.Proofs.YtgcceepadlmelaaGreatDoor
