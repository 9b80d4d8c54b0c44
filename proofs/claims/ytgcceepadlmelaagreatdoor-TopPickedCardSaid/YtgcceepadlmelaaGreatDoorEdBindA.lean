import Derived.Test.YtgcceepadlmelaaGreatDoorEdChk
namespace Go.Proofs.YtgcceepadlmelaaGreatDoor
set_option maxRecDepth 100000
set_option maxHeartbeats 4000000
open Go.RowKit
def lastF (s:ByteArray) (c:UInt8):Nat→Int
 | 0=>-1
 | k+1=>if (if h:k<s.size then (((s[k]'h).toNat:Int) == (c.toNat:Int)) else false)=true then k else lastF s c k
theorem lastF_le (s:ByteArray) (c:UInt8):∀ k,-1≤lastF s c k∧lastF s c k+1≤k
 | 0=>by simp [lastF]
 | k+1=>by
  have:=lastF_le s c k
  unfold lastF
  split <;> omega
theorem LastIndexByteString_fn (s:ByteArray) (c:UInt8) (w:World) (hs:s.size≤maxLen):Calls Tryz.prog 129 #[.string s,.int .u8 c.toNat] w fun e w'=>e=.returned (.int .i64 (lastF s c s.size))∧w'=w:=by
 have hs63:s.size≤9223372036854775807:=hs
 obtain ⟨n,hn⟩:∃ n,s.size=n:=⟨_,rfl⟩
 have HN:=lid hn
 rw [hn] at hs63
 rw [hn]
 go_enter Tryz.func129,Tryz.ntmps129
 go_wp2_with fail
 go_loopw [5] (fun u5 wr=>∃ k:Nat,k≤n∧u5=.int .i64 ((k:Int)-1)∧Hid (lastF s c n=lastF s c k)∧wr=w) (fun u5 _=>(intOf u5+1).toNat)
 case atStart=>exact ⟨n,Nat.le_refl _,rfl,lid rfl,rfl⟩
 case round =>
  obtain ⟨k,hk,rfl,HL,rfl⟩:=hrel
  cases k with
  | zero =>
   have d:decide ((0:Int)≤((0:Nat):Int)-1)=false:=by simp
   go_wp2_with fail
   go_ret
   exact ⟨reti (by rw [HL.out];rfl),rfl⟩
  | succ k =>
   have d:decide ((0:Int)≤((k+1:Nat):Int)-1)=true:=by simp
   have e1:((k+1:Nat):Int)-1=(k:Int):=by omega
   rw [e1]
   have hkn:k<n:=by omega
   have hks:k<s.size:=by omega
   cases hq:(((s[k]'hks).toNat:Int) == (c.toNat:Int)) with
   | true =>
    have HV:Hid (lastF s c (k+1)=k):=lid (by unfold lastF;rw [dif_pos hks,hq];rfl)
    go_wp2_with fail
    go_ret
    exact ⟨reti (by rw [HL.out,HV.out]),rfl⟩
   | false =>
    have HV:Hid (lastF s c (k+1)=lastF s c k):=lid (by
     unfold lastF
     rw [dif_pos hks,hq]
     exact (if_neg (by simp)).trans (by cases k <;> rfl))
    go_wp2_with fail
    go_roundw
    case measure=>simp only [intOf];omega
    case rel=>exact ⟨k,by omega,rfl,lid (by rw [HL.out,HV.out]),trivial⟩
theorem LastIndexByte_fn (s:ByteArray) (c:UInt8) (w:World) (hs:s.size≤maxLen):Calls Tryz.prog 116 #[.string s,.int .u8 c.toNat] w fun e w'=>e=.returned (.int .i64 (lastF s c s.size))∧w'=w:=by
 have C:=lid (LastIndexByteString_fn s c w hs)
 go_enter Tryz.func116,Tryz.ntmps116
 go_wp2_with fail
 (with_reducible refine (C.out).mono ?_);rintro e w1 ⟨rfl,rfl⟩
 go_wp2_with fail
 go_ret
 exact ⟨rfl,rfl⟩
def alW (s:ByteArray):ByteArray:=if labB s=true then s.extract (lastF s 47 s.size+1).toNat s.size else ⟨#[]⟩
theorem alW_size (s:ByteArray):(alW s).size≤s.size:=by
 unfold alW
 split
 ·simp [ByteArray.size_extract]
 ·exact Nat.zero_le _
theorem Alias_fn (s:ByteArray) (w:World) (hs:s.size≤maxLen):Calls Tryz.prog 99 #[.string s] w fun e w'=>e=.returned (.string (alW s))∧Below w.heap.size w w':=by
 have hs63:s.size≤9223372036854775807:=hs
 have CL:=lid (Label_fn s w hs)
 have CI:Hid (∀ W,Calls Tryz.prog 116 #[.string s,.int .u8 47] W fun e w'=>e=.returned (.int .i64 (lastF s 47 s.size))∧w'=W):=lid (fun W=>LastIndexByte_fn s 47 W hs)
 clear hs
 go_enter Tryz.func99,Tryz.ntmps99
 go_wp2_with fail
 (with_reducible refine (CL.out).mono ?_);rintro e w1 ⟨rfl,hb1⟩
 cases hl:labB s with
 | false =>
  have HV:Hid (alW s=⟨#[]⟩):=lid (by unfold alW;rw [hl];rfl)
  go_wp2_with fail
  go_ret
  exact ⟨by rw [HV.out];rfl,hb1⟩
 | true =>
  have HV:Hid (alW s=s.extract (lastF s 47 s.size+1).toNat s.size):=lid (by unfold alW;rw [hl];rfl)
  obtain ⟨z1,z2⟩:=lastF_le s 47 s.size
  obtain ⟨p,hp⟩:∃ p:Nat,lastF s 47 s.size+1=p:=⟨(lastF s 47 s.size+1).toNat,by omega⟩
  obtain ⟨q,hq⟩:∃ q,lastF s 47 s.size=q:=⟨_,rfl⟩
  rw [hp] at HV
  rw [hq] at z1 z2 hp
  have hps:p≤s.size:=by omega
  have HQ:=lid hq
  have HB:=lid hb1
  clear hq hb1 hl
  go_wp2_with fail
  (with_reducible refine (CI.out _).mono ?_);rintro e w2 ⟨rfl,rfl⟩
  rw [HQ.out]
  go_wp2_with fail
  go_ret
  exact ⟨by rw [HV.out];rfl,HB.out⟩
def varW (s:ByteArray):Ew:=.mk 3 s ⟨#[]⟩ 0 0 none 0 []
theorem varW_EA {s:ByteArray} {w:World} (hs:s.size≤maxLen):EA w (varW s):=.mk Sl.nil (Nat.le_refl _) (Nat.zero_le _) hs (Nat.zero_le _) (show I64 3 from ⟨by decide,by decide⟩) (show I64 0 from ⟨by decide,by decide⟩) (show I64 0 from ⟨by decide,by decide⟩) (fun _ h=>by cases h) (fun _=>rfl)
noncomputable def pB (p:Prop):Bool:=@decide p (Classical.propDecidable p)
theorem pB_iff {p:Prop}:pB p=true↔p:=by unfold pB;exact @decide_eq_true_iff p (Classical.propDecidable p)
noncomputable def nmB (s:ByteArray):Bool:=pB (okW (varW s))
theorem isName_fn (s:ByteArray) (w:World) (hs:s.size≤maxLen):Calls Tryz.prog 100 #[.string s] w fun e w'=>e=.returned (.bool (nmB s))∧Below w.heap.size w w':=by
 have C:Hid (∀ W,Calls Tryz.prog 102 #[.agg #[.int .i64 3,.string s,.string ⟨#[]⟩,.int .i64 0,.int .i64 0,.slice none 0 0]] W fun r w'=>∃ q:Int,r=.returned (.int .i64 q)∧(q=0↔okW (varW s))∧Below W.heap.size W w'):=lid (fun W=>CheckExpr_any (varW s) W (varW_EA hs))
 clear hs
 go_enter Tryz.func100,Tryz.ntmps100
 go_wp2_with fail
 (with_reducible refine (C.out _).mono ?_);rintro e w1 ⟨q,rfl,hq,hb⟩
 have HB:=lid hb
 have HV:Hid (nmB s=(q == 0)):=lid (by
  unfold nmB
  rw [Bool.eq_iff_iff,pB_iff,← hq]
  simp)
 obtain ⟨b,hbb⟩:∃ b,(q == 0)=b:=⟨_,rfl⟩
 rw [hbb] at HV
 clear hq hb
 go_wp2_with fail
 go_ret
 exact ⟨retb HV.out.symm,HB.out⟩
noncomputable def useE1 (label:ByteArray) (us:List ByteArray) (i:Nat) (u:ByteArray):Int:=if nmB (alW u)=false then 6 else if (us.take i).any (fun v=>(alW v).toList == (alW u).toList)=true then 7 else if (u.toList == label.toList)=true then 23 else 0
theorem checkUse_fn (label:ByteArray) (ao:Option Addr) (cap:Nat) (us:List ByteArray) (i:Nat) (hi:i<us.length) (w:World) (h:SA w ao us.length cap us) :
  Calls Tryz.prog 82 #[.string label,.slice ao us.length cap,.int .i64 i] w fun e w'=>e=.returned (.int .i64 (useE1 label us i us[i]))∧Below w.heap.size w w':=by
 obtain ⟨n,hn⟩:∃ n,us.length=n:=⟨_,rfl⟩
 obtain ⟨u,hu⟩:∃ u,us[i]=u:=⟨_,rfl⟩
 obtain ⟨b,o,rfl,hbz,hc⟩:=h.sl.at_ (k:=i) hi
 have hmu:u.size≤maxLen:=h.sz u (by rw [← hu];exact List.getElem_mem hi)
 have HL:Hid (∀ k (hk:k<us.length),w.cell? ⟨b,o+k,none⟩=some (.string us[k])):=lid (fun k hk=>hc k _ (svals_at hk))
 have hcell:w.cell? ⟨b,o+i,none⟩=some (.string u):=by rw [← hu];exact HL.out i hi
 have HSZ:=lid h.sz
 have CA:=lid (fun v W hv=>Alias_fn v W hv)
 have CN:=lid (fun W=>isName_fn (alW u) W (Nat.le_trans (alW_size u) hmu))
 have hcm:cap≤9223372036854775807:=h.max
 have hnc:n≤cap:=by rw [← hn];exact h.le
 have HN:=lid hn
 have HMU:=lid hmu
 rw [hu]
 have hin:i<n:=by omega
 rw [hn]
 clear h hc hn hu hmu hi
 go_enter Tryz.func82,Tryz.ntmps82
 go_wp2_with fail
 (with_reducible refine (CA.out u _ HMU.out).mono ?_);rintro e w1 ⟨rfl,hb1⟩
 have HB1:=lid hb1
 clear hb1
 go_wp2_with fail
 (with_reducible refine (CN.out _).mono ?_);rintro e w2 ⟨rfl,hb2⟩
 have HB2:=lid (HB1.out.trans (hb2.mono HB1.out.size))
 clear hb2 HB1
 cases hnm:nmB (alW u) with
 | false =>
  have HV:Hid (useE1 label us i u=6):=lid (by unfold useE1;rw [if_pos hnm])
  go_wp2_with fail
  go_ret
  exact ⟨reti HV.out.symm,HB2.out⟩
 | true =>
  have HNM:=lid hnm
  clear hnm
  go_wp2_with fail
  have hib:(i:Int)≤9223372036854775807:=by omega
  go_loopw [22] (fun u22 wr=>∃ k:Nat,k≤i∧u22=.int .i64 k∧Hid ((us.take k).any (fun v=>(alW v).toList == (alW u).toList)=false)∧Hid (Below w.heap.size w wr)) (fun u22 _=>i-(intOf u22).toNat)
  case atStart=>exact ⟨0,Nat.zero_le _,rfl,lid rfl,HB2⟩
  case round =>
   obtain ⟨k,hk,rfl,HA,HBR⟩:=hrel
   by_cases hki:k<i
   ·have hkl:k<us.length:=by have:=HN.out;omega
    obtain ⟨v,hv⟩:∃ v,us[k]=v:=⟨_,rfl⟩
    have ck:wr.cell? ⟨b,o+k,none⟩=some (.string v):=by rw [← hv,← HL.out k hkl];exact bc HBR.out hbz _
    have HMV:Hid (v.size≤maxLen):=lid (by rw [← hv];exact HSZ.out _ (List.getElem_mem hkl))
    have HT:Hid ((us.take (k+1)).any (fun v=>(alW v).toList == (alW u).toList)=((alW v).toList == (alW u).toList)):=lid (by
     rw [List.take_succ_eq_append_getElem hkl,List.any_append,HA.out,hv]
     simp)
    have HSUB:Hid ((us.take (k+1)).Sublist (us.take i)):=lid (List.take_sublist_take_left (by omega))
    have hbz2:b<wr.heap.size:=Nat.lt_of_lt_of_le hbz HBR.out.size
    clear hv hkl
    cases hq:((alW v).toList == (alW u).toList) with
    | true =>
     have HV:Hid (useE1 label us i u=7):=lid (by
      unfold useE1
      rw [if_neg (by rw [HNM.out];simp),if_pos]
      have:=HT.out
      rw [hq] at this
      obtain ⟨x,hx,hy⟩:=List.any_eq_true.1 this
      exact List.any_eq_true.2 ⟨x,HSUB.out.subset hx,hy⟩)
     go_wp2_with fail
     (with_reducible refine (CA.out v _ HMV.out).mono ?_);rintro e w3 ⟨rfl,hb3⟩
     have HB3:=lid (HBR.out.trans (hb3.mono HBR.out.size))
     clear hb3 ck
     go_wp2_with fail
     go_ret
     exact ⟨reti HV.out.symm,HB3.out⟩
    | false =>
     have HA2:=lid (HT.out.trans hq)
     go_wp2_with fail
     (with_reducible refine (CA.out v _ HMV.out).mono ?_);rintro e w3 ⟨rfl,hb3⟩
     have HB3:=lid (HBR.out.trans (hb3.mono HBR.out.size))
     clear hb3 ck
     go_wp2_with fail
     go_roundw
     case measure=>simp only [intOf];omega
     case rel=>exact ⟨k+1,by omega,by simp,HA2,HB3⟩
   ·obtain rfl:k=i:=by omega
    have c2:wr.cell? ⟨b,o+k,none⟩=some (.string u):=by rw [← hcell];exact bc HBR.out hbz _
    have hbz2:b<wr.heap.size:=Nat.lt_of_lt_of_le hbz HBR.out.size
    clear hcell hki
    cases hq:(u.toList == label.toList) with
    | true =>
     have HV:Hid (useE1 label us k u=23):=lid (by unfold useE1;rw [if_neg (by rw [HNM.out];simp),if_neg (by rw [HA.out];simp),if_pos hq])
     go_wp2_with fail
     go_ret
     exact ⟨reti HV.out.symm,HBR.out⟩
    | false =>
     have HV:Hid (useE1 label us k u=0):=lid (by unfold useE1;rw [if_neg (by rw [HNM.out];simp),if_neg (by rw [HA.out];simp),if_neg (by rw [hq];simp)])
     go_wp2_with fail
     go_ret
     exact ⟨reti HV.out.symm,HBR.out⟩
noncomputable def namesE (l:List ByteArray):Int:=if l.length≠1∧l.length≠3 then 1 else if l.any (fun s=>!nmB s && (decide (l.length=1) || !(s.toList == [])))=true then 6 else 0
theorem checkNamesB_fn (ao:Option Addr) (cap:Nat) (l:List ByteArray) (w:World) (h:SA w ao l.length cap l) :
  Calls Tryz.prog 101 #[.slice ao l.length cap] w fun e w'=>e=.returned (.int .i64 (namesE l))∧Below w.heap.size w w':=by
 obtain ⟨n,hn⟩:∃ n,l.length=n:=⟨_,rfl⟩
 have CN:=lid (fun (v:ByteArray) W (hv:v.size≤maxLen)=>isName_fn v W hv)
 have HSL:=lid h.sl
 have HSZ:=lid h.sz
 have hcm:cap≤9223372036854775807:=h.max
 have hnc:n≤cap:=by rw [← hn];exact h.le
 have HN:=lid hn
 rw [hn] at HSL ⊢
 clear h hn
 by_cases h13:n=1∨n=3
 case neg =>
  have HV:Hid (namesE l=1):=lid (by unfold namesE;rw [HN.out,if_pos (by omega)])
  have d1:((n:Int) != 1)=true:=by simp;omega
  have d3:((n:Int) != 3)=true:=by simp;omega
  clear h13
  go_enter Tryz.func101,Tryz.ntmps101
  go_wp2_with fail
  go_ret
  exact ⟨reti HV.out.symm,Below.refl _ _⟩
 rcases h13 with rfl | rfl
 ·go_enter Tryz.func101,Tryz.ntmps101
  go_wp2_with fail
  go_loopw [15] (fun u15 wr=>∃ k:Nat,k≤1∧u15=.int .i64 k∧Hid ((l.take k).any (fun s=>!nmB s && (decide (l.length=1) || !(s.toList == [])))=false)∧Hid (Below w.heap.size w wr)) (fun u15 _=>1-(intOf u15).toNat)
  case atStart=>exact ⟨0,Nat.zero_le _,rfl,lid rfl,lid (Below.refl _ _)⟩
  case round =>
   obtain ⟨k,hk,rfl,HA,HBR⟩:=hrel
   by_cases hkn:k<1
   ·have hkl:k<l.length:=by have:=HN.out;omega
    obtain ⟨v,hv⟩:∃ v,l[k]=v:=⟨_,rfl⟩
    obtain ⟨b,o,e0,hbz,hc⟩:=HSL.out.at_ (k:=k) hkn
    have ck:wr.cell? ⟨b,o+k,none⟩=some (.string v):=by rw [bc HBR.out hbz _];exact hc k _ (by rw [svals_at hkl,hv])
    have HMV:Hid (v.size≤maxLen):=lid (by rw [← hv];exact HSZ.out _ (List.getElem_mem hkl))
    have HT:Hid ((l.take (k+1)).any (fun s=>!nmB s && (decide (l.length=1) || !(s.toList == [])))=(!nmB v && (decide (l.length=1) || !(v.toList == [])))):=lid (by
     rw [List.take_succ_eq_append_getElem hkl,List.any_append,HA.out,hv]
     simp)
    have HSUB:Hid ((l.take (k+1)).Sublist l):=lid (List.take_sublist _ _)
    have hbz2:b<wr.heap.size:=Nat.lt_of_lt_of_le hbz HBR.out.size
    subst e0
    clear hv hkl hc
    have HERR:Hid ((l.take (k+1)).any (fun s=>!nmB s && (decide (l.length=1) || !(s.toList == [])))=true→namesE l=6):=lid (fun h=>by
     unfold namesE
     rw [if_neg (by rw [HN.out];omega),if_pos]
     obtain ⟨x,hx,hy⟩:=List.any_eq_true.1 h
     exact List.any_eq_true.2 ⟨x,HSUB.out.subset hx,hy⟩)
    cases hq:nmB v with
    | true =>
     have HA2:Hid ((l.take (k+1)).any (fun s=>!nmB s && (decide (l.length=1) || !(s.toList == [])))=false):=lid (by rw [HT.out,hq];rfl)
     go_wp2_with fail
     (with_reducible refine (CN.out v _ HMV.out).mono ?_);rintro e w3 ⟨rfl,hb3⟩
     have HB3:=lid (HBR.out.trans (hb3.mono HBR.out.size))
     rw [hq]
     clear hb3 ck
     go_wp2_with fail
     go_roundw
     case measure=>simp only [intOf];omega
     case rel=>exact ⟨k+1,by omega,by simp,HA2,HB3⟩
    | false =>
     have HV:Hid (namesE l=6):=lid (HERR.out (by rw [HT.out,hq,HN.out];rfl))
     go_wp2_with fail
     (with_reducible refine (CN.out v _ HMV.out).mono ?_);rintro e w3 ⟨rfl,hb3⟩
     have HB3:=lid (HBR.out.trans (hb3.mono HBR.out.size))
     rw [hq]
     clear hb3 ck
     go_wp2_with fail
     go_ret
     exact ⟨reti HV.out.symm,HB3.out⟩
   ·obtain rfl:k=1:=by omega
    have HV:Hid (namesE l=0):=lid (by
     unfold namesE
     rw [if_neg (by rw [HN.out];omega),if_neg]
     have:=HA.out
     rw [List.take_of_length_le (by rw [HN.out];omega)] at this
     rw [this]
     simp)
    clear hkn
    go_wp2_with fail
    go_ret
    exact ⟨reti HV.out.symm,HBR.out⟩
 ·go_enter Tryz.func101,Tryz.ntmps101
  go_wp2_with fail
  go_loopw [15] (fun u15 wr=>∃ k:Nat,k≤3∧u15=.int .i64 k∧Hid ((l.take k).any (fun s=>!nmB s && (decide (l.length=1) || !(s.toList == [])))=false)∧Hid (Below w.heap.size w wr)) (fun u15 _=>3-(intOf u15).toNat)
  case atStart=>exact ⟨0,Nat.zero_le _,rfl,lid rfl,lid (Below.refl _ _)⟩
  case round =>
   obtain ⟨k,hk,rfl,HA,HBR⟩:=hrel
   by_cases hkn:k<3
   ·have hkl:k<l.length:=by have:=HN.out;omega
    obtain ⟨v,hv⟩:∃ v,l[k]=v:=⟨_,rfl⟩
    obtain ⟨b,o,e0,hbz,hc⟩:=HSL.out.at_ (k:=k) hkn
    have ck:wr.cell? ⟨b,o+k,none⟩=some (.string v):=by rw [bc HBR.out hbz _];exact hc k _ (by rw [svals_at hkl,hv])
    have HMV:Hid (v.size≤maxLen):=lid (by rw [← hv];exact HSZ.out _ (List.getElem_mem hkl))
    have HT:Hid ((l.take (k+1)).any (fun s=>!nmB s && (decide (l.length=1) || !(s.toList == [])))=(!nmB v && (decide (l.length=1) || !(v.toList == [])))):=lid (by
     rw [List.take_succ_eq_append_getElem hkl,List.any_append,HA.out,hv]
     simp)
    have HSUB:Hid ((l.take (k+1)).Sublist l):=lid (List.take_sublist _ _)
    have hbz2:b<wr.heap.size:=Nat.lt_of_lt_of_le hbz HBR.out.size
    subst e0
    clear hv hkl hc
    have HERR:Hid ((l.take (k+1)).any (fun s=>!nmB s && (decide (l.length=1) || !(s.toList == [])))=true→namesE l=6):=lid (fun h=>by
     unfold namesE
     rw [if_neg (by rw [HN.out];omega),if_pos]
     obtain ⟨x,hx,hy⟩:=List.any_eq_true.1 h
     exact List.any_eq_true.2 ⟨x,HSUB.out.subset hx,hy⟩)
    cases hq:nmB v with
    | true =>
     have HA2:Hid ((l.take (k+1)).any (fun s=>!nmB s && (decide (l.length=1) || !(s.toList == [])))=false):=lid (by rw [HT.out,hq];rfl)
     go_wp2_with fail
     (with_reducible refine (CN.out v _ HMV.out).mono ?_);rintro e w3 ⟨rfl,hb3⟩
     have HB3:=lid (HBR.out.trans (hb3.mono HBR.out.size))
     rw [hq]
     clear hb3 ck
     go_wp2_with fail
     go_roundw
     case measure=>simp only [intOf];omega
     case rel=>exact ⟨k+1,by omega,by simp,HA2,HB3⟩
    | false =>
     cases hz:(v.toList == []) with
     | true =>
      have HA2:Hid ((l.take (k+1)).any (fun s=>!nmB s && (decide (l.length=1) || !(s.toList == [])))=false):=lid (by rw [HT.out,hq,hz,HN.out];rfl)
      go_wp2_with fail
      (with_reducible refine (CN.out v _ HMV.out).mono ?_);rintro e w3 ⟨rfl,hb3⟩
      have HB3:=lid (HBR.out.trans (hb3.mono HBR.out.size))
      rw [hq]
      clear hb3 ck
      go_wp2_with fail
      go_roundw
      case measure=>simp only [intOf];omega
      case rel=>exact ⟨k+1,by omega,by simp,HA2,HB3⟩
     | false =>
      have HV:Hid (namesE l=6):=lid (HERR.out (by rw [HT.out,hq,hz,HN.out];rfl))
      go_wp2_with fail
      (with_reducible refine (CN.out v _ HMV.out).mono ?_);rintro e w3 ⟨rfl,hb3⟩
      have HB3:=lid (HBR.out.trans (hb3.mono HBR.out.size))
      rw [hq]
      clear hb3 ck
      go_wp2_with fail
      go_ret
      exact ⟨reti HV.out.symm,HB3.out⟩
   ·obtain rfl:k=3:=by omega
    have HV:Hid (namesE l=0):=lid (by
     unfold namesE
     rw [if_neg (by rw [HN.out];omega),if_neg]
     have:=HA.out
     rw [List.take_of_length_le (by rw [HN.out];omega)] at this
     rw [this]
     simp)
    clear hkn
    go_wp2_with fail
    go_ret
    exact ⟨reti HV.out.symm,HBR.out⟩
end Go.Proofs.YtgcceepadlmelaaGreatDoor
