import Derived.Test.YtgcceepadlmelaaGreatDoorEdEqx
import Derived.Test.YtgcceepadlmelaaGreatDoorQAG
import Derived.Shelf.SortM.Plain
import Derived.Shelf.SortM.SortNone
import Derived.Test.YtgcceepadlmelaaGreatDoorProg
import Derived.Test.YtgcceepadlmelaaGreatDoorQAD
import Derived.Test.YtgcceepadlmelaaGreatDoorEdFreeC
import Derived.Test.YtgcceepadlmelaaGreatDoorEdChk
import Derived.Maps.RangeWalk
import Derived.Test.YtgcceepadlmelaaGreatDoorEdBindA
namespace Go.Proofs.YtgcceepadlmelaaGreatDoor
set_option maxRecDepth 100000
set_option maxHeartbeats 8000000
open Go.RowKit
def headB (a b:Dw):Bool:=(a.kind == b.kind) && ((a.pub == b.pub) && (a.doubt == b.doubt))
theorem equalHead_any (a b:Dw) (w:World):Calls Tryz.prog 65 #[.agg (dca a),.agg (dca b)] w fun r w'=>r=.returned (.bool (headB a b))∧Below w.heap.size w w':=by
 have HB:=lid ((ba w (.cells (dca a) 65)).trans ((ba (w.alloc (.cells (dca a) 65)) (.cells (dca b) 65)).mono (by simp)))
 cases u1:(a.kind == b.kind) with
 | false =>
  have HV:Hid (headB a b=false):=lid (by unfold headB;rw [u1];rfl)
  go_enter Tryz.func65,Tryz.ntmps65
  go_wp2_with fail
  go_ret
  exact ⟨retb HV.out.symm,HB.out⟩
 | true =>
  cases u2:(a.pub == b.pub) with
  | false =>
   have HV:Hid (headB a b=false):=lid (by unfold headB;rw [u1,u2];rfl)
   go_enter Tryz.func65,Tryz.ntmps65
   go_wp2_with fail
   go_ret
   exact ⟨retb HV.out.symm,HB.out⟩
  | true =>
   obtain ⟨c,hc⟩:∃ c,(a.doubt == b.doubt)=c:=⟨_,rfl⟩
   have HV:Hid (headB a b=c):=lid (by unfold headB;rw [u1,u2,hc];rfl)
   go_enter Tryz.func65,Tryz.ntmps65
   go_wp2_with fail
   go_ret
   exact ⟨retb HV.out.symm,HB.out⟩
theorem dx_iff (a b:Dw):a.x=b.x↔a.id=b.id∧headB a b=true∧a.names=b.names∧a.body.x=b.body.x:=by
 unfold Dw.x headB
 simp only [Dx.mk.injEq,Bool.and_eq_true,beq_iff_eq]
 constructor
 ·rintro ⟨h1,h2,h3,h4,h5,h6⟩
  exact ⟨h1,⟨h2,h3,h5⟩,h4,h6⟩
 ·rintro ⟨h1,⟨h2,h3,h5⟩,h4,h6⟩
  exact ⟨h1,h2,h3,h4,h5,h6⟩
theorem equalDecl_any (a b:Dw) (w:World) (ha:DwA w a) (hb:DwA w b) (hc:cntE a.body≤1000):Calls Tryz.prog 39 #[.agg (dca a),.agg (dca b)] w fun r w'=>r=.returned (.bool (pB (a.x=b.x)))∧Below w.heap.size w w':=by
 obtain ⟨W1,hW1⟩:∃ y,(w.alloc (.cells (dca a) 65)).alloc (.cells (dca b) 65)=y:=⟨_,rfl⟩
 have hb1:Below w.heap.size w W1:=by rw [← hW1];exact (ba _ _).alloc (by simp) _
 have hA1:W1.heap[w.heap.size]?=some (.cells (dca a) 65 (0,0)):=by rw [← hW1];exact (h_old (by simp) _).trans (h_new rfl _)
 have hR1:W1.heap[w.heap.size+1]?=some (.cells (dca b) 65 (0,0)):=by rw [← hW1];exact h_new (by simp) _
 have HDA1:=lid (ha.below hb1)
 have HDB1:=lid (hb.below hb1)
 have HW1:=lid hW1
 have HB1:=lid hb1
 have HA1:=lid hA1
 have HR1:=lid hR1
 have CH:=lid (equalHead_any a b W1)
 clear ha hb hW1 hb1 hA1 hR1
 by_cases hi:a.id=b.id
 case neg =>
  have d:(a.id == b.id)=false:=beq_false_of_ne hi
  have HV:Hid (pB (a.x=b.x)=false):=lid (pB_f (fun h=>hi ((dx_iff a b).1 h).1))
  clear hi
  go_enter Tryz.func39,Tryz.ntmps39
  go_wp2_with fail
  rw [HW1.out]
  go_ret
  exact ⟨retb HV.out.symm,HB1.out⟩
 have d:(a.id == b.id)=true:=by simp [hi]
 have HI:=lid hi
 clear hi
 go_enter Tryz.func39,Tryz.ntmps39
 go_wp2_with fail
 rw [HW1.out]
 (with_reducible refine (CH.out).mono ?_);rintro e w2 ⟨rfl,hb2⟩
 have HB2:=lid (HB1.out.trans (hb2.mono HB1.out.size))
 have HA2:=lid ((hb2.block _ (row_lt HA1.out)).trans HA1.out)
 have HR2:=lid ((hb2.block _ (row_lt HR1.out)).trans HR1.out)
 have HDA2:=lid (HDA1.out.below hb2)
 have HDB2:=lid (HDB1.out.below hb2)
 clear hb2 CH
 cases uh:headB a b with
 | false =>
  have HV:Hid (pB (a.x=b.x)=false):=lid (pB_f (fun h=>by have:=((dx_iff a b).1 h).2.1;rw [uh] at this;cases this))
  go_wp2_with fail
  go_ret
  exact ⟨retb HV.out.symm,HB2.out⟩
 | true =>
  have HUH:=lid uh
  have a3:w2.cell? ⟨w.heap.size,3,none⟩=some (.slice a.na a.names.length a.ncap):=row_cell HA2.out 3
  have b3:w2.cell? ⟨w.heap.size+1,3,none⟩=some (.slice b.na b.names.length b.ncap):=row_cell HR2.out 3
  have la:=row_lt HA2.out
  have lb:=row_lt HR2.out
  have CE:=lid (EqualS_any a.names b.names a.names.length a.ncap b.names.length b.ncap a.na b.na w2 HDA2.out.names HDB2.out.names)
  clear uh
  go_wp2_with fail
  (with_reducible refine (CE.out).mono ?_);rintro e w3 ⟨rfl,hb3⟩
  have HB3:=lid (HB2.out.trans (hb3.mono HB2.out.size))
  have HA3:=lid ((hb3.block _ la).trans HA2.out)
  have HR3:=lid ((hb3.block _ lb).trans HR2.out)
  have HDA3:=lid (HDA2.out.below hb3)
  have HDB3:=lid (HDB2.out.below hb3)
  clear hb3 CE a3 b3 la lb
  by_cases hn:a.names=b.names
  case neg =>
   have HV:Hid (pB (a.x=b.x)=false):=lid (pB_f (fun h=>hn ((dx_iff a b).1 h).2.2.1))
   rw [decide_eq_false hn]
   clear hn
   go_wp2_with fail
   go_ret
   exact ⟨retb HV.out.symm,HB3.out⟩
  rw [decide_eq_true hn]
  have HN:=lid hn
  clear hn
  have a5:w3.cell? ⟨w.heap.size,5,none⟩=some (.int .i64 a.body.kind):=row_cell HA3.out 5
  have a6:w3.cell? ⟨w.heap.size,6,none⟩=some (.string a.body.name):=row_cell HA3.out 6
  have a7:w3.cell? ⟨w.heap.size,7,none⟩=some (.string a.body.more):=row_cell HA3.out 7
  have a8:w3.cell? ⟨w.heap.size,8,none⟩=some (.int .i64 a.body.int):=row_cell HA3.out 8
  have a9:w3.cell? ⟨w.heap.size,9,none⟩=some (.int .i64 a.body.den):=row_cell HA3.out 9
  have a10:w3.cell? ⟨w.heap.size,10,none⟩=some (.slice a.body.ao a.body.sub.length a.body.cap):=row_cell HA3.out 10
  have b5:w3.cell? ⟨w.heap.size+1,5,none⟩=some (.int .i64 b.body.kind):=row_cell HR3.out 5
  have b6:w3.cell? ⟨w.heap.size+1,6,none⟩=some (.string b.body.name):=row_cell HR3.out 6
  have b7:w3.cell? ⟨w.heap.size+1,7,none⟩=some (.string b.body.more):=row_cell HR3.out 7
  have b8:w3.cell? ⟨w.heap.size+1,8,none⟩=some (.int .i64 b.body.int):=row_cell HR3.out 8
  have b9:w3.cell? ⟨w.heap.size+1,9,none⟩=some (.int .i64 b.body.den):=row_cell HR3.out 9
  have b10:w3.cell? ⟨w.heap.size+1,10,none⟩=some (.slice b.body.ao b.body.sub.length b.body.cap):=row_cell HR3.out 10
  have la:=row_lt HA3.out
  have lb:=row_lt HR3.out
  have CX:=lid (equalExpr_any a.body b.body w3 HDA3.out.body HDB3.out.body hc)
  go_wp2_with fail
  (with_reducible refine (CX.out).mono ?_);rintro e w4 ⟨rfl,hb4⟩
  have HB4:=lid (HB3.out.trans (hb4.mono HB3.out.size))
  have HV:Hid (pB (a.x=b.x)=pB (a.body.x=b.body.x)):=lid (by
   rw [Bool.eq_iff_iff,pB_iff,pB_iff,dx_iff]
   exact ⟨fun h=>h.2.2.2,fun h=>⟨HI.out,HUH.out,HN.out,h⟩⟩)
  obtain ⟨q,hq⟩:∃ q,pB (a.body.x=b.body.x)=q:=⟨_,rfl⟩
  rw [hq] at HV ⊢
  clear hb4 hq
  go_wp2_with fail
  go_ret
  exact ⟨retb HV.out.symm,HB4.out⟩
def zEw:Ew:=.mk 0 ⟨#[]⟩ ⟨#[]⟩ 0 0 none 0 []
theorem zEw_EA {w:World}:EA w zEw:=.mk Sl.nil (Nat.le_refl _) (Nat.zero_le _) (Nat.zero_le _) (Nat.zero_le _) (show I64 0 from ⟨by decide,by decide⟩) (show I64 0 from ⟨by decide,by decide⟩) (show I64 0 from ⟨by decide,by decide⟩) (fun _ h=>by cases h) (fun _=>rfl)
theorem SA.empty {w:World}:SA w none 0 0 []:=⟨rfl,Sl.nil,Nat.le_refl _,Nat.zero_le _,fun _ h=>(by cases h),fun _=>rfl⟩
def menW (k:Int) (d:Dw):Dw:=if k=7 then ⟨d.id,0,false,d.na,d.names,d.ncap,false,zEw⟩ else if k=8 then ⟨d.id,0,false,none,[],0,false,d.body⟩ else if k=9 then ⟨d.id,d.kind,d.pub,none,[],0,d.doubt,zEw⟩ else d
theorem menW_A {w:World} {k:Int} {d:Dw} (h:DwA w d):DwA w (menW k d):=by
 unfold menW
 split
 ·exact ⟨h.id,show I64 0 from ⟨by decide,by decide⟩,h.names,zEw_EA⟩
 ·split
  ·exact ⟨h.id,show I64 0 from ⟨by decide,by decide⟩,SA.empty,h.body⟩
  ·split
   ·exact ⟨h.id,h.kind,SA.empty,zEw_EA⟩
   ·exact h
theorem menW_cnt {k:Int} {d:Dw} (h:cntE d.body≤1000):cntE (menW k d).body≤1000:=by
 have hz:cntE zEw≤1000:=by simp [zEw,cntE,cntL]
 unfold menW
 split
 ·exact hz
 ·split
  ·exact h
  ·split
   ·exact hz
   ·exact h
theorem res_decl {fn:Func} (hf:fn.results=#[.cell 4 65]) (t:Array Value) (w:World) (k:Nat) (m:Dw) (h:t.getD 4 undef=.pointer (some ⟨k,0,none⟩)) (e:w.heap[k]?=some (.cells (dca m) 65 (0,0))):(results fn t).run Tryz.prog w=.ok (.agg (dca m)) w:=by
 have e0:w.cell? ⟨k,0,none⟩=some (.int .i64 m.id):=row_cell e 0
 have e1:w.cell? ⟨k,1,none⟩=some (.int .i64 m.kind):=row_cell e 1
 have e2:w.cell? ⟨k,2,none⟩=some (.bool m.pub):=row_cell e 2
 have e3:w.cell? ⟨k,3,none⟩=some (.slice m.na m.names.length m.ncap):=row_cell e 3
 have e4:w.cell? ⟨k,4,none⟩=some (.bool m.doubt):=row_cell e 4
 have e5:w.cell? ⟨k,5,none⟩=some (.int .i64 m.body.kind):=row_cell e 5
 have e6:w.cell? ⟨k,6,none⟩=some (.string m.body.name):=row_cell e 6
 have e7:w.cell? ⟨k,7,none⟩=some (.string m.body.more):=row_cell e 7
 have e8:w.cell? ⟨k,8,none⟩=some (.int .i64 m.body.int):=row_cell e 8
 have e9:w.cell? ⟨k,9,none⟩=some (.int .i64 m.body.den):=row_cell e 9
 have e10:w.cell? ⟨k,10,none⟩=some (.slice m.body.ao m.body.sub.length m.body.cap):=row_cell e 10
 rw [Array.getD_eq_getD_getElem?] at h
 unfold results
 rw [hf]
 simp [go_sem,h,asAddr,e0,e1,e2,e3,e4,e5,e6,e7,e8,e9,e10]
theorem mentioned_any (k:Int) (d:Dw) (w:World):Calls Tryz.prog 38 #[.int .i64 k,.agg (dca d)] w fun r w'=>r=.returned (.agg (dca (menW k d)))∧Below w.heap.size w w':=by
 have fin:∀ m:Dw,Hid (((w.alloc (.cells (dca d) 65)).alloc (.cells (dca m) 65)).heap[w.heap.size+1]?=some (.cells (dca m) 65 (0,0))∧Below w.heap.size w ((w.alloc (.cells (dca d) 65)).alloc (.cells (dca m) 65))):=fun m=>lid ⟨h_new (by simp) _,(ba _ _).alloc (by simp) _⟩
 by_cases h7:k=7
 ·subst h7
  have HM:Hid (menW 7 d=⟨d.id,0,false,d.na,d.names,d.ncap,false,zEw⟩):=lid rfl
  go_enter Tryz.func38,Tryz.ntmps38
  go_wp2_with fail
  exact bodyPost_ret (res_decl rfl _ _ (w.heap.size+1) ⟨d.id,0,false,d.na,d.names,d.ncap,false,zEw⟩ rfl (fin ⟨d.id,0,false,d.na,d.names,d.ncap,false,zEw⟩).out.1) rfl ⟨by rw [HM.out],(fin ⟨d.id,0,false,d.na,d.names,d.ncap,false,zEw⟩).out.2⟩
 by_cases h8:k=8
 ·subst h8
  have HM:Hid (menW 8 d=⟨d.id,0,false,none,[],0,false,d.body⟩):=lid rfl
  go_enter Tryz.func38,Tryz.ntmps38
  go_wp2_with fail
  exact bodyPost_ret (res_decl rfl _ _ (w.heap.size+1) ⟨d.id,0,false,none,[],0,false,d.body⟩ rfl (fin ⟨d.id,0,false,none,[],0,false,d.body⟩).out.1) rfl ⟨by rw [HM.out],(fin ⟨d.id,0,false,none,[],0,false,d.body⟩).out.2⟩
 by_cases h9:k=9
 ·subst h9
  have HM:Hid (menW 9 d=⟨d.id,d.kind,d.pub,none,[],0,d.doubt,zEw⟩):=lid rfl
  go_enter Tryz.func38,Tryz.ntmps38
  go_wp2_with fail
  exact bodyPost_ret (res_decl rfl _ _ (w.heap.size+1) ⟨d.id,d.kind,d.pub,none,[],0,d.doubt,zEw⟩ rfl (fin ⟨d.id,d.kind,d.pub,none,[],0,d.doubt,zEw⟩).out.1) rfl ⟨by rw [HM.out],(fin ⟨d.id,d.kind,d.pub,none,[],0,d.doubt,zEw⟩).out.2⟩
 have HM:Hid (menW k d=d):=lid (by unfold menW;rw [if_neg h7,if_neg h8,if_neg h9])
 have d7:(k == 7)=false:=beq_false_of_ne h7
 have d8:(k == 8)=false:=beq_false_of_ne h8
 have d9:(k == 9)=false:=beq_false_of_ne h9
 clear h7 h8 h9
 go_enter Tryz.func38,Tryz.ntmps38
 go_wp2_with fail
 exact bodyPost_ret (res_decl rfl _ _ (w.heap.size+1) d rfl (fin d).out.1) rfl ⟨by rw [HM.out],(fin d).out.2⟩
end Go.Proofs.YtgcceepadlmelaaGreatDoor
namespace Go.Proofs.YtgcceepadlmelaaGreatDoor
open Go.Shelf
def sortA_ren:Go.Shelf.Ren:=⟨fun | 6=>122 | 8=>135 | 9=>134 | 19=>147 | 20=>148 | 21=>139 | 22=>140 | 23=>141 | 24=>142 | 25=>143 | 26=>144 | 27=>69 | 28=>145 | 29=>146 | 36=>153 | 31=>154 | 32=>155 | 37=>156 | 38=>157 | 39=>92 | 41=>160 | n=>n,fun | 27=>42 | 29=>9 | 3=>3 | 32=>109 | 26=>42 | 0=>0 | 44=>174 | 46=>176 | 4=>4 | 36=>168 | 35=>167 | 41=>86 | 5=>5 | 9=>9 | 53=>181 | 57=>185 | 63=>189 | 64=>190 | n=>n,fun | n=>n⟩
theorem sortA:Go.Proofs.SlLaysM.n6 Tryz.prog sortA_ren:={
 mixed:=by kernel_rfl
 f6:=⟨Tryz.f122.name,by decide,Tryz.func122.trans (congrArg some (by kernel_rfl))⟩
 f8:=Tryz.func135.trans (congrArg some (by kernel_rfl))
 f9:=⟨Tryz.f134.name,by decide,Tryz.func134.trans (congrArg some (by kernel_rfl))⟩
 f19:=Tryz.func147.trans (congrArg some (by kernel_rfl))
 f20:=Tryz.func148.trans (congrArg some (by kernel_rfl))
 f21:=⟨Tryz.f139.name,by decide,Tryz.func139.trans (congrArg some (by kernel_rfl))⟩
 f22:=⟨Tryz.f140.name,by decide,Tryz.func140.trans (congrArg some (by kernel_rfl))⟩
 f23:=⟨Tryz.f141.name,by decide,Tryz.func141.trans (congrArg some (by kernel_rfl))⟩
 f24:=⟨Tryz.f142.name,by decide,Tryz.func142.trans (congrArg some (by kernel_rfl))⟩
 f25:=⟨Tryz.f143.name,by decide,Tryz.func143.trans (congrArg some (by kernel_rfl))⟩
 f26:=⟨Tryz.f144.name,by decide,Tryz.func144.trans (congrArg some (by kernel_rfl))⟩
 f27:=⟨Tryz.f69.name,by decide,Tryz.func69.trans (congrArg some (by kernel_rfl))⟩
 f28:=⟨Tryz.f145.name,by decide,Tryz.func145.trans (congrArg some (by kernel_rfl))⟩
 f29:=⟨Tryz.f146.name,by decide,Tryz.func146.trans (congrArg some (by kernel_rfl))⟩
 f31:=Tryz.func154.trans (congrArg some (by kernel_rfl))
 f32:=Tryz.func155.trans (congrArg some (by kernel_rfl))
 f36:=⟨Tryz.f153.name,by decide,Tryz.func153.trans (congrArg some (by kernel_rfl))⟩
 f37:=⟨Tryz.f156.name,by decide,Tryz.func156.trans (congrArg some (by kernel_rfl))⟩
 f38:=⟨Tryz.f157.name,by decide,Tryz.func157.trans (congrArg some (by kernel_rfl))⟩
 f39:=⟨Tryz.f92.name,by decide,Tryz.func92.trans (congrArg some (by kernel_rfl))⟩
 f41:=⟨Tryz.f160.name,by decide,Tryz.func160.trans (congrArg some (by kernel_rfl))⟩
 t0:=Tryz.underlying0
 a0:=Tryz.isAgg0
 z0:=Tryz.sizeOf0
 v0:=Tryz.zeroValue0
 t3:=Tryz.underlying3
 a3:=Tryz.isAgg3
 z3:=Tryz.sizeOf3
 v3:=Tryz.zeroValue3
 t4:=Tryz.underlying4
 a4:=Tryz.isAgg4
 z4:=Tryz.sizeOf4
 v4:=Tryz.zeroValue4
 t5:=Tryz.underlying5
 a5:=Tryz.isAgg5
 z5:=Tryz.sizeOf5
 v5:=Tryz.zeroValue5
 t9:=Tryz.underlying9
 a9:=Tryz.isAgg9
 z9:=Tryz.sizeOf9
 v9:=Tryz.zeroValue9
 t26:=Tryz.underlying42
 a26:=Tryz.isAgg42
 z26:=Tryz.sizeOf42
 v26:=Tryz.zeroValue42
 t27:=Tryz.underlying42
 a27:=Tryz.isAgg42
 z27:=Tryz.sizeOf42
 v27:=Tryz.zeroValue42
 t29:=Tryz.underlying9
 a29:=Tryz.isAgg9
 z29:=Tryz.sizeOf9
 v29:=Tryz.zeroValue9
 t32:=Tryz.underlying109
 a32:=Tryz.isAgg109
 z32:=Tryz.sizeOf109
 v32:=Tryz.zeroValue109
 t35:=Tryz.underlying167
 a35:=Tryz.isAgg167
 z35:=Tryz.sizeOf167
 v35:=Tryz.zeroValue167
 t36:=Tryz.underlying168
 a36:=Tryz.isAgg168
 z36:=Tryz.sizeOf168
 v36:=Tryz.zeroValue168
 t41:=Tryz.underlying86
 a41:=Tryz.isAgg86
 z41:=Tryz.sizeOf86
 v41:=Tryz.zeroValue86
 t44:=Tryz.underlying174
 a44:=Tryz.isAgg174
 z44:=Tryz.sizeOf174
 v44:=Tryz.zeroValue174
 t46:=Tryz.underlying176
 a46:=Tryz.isAgg176
 z46:=Tryz.sizeOf176
 v46:=Tryz.zeroValue176
 t53:=Tryz.underlying181
 a53:=Tryz.isAgg181
 z53:=Tryz.sizeOf181
 v53:=Tryz.zeroValue181
 t57:=Tryz.underlying185
 a57:=Tryz.isAgg185
 z57:=Tryz.sizeOf185
 v57:=Tryz.zeroValue185
 t63:=Tryz.underlying189
 a63:=Tryz.isAgg189
 z63:=Tryz.sizeOf189
 v63:=Tryz.zeroValue189
 t64:=Tryz.underlying190
 a64:=Tryz.isAgg190
 z64:=Tryz.sizeOf190
 v64:=Tryz.zeroValue190 }
end Go.Proofs.YtgcceepadlmelaaGreatDoor
namespace Go.Proofs.YtgcceepadlmelaaGreatDoor
open Go.RowKit Go.Shelf Go.Sort
theorem below_sort {base g n:Nat} {w:World} {os:Array Obj} (d:Array (List UInt8)) (hb:base≤g) (hz:base≤w.heap.size):Below base w (grow (putRow encStr (Sort.ahead w n) g 0 d) os):=by
 refine ⟨rfl,rfl,rfl,by simp,fun k hk=>?_⟩
 rw [heap_grow_old _ _ (by simpa using (show k<w.heap.size by omega))]
 have:g≠k:=by omega
 simp [putRow,mapBlock,Sort.ahead,Array.getElem?_modify,this]
theorem SortS_any (base n cap:Nat) (ao:Option Addr) (l:List ByteArray) (w:World) (h:w.ownsRow base 9 1 (.slice ao n cap) n (svals l)) (hn:n≤100000) (hb:base≤w.heap.size) :
  Calls Tryz.prog 122 #[.slice ao n cap] w fun e w'=>e=.returned (.tuple #[])∧Below base w w':=by
 cases n with
 | zero =>
  refine (AnyM.slices_Sort_string_none sortA ao cap w).mono ?_
  rintro e w' ⟨rfl,rfl⟩
  exact ⟨rfl,Below.refl _ _⟩
 | succ n =>
  obtain ⟨g,c,e1⟩:=ownsRow_succ h
  injection e1 with e1 _ e2
  subst e1 e2
  obtain ⟨cur,h1,h2,h3,h4,h5,h6⟩:=own_formK h
  have hl:l.length=n+1:=by have:=h.1;rw [svals_length] at this;omega
  have hH:Holds encStr w g 0 (l.map fun s=>s.data.toList).toArray:=by
   intro j hj
   have hj':j<l.length:=by simpa using hj
   refine ⟨?_,row_fz h2 _⟩
   have:=own_cellK h j (u:=.string l[j]) (by rw [svals_at hj'])
   rw [Nat.zero_add,this]
   simp [encStr,hj']
  have:=AnyM.slices_Sort_string sortA g 0 cap (l.map fun s=>s.data.toList) w hH (row_lt h2) (by rw [List.length_map,hl];omega)
  rw [List.length_map,hl] at this
  refine this.mono ?_
  rintro e w' ⟨rfl,q,os,rfl⟩
  exact ⟨rfl,below_sort _ h1 hb⟩
end Go.Proofs.YtgcceepadlmelaaGreatDoor
namespace Go.Proofs.YtgcceepadlmelaaGreatDoor
set_option maxRecDepth 100000
set_option maxHeartbeats 4000000
open Go.RowKit
theorem key_inv {key:Value} {kl:Lit} (h:keyOf Tryz.prog 9 key=some kl):∃ s,key=.string s∧kl=keyS s:=by
 have hk:=Tryz.underlying9
 cases key <;> simp [keyOf,hk,mapKey] at h
 obtain ⟨_,rfl⟩:=h
 exact ⟨_,rfl,rfl⟩
theorem key_inv' (key:Value) (kl:Lit) (h:keyOf Tryz.prog 9 key=some kl):∃ s,key=Value.string s:=by
 obtain ⟨s,h,_⟩:=key_inv h
 exact ⟨s,h⟩
structure BV where
 b:Bool
abbrev bvv (x:BV):Value:=.bool x.b
theorem bool_inv' (v:Value) (z:DataW Unit × List MemPlace) (h:plainElem Tryz.prog 4 v=some z):∃ x,v=bvv x:=by
 obtain ⟨x,h,_⟩:=plainElem_bool_inv Tryz.underlying4 h
 exact ⟨⟨x⟩,h⟩
theorem setD_has_ne {S:List ByteArray} {k:Lit} (h:Maps.has (setD S) k=true):S≠[]:=by
 rintro rfl
 simp [setD,Maps.has] at h
theorem setD_ne_has {S:List ByteArray} (h:S≠[]):∃ s,Maps.has (setD S) (keyS s)=true:=by
 rw [← List.dropLast_concat_getLast h,setD_snoc]
 exact ⟨S.getLast h,Maps.has_put_same (setD_map _) (keyS_key _) _⟩
theorem any_pre (P:Ew→Bool):(∀ (d:Nat) (e:Ew),anyE P e=(preW d e).any fun x=>P x.2):=by
 suffices h:∀ c:Nat,(∀ (d:Nat) (e:Ew),cntE e≤c→anyE P e=(preW d e).any fun x=>P x.2)∧∀ (d:Nat) (l:List Ew),cntL l≤c→anyL P l=(preWL d l).any fun x=>P x.2 from fun d e=>(h (cntE e)).1 d e (Nat.le_refl _)
 intro c
 induction c with
 | zero =>
  refine ⟨fun d e h=>(by rw [cntE_eq] at h;omega),fun d l h=>?_⟩
  cases l with
  | nil=>simp [anyL,preWL]
  | cons e l=>rw [cntL,cntE_eq] at h;omega
 | succ c ih =>
  have h1:∀ (d:Nat) (e:Ew),cntE e≤c+1→anyE P e=(preW d e).any fun x=>P x.2:=fun d e h=>by
   rw [cntE_eq] at h
   rw [anyE_eq,preW_eq,List.any_cons,ih.2 (d+1) e.sub (by omega)]
  refine ⟨h1,fun d l=>?_⟩
  induction l with
  | nil=>intro _;simp [anyL,preWL]
  | cons e l ih2 =>
   intro h
   rw [cntL] at h
   rw [anyL,preWL,List.any_append,h1 d e (by omega),ih2 (by omega)]
theorem cnt_pre:(∀ (d:Nat) (e:Ew),(preW d e).length=cntE e):=by
 suffices h:∀ c:Nat,(∀ (d:Nat) (e:Ew),cntE e≤c→(preW d e).length=cntE e)∧∀ (d:Nat) (l:List Ew),cntL l≤c→(preWL d l).length=cntL l from fun d e=>(h (cntE e)).1 d e (Nat.le_refl _)
 intro c
 induction c with
 | zero =>
  refine ⟨fun d e h=>(by rw [cntE_eq] at h;omega),fun d l h=>?_⟩
  cases l with
  | nil=>simp [cntL,preWL]
  | cons e l=>rw [cntL,cntE_eq] at h;omega
 | succ c ih =>
  have h1:∀ (d:Nat) (e:Ew),cntE e≤c+1→(preW d e).length=cntE e:=fun d e h=>by
   rw [cntE_eq] at h
   rw [preW_eq,List.length_cons,cntE_eq,ih.2 (d+1) e.sub (by omega)]
  refine ⟨h1,fun d l=>?_⟩
  induction l with
  | nil=>intro _;simp [cntL,preWL]
  | cons e l ih2 =>
   intro h
   rw [cntL] at h
   rw [cntL,preWL,List.length_append,h1 d e (by omega),ih2 (by omega)]
theorem okW_cnt {e:Ew} (h:okW e):cntE e≤400:=by rw [← cnt_pre 1 e];exact h.1
theorem nodeC_bad' {e:Ew} (h:badS e=true):ndC e≠0:=by
 unfold badS at h
 simp only [Bool.or_eq_true,Bool.and_eq_true,beq_iff_eq,Bool.not_eq_true',beq_eq_false_iff_ne] at h
 obtain ⟨k,n,m,i,d,a,c,s⟩:=e
 simp only [Ew.kind,Ew.sub] at h
 have key:∀ (kk:Int) (a b cc:Int),shW kk=some (a,b,cc)→k=kk→¬ (s.length:Int)=cc→nodeC k i d n m s.length=1:=fun kk a b cc hs hk hne=>by
  subst hk
  refine nodeC_bad hs ?_
  unfold badN
  have:((s.length:Int) == cc)=false:=beq_false_of_ne hne
  simp [this]
 show nodeC k i d n m s.length≠0
 rcases h with (⟨h1,h2⟩ | ⟨h1,h2⟩) | ⟨h1,h2⟩
 ·rw [key 6 1 0 1 rfl h1 (by omega)];decide
 ·rw [key 8 1 0 2 rfl h1 (by omega)];decide
 ·rw [key 13 2 0 3 rfl h1 (by omega)];decide
theorem okW_shp {e:Ew} (h:okW e):anyE badS e=false:=by
 rw [any_pre badS 1 e,List.any_eq_false]
 intro x hx hb
 exact nodeC_bad' hb (h.2.2 x hx)
theorem Free_any (e:Ew) (w:World) (he:EA w e) (hok:okW e):Calls Tryz.prog 105 #[.agg (eca e)] w fun r w'=>∃ (ao:Option Addr) (n cap:Nat),r=.returned (.slice ao n cap)∧(n=0↔freeE [] e=[])∧Below w.heap.size w w':=by
 obtain ⟨W1,hW1⟩:∃ y,w.alloc (.cells (eca e) 63)=y:=⟨_,rfl⟩
 have hb1:Below w.heap.size w W1:=by rw [← hW1];exact ba _ _
 have hR1:W1.heap[w.heap.size]?=some (.cells (eca e) 63 (0,0)):=by rw [← hW1];exact h_new rfl _
 have HE1:=lid (he.lift hb1)
 have HW1:=lid hW1
 have HB1:=lid hb1
 have HR1:=lid hR1
 have HOK:=lid hok
 have CC:=lid (CheckExpr_any e W1 HE1.out)
 clear he hok hW1 hb1 hR1
 go_enter Tryz.func105,Tryz.ntmps105
 go_wp2_with fail
 rw [HW1.out]
 (with_reducible refine (CC.out).mono ?_);rintro e w2 ⟨q,rfl,hq,hb2⟩
 obtain rfl:q=0:=hq.2 HOK.out
 have HB2:=lid (HB1.out.trans (hb2.mono HB1.out.size))
 have HE2:=lid (HE1.out.lift hb2)
 have hR2:w2.heap[w.heap.size]?=_:=(hb2.block _ (row_lt HR1.out)).trans HR1.out
 have c0:w2.cell? ⟨w.heap.size,0,none⟩=some (.int .i64 e.kind):=row_cell hR2 0
 have c1:w2.cell? ⟨w.heap.size,1,none⟩=some (.string e.name):=row_cell hR2 1
 have c2:w2.cell? ⟨w.heap.size,2,none⟩=some (.string e.more):=row_cell hR2 2
 have c3:w2.cell? ⟨w.heap.size,3,none⟩=some (.int .i64 e.int):=row_cell hR2 3
 have c4:w2.cell? ⟨w.heap.size,4,none⟩=some (.int .i64 e.den):=row_cell hR2 4
 have c5:w2.cell? ⟨w.heap.size,5,none⟩=some (.slice e.ao e.sub.length e.cap):=row_cell hR2 5
 have lc:=row_lt hR2
 have hmm:=@run_makeMap Tryz.prog
 obtain ⟨W3,hW3⟩:∃ y,w2.alloc (.map #[] 0)=y:=⟨_,rfl⟩
 have hb3:Below w2.heap.size w2 W3:=by rw [← hW3];exact ba _ _
 have HO3:Hid (OwnSet W3 w2.heap.size 0 []):=lid (by rw [← hW3];exact World.ownsMap_made _ _ _ _)
 have HB3:=lid (HB2.out.trans (hb3.mono HB2.out.size))
 have CF:=lid (addFree_any (cntE e) e [] none 0 0 w2.heap.size 0 [] W3 (Nat.le_refl _) ⟨HE2.out.lift hb3,okW_shp HOK.out,⟨rfl,Sl.nil,Nat.le_refl _,Nat.zero_le _,fun _ h=>(by cases h),fun _=>rfl⟩,HO3.out,by have:=okW_cnt HOK.out;omega,by have:=okW_cnt HOK.out;omega⟩)
 have HW3:=lid hW3
 clear hq hb2 hR2 HW1 CC hb3 hW3
 go_wp2_with fail
 rw [HW3.out]
 (with_reducible refine (CF.out).mono ?_);rintro e w4 ⟨rfl,hO4,hK4⟩
 rw [Nat.zero_add,List.nil_append] at hO4
 have hlen:(freeE [] e).length≤400:=Nat.le_trans (freeE_len [] e) (okW_cnt HOK.out)
 obtain ⟨S,hS⟩:∃ S,freeE [] e=S:=⟨_,rfl⟩
 rw [hS] at hO4 hlen
 have HS:=lid hS
 have h02:w.heap.size≤w2.heap.size:=HB2.out.size
 have hb4:Below w.heap.size w w4:=⟨hK4.os.trans HB3.out.os,hK4.tape.trans HB3.out.tape,hK4.output.trans HB3.out.output,Nat.le_trans HB3.out.size hK4.size,fun k hk=>(hK4.blk k (by have:=HB3.out.size;omega) (by omega)).trans (HB3.out.block k hk)⟩
 have HO4:=lid hO4
 have HB4:=lid hb4
 have h04:=hb4.size
 clear hO4 hK4 hb4 hS HW3 CF HO3 HB3 c0 c1 c2 c3 c4 c5 lc
 obtain ⟨M,hM⟩:∃ M,Maps.size (setD S)=M:=⟨_,rfl⟩
 have hM4:M≤S.length:=by rw [← hM];exact HO4.out.size_le
 have HM:=lid hM
 clear hM
 go_wp2_with (first | (at_len;go_must (refine wpList_len_own _ rfl _ 137 rfl 9 4 Tryz.underlying137 _ w2.heap.size S.length _ rfl HO4.out ?_);rw [HM.out]) | (at_make;go_must (refine wpList_make_new rfl _ _ 42 rfl w4.heap.size 9 (.string ⟨#[]⟩) 1 16 info_str Tryz.underlying42 M rfl rfl (by omega) (by simp only [maxLen];omega) (Nat.le_refl _) ?_)))
 intro w5 hown5 hb5 hlt5
 have HO5:=lid (OwnSet.belowN HO4.out hb5 (Nat.le_refl _))
 have HB5:Hid (Below w.heap.size w w5):=lid (HB4.out.trans (hb5.mono h04))
 have hmb:w2.heap.size<w4.heap.size:=HO4.out.lt
 have HW5:Hid (w5.ownsRow w4.heap.size 9 1 (.slice (some ⟨w4.heap.size,0,none⟩) 0 M) 0 []):=lid hown5
 clear hown5 hb5
 go_wp2_with (at_range;go_must (refine wpList_range_own _ rfl _ 137 rfl 9 4 kstr Tryz.underlying137 _ w2.heap.size S.length (setD S) rfl HO5.out ?_))
 intro w6 hrg6 hg6 hs6
 have HR6:Hid (w6.ranges Tryz.prog 9 (plainElem Tryz.prog 4) w2.heap.size w5.heap.size S.length (setD S) (Maps.has (setD S)) M):=lid (by rw [← HM.out];exact hrg6)
 have HB6:Hid (Below w.heap.size w w6):=lid (HB5.out.grown hg6 HB5.out.size (fun k e=>by cases e))
 have HW6:=lid (HW5.out.kept hg6 (.inr (fun e=>by cases e)))
 have h46:w4.heap.size≤w6.heap.size:=by omega
 clear hrg6 hg6 hs6
 go_wp2_with fail
 go_loopw [4] (fun v4 wr=>∃ (m cnt:Nat) (left:Lit→Bool) (xs:List ByteArray),xs.length=m∧m+cnt≤M∧Hid (wr.ownsRow w4.heap.size 9 1 v4 m (svals xs))∧Hid (∀ g,v4.ownBlock=some g→g≠w2.heap.size∧g≠w5.heap.size)∧Hid (wr.ranges Tryz.prog 9 (plainElem Tryz.prog 4) w2.heap.size w5.heap.size S.length (setD S) left cnt)∧Hid (∀ s,Maps.has (setD S) (keyS s)=true→left (keyS s)=true∨0<m)∧Hid (0<m→S≠[])∧Hid (∀ kl,left kl=true→Maps.has (setD S) kl=true)∧Hid (Below w.heap.size w wr)∧w4.heap.size≤wr.heap.size) (fun _ wr=>wr.rangeLeft w2.heap.size w5.heap.size)
 case atStart=>exact ⟨0,M,_,[],rfl,by omega,HW6,lid (fun g e=>by obtain rfl:w4.heap.size=g:=Option.some.inj e;exact ⟨by omega,by omega⟩),HR6,lid (fun s h=>.inl h),lid (fun h=>by omega),lid (fun _ h=>h),HB6,h46⟩
 case round =>
  clear HR6 HB6 HW6 h46
  obtain ⟨m,cnt,left,xs,hx,hmc,HOW,HNB,HRG,HL,HNE,HLH,HB,hz⟩:=hrel
  obtain ⟨ao4,cap4,rfl⟩:=own_slice HOW.out
  go_wp2_with (at_next;go_must (refine wpList_next_ranges _ rfl _ rfl 9 kstr _ Value.string bvv key_inv' bool_inv' w2.heap.size w5.heap.size S.length (setD S) left cnt rfl HRG.out ?_ ?_))
  ·intro hc0 hl0
   have CS:=lid (SortS_any w4.heap.size m cap4 ao4 xs wr HOW.out (by omega) hz)
   have HE:Hid (m=0↔freeE [] e=[]):=lid (by
    rw [HS.out]
    constructor
    ·intro h0
     refine Classical.byContradiction fun hne=>?_
     obtain ⟨s,hs⟩:=setD_ne_has hne
     rcases HL.out s hs with h | h
     ·rw [hl0] at h;cases h
     ·omega
    ·intro h0
     refine Classical.byContradiction fun hne=>?_
     exact HNE.out (by omega) h0)
   clear hl0
   go_wp2_with fail
   (with_reducible refine (CS.out).mono ?_);rintro e w7 ⟨rfl,hb7⟩
   have HB7:=lid (HB.out.trans (hb7.mono (by omega)))
   clear hb7
   go_wp2_with fail
   go_ret
   exact ⟨ao4,m,cap4,rfl,HE.out,HB7.out⟩
  ·intro x c kl yd yp w8 cnt1 hkey hlx hv4 hat hrg8 hlt hg8 hs8 hen
   obtain ⟨x',ex,ekl⟩:=key_inv hkey
   cases ex
   subst ekl
   have HR8:=lid hrg8
   have HLT:=lid hlt
   have HOW8:Hid (w8.ownsRow w4.heap.size 9 1 (.slice ao4 m cap4) m (svals xs)):=lid (HOW.out.kept hg8 (by
    cases hv:(Value.slice ao4 m cap4).ownBlock with
    | none=>exact .inl rfl
    | some g=>exact .inr (fun e=>(HNB.out g hv).2 (Option.some.inj e))))
   have HB8:Hid (Below w.heap.size w w8):=lid (HB.out.grown hg8 HB.out.size (fun k e=>by cases e;omega))
   have HNE8:Hid (S≠[]):=lid (setD_has_ne (HLH.out _ hlx))
   have HLH8:Hid (∀ kl,(left kl && !kl.sameKey (keyS x))=true→Maps.has (setD S) kl=true):=lid (fun kl h=>by
    rw [Bool.and_eq_true] at h
    exact HLH.out kl h.1)
   have HX:=lid hx
   have hz8:w4.heap.size≤w8.heap.size:=by omega
   have hm1:m+1+cnt1≤M:=by omega
   have hlt2:w8.rangeLeft w2.heap.size w5.heap.size<wr.rangeLeft w2.heap.size w5.heap.size:=by rw [hrg8.left_eq,HRG.out.left_eq];exact hlt
   have HLT2:=lid hlt2
   obtain ⟨sv,hsv⟩:∃ sv,Value.slice ao4 m cap4=sv:=⟨_,rfl⟩
   have HNBS:Hid (∀ g,sv.ownBlock=some g→g≠w2.heap.size∧g≠w5.heap.size):=lid (by rw [← hsv];exact HNB.out)
   have HOWS:Hid (w8.ownsRow w4.heap.size 9 1 sv m (svals xs)):=lid (by rw [← hsv];exact HOW8.out)
   rw [hsv]
   have hm400:m≤400:=by omega
   have HLT3:Hid (cnt1<cnt):=lid hlt
   have HRL:Hid (wr.rangeLeft w2.heap.size w5.heap.size=cnt):=lid HRG.out.left_eq
   clear hkey hlx hv4 hat hrg8 hlt hg8 hs8 hx hlt2 hsv HOW8 HOW HRG
   go_wp2_with (at_builtin;go_must (refine wpList_append_new_at _ rfl _ _ 42 rfl w4.heap.size 9 (.string ⟨#[]⟩) 1 16 info_str Tryz.underlying42 rfl (by decide) sv m (svals xs) HOWS.out rfl rfl rfl (by simp [Value.oneCell']) (by simp only [maxLen];omega) (by omega) hz8 ?_))
   intro v9 w9 own9 hg9 hat9
   have hs8a:(w8.alloc (.cells #[.string x] 9)).heap.size=w8.heap.size+1:=by simp
   have hr8:w5.heap.size<w8.heap.size:=HR8.out.lt
   have HR9:Hid (w9.ranges Tryz.prog 9 (plainElem Tryz.prog 4) w2.heap.size w5.heap.size S.length (setD S) (fun z=>left z && !z.sameKey (keyS x)) cnt1):=lid ((HR8.out.alloc _).kept hg9 (fun e=>(HNBS.out _ e.symm).1 rfl) (fun e=>(HNBS.out _ e.symm).2 rfl))
   have HB9:Hid (Below w.heap.size w w9):=lid ((HB8.out.alloc HB8.out.size _).grown hg9 (by rw [hs8a];have:=HB8.out.size;omega) (fun k e=>by have:=(HOWS.out.lt k e).1;omega))
   have HNB9:Hid (∀ g,v9.ownBlock=some g→g≠w2.heap.size∧g≠w5.heap.size):=lid (fun g e=>by
    rcases hat9 with h | h
    ·exact HNBS.out g (by rw [← h];exact e)
    ·rw [h] at e
     have:=Option.some.inj e
     exact ⟨by omega,by omega⟩)
   have HO9:Hid (w9.ownsRow w4.heap.size 9 1 v9 (m+1) (svals (xs++[x]))):=lid (by simpa [svals] using own9)
   have hz9:w4.heap.size≤w9.heap.size:=by have:=hg9.size;omega
   have HRL9:Hid (w9.rangeLeft w2.heap.size w5.heap.size=cnt1):=lid HR9.out.left_eq
   clear own9 hg9 hat9 hs8a hr8
   go_wp2_with fail
   go_roundw
   case measure=>rw [HRL9.out,HRL.out];exact HLT3.out
   case rel=>exact ⟨m+1,cnt1,_,xs++[x],by simp [HX.out],hm1,HO9,HNB9,HR9,lid (fun s _=>.inr (by omega)),lid (fun _=>HNE8.out),HLH8,HB9,hz9⟩
end Go.Proofs.YtgcceepadlmelaaGreatDoor
namespace Go.Proofs.YtgcceepadlmelaaGreatDoor
set_option maxRecDepth 100000
set_option maxHeartbeats 16000000
open Go.RowKit
def bodyW (label:ByteArray) (e:Ew):Prop:=okW e∧anyE isDot e=false∧freeE [] e=[]∧anyE (isRef label) e=false
def declW (label:ByteArray) (d:Dw):Prop:=(1≤d.id∧d.id≤999999)∧(d.kind=1∨d.kind=2∨d.kind=3)∧namesE d.names=0∧bodyW label d.body
theorem lit_iff {q:Int} {p:Prop} (hq:q≠0) (hp:¬ p):q=0↔p:=⟨fun h=>absurd h hq,fun h=>absurd h hp⟩
theorem checkDecl_any (label:ByteArray) (d:Dw) (w:World) (hd:DwA w d) :
  Calls Tryz.prog 83 #[.string label,.agg (dca d)] w fun r w'=>∃ q:Int,r=.returned (.int .i64 q)∧(q=0↔declW label d)∧Below w.heap.size w w':=by
 obtain ⟨id,kd,pub,na,nms,ncap,doubt,bd⟩:=d
 rw [show dca ⟨id,kd,pub,na,nms,ncap,doubt,bd⟩=#[.int .i64 id,.int .i64 kd,.bool pub,.slice na nms.length ncap,.bool doubt,.int .i64 bd.kind,.string bd.name,.string bd.more,.int .i64 bd.int,.int .i64 bd.den,.slice bd.ao bd.sub.length bd.cap] from rfl]
 obtain ⟨W1,hW1⟩:∃ y,(w.alloc (.cells #[.string label] 9)).alloc (.cells #[.int .i64 id,.int .i64 kd,.bool pub,.slice na nms.length ncap,.bool doubt,.int .i64 bd.kind,.string bd.name,.string bd.more,.int .i64 bd.int,.int .i64 bd.den,.slice bd.ao bd.sub.length bd.cap] 65)=y:=⟨_,rfl⟩
 have hb1:Below w.heap.size w W1:=by rw [← hW1];exact (ba _ _).alloc (by simp) _
 have hR1:W1.heap[w.heap.size+1]?=some (.cells #[.int .i64 id,.int .i64 kd,.bool pub,.slice na nms.length ncap,.bool doubt,.int .i64 bd.kind,.string bd.name,.string bd.more,.int .i64 bd.int,.int .i64 bd.den,.slice bd.ao bd.sub.length bd.cap] 65 (0,0)):=by rw [← hW1];exact h_new (by simp) _
 have hL1:W1.heap[w.heap.size]?=some (.cells #[.string label] 9 (0,0)):=by rw [← hW1];exact (h_old (by simp) _).trans (h_new rfl _)
 have HD1:=lid (hd.below hb1)
 have HW1:=lid hW1
 have HB1:=lid hb1
 have HR1:=lid hR1
 have HL1:=lid hL1
 have CN:=lid (checkNamesB_fn na ncap nms W1 HD1.out.names)
 clear hd hW1 hb1 hR1 hL1
 by_cases hi1:1≤id
 case neg =>
  have dd:decide (id<1)=true:=by simp;omega
  have HV:Hid (¬ declW label ⟨id,kd,pub,na,nms,ncap,doubt,bd⟩):=lid (fun h=>hi1 h.1.1)
  clear hi1
  go_enter Tryz.func83,Tryz.ntmps83
  go_wp2_with fail
  rw [HW1.out]
  go_ret
  exact ⟨_,rfl,lit_iff (by decide) HV.out,HB1.out⟩
 by_cases hi2:id≤999999
 case neg =>
  have dd:decide (id<1)=false:=by simp;omega
  have dd2:decide (999999<id)=true:=by simp;omega
  have HV:Hid (¬ declW label ⟨id,kd,pub,na,nms,ncap,doubt,bd⟩):=lid (fun h=>hi2 h.1.2)
  clear hi1 hi2
  go_enter Tryz.func83,Tryz.ntmps83
  go_wp2_with fail
  rw [HW1.out]
  go_ret
  exact ⟨_,rfl,lit_iff (by decide) HV.out,HB1.out⟩
 have dd:decide (id<1)=false:=by simp;omega
 have dd2:decide (999999<id)=false:=by simp;omega
 have HID:Hid (1≤id∧id≤999999):=lid ⟨hi1,hi2⟩
 clear hi1 hi2
 by_cases hk:kd=1∨kd=2∨kd=3
 case neg =>
  have k1:(kd != 1)=true:=by simp;omega
  have k2:(kd != 2)=true:=by simp;omega
  have k3:(kd != 3)=true:=by simp;omega
  have HV:Hid (¬ declW label ⟨id,kd,pub,na,nms,ncap,doubt,bd⟩):=lid (fun h=>hk h.2.1)
  clear hk
  go_enter Tryz.func83,Tryz.ntmps83
  go_wp2_with fail
  rw [HW1.out]
  go_ret
  exact ⟨_,rfl,lit_iff (by decide) HV.out,HB1.out⟩
 have HKD:=lid hk
 obtain ⟨q1,hq1⟩:∃ q,namesE nms=q:=⟨_,rfl⟩
 have HQ1:=lid hq1
 rw [hq1] at CN
 clear hq1
 obtain ⟨P,hP⟩:∃ P,declW label ⟨id,kd,pub,na,nms,ncap,doubt,bd⟩=P:=⟨_,rfl⟩
 have HPI:Hid (P→namesE nms=0∧bodyW label bd):=lid (fun h=>by rw [← hP] at h;exact h.2.2)
 have HPO:Hid (namesE nms=0→bodyW label bd→P):=lid (fun h1 h2=>by rw [← hP];exact ⟨HID.out,HKD.out,h1,h2⟩)
 have HP:=lid hP
 clear hP
 rcases hk with rfl | rfl | rfl
 all_goals
  go_enter Tryz.func83,Tryz.ntmps83
  go_wp2_with fail
  rw [HW1.out]
  (with_reducible refine (CN.out).mono ?_);rintro e w2 ⟨rfl,hb2⟩
  have HB2:=lid (HB1.out.trans (hb2.mono HB1.out.size))
  have HR2:=lid ((hb2.block _ (row_lt HR1.out)).trans HR1.out)
  have HL2:=lid ((hb2.block _ (row_lt HL1.out)).trans HL1.out)
  have HD2:=lid (HD1.out.below hb2)
  clear hb2
  cases u1:(q1 == 0) with
  | false =>
   have HV:Hid (¬ P):=lid (fun h=>by
    have h1:=(HPI.out h).1
    rw [HQ1.out] at h1
    rw [h1] at u1
    cases u1)
   have hu1:q1≠0:=by simpa using u1
   have HU1:=lid hu1
   clear hu1
   go_wp2_with fail
   go_ret
   exact ⟨q1,rfl,by rw [HP.out];exact lit_iff HU1.out HV.out,HB2.out⟩
  | true =>
   obtain rfl:q1=0:=by simpa using u1
   clear u1
   have x5:w2.cell? ⟨w.heap.size+1,5,none⟩=some (.int .i64 bd.kind):=row_cell HR2.out 5
   have x6:w2.cell? ⟨w.heap.size+1,6,none⟩=some (.string bd.name):=row_cell HR2.out 6
   have x7:w2.cell? ⟨w.heap.size+1,7,none⟩=some (.string bd.more):=row_cell HR2.out 7
   have x8:w2.cell? ⟨w.heap.size+1,8,none⟩=some (.int .i64 bd.int):=row_cell HR2.out 8
   have x9:w2.cell? ⟨w.heap.size+1,9,none⟩=some (.int .i64 bd.den):=row_cell HR2.out 9
   have x10:w2.cell? ⟨w.heap.size+1,10,none⟩=some (.slice bd.ao bd.sub.length bd.cap):=row_cell HR2.out 10
   have lx:=row_lt HR2.out
   have CE:=lid (CheckExpr_any bd w2 HD2.out.body)
   go_wp2_with fail
   (with_reducible refine (CE.out).mono ?_);rintro e w3 ⟨q2,rfl,hq2,hb3⟩
   have HB3:=lid (HB2.out.trans (hb3.mono HB2.out.size))
   have HR3:=lid ((hb3.block _ (row_lt HR2.out)).trans HR2.out)
   have HL3:=lid ((hb3.block _ (row_lt HL2.out)).trans HL2.out)
   have HD3:=lid (HD2.out.below hb3)
   have HQ2:=lid hq2
   clear hb3 hq2 CE x5 x6 x7 x8 x9 x10 lx
   cases u2:(q2 == 0) with
   | false =>
    have hu2:q2≠0:=by simpa using u2
    have HV:Hid (¬ P):=lid (fun h=>hu2 (HQ2.out.2 (HPI.out h).2.1))
    have HU2:=lid hu2
    clear hu2
    go_wp2_with fail
    go_ret
    exact ⟨q2,rfl,by rw [HP.out];exact lit_iff HU2.out HV.out,HB3.out⟩
   | true =>
    obtain rfl:q2=0:=by simpa using u2
    have HOK:=lid (HQ2.out.1 rfl)
    clear u2
    have x5:w3.cell? ⟨w.heap.size+1,5,none⟩=some (.int .i64 bd.kind):=row_cell HR3.out 5
    have x6:w3.cell? ⟨w.heap.size+1,6,none⟩=some (.string bd.name):=row_cell HR3.out 6
    have x7:w3.cell? ⟨w.heap.size+1,7,none⟩=some (.string bd.more):=row_cell HR3.out 7
    have x8:w3.cell? ⟨w.heap.size+1,8,none⟩=some (.int .i64 bd.int):=row_cell HR3.out 8
    have x9:w3.cell? ⟨w.heap.size+1,9,none⟩=some (.int .i64 bd.den):=row_cell HR3.out 9
    have x10:w3.cell? ⟨w.heap.size+1,10,none⟩=some (.slice bd.ao bd.sub.length bd.cap):=row_cell HR3.out 10
    have lx:=row_lt HR3.out
    have CD:=lid (containsD_fn bd w3 HD3.out.body (by have:=okW_cnt HOK.out;omega))
    go_wp2_with fail
    (with_reducible refine (CD.out).mono ?_);rintro e w4 ⟨rfl,hb4⟩
    have HB4:=lid (HB3.out.trans (hb4.mono HB3.out.size))
    have HR4:=lid ((hb4.block _ (row_lt HR3.out)).trans HR3.out)
    have HL4:=lid ((hb4.block _ (row_lt HL3.out)).trans HL3.out)
    have HD4:=lid (HD3.out.below hb4)
    clear hb4 CD x5 x6 x7 x8 x9 x10 lx
    cases u3:anyE isDot bd with
    | true =>
     have HU3:=lid u3
     have HV:Hid (¬ P):=lid (fun h0=>by have h:=HPI.out h0;have h1:=h.2.2.1;exact absurd (HU3.out.symm.trans h1) (by decide))
     go_wp2_with fail
     go_ret
     exact ⟨_,rfl,by rw [HP.out];exact lit_iff (by decide) HV.out,HB4.out⟩
    | false =>
     have HU3:=lid u3
     have x5:w4.cell? ⟨w.heap.size+1,5,none⟩=some (.int .i64 bd.kind):=row_cell HR4.out 5
     have x6:w4.cell? ⟨w.heap.size+1,6,none⟩=some (.string bd.name):=row_cell HR4.out 6
     have x7:w4.cell? ⟨w.heap.size+1,7,none⟩=some (.string bd.more):=row_cell HR4.out 7
     have x8:w4.cell? ⟨w.heap.size+1,8,none⟩=some (.int .i64 bd.int):=row_cell HR4.out 8
     have x9:w4.cell? ⟨w.heap.size+1,9,none⟩=some (.int .i64 bd.den):=row_cell HR4.out 9
     have x10:w4.cell? ⟨w.heap.size+1,10,none⟩=some (.slice bd.ao bd.sub.length bd.cap):=row_cell HR4.out 10
     have lx:=row_lt HR4.out
     have CF:=lid (Free_any bd w4 HD4.out.body HOK.out)
     go_wp2_with fail
     (with_reducible refine (CF.out).mono ?_);rintro e w5 ⟨fao,fn,fcap,rfl,hfn,hb5⟩
     have HB5:=lid (HB4.out.trans (hb5.mono HB4.out.size))
     have HR5:=lid ((hb5.block _ (row_lt HR4.out)).trans HR4.out)
     have HL5:=lid ((hb5.block _ (row_lt HL4.out)).trans HL4.out)
     have HD5:=lid (HD4.out.below hb5)
     have HFN:=lid hfn
     clear hfn hb5 CF u3 x5 x6 x7 x8 x9 x10 lx
     by_cases hf0:fn=0
     case neg =>
      have df:decide ((0:Int)<(fn:Int))=true:=by simp;omega
      have HV:Hid (¬ P):=lid (fun h0=>by have h:=HPI.out h0;exact hf0 (HFN.out.2 h.2.2.2.1))
      go_wp2_with fail
      go_ret
      exact ⟨_,rfl,by rw [HP.out];exact lit_iff (by decide) HV.out,HB5.out⟩
     subst hf0
     have HFR:=lid (HFN.out.1 rfl)
     have x5:w5.cell? ⟨w.heap.size+1,5,none⟩=some (.int .i64 bd.kind):=row_cell HR5.out 5
     have x6:w5.cell? ⟨w.heap.size+1,6,none⟩=some (.string bd.name):=row_cell HR5.out 6
     have x7:w5.cell? ⟨w.heap.size+1,7,none⟩=some (.string bd.more):=row_cell HR5.out 7
     have x8:w5.cell? ⟨w.heap.size+1,8,none⟩=some (.int .i64 bd.int):=row_cell HR5.out 8
     have x9:w5.cell? ⟨w.heap.size+1,9,none⟩=some (.int .i64 bd.den):=row_cell HR5.out 9
     have x10:w5.cell? ⟨w.heap.size+1,10,none⟩=some (.slice bd.ao bd.sub.length bd.cap):=row_cell HR5.out 10
     have lx:=row_lt HR5.out
     have ll:=row_lt HL5.out
     have CR:=lid (containsR_fn label w.heap.size bd w5 HD5.out.body (by have:=okW_cnt HOK.out;omega) HL5.out)
     go_wp2_with fail
     (with_reducible refine (CR.out).mono ?_);rintro e w6 ⟨rfl,hb6⟩
     have HB6:=lid (HB5.out.trans (hb6.mono HB5.out.size))
     have HR6:=lid ((hb6.block _ (row_lt HR5.out)).trans HR5.out)
     have HL6:=lid ((hb6.block _ (row_lt HL5.out)).trans HL5.out)
     have HD6:=lid (HD5.out.below hb6)
     clear hb6 CR ll x5 x6 x7 x8 x9 x10 lx
     cases u4:anyE (isRef label) bd with
     | true =>
      have HU4:=lid u4
      have HV:Hid (¬ P):=lid (fun h0=>by have h:=HPI.out h0;have h1:=h.2.2.2.2;exact absurd (HU4.out.symm.trans h1) (by decide))
      go_wp2_with fail
      go_ret
      exact ⟨_,rfl,by rw [HP.out];exact lit_iff (by decide) HV.out,HB6.out⟩
     | false =>
      have HV:Hid P:=lid (HPO.out HQ1.out ⟨HOK.out,HU3.out,HFR.out,u4⟩)
      clear u4
      go_wp2_with fail
      go_ret
      exact ⟨_,rfl,by rw [HP.out];exact ⟨fun _=>HV.out,fun _=>rfl⟩,HB6.out⟩
end Go.Proofs.YtgcceepadlmelaaGreatDoor
