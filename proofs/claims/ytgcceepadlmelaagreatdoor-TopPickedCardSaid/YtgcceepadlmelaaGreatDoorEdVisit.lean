import Derived.Test.YtgcceepadlmelaaGreatDoorQAD
import Derived.Test.YtgcceepadlmelaaGreatDoorQAC
import Derived.Test.YtgcceepadlmelaaGreatDoorChecked
import Derived.Deep.LoopGhost
import Derived.Laws.EntriesVeiled
namespace Go.Proofs.YtgcceepadlmelaaGreatDoor
set_option maxRecDepth 100000
set_option maxHeartbeats 4000000
open Go.RowKit
mutual
def anyE (P:Ew→Bool):Ew→Bool | .mk k n m i d a c s=>P (.mk k n m i d a c s) || anyL P s
def anyL (P:Ew→Bool):List Ew→Bool | []=>false | e::l=>anyE P e || anyL P l
end
mutual
def cntE:Ew→Nat | .mk _ _ _ _ _ _ _ s=>cntL s+1
def cntL:List Ew→Nat | []=>0 | e::l=>cntE e+cntL l
end
theorem anyE_eq (P:Ew→Bool) (e:Ew):anyE P e=(P e || anyL P e.sub):=by cases e;simp only [anyE];rfl
theorem cntE_eq (e:Ew):cntE e=cntL e.sub+1:=by cases e;simp only [cntE];rfl
theorem anyL_append (P:Ew→Bool):∀ l m:List Ew,anyL P (l++m)=(anyL P l || anyL P m)
 | [],m=>by simp [anyL]
 | e::l,m=>by simp [anyL,anyL_append P l m,Bool.or_assoc]
theorem cntL_append:∀ l m:List Ew,cntL (l++m)=cntL l+cntL m
 | [],m=>by simp [cntL]
 | e::l,m=>by simp [cntL,cntL_append l m,Nat.add_assoc]
theorem cntL_len:∀ l:List Ew,l.length≤cntL l
 | []=>Nat.zero_le _
 | e::l=>by
  have:=cntL_len l
  rw [cntL,cntE_eq,List.length_cons]
  omega
theorem ecs_append (l m:List Ew):ecs (l++m)=ecs l++ecs m:=by simp [ecs]
theorem ecs_one:∀ (l:List Ew),∀ u∈ecs l,u.oneCell'=true
 | [],_,h=>by cases h
 | e::l,u,h=>by
  rw [show ecs (e::l)=ece e++ecs l from rfl] at h
  rcases List.mem_append.1 h with h | h
  ·simp only [List.mem_cons,List.not_mem_nil,or_false] at h
   rcases h with rfl | rfl | rfl | rfl | rfl | rfl <;> rfl
  ·exact ecs_one l u h
theorem info_ex:(Tryz.prog.info? 63).map (fun i=>(i.zero,i.size,i.bytes))=some (some (.agg #[.int .i64 0,.string ⟨#[]⟩,.string ⟨#[]⟩,.int .i64 0,.int .i64 0,.slice none 0 0]),6,80):=by kernel_rfl
structure Flg (f:Nat) (w w':World) (b:Bool):Prop where
 os:w'.os=w.os
 tape:w'.tape=w.tape
 output:w'.output=w.output
 size:w.heap.size≤w'.heap.size
 blk:∀ k,k<w.heap.size→k≠f→w'.heap[k]?=w.heap[k]?
 cell:w'.heap[f]?=some (.cells #[.bool b] 4 (0,0))
theorem Flg.trans {f:Nat} {w w' w'':World} {b c:Bool} (h:Flg f w w' b) (k:Flg f w' w'' c):Flg f w w'' c:=⟨k.os.trans h.os,k.tape.trans h.tape,k.output.trans h.output,Nat.le_trans h.size k.size,fun i hi hf=>(k.blk i (by have:=h.size;omega) hf).trans (h.blk i hi hf),k.cell⟩
theorem Flg.below {f:Nat} {w w' w'':World} {b:Bool} {n:Nat} (h:Flg f w w' b) (k:Below n w' w'') (hn:w.heap.size≤n) (hf:f<n):Flg f w w'' b:=⟨k.os.trans h.os,k.tape.trans h.tape,k.output.trans h.output,Nat.le_trans h.size k.size,fun i hi hne=>(k.block i (by omega)).trans (h.blk i hi hne),(k.block f hf).trans h.cell⟩
def isDot (e:Ew):Bool:=e.kind == 4
def isRef (label:ByteArray) (e:Ew):Bool:=(e.kind == 5) && (e.name.toList == label.toList)
theorem isDot_fn (e:Ew) (w:World):Calls Tryz.prog 104 #[.agg (eca e)] w fun r w'=>r=.returned (.bool (isDot e))∧Below w.heap.size w w':=by
 have hb:=ba w (.cells (eca e) 63)
 have HB:=lid hb
 clear hb
 go_enter Tryz.func104,Tryz.ntmps104
 go_wp2_with fail
 go_ret
 exact ⟨rfl,HB.out⟩
theorem isRef_fn (label:ByteArray) (lb:Nat) (e:Ew) (w:World) (hl:w.heap[lb]?=some (.cells #[.string label] 9 (0,0))):Calls Tryz.prog 106 #[.agg (eca e),.pointer (some ⟨lb,0,none⟩)] w fun r w'=>r=.returned (.bool (isRef label e))∧Below w.heap.size w w':=by
 have HB:=lid (ba w (.cells (eca e) 63))
 have hlt:=row_lt hl
 have c0:w.cell? ⟨lb,0,none⟩=some (.string label):=row_cell hl 0
 clear hl
 cases h5:(e.kind == 5) with
 | false =>
  have HV:Hid (isRef label e=false):=lid (by unfold isRef;rw [h5];rfl)
  go_enter Tryz.func106,Tryz.ntmps106
  go_wp2_with fail
  go_ret
  exact ⟨retb HV.out.symm,HB.out⟩
 | true =>
  obtain ⟨b,hbb⟩:∃ b,(e.name.toList == label.toList)=b:=⟨_,rfl⟩
  have HV:Hid (isRef label e=b):=lid (by unfold isRef;rw [h5,hbb];rfl)
  go_enter Tryz.func106,Tryz.ntmps106
  go_wp2_with fail
  go_ret
  exact ⟨retb HV.out.symm,HB.out⟩
theorem contains1D_fn (e:Ew) (bx fb:Nat) (w:World) (hx:w.heap[bx]?=some (.cells #[.func (.func 104) #[] #[]] 106 (0,0))) (hf:∃ b,w.heap[fb]?=some (.cells #[.bool b] 4 (0,0))) :
  Calls Tryz.prog 120 #[.agg (eca e),.pointer (some ⟨bx,0,none⟩),.pointer (some ⟨fb,0,none⟩)] w fun r w'=>r=.returned (.bool (!isDot e))∧Flg fb w w' (isDot e):=by
 obtain ⟨b0,hf⟩:=hf
 have lx:=row_lt hx
 have lf:=row_lt hf
 obtain ⟨W1,hW1⟩:∃ y,w.alloc (.cells (eca e) 63)=y:=⟨_,rfl⟩
 have hb1:Below w.heap.size w W1:=by rw [← hW1];exact ba _ _
 have cx:w.cell? ⟨bx,0,none⟩=some (.func (.func 104) #[] #[]):=row_cell hx 0
 have hF1:=(hb1.block _ lf).trans hf
 have HW1:=lid hW1
 have HB1:=lid hb1
 have HF1:=lid hF1
 have CP:=lid (isDot_fn e W1)
 clear hW1 hb1 hx hf hF1
 go_enter Tryz.func120,Tryz.ntmps120
 go_wp2_with fail
 rw [HW1.out]
 (with_reducible refine (CP.out).mono ?_);rintro e w2 ⟨rfl,hb2⟩
 have lf1:=row_lt HF1.out
 have hF2:=(hb2.block _ lf1).trans HF1.out
 have f0:w2.cell? ⟨fb,0,none⟩=some (.bool b0):=row_cell hF2 0
 have z0:w2.frozen? ⟨fb,0,none⟩=false:=row_fz hF2 0
 have l0:=row_lt hF2
 obtain ⟨b,hb⟩:∃ b,isDot e=b:=⟨_,rfl⟩
 have HP:=lid hb
 have HF2:=lid hF2
 have HG:Hid (Flg fb w (w2.setCell ⟨fb,0,none⟩ (.bool b)) b):=lid ⟨hb2.os.trans HB1.out.os,hb2.tape.trans HB1.out.tape,hb2.output.trans HB1.out.output,by
   show w.heap.size≤(w2.setCell _ _).heap.size
   rw [World.size_setCell]
   exact Nat.le_trans HB1.out.size hb2.size,fun k hk hne=>by
   refine (row_other rfl hne).trans ((hb2.block k (by have:=HB1.out.size;omega)).trans (HB1.out.block k hk)),by
   have:=row_set hF2 0 (.bool b);simpa using this⟩
 rw [hb]
 clear cx hF2 hb2 hb
 go_wp2_with fail
 go_ret
 exact ⟨by rw [HP.out];rfl,by rw [HP.out];exact HG.out⟩
theorem visitD_fn (e:Ew) (bx fb:Nat) (w0 w:World) (he:EA w0 e) (hk:KL w0 w) (h0:w0.heap.size≤fb) (hbf:bx≠fb) (hcnt:cntE e≤1000) (hx:w.heap[bx]?=some (.cells #[.func (.func 104) #[] #[]] 106 (0,0))) (hf:w.heap[fb]?=some (.cells #[.bool false] 4 (0,0))) :
  Calls Tryz.prog 119 #[.agg (eca e),.func (.func 120) #[] #[.pointer (some ⟨bx,0,none⟩),.pointer (some ⟨fb,0,none⟩)]] w fun r w'=>r=.returned (.tuple #[])∧Flg fb w w' (anyE isDot e):=by
 have lx:=row_lt hx
 have lf:=row_lt hf
 have HE:=lid he
 have HKL:=lid hk
 have HF:=lid hf
 have HX:=lid hx
 have hzw:w0.heap.size≤w.heap.size:=hk.size
 clear he hk hf hx
 go_enter Tryz.func119,Tryz.ntmps119
 go_wp2_with fail
 obtain ⟨W1,hW1⟩:∃ y,(w.alloc (Obj.cells (eca e) 63)).alloc (Obj.cells #[.int .i64 e.kind,.string e.name,.string e.more,.int .i64 e.int,.int .i64 e.den,.slice e.ao e.sub.length e.cap] 63)=y:=⟨_,rfl⟩
 have hb1:Below w.heap.size w W1:=by rw [← hW1];exact (ba _ _).alloc (by simp) _
 have HO1:Hid (W1.ownsRow w.heap.size 63 6 (.slice (some ⟨w.heap.size+1,0,none⟩) 1 1) [e].length (ecs [e])):=lid (by
  rw [← hW1]
  have:=World.ownsRow_lit (e:=63) (base:=w.heap.size) (size:=6) (w.alloc (Obj.cells (eca e) 63)) #[.int .i64 e.kind,.string e.name,.string e.more,.int .i64 e.int,.int .i64 e.den,.slice e.ao e.sub.length e.cap] 1 (by simp) (by simp [maxLen]) rfl
  rw [show (w.alloc (Obj.cells (eca e) 63)).heap.size=w.heap.size+1 by simp] at this
  simpa [ecs] using this)
 have HG1:Hid (Flg fb w W1 false):=lid ⟨hb1.os,hb1.tape,hb1.output,hb1.size,fun k hk _=>hb1.block k hk,(hb1.block _ lf).trans HF.out⟩
 rw [hW1]
 clear hW1 hb1 HF
 go_loopg [4] (cntE e) (fun N u4 wr=>∃ S:List Ew,N=cntL S∧cntL S≤1000∧Hid (wr.ownsRow w.heap.size 63 6 u4 S.length (ecs S))∧Hid (Flg fb w wr false)∧Hid (∀ x∈S,EA w0 x)∧Hid (anyL isDot S=anyE isDot e))
 case atStart=>exact ⟨[e],by simp [cntL],by simp [cntL];exact hcnt,HO1,HG1,lid (fun x hx=>by rw [List.mem_singleton.1 hx];exact HE.out),lid (by simp [anyL])⟩
 case round =>
  clear HO1 HG1 HE
  obtain ⟨S,hN,hS,HO,HG,HS,HA⟩:=hrel
  rcases List.eq_nil_or_concat S with rfl | ⟨S0,t,rfl⟩
  ·obtain ⟨a9,c9,rfl,-,-,-⟩:=Sl.of_own HO.out
   clear HO HS
   go_wp2_with fail
   exact bodyPost_end (results_none rfl _ _ _) rfl ⟨rfl,by rw [← HA.out];exact HG.out⟩
  ·rw [List.concat_eq_append] at HO HS HA hN hS
   obtain ⟨n,hn⟩:∃ n,S0.length=n:=⟨_,rfl⟩
   have hlen:(S0++[t]).length=n+1:=by simp [hn]
   rw [hlen,ecs_append] at HO
   obtain ⟨g,cap,rfl⟩:=ownsRow_succ HO.out
   obtain ⟨cur,hgb,hgg,hnc,hcm,-,-⟩:=own_formK HO.out
   have hl6:(ecs S0).length=n*6:=by rw [ecs_length,hn]
   have hcell:∀ j (hj:j<6),wr.cell? ⟨g,n*6+j,none⟩=some ((ece t)[j]'(by simpa using hj)):=fun j hj=>own_cellK HO.out _ (by rw [List.getElem?_append_right (by omega),hl6,show n*6+j-n*6=j by omega];simp only [ecs,List.flatMap_cons,List.flatMap_nil,List.append_nil];exact List.getElem?_eq_getElem _)
   have y0:wr.cell? ⟨g,n*6,none⟩=some (.int .i64 t.kind):=hcell 0 (by omega)
   have y1:wr.cell? ⟨g,n*6+1,none⟩=some (.string t.name):=hcell 1 (by omega)
   have y2:wr.cell? ⟨g,n*6+2,none⟩=some (.string t.more):=hcell 2 (by omega)
   have y3:wr.cell? ⟨g,n*6+3,none⟩=some (.int .i64 t.int):=hcell 3 (by omega)
   have y4:wr.cell? ⟨g,n*6+4,none⟩=some (.int .i64 t.den):=hcell 4 (by omega)
   have y5:wr.cell? ⟨g,n*6+5,none⟩=some (.slice t.ao t.sub.length t.cap):=hcell 5 (by omega)
   have lg:=row_lt hgg
   have hncm:(n:Int)+1≤9223372036854775807:=by simp only [maxLen] at hcm;omega
   have hcm2:cap≤9223372036854775807:=hcm
   have HN:=lid hn
   have HT:=lid (HS.out t (by simp))
   have HS0:Hid (∀ x∈S0,EA w0 x):=lid (fun x hx=>HS.out x (List.mem_append.2 (.inl hx)))
   have hcn:cntL (S0++[t])=cntL S0+(cntL t.sub+1):=by rw [cntL_append];simp [cntL,cntE_eq]
   have hza:=HG.out.size
   clear hcell hgg hlen HS hl6
   obtain ⟨W2,hW2⟩:∃ y,wr.alloc (Obj.cells #[.int .i64 t.kind,.string t.name,.string t.more,.int .i64 t.int,.int .i64 t.den,.slice t.ao t.sub.length t.cap] 63)=y:=⟨_,rfl⟩
   have hb2:Below wr.heap.size wr W2:=by rw [← hW2];exact ba _ _
   have HT2:Hid (W2.heap[wr.heap.size]?=some (.cells #[.int .i64 t.kind,.string t.name,.string t.more,.int .i64 t.int,.int .i64 t.den,.slice t.ao t.sub.length t.cap] 63 (0,0))):=lid (by rw [← hW2];exact h_new rfl _)
   have lx2:bx<wr.heap.size:=by omega
   have HX2:Hid (W2.heap[bx]?=some (.cells #[.func (.func 104) #[] #[]] 106 (0,0))):=lid ((hb2.block _ lx2).trans ((HG.out.blk bx lx hbf).trans HX.out))
   have HG2:Hid (Flg fb w W2 false):=lid (HG.out.below hb2 (by omega) (by omega))
   have HW2:=lid hW2
   have HB2:=lid hb2
   have HCN:=lid hcn
   have HNN:=lid hN
   have HZA:=lid hza
   have HSS:=lid hS
   clear hcn hN hza hS
   have CC:=lid (contains1D_fn t bx fb W2 HX2.out ⟨false,HG2.out.cell⟩)
   clear hW2 hb2
   go_wp2_with fail
   rw [HW2.out]
   (with_reducible refine (CC.out).mono ?_);rintro e w3 ⟨rfl,hg3⟩
   have HG3:=lid (HG2.out.trans hg3)
   cases hp:isDot t with
   | true =>
    rw [hp] at HG3
    have HV:Hid (anyE isDot e=true):=lid (by rw [← HA.out,anyL_append];simp [anyL,anyE_eq,hp])
    clear y0 y1 y2 y3 y4 y5 hg3
    go_wp2_with fail
    exact bodyPost_ret (results_none rfl _ _ _) rfl ⟨rfl,by rw [HV.out];exact HG3.out⟩
   | false =>
    rw [hp] at HG3
    have HA2:Hid (anyL isDot (S0++t.sub)=anyE isDot e):=lid (by rw [← HA.out,anyL_append,anyL_append];simp [anyL,anyE_eq,hp])
    have hgf:g≠fb:=by omega
    have hg2:W2.heap[g]?=wr.heap[g]?:=HB2.out.block g lg
    have lg2:g<W2.heap.size:=Nat.lt_of_lt_of_le lg HB2.out.size
    have HO3:Hid (w3.ownsRow w.heap.size 63 6 (.slice (some ⟨g,0,none⟩) n cap) n (ecs S0)):=lid (own_keep (own_popK HO.out (by simp [ecs])) (fun k e=>by cases e;exact (hg3.blk g lg2 hgf).trans hg2))
    have hbw:wr.heap.size<W2.heap.size:=row_lt HT2.out
    have hT3:w3.heap[wr.heap.size]?=_:=(hg3.blk wr.heap.size hbw (by omega)).trans HT2.out
    have t5:w3.cell? ⟨wr.heap.size,5,none⟩=some (.slice t.ao t.sub.length t.cap):=row_cell hT3 5
    have lt3:=row_lt hT3
    have HK3:Hid (KL w0 w3):=lid ⟨by have:=HKL.out.size;have:=HG3.out.size;omega,fun k cs ty f hk=>(HG3.out.blk k (by have:=(row_lt hk);omega) (by have:=(row_lt hk);omega)).trans (HKL.out.cells k cs ty f hk)⟩
    have HSL:Hid (Sl w3 6 t.ao t.sub.length (ecs t.sub)):=lid ((HT.out.kl HK3.out).sl)
    have HNIL:=lid HT.out.nil
    have HHN:=HN.out
    have hsz:n+(cntL t.sub+1)≤1000:=by
     have h1:=HSS.out
     have h2:=cntL_len S0
     rw [HCN.out] at h1
     omega
    have htl:t.sub.length≤cntL t.sub:=cntL_len _
    obtain ⟨sv,hsv⟩:∃ sv,Value.slice (some ⟨g,0,none⟩) n cap=sv:=⟨_,rfl⟩
    have HOS:Hid (w3.ownsRow w.heap.size 63 6 sv n (ecs S0)):=lid (by rw [← hsv];exact HO3.out)
    have hz3:w.heap.size≤w3.heap.size:=HG3.out.size
    have HSZ:=lid hsz
    have HTL:=lid htl
    rw [hsv]
    clear hsv hT3 hbw y0 y1 y2 y3 y4 y5 hg3 hg2 lg2 HO3 hsz htl HHN hn
    go_wp2_with (at_builtin;go_must (refine wpList_append_slg rfl _ _ 61 rfl w.heap.size 63 (.agg #[.int .i64 0,.string ⟨#[]⟩,.string ⟨#[]⟩,.int .i64 0,.int .i64 0,.slice none 0 0]) 6 80 info_ex Tryz.underlying61 rfl (by decide) sv n (ecs S0) HOS.out rfl t.ao t.sub.length t.cap (ecs t.sub) rfl HSL.out HNIL.out (ecs_one _) (by have:=HSZ.out;have:=HTL.out;simp only [maxLen];omega) (by have:=HSZ.out;have:=HTL.out;omega) hz3 ?_))
    intro v9 w9 own9 hb9 hg9
    have HO9:Hid (w9.ownsRow w.heap.size 63 6 v9 (S0++t.sub).length (ecs (S0++t.sub))):=lid (by rw [List.length_append,HN.out,ecs_append];exact own9)
    have HG9:Hid (Flg fb w w9 false):=lid (HG3.out.below hb9 (Nat.le_refl _) lf)
    have HS9:Hid (∀ x∈S0++t.sub,EA w0 x):=lid (fun x hx=>(List.mem_append.1 hx).elim (HS0.out x) (HT.out.all x))
    have hcl:cntL (S0++t.sub)+1=gk:=by rw [HNN.out,HCN.out,cntL_append];omega
    have HCL:=lid hcl
    have HSS2:Hid (cntL (S0++t.sub)≤1000):=lid (by have:=HSS.out;rw [← HNN.out] at this;omega)
    clear hcl t5 lt3 own9 hb9 hg9
    go_wp2_with fail
    go_roundg (cntL (S0++t.sub))
    case measure=>have:=HCL.out;omega
    case rel=>exact ⟨S0++t.sub,rfl,HSS2.out,HO9,HG9,HS9,HA2⟩
theorem containsD_fn (e:Ew) (w:World) (he:EA w e) (hcnt:cntE e≤1000) :
  Calls Tryz.prog 103 #[.agg (eca e),.func (.func 104) #[] #[]] w fun r w'=>r=.returned (.bool (anyE isDot e))∧Below w.heap.size w w':=by
 have HE:=lid he
 clear he
 go_enter Tryz.func103,Tryz.ntmps103
 go_wp2_with fail
 obtain ⟨W1,hW1⟩:∃ y,((w.alloc (Obj.cells (eca e) 63)).alloc (Obj.cells #[.func (.func 104) #[] #[]] 106)).alloc (Obj.cells #[.bool false] 4)=y:=⟨_,rfl⟩
 have hb1:Below w.heap.size w W1:=by rw [← hW1];exact ((ba _ _).alloc (by simp) _).alloc (by simp;omega) _
 have hx1:W1.heap[w.heap.size+1]?=some (.cells #[.func (.func 104) #[] #[]] 106 (0,0)):=by rw [← hW1];exact (h_old (by simp) _).trans (h_new (by simp) _)
 have hf1:W1.heap[w.heap.size+1+1]?=some (.cells #[.bool false] 4 (0,0)):=by rw [← hW1];exact h_new (by simp) _
 have CV:=lid (visitD_fn e (w.heap.size+1) (w.heap.size+1+1) w W1 HE.out (KL.of_below hb1) (by omega) (by omega) hcnt hx1 hf1)
 have HB1:=lid hb1
 rw [hW1]
 clear hW1 hb1 hx1 hf1
 (with_reducible refine (CV.out).mono ?_);rintro e w2 ⟨rfl,hg⟩
 have c2:w2.cell? ⟨w.heap.size+1+1,0,none⟩=some (.bool (anyE isDot e)):=row_cell hg.cell 0
 have l2:=row_lt hg.cell
 have HB2:Hid (Below w.heap.size w w2):=lid (HB1.out.trans ⟨hg.os,hg.tape,hg.output,hg.size,fun k hk=>hg.blk k (by have:=HB1.out.size;omega) (by omega)⟩)
 clear hg
 go_wp2_with fail
 go_ret
 exact ⟨rfl,HB2.out⟩
theorem contains1R_fn (label:ByteArray) (lb:Nat) (e:Ew) (bx fb:Nat) (w:World) (hx:w.heap[bx]?=some (.cells #[.func (.func 106) #[] #[.pointer (some ⟨lb,0,none⟩)]] 106 (0,0))) (hf:∃ b,w.heap[fb]?=some (.cells #[.bool b] 4 (0,0))) (hl:w.heap[lb]?=some (.cells #[.string label] 9 (0,0))) :
  Calls Tryz.prog 120 #[.agg (eca e),.pointer (some ⟨bx,0,none⟩),.pointer (some ⟨fb,0,none⟩)] w fun r w'=>r=.returned (.bool (!(isRef label) e))∧Flg fb w w' ((isRef label) e):=by
 obtain ⟨b0,hf⟩:=hf
 have lx:=row_lt hx
 have lf:=row_lt hf
 obtain ⟨W1,hW1⟩:∃ y,w.alloc (.cells (eca e) 63)=y:=⟨_,rfl⟩
 have hb1:Below w.heap.size w W1:=by rw [← hW1];exact ba _ _
 have cx:w.cell? ⟨bx,0,none⟩=some (.func (.func 106) #[] #[.pointer (some ⟨lb,0,none⟩)]):=row_cell hx 0
 have hF1:=(hb1.block _ lf).trans hf
 have HW1:=lid hW1
 have HB1:=lid hb1
 have HF1:=lid hF1
 have CP:=lid (isRef_fn label lb e W1 ((hb1.block _ (row_lt hl)).trans hl))
 clear hW1 hb1 hx hf hF1 hl
 go_enter Tryz.func120,Tryz.ntmps120
 go_wp2_with fail
 rw [HW1.out]
 (with_reducible refine (CP.out).mono ?_);rintro e w2 ⟨rfl,hb2⟩
 have lf1:=row_lt HF1.out
 have hF2:=(hb2.block _ lf1).trans HF1.out
 have f0:w2.cell? ⟨fb,0,none⟩=some (.bool b0):=row_cell hF2 0
 have z0:w2.frozen? ⟨fb,0,none⟩=false:=row_fz hF2 0
 have l0:=row_lt hF2
 obtain ⟨b,hb⟩:∃ b,(isRef label) e=b:=⟨_,rfl⟩
 have HP:=lid hb
 have HF2:=lid hF2
 have HG:Hid (Flg fb w (w2.setCell ⟨fb,0,none⟩ (.bool b)) b):=lid ⟨hb2.os.trans HB1.out.os,hb2.tape.trans HB1.out.tape,hb2.output.trans HB1.out.output,by
   show w.heap.size≤(w2.setCell _ _).heap.size
   rw [World.size_setCell]
   exact Nat.le_trans HB1.out.size hb2.size,fun k hk hne=>by
   refine (row_other rfl hne).trans ((hb2.block k (by have:=HB1.out.size;omega)).trans (HB1.out.block k hk)),by
   have:=row_set hF2 0 (.bool b);simpa using this⟩
 rw [hb]
 clear cx hF2 hb2 hb
 go_wp2_with fail
 go_ret
 exact ⟨by rw [HP.out];rfl,by rw [HP.out];exact HG.out⟩
theorem visitR_fn (label:ByteArray) (lb:Nat) (e:Ew) (bx fb:Nat) (w0 w:World) (he:EA w0 e) (hk:KL w0 w) (h0:w0.heap.size≤fb) (hbf:bx≠fb) (hcnt:cntE e≤1000) (hx:w.heap[bx]?=some (.cells #[.func (.func 106) #[] #[.pointer (some ⟨lb,0,none⟩)]] 106 (0,0))) (hf:w.heap[fb]?=some (.cells #[.bool false] 4 (0,0))) (hl:w.heap[lb]?=some (.cells #[.string label] 9 (0,0))) (hlf:lb≠fb) :
  Calls Tryz.prog 119 #[.agg (eca e),.func (.func 120) #[] #[.pointer (some ⟨bx,0,none⟩),.pointer (some ⟨fb,0,none⟩)]] w fun r w'=>r=.returned (.tuple #[])∧Flg fb w w' (anyE (isRef label) e):=by
 have lx:=row_lt hx
 have lf:=row_lt hf
 have HE:=lid he
 have HKL:=lid hk
 have HF:=lid hf
 have HX:=lid hx
 have HL:=lid hl
 have ll:=row_lt hl
 have hzw:w0.heap.size≤w.heap.size:=hk.size
 clear he hk hf hx hl
 go_enter Tryz.func119,Tryz.ntmps119
 go_wp2_with fail
 obtain ⟨W1,hW1⟩:∃ y,(w.alloc (Obj.cells (eca e) 63)).alloc (Obj.cells #[.int .i64 e.kind,.string e.name,.string e.more,.int .i64 e.int,.int .i64 e.den,.slice e.ao e.sub.length e.cap] 63)=y:=⟨_,rfl⟩
 have hb1:Below w.heap.size w W1:=by rw [← hW1];exact (ba _ _).alloc (by simp) _
 have HO1:Hid (W1.ownsRow w.heap.size 63 6 (.slice (some ⟨w.heap.size+1,0,none⟩) 1 1) [e].length (ecs [e])):=lid (by
  rw [← hW1]
  have:=World.ownsRow_lit (e:=63) (base:=w.heap.size) (size:=6) (w.alloc (Obj.cells (eca e) 63)) #[.int .i64 e.kind,.string e.name,.string e.more,.int .i64 e.int,.int .i64 e.den,.slice e.ao e.sub.length e.cap] 1 (by simp) (by simp [maxLen]) rfl
  rw [show (w.alloc (Obj.cells (eca e) 63)).heap.size=w.heap.size+1 by simp] at this
  simpa [ecs] using this)
 have HG1:Hid (Flg fb w W1 false):=lid ⟨hb1.os,hb1.tape,hb1.output,hb1.size,fun k hk _=>hb1.block k hk,(hb1.block _ lf).trans HF.out⟩
 rw [hW1]
 clear hW1 hb1 HF
 go_loopg [4] (cntE e) (fun N u4 wr=>∃ S:List Ew,N=cntL S∧cntL S≤1000∧Hid (wr.ownsRow w.heap.size 63 6 u4 S.length (ecs S))∧Hid (Flg fb w wr false)∧Hid (∀ x∈S,EA w0 x)∧Hid (anyL (isRef label) S=anyE (isRef label) e))
 case atStart=>exact ⟨[e],by simp [cntL],by simp [cntL];exact hcnt,HO1,HG1,lid (fun x hx=>by rw [List.mem_singleton.1 hx];exact HE.out),lid (by simp [anyL])⟩
 case round =>
  clear HO1 HG1 HE
  obtain ⟨S,hN,hS,HO,HG,HS,HA⟩:=hrel
  rcases List.eq_nil_or_concat S with rfl | ⟨S0,t,rfl⟩
  ·obtain ⟨a9,c9,rfl,-,-,-⟩:=Sl.of_own HO.out
   clear HO HS
   go_wp2_with fail
   exact bodyPost_end (results_none rfl _ _ _) rfl ⟨rfl,by rw [← HA.out];exact HG.out⟩
  ·rw [List.concat_eq_append] at HO HS HA hN hS
   obtain ⟨n,hn⟩:∃ n,S0.length=n:=⟨_,rfl⟩
   have hlen:(S0++[t]).length=n+1:=by simp [hn]
   rw [hlen,ecs_append] at HO
   obtain ⟨g,cap,rfl⟩:=ownsRow_succ HO.out
   obtain ⟨cur,hgb,hgg,hnc,hcm,-,-⟩:=own_formK HO.out
   have hl6:(ecs S0).length=n*6:=by rw [ecs_length,hn]
   have hcell:∀ j (hj:j<6),wr.cell? ⟨g,n*6+j,none⟩=some ((ece t)[j]'(by simpa using hj)):=fun j hj=>own_cellK HO.out _ (by rw [List.getElem?_append_right (by omega),hl6,show n*6+j-n*6=j by omega];simp only [ecs,List.flatMap_cons,List.flatMap_nil,List.append_nil];exact List.getElem?_eq_getElem _)
   have y0:wr.cell? ⟨g,n*6,none⟩=some (.int .i64 t.kind):=hcell 0 (by omega)
   have y1:wr.cell? ⟨g,n*6+1,none⟩=some (.string t.name):=hcell 1 (by omega)
   have y2:wr.cell? ⟨g,n*6+2,none⟩=some (.string t.more):=hcell 2 (by omega)
   have y3:wr.cell? ⟨g,n*6+3,none⟩=some (.int .i64 t.int):=hcell 3 (by omega)
   have y4:wr.cell? ⟨g,n*6+4,none⟩=some (.int .i64 t.den):=hcell 4 (by omega)
   have y5:wr.cell? ⟨g,n*6+5,none⟩=some (.slice t.ao t.sub.length t.cap):=hcell 5 (by omega)
   have lg:=row_lt hgg
   have hncm:(n:Int)+1≤9223372036854775807:=by simp only [maxLen] at hcm;omega
   have hcm2:cap≤9223372036854775807:=hcm
   have HN:=lid hn
   have HT:=lid (HS.out t (by simp))
   have HS0:Hid (∀ x∈S0,EA w0 x):=lid (fun x hx=>HS.out x (List.mem_append.2 (.inl hx)))
   have hcn:cntL (S0++[t])=cntL S0+(cntL t.sub+1):=by rw [cntL_append];simp [cntL,cntE_eq]
   have hza:=HG.out.size
   clear hcell hgg hlen HS hl6
   obtain ⟨W2,hW2⟩:∃ y,wr.alloc (Obj.cells #[.int .i64 t.kind,.string t.name,.string t.more,.int .i64 t.int,.int .i64 t.den,.slice t.ao t.sub.length t.cap] 63)=y:=⟨_,rfl⟩
   have hb2:Below wr.heap.size wr W2:=by rw [← hW2];exact ba _ _
   have HT2:Hid (W2.heap[wr.heap.size]?=some (.cells #[.int .i64 t.kind,.string t.name,.string t.more,.int .i64 t.int,.int .i64 t.den,.slice t.ao t.sub.length t.cap] 63 (0,0))):=lid (by rw [← hW2];exact h_new rfl _)
   have lx2:bx<wr.heap.size:=by omega
   have HX2:Hid (W2.heap[bx]?=some (.cells #[.func (.func 106) #[] #[.pointer (some ⟨lb,0,none⟩)]] 106 (0,0))):=lid ((hb2.block _ lx2).trans ((HG.out.blk bx lx hbf).trans HX.out))
   have HL2:Hid (W2.heap[lb]?=some (.cells #[.string label] 9 (0,0))):=lid ((hb2.block _ (by omega)).trans ((HG.out.blk lb ll hlf).trans HL.out))
   have HG2:Hid (Flg fb w W2 false):=lid (HG.out.below hb2 (by omega) (by omega))
   have HW2:=lid hW2
   have HB2:=lid hb2
   have HCN:=lid hcn
   have HNN:=lid hN
   have HZA:=lid hza
   have HSS:=lid hS
   clear hcn hN hza hS
   have CC:=lid (contains1R_fn label lb t bx fb W2 HX2.out ⟨false,HG2.out.cell⟩ HL2.out)
   clear hW2 hb2
   go_wp2_with fail
   rw [HW2.out]
   (with_reducible refine (CC.out).mono ?_);rintro e w3 ⟨rfl,hg3⟩
   have HG3:=lid (HG2.out.trans hg3)
   cases hp:(isRef label) t with
   | true =>
    rw [hp] at HG3
    have HV:Hid (anyE (isRef label) e=true):=lid (by rw [← HA.out,anyL_append];simp [anyL,anyE_eq,hp])
    clear y0 y1 y2 y3 y4 y5 hg3
    go_wp2_with fail
    exact bodyPost_ret (results_none rfl _ _ _) rfl ⟨rfl,by rw [HV.out];exact HG3.out⟩
   | false =>
    rw [hp] at HG3
    have HA2:Hid (anyL (isRef label) (S0++t.sub)=anyE (isRef label) e):=lid (by rw [← HA.out,anyL_append,anyL_append];simp [anyL,anyE_eq,hp])
    have hgf:g≠fb:=by omega
    have hg2:W2.heap[g]?=wr.heap[g]?:=HB2.out.block g lg
    have lg2:g<W2.heap.size:=Nat.lt_of_lt_of_le lg HB2.out.size
    have HO3:Hid (w3.ownsRow w.heap.size 63 6 (.slice (some ⟨g,0,none⟩) n cap) n (ecs S0)):=lid (own_keep (own_popK HO.out (by simp [ecs])) (fun k e=>by cases e;exact (hg3.blk g lg2 hgf).trans hg2))
    have hbw:wr.heap.size<W2.heap.size:=row_lt HT2.out
    have hT3:w3.heap[wr.heap.size]?=_:=(hg3.blk wr.heap.size hbw (by omega)).trans HT2.out
    have t5:w3.cell? ⟨wr.heap.size,5,none⟩=some (.slice t.ao t.sub.length t.cap):=row_cell hT3 5
    have lt3:=row_lt hT3
    have HK3:Hid (KL w0 w3):=lid ⟨by have:=HKL.out.size;have:=HG3.out.size;omega,fun k cs ty f hk=>(HG3.out.blk k (by have:=(row_lt hk);omega) (by have:=(row_lt hk);omega)).trans (HKL.out.cells k cs ty f hk)⟩
    have HSL:Hid (Sl w3 6 t.ao t.sub.length (ecs t.sub)):=lid ((HT.out.kl HK3.out).sl)
    have HNIL:=lid HT.out.nil
    have HHN:=HN.out
    have hsz:n+(cntL t.sub+1)≤1000:=by
     have h1:=HSS.out
     have h2:=cntL_len S0
     rw [HCN.out] at h1
     omega
    have htl:t.sub.length≤cntL t.sub:=cntL_len _
    obtain ⟨sv,hsv⟩:∃ sv,Value.slice (some ⟨g,0,none⟩) n cap=sv:=⟨_,rfl⟩
    have HOS:Hid (w3.ownsRow w.heap.size 63 6 sv n (ecs S0)):=lid (by rw [← hsv];exact HO3.out)
    have hz3:w.heap.size≤w3.heap.size:=HG3.out.size
    have HSZ:=lid hsz
    have HTL:=lid htl
    rw [hsv]
    clear hsv hT3 hbw y0 y1 y2 y3 y4 y5 hg3 hg2 lg2 HO3 hsz htl HHN hn
    go_wp2_with (at_builtin;go_must (refine wpList_append_slg rfl _ _ 61 rfl w.heap.size 63 (.agg #[.int .i64 0,.string ⟨#[]⟩,.string ⟨#[]⟩,.int .i64 0,.int .i64 0,.slice none 0 0]) 6 80 info_ex Tryz.underlying61 rfl (by decide) sv n (ecs S0) HOS.out rfl t.ao t.sub.length t.cap (ecs t.sub) rfl HSL.out HNIL.out (ecs_one _) (by have:=HSZ.out;have:=HTL.out;simp only [maxLen];omega) (by have:=HSZ.out;have:=HTL.out;omega) hz3 ?_))
    intro v9 w9 own9 hb9 hg9
    have HO9:Hid (w9.ownsRow w.heap.size 63 6 v9 (S0++t.sub).length (ecs (S0++t.sub))):=lid (by rw [List.length_append,HN.out,ecs_append];exact own9)
    have HG9:Hid (Flg fb w w9 false):=lid (HG3.out.below hb9 (Nat.le_refl _) lf)
    have HS9:Hid (∀ x∈S0++t.sub,EA w0 x):=lid (fun x hx=>(List.mem_append.1 hx).elim (HS0.out x) (HT.out.all x))
    have hcl:cntL (S0++t.sub)+1=gk:=by rw [HNN.out,HCN.out,cntL_append];omega
    have HCL:=lid hcl
    have HSS2:Hid (cntL (S0++t.sub)≤1000):=lid (by have:=HSS.out;rw [← HNN.out] at this;omega)
    clear hcl t5 lt3 own9 hb9 hg9
    go_wp2_with fail
    go_roundg (cntL (S0++t.sub))
    case measure=>have:=HCL.out;omega
    case rel=>exact ⟨S0++t.sub,rfl,HSS2.out,HO9,HG9,HS9,HA2⟩
theorem containsR_fn (label:ByteArray) (lb:Nat) (e:Ew) (w:World) (he:EA w e) (hcnt:cntE e≤1000) (hl:w.heap[lb]?=some (.cells #[.string label] 9 (0,0))) :
  Calls Tryz.prog 103 #[.agg (eca e),.func (.func 106) #[] #[.pointer (some ⟨lb,0,none⟩)]] w fun r w'=>r=.returned (.bool (anyE (isRef label) e))∧Below w.heap.size w w':=by
 have HE:=lid he
 have HL:=lid hl
 have ll:=row_lt hl
 clear he hl
 go_enter Tryz.func103,Tryz.ntmps103
 go_wp2_with fail
 obtain ⟨W1,hW1⟩:∃ y,((w.alloc (Obj.cells (eca e) 63)).alloc (Obj.cells #[.func (.func 106) #[] #[.pointer (some ⟨lb,0,none⟩)]] 106)).alloc (Obj.cells #[.bool false] 4)=y:=⟨_,rfl⟩
 have hb1:Below w.heap.size w W1:=by rw [← hW1];exact ((ba _ _).alloc (by simp) _).alloc (by simp;omega) _
 have hx1:W1.heap[w.heap.size+1]?=some (.cells #[.func (.func 106) #[] #[.pointer (some ⟨lb,0,none⟩)]] 106 (0,0)):=by rw [← hW1];exact (h_old (by simp) _).trans (h_new (by simp) _)
 have hf1:W1.heap[w.heap.size+1+1]?=some (.cells #[.bool false] 4 (0,0)):=by rw [← hW1];exact h_new (by simp) _
 have CV:=lid (visitR_fn label lb e (w.heap.size+1) (w.heap.size+1+1) w W1 HE.out (KL.of_below hb1) (by omega) (by omega) hcnt hx1 hf1 ((hb1.block _ ll).trans HL.out) (by omega))
 have HB1:=lid hb1
 rw [hW1]
 clear hW1 hb1 hx1 hf1
 (with_reducible refine (CV.out).mono ?_);rintro e w2 ⟨rfl,hg⟩
 have c2:w2.cell? ⟨w.heap.size+1+1,0,none⟩=some (.bool (anyE (isRef label) e)):=row_cell hg.cell 0
 have l2:=row_lt hg.cell
 have HB2:Hid (Below w.heap.size w w2):=lid (HB1.out.trans ⟨hg.os,hg.tape,hg.output,hg.size,fun k hk=>hg.blk k (by have:=HB1.out.size;omega) (by omega)⟩)
 clear hg
 go_wp2_with fail
 go_ret
 exact ⟨rfl,HB2.out⟩
end Go.Proofs.YtgcceepadlmelaaGreatDoor
