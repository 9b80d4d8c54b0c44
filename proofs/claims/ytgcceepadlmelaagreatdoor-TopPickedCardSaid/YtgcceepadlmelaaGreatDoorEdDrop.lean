import Derived.Test.YtgcceepadlmelaaGreatDoorQAU
namespace Go.Proofs.YtgcceepadlmelaaGreatDoor
set_option maxRecDepth 100000
set_option maxHeartbeats 16000000
open Go.RowKit
theorem Drop_any (ao:Option Addr) (n cap:Nat) (K:List Kw) (i:Nat) (w:World) (h:KLA w ao n cap K) (hn:n≤100000) (hi:i<n) (hv:∀ x∈K,FitK x∧TestK x) :
  Calls Tryz.prog 12 #[.slice ao n cap,.int .i64 i] w fun r w'=>∃ v D,r=.returned (.tuple #[v,.int .i64 0])∧w'.ownsRow w.heap.size 52 5 v (pk K (notL D)).length (kcs (pk K (notL D)))∧DropN K D∧Below w.heap.size w w':=by
 have HK:=lid h
 have HV:=lid hv
 have hcn:n≤cap:=h.le
 have hc63:cap≤9223372036854775807:=h.max
 have CC:=lid (pcheck_any ao n cap K i w h hi hv)
 clear h hv
 go_enter Tryz.func12,Tryz.ntmps12
 obtain ⟨ii,hi0,hz0,hz1,hz2⟩:=info_parts info_boolN
 have HII:=lid (And.intro hi0 (And.intro hz0 (And.intro hz1 hz2)))
 clear hi0 hz0 hz1 hz2
 go_wp2_with fail
 (with_reducible refine (CC.out).mono ?_);rintro e w1 ⟨rfl,hb1⟩
 have HB1:=lid hb1
 clear hb1 CC
 go_wp2_with (at_make;go_must (refine wpList_make_full w1 rfl _ _ 71 rfl w1.heap.size 4 ii (.bool false) 1 Tryz.underlying71 HII.out.1 HII.out.2.1 HII.out.2.2.1 _ _ n n n rfl rfl rfl rfl (by rw [HII.out.2.2.2];omega) (by simp only [maxLen];omega) (Nat.le_refl _) ?_))
 intro w2 own2 hg2
 clear HII ii
 have hb2:Below w1.heap.size w1 w2:=(Below.refl _ _).grown hg2 (Nat.le_refl _) (fun k hk=>by cases hk)
 have hrow:=bls_made own2
 have hrl:=row_lt hrow
 obtain ⟨mb,hmb⟩:∃ mb,w1.heap.size=mb:=⟨_,rfl⟩
 rw [hmb] at hrow hrl
 have hmw:w.heap.size≤mb:=by rw [← hmb];exact HB1.out.size
 have x0:w2.cell? ⟨mb,i,none⟩=some (.bool false):=by rw [row_cell hrow];exact bls_at (by simp [hi])
 have hfz:=row_fz hrow i
 obtain ⟨GB,hGB⟩:∃ y,w2.heap.size=y:=⟨_,rfl⟩
 obtain ⟨W3,hW3⟩:∃ y,w2.setCell ⟨mb,i,none⟩ (.bool true)=y:=⟨_,rfl⟩
 have hb02:=HB1.out.trans (hb2.mono HB1.out.size)
 have hb3:Below w.heap.size w W3:=by rw [← hW3];exact hb02.setCell hmw _
 have hs3:W3.heap.size=GB:=by rw [← hW3,World.size_setCell];exact hGB
 have HRW0:Hid (W3.heap[mb]?=some (.cells (bls ((List.replicate n false).set i true)) 4 (0,0))):=lid (by rw [← hW3,row_set hrow i _,bls_put])
 have HGB:Hid (w.heap.size≤GB):=lid (by omega)
 have HMG0:Hid (mb<GB):=lid (by rw [← hGB];exact hrl)
 have HMB:=lid hmw
 have HB3:=lid hb3
 have HS3:=lid hs3
 have HOD0:=lid (OutD.start (i:=i) HK.out.len)
 have HO0:Hid (W3.ownsRow GB 52 5 (.slice none 0 0) (pk (K.take 0) ((notL ((List.replicate n false).set i true)).take 0)).length (kcs (pk (K.take 0) ((notL ((List.replicate n false).set i true)).take 0)))):=lid (World.ownsRow_nil _ _ _ _)
 have HW3:=lid hW3
 rw [hmb]
 clear hmb hb2 hrow own2 hg2 hb02 hb3 hs3 hGB hW3
 go_wp2_with fail
 rw [HW3.out]
 go_loopw [8,26] (fun u8 u26 wr=>∃ (k:Nat) (D:List Bool),k≤n∧u26=.int .i64 k∧Hid (wr.ownsRow GB 52 5 u8 (pk (K.take k) ((notL D).take k)).length (kcs (pk (K.take k) ((notL D).take k))))∧Hid (wr.heap[mb]?=some (.cells (bls D) 4 (0,0)))∧Hid (OutD K i k D)∧Hid (Below w.heap.size w wr)∧Hid (GB≤wr.heap.size)) (fun _ u26 _=>n-(intOf u26).toNat)
 case atStart=>exact ⟨0,_,Nat.zero_le _,rfl,HO0,HRW0,HOD0,HB3,lid (by rw [HS3.out];exact Nat.le_refl _)⟩
 case round =>
  clear HO0 HRW0 HOD0 HB3 HS3 x0 hfz HW3 hrl
  obtain ⟨k,D,hk,rfl,HO,HRW,HOD,HB,HGW⟩:=hrel
  by_cases hkn:k<n
  ·obtain ⟨x,hx⟩:∃ x,K[k]?=some x:=⟨_,List.getElem?_eq_getElem (by rw [HK.out.len];exact hkn)⟩
   obtain ⟨d0,hd0⟩:∃ d0,D[k]?=some d0:=⟨_,List.getElem?_eq_getElem (by rw [HOD.out.1,HK.out.len];exact hkn)⟩
   obtain ⟨p,po,rfl,hpz,hc⟩:=kla_cells HK.out HB.out (by omega)
   have lp:p<wr.heap.size:=Nat.lt_of_lt_of_le hpz HB.out.size
   have hc1:=hc k x hx
   have hxk:=lid hx
   have y0:wr.cell? ⟨p,po+k*5,none⟩=some (.int .i64 x.kind):=by have:=hc1 0 _ rfl (by omega);exact this
   have y1:wr.cell? ⟨p,po+k*5+1,none⟩=some (.string x.pack):=by have:=hc1 1 _ rfl (by omega);rwa [← Nat.add_assoc] at this
   have y2:wr.cell? ⟨p,po+k*5+2,none⟩=some (.string x.text):=by have:=hc1 2 _ rfl (by omega);rwa [← Nat.add_assoc] at this
   have y3:wr.cell? ⟨p,po+k*5+3,none⟩=some (.slice x.oa x.old.length x.ocap):=by have:=hc1 3 _ rfl (by omega);rwa [← Nat.add_assoc] at this
   have y4:wr.cell? ⟨p,po+k*5+4,none⟩=some (.slice x.na x.new.length x.ncap):=by have:=hc1 4 _ rfl (by omega);rwa [← Nat.add_assoc] at this
   obtain ⟨W4,hW4⟩:∃ y,wr.alloc (.cells (kca x) 52)=y:=⟨_,rfl⟩
   have hb4:Below wr.heap.size wr W4:=by rw [← hW4];exact ba _ _
   obtain ⟨eb,heb⟩:∃ eb,wr.heap.size=eb:=⟨_,rfl⟩
   have hi0:=HOD.out.inn hd0
   have HIN0:Hid (InD K i k i D d0):=lid hi0.1
   have HSD0:Hid (DS w GB mb eb u8 (pk (K.take k) ((notL D).take k)) x W4 (D.set k d0)):=lid (by
    rw [hi0.2]
    have hbx:W4.heap[eb]?=some (.cells (kca x) 52 (0,0)):=by rw [← hW4,← heb];exact h_new rfl _
    exact ⟨HB.out.trans (hb4.mono HB.out.size),(hb4.block _ (row_lt HRW.out)).trans HRW.out,own_keep HO.out (fun k e=>hb4.block k (HO.out.lt k e).2),hbx,HMB.out,HMG0.out,Nat.lt_of_lt_of_le HMG0.out (by rw [← heb];exact HGW.out),Nat.le_trans HGW.out hb4.size⟩)
   have HPW:=lid hpz
   have HW4:=lid hW4
   clear hc hc1 hx hd0 hb4 hi0 hW4 HO HRW HB HGW
   obtain ⟨wo,hwo⟩:∃ y,y=wr:=⟨_,rfl⟩
   go_wp2_with fail
   rw [HW4.out]
   clear y0 y1 y2 y3 y4 lp HW4
   subst hwo
   go_loopw [11] (fun u11 wr=>∃ (j:Nat) (d:Bool),j≤n∧i≤j∧u11=.int .i64 j∧Hid (DS w GB mb eb u8 (pk (K.take k) ((notL D).take k)) x wr (D.set k d))∧Hid (InD K i k j D d)) (fun u11 _=>n-(intOf u11).toNat)
   case atStart=>exact ⟨i,d0,by omega,Nat.le_refl _,rfl,HSD0,HIN0⟩
   case round =>
    clear HSD0 HIN0 heb
    obtain ⟨j,d,hjn,hij,rfl,HSD,HID⟩:=hrel
    have lm:=row_lt HSD.out.row
    have le:=row_lt HSD.out.box
    have hdk:(D.set k d)[k]?=some d:=List.getElem?_set_self (by rw [HOD.out.1,HK.out.len];exact hkn)
    have zk:wr.cell? ⟨mb,k,none⟩=some (.bool d):=by rw [row_cell HSD.out.row];exact bls_at hdk
    have fk:=row_fz HSD.out.row k
    have e0:wr.cell? ⟨eb,0,none⟩=some (.int .i64 x.kind):=row_cell HSD.out.box 0
    have e1:wr.cell? ⟨eb,1,none⟩=some (.string x.pack):=row_cell HSD.out.box 1
    have e2:wr.cell? ⟨eb,2,none⟩=some (.string x.text):=row_cell HSD.out.box 2
    have e3:wr.cell? ⟨eb,3,none⟩=some (.slice x.oa x.old.length x.ocap):=row_cell HSD.out.box 3
    have e4:wr.cell? ⟨eb,4,none⟩=some (.slice x.na x.new.length x.ncap):=row_cell HSD.out.box 4
    cases d with
    | true =>
     by_cases hjk:j<k
     rotate_left
     rotate_left
     all_goals
      clear hdk
      have HOD2:=lid (HOD.out.next (by rw [HK.out.len];exact hkn) HID.out (.inl rfl))
      have HPK:=lid (pk_drop (d:=true) hxk.out (by rw [HOD.out.1,HK.out.len];exact hkn))
      have HB2:=lid HSD.out.below
      have HRW2:=lid HSD.out.row
      have HO2:Hid (wr.ownsRow GB 52 5 u8 (pk (K.take (k+1)) ((notL (D.set k true)).take (k+1))).length (kcs (pk (K.take (k+1)) ((notL (D.set k true)).take (k+1))))):=lid (by
       rw [HPK.out,show optL (!true) x=[] from rfl,List.append_nil]
       exact HSD.out.own)
      have HGW2:=lid HSD.out.gW
      clear HSD HID HPK HOD
      go_wp2_with fail
      go_roundw
      case rel=>exact ⟨k+1,D.set k true,by omega,by go_num,HO2,HRW2,HOD2,HB2,HGW2⟩
      case measure=>simp only [intOf];omega
    | false =>
     by_cases hjk:j<k
     ·obtain ⟨b,hb⟩:∃ b,D[j]?=some b:=⟨_,List.getElem?_eq_getElem (by rw [HOD.out.1,HK.out.len];omega)⟩
      have zj:wr.cell? ⟨mb,j,none⟩=some (.bool b):=by rw [row_cell HSD.out.row];exact bls_at (by rw [List.getElem?_set_ne (by omega)];exact hb)
      cases b with
      | false =>
       have HID2:=lid (HID.out.skip hb)
       have HSD2:Hid (DS w GB mb eb u8 (pk (K.take k) ((notL D).take k)) x (wr.drew.setCell ⟨mb,k,none⟩ (.bool false)) (D.set k false)):=lid (by
        have:=(HSD.out.keep (Below.refl _ _).drew).put k false
        rwa [List.set_set] at this)
       clear HSD HID hb hdk
       go_wp2_with fail
       refine wp_region_seqL 16 (fun w'=>∃ s:Since wr.heap.size wr,w'=s.world) [(0,true),(1,true),(2,true),(3,true),(4,true),(5,true),(6,true),(7,true),(8,true),(9,true),(10,true),(11,true),(12,true),(13,true),(14,true),(15,true),(16,false)] (by kernel_rfl) (by kernel_rfl) (by intro c d v a w h;first | (cases d <;> exact h) | cases h.1) (since (Below.refl _ _).drew) ?_
       repeat (first | (refine seqL_skip (by rfl) (by rfl) (by rfl) ?_;simp only [Act.put,q1,q2,q3]) | (refine seqL_float (by rfl) (by rfl) (by rfl) (by rfl) ?_;intro K hK;go_big_quiet_op;go_big_quiet_on))
       refine seqL_last (by rfl) (by rfl) ?_
       intro K hK
       go_wp2_with fail
       refine hK.out _ _ ?_
       clear hK K
       go_wp2_with fail
       go_roundw
       case rel=>exact ⟨j+1,false,by omega,by omega,by go_num,HSD2,HID2⟩
       case measure=>simp only [intOf];omega
      | true =>
       obtain ⟨a,ha⟩:∃ a,K[j]?=some a:=⟨_,List.getElem?_eq_getElem (by rw [HK.out.len];omega)⟩
       have hma:=List.mem_of_getElem? ha
       have hmx:=List.mem_of_getElem? hxk.out
       have CI:=lid (fun (W:World) (hW:Below w.heap.size w W)=>independent_any a x W ((HK.out.el a hma).below hW) ((HK.out.el x hmx).below hW) (HV.out a hma).1 (HV.out x hmx).1)
       have HID2:=lid (HID.out.step hij hjk ha hxk.out)
       have lp:p<wr.heap.size:=Nat.lt_of_lt_of_le HPW.out HSD.out.below.size
       obtain ⟨p',po',hpe,-,hc⟩:=kla_cells HK.out HSD.out.below (by omega)
       cases hpe
       have hc1:=hc j a ha
       have y0:wr.cell? ⟨p,po+j*5,none⟩=some (.int .i64 a.kind):=by have:=hc1 0 _ rfl (by omega);exact this
       have y1:wr.cell? ⟨p,po+j*5+1,none⟩=some (.string a.pack):=by have:=hc1 1 _ rfl (by omega);rwa [← Nat.add_assoc] at this
       have y2:wr.cell? ⟨p,po+j*5+2,none⟩=some (.string a.text):=by have:=hc1 2 _ rfl (by omega);rwa [← Nat.add_assoc] at this
       have y3:wr.cell? ⟨p,po+j*5+3,none⟩=some (.slice a.oa a.old.length a.ocap):=by have:=hc1 3 _ rfl (by omega);rwa [← Nat.add_assoc] at this
       have y4:wr.cell? ⟨p,po+j*5+4,none⟩=some (.slice a.na a.new.length a.ncap):=by have:=hc1 4 _ rfl (by omega);rwa [← Nat.add_assoc] at this
       clear hc hc1
       clear hb hdk hma hmx ha
       have HSDF:Hid (∀ wq,Below wr.heap.size wr wq→DS w GB mb eb u8 (pk (K.take k) ((notL D).take k)) x (wq.setCell ⟨mb,k,none⟩ (.bool (!indK a x))) (D.set k (!indK a x))):=lid (fun wq h=>by
        have:=(HSD.out.keep h).put k (!indK a x)
        rwa [List.set_set] at this)
       go_wp2_with fail
       refine wp_region_seqL 16 (fun w'=>∃ s:Since wr.heap.size wr,w'=s.world) [(0,true),(1,true),(2,true),(3,true),(4,true),(5,true),(6,true),(7,true),(8,true),(9,true),(10,true),(11,true),(12,false),(13,true),(14,true),(15,true),(16,false)] (by kernel_rfl) (by kernel_rfl) (by intro c d v a w h;first | (cases d <;> exact h) | cases h.1) (since (Below.refl _ _).drew) ?_
       repeat (first | (refine seqL_skip (by rfl) (by rfl) (by rfl) ?_;simp only [Act.put,q1,q2,q3]) | (refine seqL_float (by rfl) (by rfl) (by rfl) (by rfl) ?_;intro K hK;go_big_quiet_op;go_big_quiet_on))
       refine seqL_chain (by rfl) ?_
       intro K hK
       go_wp2_with fail
       (with_reducible refine (CI.out _ HSD.out.below.drew).mono ?_);rintro e wq ⟨rfl,hb2⟩
       have HBQ0:=lid ((Below.refl wr.heap.size wr).drew.trans hb2)
       have HSD2:=lid (HSDF.out _ HBQ0.out)
       clear hb2 CI
       go_wp2_with fail
       refine hK.out _ _ (since HBQ0.out) ?_
       clear hK K
       repeat (first | (refine seqL_skip (by rfl) (by rfl) (by rfl) ?_;simp only [Act.put,q1,q2,q3]) | (refine seqL_float (by rfl) (by rfl) (by rfl) (by rfl) ?_;intro K hK;go_big_quiet_op;go_big_quiet_on))
       have zk2:wq.cell? ⟨mb,k,none⟩=some (.bool false):=(bc HBQ0.out lm _).trans zk
       have lm2:mb<wq.heap.size:=Nat.lt_of_lt_of_le lm HBQ0.out.size
       have fk2:=row_fz (HSD.out.keep HBQ0.out).row k
       obtain ⟨q,hq⟩:∃ q,indK a x=q:=⟨_,rfl⟩
       rw [hq] at HSD2 HID2 ⊢
       clear HSD HID hq
       refine seqL_last (by rfl) (by rfl) ?_
       intro K hK
       go_wp2_with fail
       refine hK.out _ _ ?_
       clear hK K
       go_wp2_with fail
       go_roundw
       case rel=>exact ⟨j+1,!q,by omega,by omega,by go_num,HSD2,HID2⟩
       case measure=>simp only [intOf];omega
     ·clear hdk
      have HOD2:=lid (HOD.out.next (by rw [HK.out.len];exact hkn) HID.out (.inr (by omega)))
      have HPK:=lid (pk_drop (d:=false) hxk.out (by rw [HOD.out.1,HK.out.len];exact hkn))
      have HOQ:Hid (wr.ownsRow GB 52 5 u8 (pk (K.take k) ((notL D).take k)).length (kcs (pk (K.take k) ((notL D).take k)))):=lid HSD.out.own
      have HBQ:Hid (Below GB wr wr):=lid (Below.refl _ _)
      have HL:Hid (GB≤wr.heap.size):=lid HSD.out.gW
      have HBW:=lid HSD.out.below
      have HRW:=lid HSD.out.row
      have hGBw:=HGB.out
      have HMG:=lid HSD.out.mG
      obtain ⟨P,hP⟩:∃ P,pk (K.take k) ((notL D).take k)=P:=⟨_,rfl⟩
      have HPL:Hid (P.length≤n):=lid (by
       rw [← hP]
       refine Nat.le_trans (pk_len _ _) ?_
       rw [List.length_take]
       omega)
      rw [hP] at HOQ HPK
      clear HSD HID HOD hP
      obtain ⟨W1,hW1⟩:∃ y,wr.alloc (.cells (kca x) 52)=y:=⟨_,rfl⟩
      have hb1:Below wr.heap.size wr W1:=by rw [← hW1];exact ba _ _
      have hlay:W1.heap[wr.heap.size]?=some (.cells (kca x) 52 (0,0)):=by rw [← hW1];exact h_new rfl _
      obtain ⟨m5,hm⟩:∃ m5,(P).length=m5:=⟨_,rfl⟩
      have HM:=lid hm
      have HOW:Hid (W1.ownsRow GB 52 5 u8 m5 (kcs (P))):=lid (by rw [← hm];exact own_keep HOQ.out (fun k e=>hb1.block k (HOQ.out.lt k e).2))
      have hmn:m5≤100000:=by rw [← hm];exact Nat.le_trans HPL.out hn
      have HLAY:Hid (Sl W1 5 (some ⟨wr.heap.size,0,none⟩) 1 (kce x)):=lid (sl_row hlay rfl)
      have HZ:GB≤W1.heap.size:=Nat.le_trans HL.out hb1.size
      have HBG1:=lid (HBQ.out.trans (hb1.mono HL.out))
      have HW1:=lid hW1
      clear hW1 hb1 hlay hm
      go_wp2_with (at_builtin;rw [HW1.out];go_must (refine wpList_append_sl rfl _ _ 26 rfl GB 52 (.agg #[.int .i64 0,.string ⟨#[]⟩,.string ⟨#[]⟩,.slice none 0 0,.slice none 0 0]) 5 88 info_edit Tryz.underlying26 rfl (by decide) _ m5 (kcs (P)) HOW.out rfl (some ⟨wr.heap.size,0,none⟩) 1 1 (kce x) rfl HLAY.out (by intro h;cases h) (by simp [Value.oneCell']) (by simp only [maxLen];omega) (by omega) HZ ?_))
      intro v5 w5 hown5 hb5
      have HO5:Hid (w5.ownsRow GB 52 5 v5 ((P)++[x]).length (kcs ((P)++[x]))):=lid (by
       rw [List.length_append,HM.out,kcs_append]
       have e:kcs [x]=kce x:=by simp [kcs]
       rw [e]
       exact hown5)
      have HB5:=lid (HBG1.out.trans hb5)
      clear hown5 hb5 HOQ HBQ HBG1 HOW HLAY HM
      go_wp2_with fail
      go_roundw
      case rel=>exact ⟨k+1,D.set k false,by omega,by go_num,lid (by rw [HPK.out,show optL (!false) x=[x] from rfl];exact HO5.out),lid ((HB5.out.block _ HMG.out).trans HRW.out),HOD2,lid (HBW.out.trans (HB5.out.mono hGBw)),lid (Nat.le_trans HL.out HB5.out.size)⟩
      case measure=>simp only [intOf];omega
  ·obtain rfl:k=n:=by omega
   clear hkn
   have HFIN:Hid (wr.ownsRow GB 52 5 u8 (pk K (notL D)).length (kcs (pk K (notL D)))):=lid (by
    have:=HO.out
    rwa [List.take_of_length_le (by rw [HK.out.len];exact Nat.le_refl _),List.take_of_length_le (by unfold notL;rw [List.length_map,HOD.out.1,HK.out.len];exact Nat.le_refl _)] at this)
   go_wp2_with fail
   go_ret2
   exact ⟨_,D,rfl,own_low HFIN.out HGB.out,HOD.out.done HK.out.len,HB.out⟩
end Go.Proofs.YtgcceepadlmelaaGreatDoor
