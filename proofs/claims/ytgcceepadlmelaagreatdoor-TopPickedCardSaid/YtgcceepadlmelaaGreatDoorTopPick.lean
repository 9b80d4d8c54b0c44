import Derived.Test.YtgcceepadlmelaaGreatDoorTopPk
namespace Go.Proofs.YtgcceepadlmelaaGreatDoor
set_option maxRecDepth 100000
set_option maxHeartbeats 32000000
open Go.RowKit
theorem kind_ok {k:Kw} (h:FitK k):1≤k.kind∧k.kind≤9:=by
 rcases h with ⟨h,-⟩ | ⟨h,-⟩ | ⟨h,-⟩ | ⟨h,-⟩ | ⟨h,-⟩ <;> omega
theorem restL_len {K:List Kw}:∀ {P:List Kw},(restL eqK K P).length≤K.length:=by
 induction K with
 | nil=>intro P;rw [rest_end];exact Nat.le_refl _
 | cons a K ih =>
  intro P
  cases P with
  | nil=>rw [rest_nil];exact Nat.succ_le_succ ih
  | cons p P =>
   cases e:eqK a p with
   | true=>rw [rest_t e];exact Nat.le_succ_of_le ih
   | false=>rw [rest_f e];exact Nat.succ_le_succ ih
theorem Picked_any (A B:List Mw) (x:Int) (ao bo:Option Addr) (n ca m cb:Nat) (w:World) (hA:MLA w ao n ca A) (hB:MLA w bo m cb B) (hx0:0≤x) (hx1:x≤255) :
  Calls Tryz.prog 4 #[.slice ao n ca,.slice bo m cb,.int .u8 x] w (TrueB w):=by
 have HA:=lid hA
 have HB:=lid hB
 have CGA:=lid (GreatL_any ao n ca A w hA)
 have CGB:=lid (fun W (hW:Below w.heap.size w W)=>GreatL_any bo m cb B W (hB.below hW))
 have CED:=lid (fun W=>edited_any W)
 clear hA hB
 go_enter Tryz.func4,Tryz.ntmps4
 go_wp2_with fail
 (with_reducible refine (CGA.out).mono ?_);rintro e w1 ⟨q1,rfl,hq1,hb1⟩
 have HB1:=lid hb1
 have HQ1:=lid hq1
 clear hb1 hq1 CGA
 cases q1 with
 | true =>
  go_wp2_with fail
  (with_reducible refine (CED.out _).mono ?_);rintro e w2 ⟨rfl,hb2⟩
  have HB2:=lid (HB1.out.trans (hb2.mono HB1.out.size))
  clear hb2
  go_wp2_with fail
  go_ret
  exact ⟨rfl,HB2.out⟩
 | false =>
  have hn4:n≤4:=HQ1.out rfl
  go_wp2_with fail
  (with_reducible refine (CGB.out _ HB1.out).mono ?_);rintro e w2 ⟨q2,rfl,hq2,hb2⟩
  have HB2:=lid (HB1.out.trans (hb2.mono HB1.out.size))
  have HQ2:=lid hq2
  clear hb2 hq2 CGB
  cases q2 with
  | true =>
   go_wp2_with fail
   (with_reducible refine (CED.out _).mono ?_);rintro e w3 ⟨rfl,hb3⟩
   have HB3:=lid (HB2.out.trans (hb3.mono HB2.out.size))
   clear hb3
   go_wp2_with fail
   go_ret
   exact ⟨rfl,HB3.out⟩
  | false =>
   have hm4:m≤4:=HQ2.out rfl
   have CD:=lid (Diff_any ao bo n ca m cb A B w2 (HA.out.below HB2.out) (HB.out.below HB2.out) (by omega) (by omega))
   go_wp2_with fail
   (with_reducible refine CD.out.mono ?_);rintro e w3 hD
   obtain ⟨v1,q,rfl,hb3,hor⟩:=hD
   have HB3:=lid (HB2.out.trans (hb3.mono HB2.out.size))
   clear hb3 CD
   rcases hor with ⟨hq0,_⟩ | ⟨rfl,hva,hvb,K,ho,hkw,hkx,hk6⟩
   ·have d1:(q != 0)=true:=by simpa using hq0
    go_wp2_with fail
    (with_reducible refine (CED.out _).mono ?_);rintro e w4 ⟨rfl,hb4⟩
    have HB4:=lid (HB3.out.trans (hb4.mono HB3.out.size))
    clear hb4
    go_wp2_with fail
    go_ret
    exact ⟨rfl,HB4.out⟩
   ·obtain ⟨k,hk⟩:∃ k,K.length=k:=⟨_,rfl⟩
    rw [hk] at ho hk6
    obtain ⟨a1,c1,rfl,hkla⟩:=kla_own ho hk hkw
    have hoa:=ordM_ok hva.1 hva.2
    have hob:=ordM_ok hvb.1 hvb.2
    have hvl:=diff_vld hoa hob (modW_vd hva.2).2 (modW_vd hvb.2).2
    have hld:=diff_lead hoa hob
    have c1k:k≤c1:=hkla.le
    have c1m:c1≤9223372036854775807:=hkla.max
    by_cases hk0:k=0
    ·subst hk0
     clear hva hvb ho hkw hkx hkla hoa hob hvl hld
     go_wp2_with fail
     (with_reducible refine (CED.out _).mono ?_);rintro e w5 ⟨rfl,hb5⟩
     have HB5:=lid (HB3.out.trans (hb5.mono HB3.out.size))
     clear hb5
     go_wp2_with fail
     go_ret
     exact ⟨rfl,HB5.out⟩
    ·have d0:((k:Int) == 0)=false:=by simp;omega
     by_cases hk30:30<k
     ·have d3:decide ((k:Int)>30)=true:=by simp;omega
      clear hva hvb ho hkw hkx hkla hoa hob hvl hld
      go_wp2_with fail
      (with_reducible refine (CED.out _).mono ?_);rintro e w5 ⟨rfl,hb5⟩
      have HB5:=lid (HB3.out.trans (hb5.mono HB3.out.size))
      clear hb5
      go_wp2_with fail
      go_ret
      exact ⟨rfl,HB5.out⟩
     ·have d3:decide ((k:Int)>30)=false:=by simp;omega
      obtain ⟨f,hf,hfk⟩:∃ f:Nat,x % (k:Int)=(f:Int)∧f<k:=by
       have h1:=Int.emod_nonneg x (show (k:Int)≠0 by omega)
       have h2:=Int.emod_lt_of_pos x (show (0:Int)<(k:Int) by omega)
       exact ⟨(x % (k:Int)).toNat,by omega,by omega⟩
      have hval:=valid_K hkx hvl
      have CP:Hid (Calls Tryz.prog 11 #[.slice a1 k c1,.int .i64 (x % (k:Int))] w3 fun r w'=>∃ ap np cp N,r=.returned (.tuple #[.slice ap np cp,.int .i64 0])∧Hid (GivesK w3 ap np cp (pk K N) w'∧PkOk K N)):=lid (by
       rw [hf]
       exact Pick_sl hkla (by omega) hfk hval)
      have CDR:Hid (∀ V,Below w3.heap.size w3 V→Calls Tryz.prog 12 #[.slice a1 k c1,.int .i64 (x % (k:Int))] V fun r w'=>∃ ap np cp N,r=.returned (.tuple #[.slice ap np cp,.int .i64 0])∧Hid (GivesK V ap np cp (pk K N) w'∧PkOk K N)):=lid (fun V hV=>by
       rw [hf]
       exact Drop_sl (hkla.below hV) (by omega) hfk hval)
      have HPK:=lid (fun (N:List Bool) (hN:PkOk K N)=>picked hkx hvl (diff_kx hoa hob hvl hkx) hN hld)
      have HK:=lid hkla
      have HKL:=lid hk
      have HVAL:=lid hval
      have HVA:=lid hva
      have HVB:=lid hvb
      clear hva hvb ho hkw hkx hkla hoa hob hvl hld hk6 hf hfk hval hk
      go_wp2_with fail
      (with_reducible refine (CP.out).mono ?_);rintro e w4 ⟨ap,np,cp,N,rfl,hp⟩
      have HP:=lid hp.out
      clear hp CP
      go_wp2_with fail
      (with_reducible refine (CDR.out _ HP.out.1.2).mono ?_);rintro e w5 ⟨ad,nd,cd,M,rfl,hd⟩
      have HD:=lid hd.out
      clear hd CDR
      obtain ⟨P,hP⟩:∃ P,pk K N=P:=⟨_,rfl⟩
      obtain ⟨Z,hZ⟩:∃ Z,pk K M=Z:=⟨_,rfl⟩
      have HPF:=lid (HPK.out N HP.out.2)
      have HZF:=lid (HPK.out M HD.out.2)
      have hbd:P.length≤k∧Z.length≤k:=by
       rw [← hP,← hZ,← HKL.out]
       exact ⟨pk_len _ _,pk_len _ _⟩
      have HPV:Hid (∀ y∈P,FitK y∧TestK y):=lid (fun y hy=>HVAL.out y (pk_mem (by rw [hP];exact hy)))
      rw [hP] at HP HPF
      rw [hZ] at HD HZF
      have HPL:Hid (KLA w5 ap np cp P):=lid (HP.out.1.1.below HD.out.1.2)
      have HZL:Hid (KLA w5 ad nd cd Z):=lid HD.out.1.1
      have HB5:Hid (Below w3.heap.size w3 w5):=lid (HP.out.1.2.trans (HD.out.1.2.mono HP.out.1.2.size))
      have HBW5:Hid (Below w.heap.size w w5):=lid (HB3.out.trans (HB5.out.mono HB3.out.size))
      have hpn:np≤30:=by rw [← HPL.out.len];omega
      have hdn:nd≤30:=by rw [← HZL.out.len];omega
      have hk30':k≤30:=by omega
      have p1:np≤cp:=HPL.out.le
      have p2:cp≤9223372036854775807:=HPL.out.max
      have z1:nd≤cd:=HZL.out.le
      have z2:cd≤9223372036854775807:=HZL.out.max
      clear hP hZ hbd HP HD HPK N M
      have H1B:Hid (KLA w5 ap np cp P):=lid (HPL.out)
      have HX1:Hid (∀ y∈(P.map invK).reverse,KwA w5 y):=lid (fun y hy=>by
       obtain ⟨z,hz,rfl⟩:=List.mem_map.1 (List.mem_reverse.1 hy)
       exact invK_lies (HPL.out.el z hz))
      go_wp2_with (at_builtin;go_must (refine wpList_append_sl rfl _ _ 26 rfl w5.heap.size 52 (.agg #[.int .i64 0,.string ⟨#[]⟩,.string ⟨#[]⟩,.slice none 0 0,.slice none 0 0]) 5 88 info_edit Tryz.underlying26 rfl (by decide) _ 0 [] (World.ownsRow_lit w5 #[] 0 (Nat.le_refl _) (by simp [maxLen]) rfl) rfl ap np cp (kcs P) rfl (H1B.out.below (ba _ _)).sl H1B.out.nil (kcs_one _) (by simp only [maxLen];omega) (by omega) (by simp) ?_))
      intro va1 wa1 hown hb
      have HB1a:Hid (Below w5.heap.size w5 wa1):=lid ((ba _ _).trans hb)
      have HO1a:Hid (wa1.ownsRow w5.heap.size 52 5 va1 np (kcs P)):=lid hown
      clear hown hb
      have HBW1a:Hid (Below w5.heap.size w5 wa1):=lid (HB1a.out)
      have CC1:=lid (Invert_sl (HPL.out.below HBW1a.out) (by omega) (fun y hy=>kind_ok (HPV.out y hy).1))
      go_wp2_with fail
      (with_reducible refine (CC1.out).mono ?_);rintro e wb1 ⟨ai1,ni1,ci1,rfl,hi1⟩
      have HI1:=lid hi1.out
      have hni1:ni1≤30:=by
       rw [← HI1.out.1.len]
       exact Nat.le_trans (by rw [List.length_reverse,List.length_map,HPL.out.len];exact Nat.le_refl _) (by omega)
      have hnc1:ni1≤ci1:=HI1.out.1.le
      have hnm1:ci1≤9223372036854775807:=HI1.out.1.max
      have HO1b:Hid (wb1.ownsRow w5.heap.size 52 5 va1 np (kcs P)):=lid (own_keep HO1a.out (fun k e=>HI1.out.2.block k (HO1a.out.lt k e).2))
      have HB1b:Hid (Below w5.heap.size w5 wb1):=lid (HB1a.out.trans (HI1.out.2.mono HB1a.out.size))
      clear hi1 CC1
      go_wp2_with (at_builtin;go_must (refine wpList_append_sl rfl _ _ 26 rfl w5.heap.size 52 (.agg #[.int .i64 0,.string ⟨#[]⟩,.string ⟨#[]⟩,.slice none 0 0,.slice none 0 0]) 5 88 info_edit Tryz.underlying26 rfl (by decide) _ np (kcs P) HO1b.out rfl ai1 ni1 ci1 (kcs ((P.map invK).reverse)) rfl HI1.out.1.sl HI1.out.1.nil (kcs_one _) (by simp only [maxLen];omega) (by omega) HB1b.out.size ?_))
      intro vb1 wc1 hown hb
      have HB1c:Hid (Below w5.heap.size w5 wc1):=lid (HB1b.out.trans hb)
      have HC1:Hid (Below w5.heap.size w5 wc1):=lid (HB1c.out)
      have HBX1:Hid (Below w.heap.size w wc1):=lid (HBW5.out.trans (HC1.out.mono HBW5.out.size))
      have hel:∀ y∈P++((P.map invK).reverse),KwA wc1 y:=fun y hy=>by
       rcases List.mem_append.1 hy with hy | hy
       ·exact (H1B.out.el y hy).below HB1c.out
       ·exact (HX1.out y hy).below HB1c.out
      obtain ⟨E,F,g1,-,g3,-,g6⟩:=HPF.out
      have g2:=inv_all g1
      have g4:∀ e∈E.reverse.map Ed.inv,e.vld:=fun e he=>by
       obtain ⟨e0,h0,rfl⟩:=List.mem_map.1 he
       exact Ed.vld_inv (g3 e0 (List.mem_reverse.1 h0))
      have g5:=taken_back g6
      clear g6
      obtain ⟨ak1,ck1,rfl,hap⟩:=apply_two HA.out HBX1.out hown (by rw [H1B.out.len,HI1.out.1.len]) (by omega) hel (by omega) g1 g2 g3 g4 HVA.out.1 HVA.out.2 A HVA.out.1 HVA.out.2 HA.out.len g5
      have CA1:=lid hap
      clear hap hel hown hb g1 g2 g3 g4 g5
      go_wp2_with fail
      (with_reducible refine (CA1.out).mono ?_);rintro e wd1 ⟨am1,cm1,M1,rfl,hm1⟩
      have HM1:=lid hm1.out
      have HBD1:Hid (Below w5.heap.size w5 wd1):=lid (HB1c.out.trans (HM1.out.2.2.mono HB1c.out.size))
      have HBW1:Hid (Below w5.heap.size w5 wd1):=lid (HC1.out.trans (HM1.out.2.2.mono HC1.out.size))
      clear hm1 CA1 HBX1 HC1 HB1a HB1b HB1c HO1a HO1b HI1 HBW1a HX1 H1B
      have H2B:Hid (KLA wd1 ap np cp P):=lid (HPL.out.below HBW1.out)
      have HX2:Hid (∀ y∈restL eqK K P,KwA wd1 y):=lid (fun y hy=>(HK.out.el y (restL_mem hy)).below (HB5.out.trans (HBW1.out.mono HB5.out.size)))
      go_wp2_with (at_builtin;go_must (refine wpList_append_sl rfl _ _ 26 rfl wd1.heap.size 52 (.agg #[.int .i64 0,.string ⟨#[]⟩,.string ⟨#[]⟩,.slice none 0 0,.slice none 0 0]) 5 88 info_edit Tryz.underlying26 rfl (by decide) _ 0 [] (World.ownsRow_lit wd1 #[] 0 (Nat.le_refl _) (by simp [maxLen]) rfl) rfl ap np cp (kcs P) rfl (H2B.out.below (ba _ _)).sl H2B.out.nil (kcs_one _) (by simp only [maxLen];omega) (by omega) (by simp) ?_))
      intro va2 wa2 hown hb
      have HB2a:Hid (Below wd1.heap.size wd1 wa2):=lid ((ba _ _).trans hb)
      have HO2a:Hid (wa2.ownsRow wd1.heap.size 52 5 va2 np (kcs P)):=lid hown
      clear hown hb
      have HBW2a:Hid (Below w5.heap.size w5 wa2):=lid (HBW1.out.trans (HB2a.out.mono HBW1.out.size))
      have CC2:=lid (Rest_sl (HK.out.below (HB5.out.trans (HBW2a.out.mono HB5.out.size))) (HPL.out.below HBW2a.out) (by omega))
      go_wp2_with fail
      (with_reducible refine (CC2.out).mono ?_);rintro e wb2 ⟨ai2,ni2,ci2,rfl,hi2⟩
      have HI2:=lid hi2.out
      have hni2:ni2≤30:=by
       rw [← HI2.out.1.len]
       exact Nat.le_trans restL_len (by rw [HKL.out];omega)
      have hnc2:ni2≤ci2:=HI2.out.1.le
      have hnm2:ci2≤9223372036854775807:=HI2.out.1.max
      have HO2b:Hid (wb2.ownsRow wd1.heap.size 52 5 va2 np (kcs P)):=lid (own_keep HO2a.out (fun k e=>HI2.out.2.block k (HO2a.out.lt k e).2))
      have HB2b:Hid (Below wd1.heap.size wd1 wb2):=lid (HB2a.out.trans (HI2.out.2.mono HB2a.out.size))
      clear hi2 CC2
      go_wp2_with (at_builtin;go_must (refine wpList_append_sl rfl _ _ 26 rfl wd1.heap.size 52 (.agg #[.int .i64 0,.string ⟨#[]⟩,.string ⟨#[]⟩,.slice none 0 0,.slice none 0 0]) 5 88 info_edit Tryz.underlying26 rfl (by decide) _ np (kcs P) HO2b.out rfl ai2 ni2 ci2 (kcs (restL eqK K P)) rfl HI2.out.1.sl HI2.out.1.nil (kcs_one _) (by simp only [maxLen];omega) (by omega) HB2b.out.size ?_))
      intro vb2 wc2 hown hb
      have HB2c:Hid (Below wd1.heap.size wd1 wc2):=lid (HB2b.out.trans hb)
      have HC2:Hid (Below w5.heap.size w5 wc2):=lid (HBW1.out.trans (HB2c.out.mono HBW1.out.size))
      have HBX2:Hid (Below w.heap.size w wc2):=lid (HBW5.out.trans (HC2.out.mono HBW5.out.size))
      have hel:∀ y∈P++(restL eqK K P),KwA wc2 y:=fun y hy=>by
       rcases List.mem_append.1 hy with hy | hy
       ·exact (H2B.out.el y hy).below HB2c.out
       ·exact (HX2.out y hy).below HB2c.out
      obtain ⟨E,F,g1,g2,g3,g4,g5⟩:=HPF.out
      obtain ⟨ak2,ck2,rfl,hap⟩:=apply_two HA.out HBX2.out hown (by rw [H2B.out.len,HI2.out.1.len]) (by omega) hel (by omega) g1 g2 g3 g4 HVA.out.1 HVA.out.2 B HVB.out.1 HVB.out.2 HB.out.len g5
      have CA2:=lid hap
      clear hap hel hown hb g1 g2 g3 g4 g5
      go_wp2_with fail
      (with_reducible refine (CA2.out).mono ?_);rintro e wd2 ⟨am2,cm2,M2,rfl,hm2⟩
      have HM2:=lid hm2.out
      have HBD2:Hid (Below wd1.heap.size wd1 wd2):=lid (HB2c.out.trans (HM2.out.2.2.mono HB2c.out.size))
      have HBW2:Hid (Below w5.heap.size w5 wd2):=lid (HC2.out.trans (HM2.out.2.2.mono HC2.out.size))
      clear hm2 CA2 HBX2 HC2 HB2a HB2b HB2c HO2a HO2b HI2 HBW2a HX2 H2B
      have H3B:Hid (KLA wd2 ad nd cd Z):=lid (HZL.out.below HBW2.out)
      have HX3:Hid (∀ y∈restL eqK K Z,KwA wd2 y):=lid (fun y hy=>(HK.out.el y (restL_mem hy)).below (HB5.out.trans (HBW2.out.mono HB5.out.size)))
      go_wp2_with (at_builtin;go_must (refine wpList_append_sl rfl _ _ 26 rfl wd2.heap.size 52 (.agg #[.int .i64 0,.string ⟨#[]⟩,.string ⟨#[]⟩,.slice none 0 0,.slice none 0 0]) 5 88 info_edit Tryz.underlying26 rfl (by decide) _ 0 [] (World.ownsRow_lit wd2 #[] 0 (Nat.le_refl _) (by simp [maxLen]) rfl) rfl ad nd cd (kcs Z) rfl (H3B.out.below (ba _ _)).sl H3B.out.nil (kcs_one _) (by simp only [maxLen];omega) (by omega) (by simp) ?_))
      intro va3 wa3 hown hb
      have HB3a:Hid (Below wd2.heap.size wd2 wa3):=lid ((ba _ _).trans hb)
      have HO3a:Hid (wa3.ownsRow wd2.heap.size 52 5 va3 nd (kcs Z)):=lid hown
      clear hown hb
      have HBW3a:Hid (Below w5.heap.size w5 wa3):=lid (HBW2.out.trans (HB3a.out.mono HBW2.out.size))
      have CC3:=lid (Rest_sl (HK.out.below (HB5.out.trans (HBW3a.out.mono HB5.out.size))) (HZL.out.below HBW3a.out) (by omega))
      go_wp2_with fail
      (with_reducible refine (CC3.out).mono ?_);rintro e wb3 ⟨ai3,ni3,ci3,rfl,hi3⟩
      have HI3:=lid hi3.out
      have hni3:ni3≤30:=by
       rw [← HI3.out.1.len]
       exact Nat.le_trans restL_len (by rw [HKL.out];omega)
      have hnc3:ni3≤ci3:=HI3.out.1.le
      have hnm3:ci3≤9223372036854775807:=HI3.out.1.max
      have HO3b:Hid (wb3.ownsRow wd2.heap.size 52 5 va3 nd (kcs Z)):=lid (own_keep HO3a.out (fun k e=>HI3.out.2.block k (HO3a.out.lt k e).2))
      have HB3b:Hid (Below wd2.heap.size wd2 wb3):=lid (HB3a.out.trans (HI3.out.2.mono HB3a.out.size))
      clear hi3 CC3
      go_wp2_with (at_builtin;go_must (refine wpList_append_sl rfl _ _ 26 rfl wd2.heap.size 52 (.agg #[.int .i64 0,.string ⟨#[]⟩,.string ⟨#[]⟩,.slice none 0 0,.slice none 0 0]) 5 88 info_edit Tryz.underlying26 rfl (by decide) _ nd (kcs Z) HO3b.out rfl ai3 ni3 ci3 (kcs (restL eqK K Z)) rfl HI3.out.1.sl HI3.out.1.nil (kcs_one _) (by simp only [maxLen];omega) (by omega) HB3b.out.size ?_))
      intro vb3 wc3 hown hb
      have HB3c:Hid (Below wd2.heap.size wd2 wc3):=lid (HB3b.out.trans hb)
      have HC3:Hid (Below w5.heap.size w5 wc3):=lid (HBW2.out.trans (HB3c.out.mono HBW2.out.size))
      have HBX3:Hid (Below w.heap.size w wc3):=lid (HBW5.out.trans (HC3.out.mono HBW5.out.size))
      have hel:∀ y∈Z++(restL eqK K Z),KwA wc3 y:=fun y hy=>by
       rcases List.mem_append.1 hy with hy | hy
       ·exact (H3B.out.el y hy).below HB3c.out
       ·exact (HX3.out y hy).below HB3c.out
      obtain ⟨E,F,g1,g2,g3,g4,g5⟩:=HZF.out
      obtain ⟨ak3,ck3,rfl,hap⟩:=apply_two HA.out HBX3.out hown (by rw [H3B.out.len,HI3.out.1.len]) (by omega) hel (by omega) g1 g2 g3 g4 HVA.out.1 HVA.out.2 B HVB.out.1 HVB.out.2 HB.out.len g5
      have CA3:=lid hap
      clear hap hel hown hb g1 g2 g3 g4 g5
      go_wp2_with fail
      (with_reducible refine (CA3.out).mono ?_);rintro e wd3 ⟨am3,cm3,M3,rfl,hm3⟩
      have HM3:=lid hm3.out
      have HBD3:Hid (Below wd2.heap.size wd2 wd3):=lid (HB3c.out.trans (HM3.out.2.2.mono HB3c.out.size))
      have HBW3:Hid (Below w5.heap.size w5 wd3):=lid (HC3.out.trans (HM3.out.2.2.mono HC3.out.size))
      clear hm3 CA3 HBX3 HC3 HB3a HB3b HB3c HO3a HO3b HI3 HBW3a HX3 H3B
      have HBF:Hid (Below w.heap.size w wd3):=lid (HBW5.out.trans (HBW3.out.mono HBW5.out.size))
      have CS1:=lid (SameMs_any am1 ao n cm1 ca M1 A wd3 (HM1.out.1.below (HBD2.out.trans (HBD3.out.mono HBD2.out.size))) (HA.out.below HBF.out) HM1.out.2.1)
      have CS2:=lid (fun V (hV:Below wd3.heap.size wd3 V)=>SameMs_any am2 bo m cm2 cb M2 B V (HM2.out.1.below (HBD3.out.trans (hV.mono HBD3.out.size))) (HB.out.below (HBF.out.trans (hV.mono HBF.out.size))) HM2.out.2.1)
      have CS3:=lid (fun V (hV:Below wd3.heap.size wd3 V)=>SameMs_any am3 bo m cm3 cb M3 B V (HM3.out.1.below hV) (HB.out.below (HBF.out.trans (hV.mono HBF.out.size))) HM3.out.2.1)
      clear HM1 HM2 HM3 HBD1 HBD2 HBD3 HPF HZF HPL HZL HPV HVAL
      go_wp2_with fail
      (with_reducible refine (CS1.out).mono ?_);rintro e y1 ⟨rfl,hb1⟩
      have HY1:=lid hb1
      clear hb1 CS1
      go_wp2_with fail
      (with_reducible refine (CS2.out _ HY1.out).mono ?_);rintro e y2 ⟨rfl,hb2⟩
      have HY2:=lid (HY1.out.trans (hb2.mono HY1.out.size))
      clear hb2 CS2
      go_wp2_with fail
      (with_reducible refine (CS3.out _ HY2.out).mono ?_);rintro e y3 ⟨rfl,hb3⟩
      have HY3:=lid (HY2.out.trans (hb3.mono HY2.out.size))
      clear hb3 CS3
      go_wp2_with fail
      (with_reducible refine (CED.out _).mono ?_);rintro e y4 ⟨rfl,hb4⟩
      have HY4:=lid (HY3.out.trans (hb4.mono HY3.out.size))
      clear hb4
      go_wp2_with fail
      go_ret
      exact ⟨rfl,HBF.out.trans (HY4.out.mono HBF.out.size)⟩
end Go.Proofs.YtgcceepadlmelaaGreatDoor
