import Derived.Test.YtgcceepadlmelaaGreatDoorEdFits
import Derived.Test.YtgcceepadlmelaaGreatDoorEdCat
import Derived.Test.YtgcceepadlmelaaGreatDoorEdBind
import Derived.Test.YtgcceepadlmelaaGreatDoorQAE
namespace Go.Proofs.YtgcceepadlmelaaGreatDoor
set_option maxRecDepth 100000
set_option maxHeartbeats 8000000
open Go.RowKit
def nilEw:Ew:=.mk 11 ⟨#[]⟩ ⟨#[]⟩ 0 0 none 0 []
theorem nilEw_EA {w:World}:EA w nilEw:=.mk Sl.nil (Nat.le_refl _) (Nat.zero_le _) (Nat.zero_le _) (Nat.zero_le _) (show I64 11 from ⟨by decide,by decide⟩) (show I64 0 from ⟨by decide,by decide⟩) (show I64 0 from ⟨by decide,by decide⟩) (fun _ h=>by cases h) (fun _=>rfl)
def aB:ByteArray:=⟨#[97]⟩
def cmplW (k:Int) (d:Dw) (na:Option Addr) (nc:Nat):Dw :=
 if k=7 then ⟨d.id,1,d.pub,d.na,d.names,d.ncap,d.doubt,nilEw⟩
 else if k=8 then ⟨d.id,1,d.pub,na,[aB],nc,d.doubt,d.body⟩
 else if k=9 then ⟨d.id,d.kind,d.pub,na,[aB],nc,d.doubt,nilEw⟩ else d
structure TestK (k:Kw):Prop where
 lo:k.kind≤2→∀ ua uc da dc,modW ⟨k.pack,ua,[],uc,da,[],dc⟩
 us:k.kind=3∨k.kind=4→∀ ua uc da dc,modW ⟨k.pack,ua,[k.text],uc,da,[],dc⟩
 ds:5≤k.kind→∀ d∈k.old++k.new,∀ na nc ua uc da dc,modW ⟨k.pack,ua,[],uc,da,[cmplW k.kind d na nc],dc⟩
def TestP (w:World) (r:Ending) (w':World):Prop:=∃ (ao:Option Addr) (cap:Nat) (L:List Mw),r=.returned (.slice ao L.length cap)∧MLA w' ao L.length cap L∧(∀ m∈L,modW m)∧Below w.heap.size w w'
theorem info_mod:(Tryz.prog.info? 45).map (fun i=>(i.zero,i.size,i.bytes))=some (some (.agg #[.string ⟨#[]⟩,.slice none 0 0,.slice none 0 0]),3,64):=by kernel_rfl
theorem DLA.empty {w:World}:DLA w none 0 0 []:=⟨rfl,Sl.nil,Nat.le_refl _,Nat.zero_le _,fun _ h=>(by cases h),fun _=>rfl⟩
theorem mla_one {w:World} {R:Nat} {m:Mw} {us:Array Value} (h:w.heap[R]?=some (.cells us 45 (0,0))) (hu:us=mca m) (hm:MwA w m):MLA w (some ⟨R,0,none⟩) 1 1 [m] :=
 ⟨rfl,by have:=sl_row (size:=3) (n:=1) h (by rw [hu];rfl);rw [hu] at this;simpa [mcs] using this,Nat.le_refl _,by simp [maxLen],fun x hx=>(by rw [List.mem_singleton.1 hx];exact hm),fun h=>by cases h⟩
theorem tests_12 (K:Int) (hK:K=1∨K=2) (p t:ByteArray) (oa na:Option Addr) (lo ln oc nc:Nat) (w:World) (hp:p.size≤maxLen) (hm:∀ ua uc da dc,modW ⟨p,ua,[],uc,da,[],dc⟩):Calls Tryz.prog 56 #[.agg #[.int .i64 K,.string p,.string t,.slice oa lo oc,.slice na ln nc]] w (TestP w):=by
 obtain ⟨W2,hW2⟩:∃ y,(w.alloc (.cells #[.int .i64 K,.string p,.string t,.slice oa lo oc,.slice na ln nc] 52)).alloc (.cells #[.string p,.slice none 0 0,.slice none 0 0] 45)=y:=⟨_,rfl⟩
 have HB:=lid (show Below w.heap.size w W2 by rw [← hW2];exact (ba _ _).alloc (by simp) _)
 have HR:=lid (show W2.heap[w.heap.size+1]?=some (.cells #[.string p,.slice none 0 0,.slice none 0 0] 45 (0,0)) by rw [← hW2];exact h_new (by simp) _)
 have HW:=lid hW2
 have HM:=lid (hm none 0 none 0)
 have HP:=lid hp
 clear hW2 hm hp
 rcases hK with rfl | rfl
 all_goals
  go_enter Tryz.func56,Tryz.ntmps56
  go_wp2_with fail
  rw [HW.out]
  go_ret
  refine ⟨some ⟨w.heap.size+1,0,none⟩,1,[⟨p,none,[],0,none,[],0⟩],by rfl,mla_one HR.out rfl ⟨HP.out,SA.empty,DLA.empty⟩,fun m hm=>?_,HB.out⟩
  rw [List.mem_singleton.1 hm]
  exact HM.out
theorem tests_34 (K:Int) (hK:K=3∨K=4) (p t:ByteArray) (oa na:Option Addr) (lo ln oc nc:Nat) (w:World) (hp:p.size≤maxLen) (ht:t.size≤maxLen) (hm:∀ ua uc da dc,modW ⟨p,ua,[t],uc,da,[],dc⟩):Calls Tryz.prog 56 #[.agg #[.int .i64 K,.string p,.string t,.slice oa lo oc,.slice na ln nc]] w (TestP w):=by
 obtain ⟨W2,hW2⟩:∃ y,((w.alloc (.cells #[.int .i64 K,.string p,.string t,.slice oa lo oc,.slice na ln nc] 52)).alloc (.cells #[.string t] 9)).alloc (.cells #[.string p,.slice (some ⟨w.heap.size+1,0,none⟩) 1 1,.slice none 0 0] 45)=y:=⟨_,rfl⟩
 have HB:=lid (show Below w.heap.size w W2 by rw [← hW2];exact ((ba _ _).alloc (by simp) _).alloc (by simp <;> omega) _)
 have HR:=lid (show W2.heap[w.heap.size+2]?=some (.cells #[.string p,.slice (some ⟨w.heap.size+1,0,none⟩) 1 1,.slice none 0 0] 45 (0,0)) by rw [← hW2];exact h_new (by simp) _)
 have HT:=lid (show W2.heap[w.heap.size+1]?=some (.cells #[.string t] 9 (0,0)) by rw [← hW2];exact (h_old (by simp) _).trans (h_new (by simp) _))
 have HW:=lid hW2
 have HM:=lid (hm (some ⟨w.heap.size+1,0,none⟩) 1 none 0)
 have HP:=lid hp
 have HTT:=lid ht
 clear hW2 hm hp ht
 rcases hK with rfl | rfl
 all_goals
  go_enter Tryz.func56,Tryz.ntmps56
  go_wp2_with fail
  rw [HW.out]
  go_ret
  refine ⟨some ⟨w.heap.size+2,0,none⟩,1,[⟨p,some ⟨w.heap.size+1,0,none⟩,[t],1,none,[],0⟩],by rfl,mla_one HR.out rfl ⟨HP.out,⟨rfl,?_,Nat.le_refl _,by simp [maxLen],fun s hs=>?_,fun h=>by cases h⟩,DLA.empty⟩,fun m hm=>?_,HB.out⟩
  ·have:=sl_row (size:=1) (n:=1) HT.out rfl
   exact this
  ·rw [List.mem_singleton.1 hs]
   exact HTT.out
  ·rw [List.mem_singleton.1 hm]
   exact HM.out
theorem tests_56 (K:Int) (hK:K=5∨K=6) (p t:ByteArray) (oa na:Option Addr) (lo ln:List Dw) (oc nc:Nat) (w:World) (hp:p.size≤maxLen) (ho:DLA w oa lo.length oc lo) (hn:DLA w na ln.length nc ln) (h2:(lo++ln).length≤2) (hm:∀ d∈lo++ln,∀ a c ua uc da dc,modW ⟨p,ua,[],uc,da,[cmplW K d a c],dc⟩) :
  Calls Tryz.prog 56 #[.agg #[.int .i64 K,.string p,.string t,.slice oa lo.length oc,.slice na ln.length nc]] w (TestP w):=by
 obtain ⟨W2,hW2⟩:∃ y,(w.alloc (.cells #[.int .i64 K,.string p,.string t,.slice oa lo.length oc,.slice na ln.length nc] 52)).alloc (.cells #[.slice oa lo.length oc,.slice na ln.length nc] 43)=y:=⟨_,rfl⟩
 have hb2:Below w.heap.size w W2:=by rw [← hW2];exact (ba _ _).alloc (by simp) _
 have hR2:W2.heap[w.heap.size]?=some (.cells #[.int .i64 K,.string p,.string t,.slice oa lo.length oc,.slice na ln.length nc] 52 (0,0)):=by rw [← hW2];exact (h_old (by simp) _).trans (h_new rfl _)
 have hS2:W2.heap[w.heap.size+1]?=some (.cells #[.slice oa lo.length oc,.slice na ln.length nc] 43 (0,0)):=by rw [← hW2];exact h_new (by simp) _
 have HW2:=lid hW2
 have HB2:=lid hb2
 have HR2:=lid hR2
 have HDS:Hid (∀ d∈lo++ln,DwA w d):=lid (fun d hd=>(List.mem_append.1 hd).elim (ho.el d) (hn.el d))
 have HM:=lid hm
 have HP:=lid hp
 have CC:=lid (ConcatD_any [⟨oa,oc,lo.length,dcs lo⟩,⟨na,nc,ln.length,dcs ln⟩] (w.heap.size+1) 2 W2 rfl (row_lt hS2) (fun j hj=>by
   rw [row_cell hS2]
   match j,hj with
   | 0,_=>rfl
   | 1,_=>rfl) (fun x hx=>by
   simp only [List.mem_cons,List.not_mem_nil,or_false] at hx
   rcases hx with rfl | rfl
   ·exact ⟨ho.sl.below hb2,ho.nil,dcs_one _⟩
   ·exact ⟨hn.sl.below hb2,hn.nil,dcs_one _⟩) (by simp) (by simp [joinN];rw [List.length_append] at h2;omega))
 clear hW2 hb2 hR2 hS2 hm hp ho hn
 rcases hK with rfl | rfl
 all_goals
  go_enter Tryz.func56,Tryz.ntmps56
  go_wp2_with fail
  rw [HW2.out]
  (with_reducible refine (CC.out).mono ?_);rintro e w3 ⟨v3,rfl,hown3,hb3⟩
  obtain ⟨ds,hds⟩:∃ ds,lo++ln=ds:=⟨_,rfl⟩
  obtain ⟨n,hnn⟩:∃ n,ds.length=n:=⟨_,rfl⟩
  have hN:joinN [⟨oa,oc,lo.length,dcs lo⟩,⟨na,nc,ln.length,dcs ln⟩]=n:=by rw [← hnn,← hds];simp [joinN]
  have hU:joinU [⟨oa,oc,lo.length,dcs lo⟩,⟨na,nc,ln.length,dcs ln⟩]=dcs ds:=by rw [← hds,dcs_append];simp [joinU]
  rw [hN,hU] at hown3
  rw [hds] at HDS HM h2
  rw [hnn] at h2
  have HNN:=lid hnn
  have HB3:=lid (HB2.out.trans (hb3.mono HB2.out.size))
  have HR3:=lid ((hb3.block _ (row_lt HR2.out)).trans HR2.out)
  have HSL:Hid (∃ ao cap,v3=.slice ao n cap∧n≤cap∧cap≤maxLen∧Sl w3 11 ao n (dcs ds)):=lid (Sl.of_own hown3)
  clear hown3 hb3 hN hU hds hnn CC
  obtain ⟨aoD,capD,rfl,hcn,hcm,hsl⟩:=HSL.out
  have HSD:=lid hsl
  have hcm63:capD≤9223372036854775807:=hcm
  clear HSL hsl hcm
  go_wp2_with fail
  go_loopw [3,32] (fun v3 u32 wr=>∃ (j:Nat) (L:List Mw),j≤n∧u32=.int .i64 j∧L.length=j∧Hid (wr.ownsRow w3.heap.size 45 3 v3 j (mcs L))∧Hid (∀ m∈L,MwA (ersO v3.ownBlock wr) m)∧Hid (∀ m∈L,modW m)∧Hid (Below w3.heap.size w3 wr)) (fun _ u32 _=>n-(intOf u32).toNat)
  case atStart=>exact ⟨0,[],Nat.zero_le _,rfl,rfl,lid (World.ownsRow_nil _ _ _ _),lid (fun _ h=>by cases h),lid (fun _ h=>by cases h),lid (Below.refl _ _)⟩
  case round =>
   obtain ⟨j,L,hj,rfl,hL,HO,HMA,HMV,HBR⟩:=hrel
   have hrr:wr.heap[w.heap.size]?=_:=(HBR.out.block _ (row_lt HR3.out)).trans HR3.out
   have k0:wr.cell? ⟨w.heap.size,0,none⟩=some (.int .i64 _):=row_cell hrr 0
   have k1:wr.cell? ⟨w.heap.size,1,none⟩=some (.string p):=row_cell hrr 1
   have lk:=row_lt hrr
   by_cases hjn:j<n
   ·have hjl:j<ds.length:=by rw [HNN.out];exact hjn
    obtain ⟨d,hd⟩:∃ d,ds[j]=d:=⟨_,rfl⟩
    obtain ⟨b,o,rfl,hbz,hc⟩:=HSD.out.at_ (k:=j) hjn
    have hcd:∀ i u,(dce d)[i]?=some u→i<11→wr.cell? ⟨b,o+(j*11+i),none⟩=some u:=fun i u hu hi=>by rw [bc HBR.out hbz _];exact hc _ u (by rw [dcs_cell hjl hi,hd];exact hu)
    have y0:wr.cell? ⟨b,o+j*11,none⟩=some (.int .i64 d.id):=by have:=hcd 0 _ rfl (by omega);exact this
    have y1:wr.cell? ⟨b,o+j*11+1,none⟩=some (.int .i64 d.kind):=by have:=hcd 1 _ rfl (by omega);rwa [← Nat.add_assoc] at this
    have y2:wr.cell? ⟨b,o+j*11+2,none⟩=some (.bool d.pub):=by have:=hcd 2 _ rfl (by omega);rwa [← Nat.add_assoc] at this
    have y3:wr.cell? ⟨b,o+j*11+3,none⟩=some (.slice d.na d.names.length d.ncap):=by have:=hcd 3 _ rfl (by omega);rwa [← Nat.add_assoc] at this
    have y4:wr.cell? ⟨b,o+j*11+4,none⟩=some (.bool d.doubt):=by have:=hcd 4 _ rfl (by omega);rwa [← Nat.add_assoc] at this
    have y5:wr.cell? ⟨b,o+j*11+5,none⟩=some (.int .i64 d.body.kind):=by have:=hcd 5 _ rfl (by omega);rwa [← Nat.add_assoc] at this
    have y6:wr.cell? ⟨b,o+j*11+6,none⟩=some (.string d.body.name):=by have:=hcd 6 _ rfl (by omega);rwa [← Nat.add_assoc] at this
    have y7:wr.cell? ⟨b,o+j*11+7,none⟩=some (.string d.body.more):=by have:=hcd 7 _ rfl (by omega);rwa [← Nat.add_assoc] at this
    have y8:wr.cell? ⟨b,o+j*11+8,none⟩=some (.int .i64 d.body.int):=by have:=hcd 8 _ rfl (by omega);rwa [← Nat.add_assoc] at this
    have y9:wr.cell? ⟨b,o+j*11+9,none⟩=some (.int .i64 d.body.den):=by have:=hcd 9 _ rfl (by omega);rwa [← Nat.add_assoc] at this
    have y10:wr.cell? ⟨b,o+j*11+10,none⟩=some (.slice d.body.ao d.body.sub.length d.body.cap):=by have:=hcd 10 _ rfl (by omega);rwa [← Nat.add_assoc] at this
    have hbz2:b<wr.heap.size:=Nat.lt_of_lt_of_le hbz HBR.out.size
    have HDW:Hid (DwA w3 d):=lid ((HDS.out d (by rw [← hd];exact List.getElem_mem hjl)).below HB3.out)
    have HMD:Hid (∀ a c ua uc da dc,modW ⟨p,ua,[],uc,da,[cmplW _ d a c],dc⟩):=lid (HM.out d (by rw [← hd];exact List.getElem_mem hjl))
    have HLL:=lid hL
    obtain ⟨X,hX⟩:∃ X,(((wr).alloc (Obj.cells #[.int .i64 d.id,.int .i64 d.kind,.bool d.pub,.slice d.na d.names.length d.ncap,.bool d.doubt,.int .i64 d.body.kind,.string d.body.name,.string d.body.more,.int .i64 d.body.int,.int .i64 d.body.den,.slice d.body.ao d.body.sub.length d.body.cap] 65)).alloc (Obj.cells #[.int .i64 d.id,.int .i64 d.kind,.bool d.pub,.slice d.na d.names.length d.ncap,.bool d.doubt,.int .i64 d.body.kind,.string d.body.name,.string d.body.more,.int .i64 d.body.int,.int .i64 d.body.den,.slice d.body.ao d.body.sub.length d.body.cap] 65)).alloc (Obj.cells #[Value.string p,Value.slice none 0 0,Value.slice (some ⟨wr.heap.size+1,0,none⟩) 1 1] 45)=X:=⟨_,rfl⟩
    have hbX:Below wr.heap.size wr X:=by rw [← hX];exact ((ba _ _).alloc (by simp) _).alloc (by simp <;> omega) _
    have hMX:X.heap[wr.heap.size+1+1]?=some (.cells #[.string p,.slice none 0 0,.slice (some ⟨wr.heap.size+1,0,none⟩) 1 1] 45 (0,0)):=by rw [← hX];exact h_new (by simp) _
    have hDX:X.heap[wr.heap.size+1]?=some (.cells #[.int .i64 d.id,.int .i64 d.kind,.bool d.pub,.slice d.na d.names.length d.ncap,.bool d.doubt,.int .i64 d.body.kind,.string d.body.name,.string d.body.more,.int .i64 d.body.int,.int .i64 d.body.den,.slice d.body.ao d.body.sub.length d.body.cap] 65 (0,0)):=by rw [← hX];exact (h_old (by simp) _).trans (h_new (by simp) _)
    have HHX:=lid hX
    have HBX:=lid hbX
    have HMX:=lid hMX
    have HDX:=lid hDX
    have hz3:w3.heap.size≤X.heap.size:=Nat.le_trans HBR.out.size hbX.size
    have hj2:j≤1:=by omega
    have HOX:Hid (X.ownsRow w3.heap.size 45 3 u3 j (mcs L)):=lid (own_keep HO.out (fun g hg=>hbX.block g (HO.out.lt g hg).2))
    clear hc hcd hd hjl hrr hL hX hbX hMX hDX
    go_wp2_with (at_builtin;rw [HHX.out];go_must (refine wpList_append_sla rfl _ _ 22 rfl w3.heap.size 45 (.agg #[.string ⟨#[]⟩,.slice none 0 0,.slice none 0 0]) 3 64 info_mod Tryz.underlying22 rfl (by decide) u3 j (mcs L) HOX.out rfl ⟨wr.heap.size+1+1,0,none⟩ 1 1 #[.string p,.slice none 0 0,.slice (some ⟨wr.heap.size+1,0,none⟩) 1 1].toList rfl (sl_row HMX.out rfl) (by simp [Value.oneCell']) (by simp only [maxLen];omega) (by omega) hz3 ?_))
    intro v9 w9 own9 hb9 hg9 hat9
    have hkg:KL (ersO u3.ownBlock X) (ersO v9.ownBlock w9):=kl_ers_grown hg9 (hat9.elim .inl (fun h=>.inr ⟨_,h,Nat.le_refl _⟩))
    have hne:∀ q,wr.heap.size≤q→u3.ownBlock≠some q:=fun q hq e=>by have:=(HO.out.lt q e).2;omega
    have hbw3:Below w3.heap.size w3 X:=HBR.out.trans (HBX.out.mono HBR.out.size)
    have hkb:KL w3 (ersO u3.ownBlock X):=kl_ers_base hbw3 (fun q hq=>(HO.out.lt q hq).1)
    obtain ⟨m0,hm0⟩:∃ m:Mw,m=⟨p,none,[],0,some ⟨wr.heap.size+1,0,none⟩,[d],1⟩:=⟨_,rfl⟩
    have hma0:MwA (ersO u3.ownBlock X) m0:=by
     rw [hm0]
     refine ⟨HP.out,SA.empty,⟨rfl,?_,Nat.le_refl _,by simp [maxLen],fun x hx=>?_,fun e=>by cases e⟩⟩
     ·have:=sl_row (size:=11) (n:=1) ((ersO_other (hne _ (by omega))).trans HDX.out) rfl
      exact this
     ·rw [List.mem_singleton.1 hx]
      exact HDW.out.kl hkb
    have HO9:Hid (w9.ownsRow w3.heap.size 45 3 v9 (j+1) (mcs (L++[m0]))):=lid (by rw [mcs_append,hm0];exact own9)
    have HMA9:Hid (∀ m∈L++[m0],MwA (ersO v9.ownBlock w9) m):=lid (fun m hm=>by
     rcases List.mem_append.1 hm with hm | hm
     ·exact ((HMA.out m hm).kl (kl_ers_below HBX.out)).kl hkg
     ·rw [List.mem_singleton.1 hm];exact hma0.kl hkg)
    have HMV9:Hid (∀ m∈L++[m0],modW m):=lid (fun m hm=>by
     rcases List.mem_append.1 hm with hm | hm
     ·exact HMV.out m hm
     ·rw [List.mem_singleton.1 hm,hm0];exact HMD.out none 0 none 0 (some ⟨wr.heap.size+1,0,none⟩) 1)
    have HB9:Hid (Below w3.heap.size w3 w9):=lid (hbw3.trans hb9)
    have HL9:Hid ((L++[m0]).length=j+1):=lid (by rw [List.length_append,HLL.out];rfl)
    clear own9 hb9 hg9 hat9 hkg hne hbw3 hkb hma0 hm0 y0 y1 y2 y3 y4 y5 y6 y7 y8 y9 y10 k0 k1 lk
    try simp only [Act.put,q1,q2,q3]
    go_wp2_with fail
    go_roundw
    case measure=>simp only [intOf];omega
    case rel=>exact ⟨j+1,L++[m0],by omega,by simp,HL9.out,HO9,HMA9,HMV9,HB9⟩
   ·obtain rfl:j=n:=by omega
    obtain ⟨ao4,cap4,rfl⟩:=own_slice HO.out
    obtain ⟨ao5,cap5,e5,hc1,hc2,hsl5⟩:=Sl.of_own HO.out
    injection e5 with e51 _ e52
    subst e51 e52
    have HLA:Hid (MLA wr ao4 L.length cap4 L):=lid ⟨rfl,by rw [hL];exact hsl5,by rw [hL];exact hc1,hc2,fun m hm=>(HMA.out m hm).kl (kl_ers _ _),fun e=>by
     rcases HO.out.2 with ⟨e3,_⟩ | ⟨g,c,cur,e3,_⟩
     ·injection e3
     ·injection e3 with e3
      rw [e] at e3
      cases e3⟩
    have HLL:=lid hL
    clear hjn hsl5 hc1 hc2
    go_wp2_with fail
    go_ret
    exact ⟨ao4,cap4,L,by rw [HLL.out];rfl,HLA.out,HMV.out,HB3.out.trans (HBR.out.mono HB3.out.size)⟩
theorem tests_7 (p t:ByteArray) (oa na:Option Addr) (lo ln:List Dw) (oc nc:Nat) (w:World) (hp:p.size≤maxLen) (ho:DLA w oa lo.length oc lo) (hn:DLA w na ln.length nc ln) (h2:(lo++ln).length≤2) (hm:∀ d∈lo++ln,∀ a c ua uc da dc,modW ⟨p,ua,[],uc,da,[cmplW 7 d a c],dc⟩) :
  Calls Tryz.prog 56 #[.agg #[.int .i64 7,.string p,.string t,.slice oa lo.length oc,.slice na ln.length nc]] w (TestP w):=by
 obtain ⟨W2,hW2⟩:∃ y,(w.alloc (.cells #[.int .i64 7,.string p,.string t,.slice oa lo.length oc,.slice na ln.length nc] 52)).alloc (.cells #[.slice oa lo.length oc,.slice na ln.length nc] 43)=y:=⟨_,rfl⟩
 have hb2:Below w.heap.size w W2:=by rw [← hW2];exact (ba _ _).alloc (by simp) _
 have hR2:W2.heap[w.heap.size]?=some (.cells #[.int .i64 7,.string p,.string t,.slice oa lo.length oc,.slice na ln.length nc] 52 (0,0)):=by rw [← hW2];exact (h_old (by simp) _).trans (h_new rfl _)
 have hS2:W2.heap[w.heap.size+1]?=some (.cells #[.slice oa lo.length oc,.slice na ln.length nc] 43 (0,0)):=by rw [← hW2];exact h_new (by simp) _
 have HW2:=lid hW2
 have HB2:=lid hb2
 have HR2:=lid hR2
 have HDS:Hid (∀ d∈lo++ln,DwA w d):=lid (fun d hd=>(List.mem_append.1 hd).elim (ho.el d) (hn.el d))
 have HM:=lid hm
 have HP:=lid hp
 have CC:=lid (ConcatD_any [⟨oa,oc,lo.length,dcs lo⟩,⟨na,nc,ln.length,dcs ln⟩] (w.heap.size+1) 2 W2 rfl (row_lt hS2) (fun j hj=>by
   rw [row_cell hS2]
   match j,hj with
   | 0,_=>rfl
   | 1,_=>rfl) (fun x hx=>by
   simp only [List.mem_cons,List.not_mem_nil,or_false] at hx
   rcases hx with rfl | rfl
   ·exact ⟨ho.sl.below hb2,ho.nil,dcs_one _⟩
   ·exact ⟨hn.sl.below hb2,hn.nil,dcs_one _⟩) (by simp) (by simp [joinN];rw [List.length_append] at h2;omega))
 clear hW2 hb2 hR2 hS2 hm hp ho hn
 go_enter Tryz.func56,Tryz.ntmps56
 go_wp2_with fail
 rw [HW2.out]
 (with_reducible refine (CC.out).mono ?_);rintro e w3 ⟨v3,rfl,hown3,hb3⟩
 obtain ⟨ds,hds⟩:∃ ds,lo++ln=ds:=⟨_,rfl⟩
 obtain ⟨n,hnn⟩:∃ n,ds.length=n:=⟨_,rfl⟩
 have hN:joinN [⟨oa,oc,lo.length,dcs lo⟩,⟨na,nc,ln.length,dcs ln⟩]=n:=by rw [← hnn,← hds];simp [joinN]
 have hU:joinU [⟨oa,oc,lo.length,dcs lo⟩,⟨na,nc,ln.length,dcs ln⟩]=dcs ds:=by rw [← hds,dcs_append];simp [joinU]
 rw [hN,hU] at hown3
 rw [hds] at HDS HM h2
 rw [hnn] at h2
 have HNN:=lid hnn
 have HB3:=lid (HB2.out.trans (hb3.mono HB2.out.size))
 have HR3:=lid ((hb3.block _ (row_lt HR2.out)).trans HR2.out)
 have HSL:Hid (∃ ao cap,v3=.slice ao n cap∧n≤cap∧cap≤maxLen∧Sl w3 11 ao n (dcs ds)):=lid (Sl.of_own hown3)
 clear hown3 hb3 hN hU hds hnn CC
 obtain ⟨aoD,capD,rfl,hcn,hcm,hsl⟩:=HSL.out
 have HSD:=lid hsl
 have hcm63:capD≤9223372036854775807:=hcm
 clear HSL hsl hcm
 go_wp2_with fail
 go_loopw [3,32] (fun v3 u32 wr=>∃ (j:Nat) (L:List Mw),j≤n∧u32=.int .i64 j∧L.length=j∧Hid (wr.ownsRow w3.heap.size 45 3 v3 j (mcs L))∧Hid (∀ m∈L,MwA (ersO v3.ownBlock wr) m)∧Hid (∀ m∈L,modW m)∧Hid (Below w3.heap.size w3 wr)) (fun _ u32 _=>n-(intOf u32).toNat)
 case atStart=>exact ⟨0,[],Nat.zero_le _,rfl,rfl,lid (World.ownsRow_nil _ _ _ _),lid (fun _ h=>by cases h),lid (fun _ h=>by cases h),lid (Below.refl _ _)⟩
 case round =>
  obtain ⟨j,L,hj,rfl,hL,HO,HMA,HMV,HBR⟩:=hrel
  have hrr:wr.heap[w.heap.size]?=_:=(HBR.out.block _ (row_lt HR3.out)).trans HR3.out
  have k0:wr.cell? ⟨w.heap.size,0,none⟩=some (.int .i64 7):=row_cell hrr 0
  have k1:wr.cell? ⟨w.heap.size,1,none⟩=some (.string p):=row_cell hrr 1
  have lk:=row_lt hrr
  by_cases hjn:j<n
  ·have hjl:j<ds.length:=by rw [HNN.out];exact hjn
   obtain ⟨d,hd⟩:∃ d,ds[j]=d:=⟨_,rfl⟩
   obtain ⟨b,o,rfl,hbz,hc⟩:=HSD.out.at_ (k:=j) hjn
   have hcd:∀ i u,(dce d)[i]?=some u→i<11→wr.cell? ⟨b,o+(j*11+i),none⟩=some u:=fun i u hu hi=>by rw [bc HBR.out hbz _];exact hc _ u (by rw [dcs_cell hjl hi,hd];exact hu)
   have y0:wr.cell? ⟨b,o+j*11,none⟩=some (.int .i64 d.id):=by have:=hcd 0 _ rfl (by omega);exact this
   have y1:wr.cell? ⟨b,o+j*11+1,none⟩=some (.int .i64 d.kind):=by have:=hcd 1 _ rfl (by omega);rwa [← Nat.add_assoc] at this
   have y2:wr.cell? ⟨b,o+j*11+2,none⟩=some (.bool d.pub):=by have:=hcd 2 _ rfl (by omega);rwa [← Nat.add_assoc] at this
   have y3:wr.cell? ⟨b,o+j*11+3,none⟩=some (.slice d.na d.names.length d.ncap):=by have:=hcd 3 _ rfl (by omega);rwa [← Nat.add_assoc] at this
   have y4:wr.cell? ⟨b,o+j*11+4,none⟩=some (.bool d.doubt):=by have:=hcd 4 _ rfl (by omega);rwa [← Nat.add_assoc] at this
   have y5:wr.cell? ⟨b,o+j*11+5,none⟩=some (.int .i64 d.body.kind):=by have:=hcd 5 _ rfl (by omega);rwa [← Nat.add_assoc] at this
   have y6:wr.cell? ⟨b,o+j*11+6,none⟩=some (.string d.body.name):=by have:=hcd 6 _ rfl (by omega);rwa [← Nat.add_assoc] at this
   have y7:wr.cell? ⟨b,o+j*11+7,none⟩=some (.string d.body.more):=by have:=hcd 7 _ rfl (by omega);rwa [← Nat.add_assoc] at this
   have y8:wr.cell? ⟨b,o+j*11+8,none⟩=some (.int .i64 d.body.int):=by have:=hcd 8 _ rfl (by omega);rwa [← Nat.add_assoc] at this
   have y9:wr.cell? ⟨b,o+j*11+9,none⟩=some (.int .i64 d.body.den):=by have:=hcd 9 _ rfl (by omega);rwa [← Nat.add_assoc] at this
   have y10:wr.cell? ⟨b,o+j*11+10,none⟩=some (.slice d.body.ao d.body.sub.length d.body.cap):=by have:=hcd 10 _ rfl (by omega);rwa [← Nat.add_assoc] at this
   have hbz2:b<wr.heap.size:=Nat.lt_of_lt_of_le hbz HBR.out.size
   have HDW:Hid (DwA w3 d):=lid ((HDS.out d (by rw [← hd];exact List.getElem_mem hjl)).below HB3.out)
   have HMD:Hid (∀ a c ua uc da dc,modW ⟨p,ua,[],uc,da,[cmplW 7 d a c],dc⟩):=lid (HM.out d (by rw [← hd];exact List.getElem_mem hjl))
   have HLL:=lid hL
   obtain ⟨X,hX⟩:∃ X,(((wr).alloc (Obj.cells #[.int .i64 d.id,.int .i64 1,.bool d.pub,.slice d.na d.names.length d.ncap,.bool d.doubt,.int .i64 11,.string ⟨#[]⟩,.string ⟨#[]⟩,.int .i64 0,.int .i64 0,.slice none 0 0] 65)).alloc (Obj.cells #[.int .i64 d.id,.int .i64 1,.bool d.pub,.slice d.na d.names.length d.ncap,.bool d.doubt,.int .i64 11,.string ⟨#[]⟩,.string ⟨#[]⟩,.int .i64 0,.int .i64 0,.slice none 0 0] 65)).alloc (Obj.cells #[Value.string p,Value.slice none 0 0,Value.slice (some ⟨wr.heap.size+1,0,none⟩) 1 1] 45)=X:=⟨_,rfl⟩
   have hbX:Below wr.heap.size wr X:=by rw [← hX];exact ((ba _ _).alloc (by simp) _).alloc (by simp <;> omega) _
   have hMX:X.heap[wr.heap.size+1+1]?=some (.cells #[.string p,.slice none 0 0,.slice (some ⟨wr.heap.size+1,0,none⟩) 1 1] 45 (0,0)):=by rw [← hX];exact h_new (by simp) _
   have hDX:X.heap[wr.heap.size+1]?=some (.cells #[.int .i64 d.id,.int .i64 1,.bool d.pub,.slice d.na d.names.length d.ncap,.bool d.doubt,.int .i64 11,.string ⟨#[]⟩,.string ⟨#[]⟩,.int .i64 0,.int .i64 0,.slice none 0 0] 65 (0,0)):=by rw [← hX];exact (h_old (by simp) _).trans (h_new (by simp) _)
   have HHX:=lid hX
   have HBX:=lid hbX
   have HMX:=lid hMX
   have HDX:=lid hDX
   have hz3:w3.heap.size≤X.heap.size:=Nat.le_trans HBR.out.size hbX.size
   have hj2:j≤1:=by omega
   have HOX:Hid (X.ownsRow w3.heap.size 45 3 u3 j (mcs L)):=lid (own_keep HO.out (fun g hg=>hbX.block g (HO.out.lt g hg).2))
   clear hc hcd hd hjl hrr hL hX hbX hMX hDX
   go_wp2_with (at_builtin;rw [HHX.out];go_must (refine wpList_append_sla rfl _ _ 22 rfl w3.heap.size 45 (.agg #[.string ⟨#[]⟩,.slice none 0 0,.slice none 0 0]) 3 64 info_mod Tryz.underlying22 rfl (by decide) u3 j (mcs L) HOX.out rfl ⟨wr.heap.size+1+1,0,none⟩ 1 1 #[.string p,.slice none 0 0,.slice (some ⟨wr.heap.size+1,0,none⟩) 1 1].toList rfl (sl_row HMX.out rfl) (by simp [Value.oneCell']) (by simp only [maxLen];omega) (by omega) hz3 ?_))
   intro v9 w9 own9 hb9 hg9 hat9
   have hkg:KL (ersO u3.ownBlock X) (ersO v9.ownBlock w9):=kl_ers_grown hg9 (hat9.elim .inl (fun h=>.inr ⟨_,h,Nat.le_refl _⟩))
   have hne:∀ q,wr.heap.size≤q→u3.ownBlock≠some q:=fun q hq e=>by have:=(HO.out.lt q e).2;omega
   have hbw3:Below w3.heap.size w3 X:=HBR.out.trans (HBX.out.mono HBR.out.size)
   have hkb:KL w3 (ersO u3.ownBlock X):=kl_ers_base hbw3 (fun q hq=>(HO.out.lt q hq).1)
   obtain ⟨m0,hm0⟩:∃ m:Mw,m=⟨p,none,[],0,some ⟨wr.heap.size+1,0,none⟩,[cmplW 7 d none 0],1⟩:=⟨_,rfl⟩
   have hma0:MwA (ersO u3.ownBlock X) m0:=by
    rw [hm0]
    refine ⟨HP.out,SA.empty,⟨rfl,?_,Nat.le_refl _,by simp [maxLen],fun x hx=>?_,fun e=>by cases e⟩⟩
    ·have:=sl_row (size:=11) (n:=1) ((ersO_other (hne _ (by omega))).trans HDX.out) rfl
     exact this
    ·rw [List.mem_singleton.1 hx]
     exact ⟨HDW.out.id,show I64 1 from ⟨by decide,by decide⟩,HDW.out.names.kl hkb,nilEw_EA⟩
   have HO9:Hid (w9.ownsRow w3.heap.size 45 3 v9 (j+1) (mcs (L++[m0]))):=lid (by rw [mcs_append,hm0];exact own9)
   have HMA9:Hid (∀ m∈L++[m0],MwA (ersO v9.ownBlock w9) m):=lid (fun m hm=>by
    rcases List.mem_append.1 hm with hm | hm
    ·exact ((HMA.out m hm).kl (kl_ers_below HBX.out)).kl hkg
    ·rw [List.mem_singleton.1 hm];exact hma0.kl hkg)
   have HMV9:Hid (∀ m∈L++[m0],modW m):=lid (fun m hm=>by
    rcases List.mem_append.1 hm with hm | hm
    ·exact HMV.out m hm
    ·rw [List.mem_singleton.1 hm,hm0];exact HMD.out none 0 none 0 (some ⟨wr.heap.size+1,0,none⟩) 1)
   have HB9:Hid (Below w3.heap.size w3 w9):=lid (hbw3.trans hb9)
   have HL9:Hid ((L++[m0]).length=j+1):=lid (by rw [List.length_append,HLL.out];rfl)
   clear own9 hb9 hg9 hat9 hkg hne hbw3 hkb hma0 hm0 y0 y1 y2 y3 y4 y5 y6 y7 y8 y9 y10 k0 k1 lk
   try simp only [Act.put,q1,q2,q3]
   go_wp2_with fail
   go_roundw
   case measure=>simp only [intOf];omega
   case rel=>exact ⟨j+1,L++[m0],by omega,by simp,HL9.out,HO9,HMA9,HMV9,HB9⟩
  ·obtain rfl:j=n:=by omega
   obtain ⟨ao4,cap4,rfl⟩:=own_slice HO.out
   obtain ⟨ao5,cap5,e5,hc1,hc2,hsl5⟩:=Sl.of_own HO.out
   injection e5 with e51 _ e52
   subst e51 e52
   have HLA:Hid (MLA wr ao4 L.length cap4 L):=lid ⟨rfl,by rw [hL];exact hsl5,by rw [hL];exact hc1,hc2,fun m hm=>(HMA.out m hm).kl (kl_ers _ _),fun e=>by
    rcases HO.out.2 with ⟨e3,_⟩ | ⟨g,c,cur,e3,_⟩
    ·injection e3
    ·injection e3 with e3
     rw [e] at e3
     cases e3⟩
   have HLL:=lid hL
   clear hjn hsl5 hc1 hc2
   go_wp2_with fail
   go_ret
   exact ⟨ao4,cap4,L,by rw [HLL.out];rfl,HLA.out,HMV.out,HB3.out.trans (HBR.out.mono HB3.out.size)⟩
theorem tests_8 (p t:ByteArray) (oa na:Option Addr) (lo ln:List Dw) (oc nc:Nat) (w:World) (hp:p.size≤maxLen) (ho:DLA w oa lo.length oc lo) (hn:DLA w na ln.length nc ln) (h2:(lo++ln).length≤2) (hm:∀ d∈lo++ln,∀ a c ua uc da dc,modW ⟨p,ua,[],uc,da,[cmplW 8 d a c],dc⟩) :
  Calls Tryz.prog 56 #[.agg #[.int .i64 8,.string p,.string t,.slice oa lo.length oc,.slice na ln.length nc]] w (TestP w):=by
 obtain ⟨W2,hW2⟩:∃ y,(w.alloc (.cells #[.int .i64 8,.string p,.string t,.slice oa lo.length oc,.slice na ln.length nc] 52)).alloc (.cells #[.slice oa lo.length oc,.slice na ln.length nc] 43)=y:=⟨_,rfl⟩
 have hb2:Below w.heap.size w W2:=by rw [← hW2];exact (ba _ _).alloc (by simp) _
 have hR2:W2.heap[w.heap.size]?=some (.cells #[.int .i64 8,.string p,.string t,.slice oa lo.length oc,.slice na ln.length nc] 52 (0,0)):=by rw [← hW2];exact (h_old (by simp) _).trans (h_new rfl _)
 have hS2:W2.heap[w.heap.size+1]?=some (.cells #[.slice oa lo.length oc,.slice na ln.length nc] 43 (0,0)):=by rw [← hW2];exact h_new (by simp) _
 have HW2:=lid hW2
 have HB2:=lid hb2
 have HR2:=lid hR2
 have HDS:Hid (∀ d∈lo++ln,DwA w d):=lid (fun d hd=>(List.mem_append.1 hd).elim (ho.el d) (hn.el d))
 have HM:=lid hm
 have HP:=lid hp
 have CC:=lid (ConcatD_any [⟨oa,oc,lo.length,dcs lo⟩,⟨na,nc,ln.length,dcs ln⟩] (w.heap.size+1) 2 W2 rfl (row_lt hS2) (fun j hj=>by
   rw [row_cell hS2]
   match j,hj with
   | 0,_=>rfl
   | 1,_=>rfl) (fun x hx=>by
   simp only [List.mem_cons,List.not_mem_nil,or_false] at hx
   rcases hx with rfl | rfl
   ·exact ⟨ho.sl.below hb2,ho.nil,dcs_one _⟩
   ·exact ⟨hn.sl.below hb2,hn.nil,dcs_one _⟩) (by simp) (by simp [joinN];rw [List.length_append] at h2;omega))
 clear hW2 hb2 hR2 hS2 hm hp ho hn
 go_enter Tryz.func56,Tryz.ntmps56
 go_wp2_with fail
 rw [HW2.out]
 (with_reducible refine (CC.out).mono ?_);rintro e w3 ⟨v3,rfl,hown3,hb3⟩
 obtain ⟨ds,hds⟩:∃ ds,lo++ln=ds:=⟨_,rfl⟩
 obtain ⟨n,hnn⟩:∃ n,ds.length=n:=⟨_,rfl⟩
 have hN:joinN [⟨oa,oc,lo.length,dcs lo⟩,⟨na,nc,ln.length,dcs ln⟩]=n:=by rw [← hnn,← hds];simp [joinN]
 have hU:joinU [⟨oa,oc,lo.length,dcs lo⟩,⟨na,nc,ln.length,dcs ln⟩]=dcs ds:=by rw [← hds,dcs_append];simp [joinU]
 rw [hN,hU] at hown3
 rw [hds] at HDS HM h2
 rw [hnn] at h2
 have HNN:=lid hnn
 have HB3:=lid (HB2.out.trans (hb3.mono HB2.out.size))
 have HR3:=lid ((hb3.block _ (row_lt HR2.out)).trans HR2.out)
 have HSL:Hid (∃ ao cap,v3=.slice ao n cap∧n≤cap∧cap≤maxLen∧Sl w3 11 ao n (dcs ds)):=lid (Sl.of_own hown3)
 clear hown3 hb3 hN hU hds hnn CC
 obtain ⟨aoD,capD,rfl,hcn,hcm,hsl⟩:=HSL.out
 have HSD:=lid hsl
 have hcm63:capD≤9223372036854775807:=hcm
 clear HSL hsl hcm
 go_wp2_with fail
 go_loopw [3,32] (fun v3 u32 wr=>∃ (j:Nat) (L:List Mw),j≤n∧u32=.int .i64 j∧L.length=j∧Hid (wr.ownsRow w3.heap.size 45 3 v3 j (mcs L))∧Hid (∀ m∈L,MwA (ersO v3.ownBlock wr) m)∧Hid (∀ m∈L,modW m)∧Hid (Below w3.heap.size w3 wr)) (fun _ u32 _=>n-(intOf u32).toNat)
 case atStart=>exact ⟨0,[],Nat.zero_le _,rfl,rfl,lid (World.ownsRow_nil _ _ _ _),lid (fun _ h=>by cases h),lid (fun _ h=>by cases h),lid (Below.refl _ _)⟩
 case round =>
  obtain ⟨j,L,hj,rfl,hL,HO,HMA,HMV,HBR⟩:=hrel
  have hrr:wr.heap[w.heap.size]?=_:=(HBR.out.block _ (row_lt HR3.out)).trans HR3.out
  have k0:wr.cell? ⟨w.heap.size,0,none⟩=some (.int .i64 8):=row_cell hrr 0
  have k1:wr.cell? ⟨w.heap.size,1,none⟩=some (.string p):=row_cell hrr 1
  have lk:=row_lt hrr
  by_cases hjn:j<n
  ·have hjl:j<ds.length:=by rw [HNN.out];exact hjn
   obtain ⟨d,hd⟩:∃ d,ds[j]=d:=⟨_,rfl⟩
   obtain ⟨b,o,rfl,hbz,hc⟩:=HSD.out.at_ (k:=j) hjn
   have hcd:∀ i u,(dce d)[i]?=some u→i<11→wr.cell? ⟨b,o+(j*11+i),none⟩=some u:=fun i u hu hi=>by rw [bc HBR.out hbz _];exact hc _ u (by rw [dcs_cell hjl hi,hd];exact hu)
   have y0:wr.cell? ⟨b,o+j*11,none⟩=some (.int .i64 d.id):=by have:=hcd 0 _ rfl (by omega);exact this
   have y1:wr.cell? ⟨b,o+j*11+1,none⟩=some (.int .i64 d.kind):=by have:=hcd 1 _ rfl (by omega);rwa [← Nat.add_assoc] at this
   have y2:wr.cell? ⟨b,o+j*11+2,none⟩=some (.bool d.pub):=by have:=hcd 2 _ rfl (by omega);rwa [← Nat.add_assoc] at this
   have y3:wr.cell? ⟨b,o+j*11+3,none⟩=some (.slice d.na d.names.length d.ncap):=by have:=hcd 3 _ rfl (by omega);rwa [← Nat.add_assoc] at this
   have y4:wr.cell? ⟨b,o+j*11+4,none⟩=some (.bool d.doubt):=by have:=hcd 4 _ rfl (by omega);rwa [← Nat.add_assoc] at this
   have y5:wr.cell? ⟨b,o+j*11+5,none⟩=some (.int .i64 d.body.kind):=by have:=hcd 5 _ rfl (by omega);rwa [← Nat.add_assoc] at this
   have y6:wr.cell? ⟨b,o+j*11+6,none⟩=some (.string d.body.name):=by have:=hcd 6 _ rfl (by omega);rwa [← Nat.add_assoc] at this
   have y7:wr.cell? ⟨b,o+j*11+7,none⟩=some (.string d.body.more):=by have:=hcd 7 _ rfl (by omega);rwa [← Nat.add_assoc] at this
   have y8:wr.cell? ⟨b,o+j*11+8,none⟩=some (.int .i64 d.body.int):=by have:=hcd 8 _ rfl (by omega);rwa [← Nat.add_assoc] at this
   have y9:wr.cell? ⟨b,o+j*11+9,none⟩=some (.int .i64 d.body.den):=by have:=hcd 9 _ rfl (by omega);rwa [← Nat.add_assoc] at this
   have y10:wr.cell? ⟨b,o+j*11+10,none⟩=some (.slice d.body.ao d.body.sub.length d.body.cap):=by have:=hcd 10 _ rfl (by omega);rwa [← Nat.add_assoc] at this
   have hbz2:b<wr.heap.size:=Nat.lt_of_lt_of_le hbz HBR.out.size
   have HDW:Hid (DwA w3 d):=lid ((HDS.out d (by rw [← hd];exact List.getElem_mem hjl)).below HB3.out)
   have HMD:Hid (∀ a c ua uc da dc,modW ⟨p,ua,[],uc,da,[cmplW 8 d a c],dc⟩):=lid (HM.out d (by rw [← hd];exact List.getElem_mem hjl))
   have HLL:=lid hL
   obtain ⟨X,hX⟩:∃ X,((((wr).alloc (Obj.cells #[.int .i64 d.id,.int .i64 1,.bool d.pub,.slice (some ⟨wr.heap.size+1,0,none⟩) 1 1,.bool d.doubt,.int .i64 d.body.kind,.string d.body.name,.string d.body.more,.int .i64 d.body.int,.int .i64 d.body.den,.slice d.body.ao d.body.sub.length d.body.cap] 65)).alloc (Obj.cells #[Value.string ⟨#[97]⟩] 9)).alloc (Obj.cells #[.int .i64 d.id,.int .i64 1,.bool d.pub,.slice (some ⟨wr.heap.size+1,0,none⟩) 1 1,.bool d.doubt,.int .i64 d.body.kind,.string d.body.name,.string d.body.more,.int .i64 d.body.int,.int .i64 d.body.den,.slice d.body.ao d.body.sub.length d.body.cap] 65)).alloc (Obj.cells #[Value.string p,Value.slice none 0 0,Value.slice (some ⟨wr.heap.size+1+1,0,none⟩) 1 1] 45)=X:=⟨_,rfl⟩
   have hbX:Below wr.heap.size wr X:=by rw [← hX];exact (((ba _ _).alloc (by simp) _).alloc (by simp <;> omega) _).alloc (by simp <;> omega) _
   have hMX:X.heap[wr.heap.size+1+1+1]?=some (.cells #[.string p,.slice none 0 0,.slice (some ⟨wr.heap.size+1+1,0,none⟩) 1 1] 45 (0,0)):=by rw [← hX];exact h_new (by simp) _
   have hDX:X.heap[wr.heap.size+1+1]?=some (.cells #[.int .i64 d.id,.int .i64 1,.bool d.pub,.slice (some ⟨wr.heap.size+1,0,none⟩) 1 1,.bool d.doubt,.int .i64 d.body.kind,.string d.body.name,.string d.body.more,.int .i64 d.body.int,.int .i64 d.body.den,.slice d.body.ao d.body.sub.length d.body.cap] 65 (0,0)):=by rw [← hX];exact (h_old (by simp) _).trans (h_new (by simp) _)
   have HAX:Hid (X.heap[wr.heap.size+1]?=some (.cells #[.string ⟨#[97]⟩] 9 (0,0))):=lid (by rw [← hX];exact (h_old (by simp) _).trans ((h_old (by simp) _).trans (h_new (by simp) _)))
   have HHX:=lid hX
   have HBX:=lid hbX
   have HMX:=lid hMX
   have HDX:=lid hDX
   have hz3:w3.heap.size≤X.heap.size:=Nat.le_trans HBR.out.size hbX.size
   have hj2:j≤1:=by omega
   have HOX:Hid (X.ownsRow w3.heap.size 45 3 u3 j (mcs L)):=lid (own_keep HO.out (fun g hg=>hbX.block g (HO.out.lt g hg).2))
   clear hc hcd hd hjl hrr hL hX hbX hMX hDX
   go_wp2_with (at_builtin;rw [HHX.out];go_must (refine wpList_append_sla rfl _ _ 22 rfl w3.heap.size 45 (.agg #[.string ⟨#[]⟩,.slice none 0 0,.slice none 0 0]) 3 64 info_mod Tryz.underlying22 rfl (by decide) u3 j (mcs L) HOX.out rfl ⟨wr.heap.size+1+1+1,0,none⟩ 1 1 #[.string p,.slice none 0 0,.slice (some ⟨wr.heap.size+1+1,0,none⟩) 1 1].toList rfl (sl_row HMX.out rfl) (by simp [Value.oneCell']) (by simp only [maxLen];omega) (by omega) hz3 ?_))
   intro v9 w9 own9 hb9 hg9 hat9
   have hkg:KL (ersO u3.ownBlock X) (ersO v9.ownBlock w9):=kl_ers_grown hg9 (hat9.elim .inl (fun h=>.inr ⟨_,h,Nat.le_refl _⟩))
   have hne:∀ q,wr.heap.size≤q→u3.ownBlock≠some q:=fun q hq e=>by have:=(HO.out.lt q e).2;omega
   have hbw3:Below w3.heap.size w3 X:=HBR.out.trans (HBX.out.mono HBR.out.size)
   have hkb:KL w3 (ersO u3.ownBlock X):=kl_ers_base hbw3 (fun q hq=>(HO.out.lt q hq).1)
   obtain ⟨m0,hm0⟩:∃ m:Mw,m=⟨p,none,[],0,some ⟨wr.heap.size+1+1,0,none⟩,[cmplW 8 d (some ⟨wr.heap.size+1,0,none⟩) 1],1⟩:=⟨_,rfl⟩
   have hma0:MwA (ersO u3.ownBlock X) m0:=by
    rw [hm0]
    refine ⟨HP.out,SA.empty,⟨rfl,?_,Nat.le_refl _,by simp [maxLen],fun x hx=>?_,fun e=>by cases e⟩⟩
    ·have:=sl_row (size:=11) (n:=1) ((ersO_other (hne _ (by omega))).trans HDX.out) rfl
     exact this
    ·rw [List.mem_singleton.1 hx]
     exact ⟨HDW.out.id,show I64 1 from ⟨by decide,by decide⟩,⟨rfl,by have:=sl_row (size:=1) (n:=1) ((ersO_other (hne _ (by omega))).trans HAX.out) rfl;exact this,Nat.le_refl _,by show 1≤maxLen;simp [maxLen],fun s hs=>(by rw [List.mem_singleton.1 hs];show 1≤maxLen;simp [maxLen]),fun e=>by cases e⟩,HDW.out.body.kl hkb⟩
   have HO9:Hid (w9.ownsRow w3.heap.size 45 3 v9 (j+1) (mcs (L++[m0]))):=lid (by rw [mcs_append,hm0];exact own9)
   have HMA9:Hid (∀ m∈L++[m0],MwA (ersO v9.ownBlock w9) m):=lid (fun m hm=>by
    rcases List.mem_append.1 hm with hm | hm
    ·exact ((HMA.out m hm).kl (kl_ers_below HBX.out)).kl hkg
    ·rw [List.mem_singleton.1 hm];exact hma0.kl hkg)
   have HMV9:Hid (∀ m∈L++[m0],modW m):=lid (fun m hm=>by
    rcases List.mem_append.1 hm with hm | hm
    ·exact HMV.out m hm
    ·rw [List.mem_singleton.1 hm,hm0];exact HMD.out (some ⟨wr.heap.size+1,0,none⟩) 1 none 0 (some ⟨wr.heap.size+1+1,0,none⟩) 1)
   have HB9:Hid (Below w3.heap.size w3 w9):=lid (hbw3.trans hb9)
   have HL9:Hid ((L++[m0]).length=j+1):=lid (by rw [List.length_append,HLL.out];rfl)
   clear own9 hb9 hg9 hat9 hkg hne hbw3 hkb hma0 hm0 y0 y1 y2 y3 y4 y5 y6 y7 y8 y9 y10 k0 k1 lk
   try simp only [Act.put,q1,q2,q3]
   go_wp2_with fail
   go_roundw
   case measure=>simp only [intOf];omega
   case rel=>exact ⟨j+1,L++[m0],by omega,by simp,HL9.out,HO9,HMA9,HMV9,HB9⟩
  ·obtain rfl:j=n:=by omega
   obtain ⟨ao4,cap4,rfl⟩:=own_slice HO.out
   obtain ⟨ao5,cap5,e5,hc1,hc2,hsl5⟩:=Sl.of_own HO.out
   injection e5 with e51 _ e52
   subst e51 e52
   have HLA:Hid (MLA wr ao4 L.length cap4 L):=lid ⟨rfl,by rw [hL];exact hsl5,by rw [hL];exact hc1,hc2,fun m hm=>(HMA.out m hm).kl (kl_ers _ _),fun e=>by
    rcases HO.out.2 with ⟨e3,_⟩ | ⟨g,c,cur,e3,_⟩
    ·injection e3
    ·injection e3 with e3
     rw [e] at e3
     cases e3⟩
   have HLL:=lid hL
   clear hjn hsl5 hc1 hc2
   go_wp2_with fail
   go_ret
   exact ⟨ao4,cap4,L,by rw [HLL.out];rfl,HLA.out,HMV.out,HB3.out.trans (HBR.out.mono HB3.out.size)⟩
theorem tests_9 (p t:ByteArray) (oa na:Option Addr) (lo ln:List Dw) (oc nc:Nat) (w:World) (hp:p.size≤maxLen) (ho:DLA w oa lo.length oc lo) (hn:DLA w na ln.length nc ln) (h2:(lo++ln).length≤2) (hm:∀ d∈lo++ln,∀ a c ua uc da dc,modW ⟨p,ua,[],uc,da,[cmplW 9 d a c],dc⟩) :
  Calls Tryz.prog 56 #[.agg #[.int .i64 9,.string p,.string t,.slice oa lo.length oc,.slice na ln.length nc]] w (TestP w):=by
 obtain ⟨W2,hW2⟩:∃ y,(w.alloc (.cells #[.int .i64 9,.string p,.string t,.slice oa lo.length oc,.slice na ln.length nc] 52)).alloc (.cells #[.slice oa lo.length oc,.slice na ln.length nc] 43)=y:=⟨_,rfl⟩
 have hb2:Below w.heap.size w W2:=by rw [← hW2];exact (ba _ _).alloc (by simp) _
 have hR2:W2.heap[w.heap.size]?=some (.cells #[.int .i64 9,.string p,.string t,.slice oa lo.length oc,.slice na ln.length nc] 52 (0,0)):=by rw [← hW2];exact (h_old (by simp) _).trans (h_new rfl _)
 have hS2:W2.heap[w.heap.size+1]?=some (.cells #[.slice oa lo.length oc,.slice na ln.length nc] 43 (0,0)):=by rw [← hW2];exact h_new (by simp) _
 have HW2:=lid hW2
 have HB2:=lid hb2
 have HR2:=lid hR2
 have HDS:Hid (∀ d∈lo++ln,DwA w d):=lid (fun d hd=>(List.mem_append.1 hd).elim (ho.el d) (hn.el d))
 have HM:=lid hm
 have HP:=lid hp
 have CC:=lid (ConcatD_any [⟨oa,oc,lo.length,dcs lo⟩,⟨na,nc,ln.length,dcs ln⟩] (w.heap.size+1) 2 W2 rfl (row_lt hS2) (fun j hj=>by
   rw [row_cell hS2]
   match j,hj with
   | 0,_=>rfl
   | 1,_=>rfl) (fun x hx=>by
   simp only [List.mem_cons,List.not_mem_nil,or_false] at hx
   rcases hx with rfl | rfl
   ·exact ⟨ho.sl.below hb2,ho.nil,dcs_one _⟩
   ·exact ⟨hn.sl.below hb2,hn.nil,dcs_one _⟩) (by simp) (by simp [joinN];rw [List.length_append] at h2;omega))
 clear hW2 hb2 hR2 hS2 hm hp ho hn
 go_enter Tryz.func56,Tryz.ntmps56
 go_wp2_with fail
 rw [HW2.out]
 (with_reducible refine (CC.out).mono ?_);rintro e w3 ⟨v3,rfl,hown3,hb3⟩
 obtain ⟨ds,hds⟩:∃ ds,lo++ln=ds:=⟨_,rfl⟩
 obtain ⟨n,hnn⟩:∃ n,ds.length=n:=⟨_,rfl⟩
 have hN:joinN [⟨oa,oc,lo.length,dcs lo⟩,⟨na,nc,ln.length,dcs ln⟩]=n:=by rw [← hnn,← hds];simp [joinN]
 have hU:joinU [⟨oa,oc,lo.length,dcs lo⟩,⟨na,nc,ln.length,dcs ln⟩]=dcs ds:=by rw [← hds,dcs_append];simp [joinU]
 rw [hN,hU] at hown3
 rw [hds] at HDS HM h2
 rw [hnn] at h2
 have HNN:=lid hnn
 have HB3:=lid (HB2.out.trans (hb3.mono HB2.out.size))
 have HR3:=lid ((hb3.block _ (row_lt HR2.out)).trans HR2.out)
 have HSL:Hid (∃ ao cap,v3=.slice ao n cap∧n≤cap∧cap≤maxLen∧Sl w3 11 ao n (dcs ds)):=lid (Sl.of_own hown3)
 clear hown3 hb3 hN hU hds hnn CC
 obtain ⟨aoD,capD,rfl,hcn,hcm,hsl⟩:=HSL.out
 have HSD:=lid hsl
 have hcm63:capD≤9223372036854775807:=hcm
 clear HSL hsl hcm
 go_wp2_with fail
 go_loopw [3,32] (fun v3 u32 wr=>∃ (j:Nat) (L:List Mw),j≤n∧u32=.int .i64 j∧L.length=j∧Hid (wr.ownsRow w3.heap.size 45 3 v3 j (mcs L))∧Hid (∀ m∈L,MwA (ersO v3.ownBlock wr) m)∧Hid (∀ m∈L,modW m)∧Hid (Below w3.heap.size w3 wr)) (fun _ u32 _=>n-(intOf u32).toNat)
 case atStart=>exact ⟨0,[],Nat.zero_le _,rfl,rfl,lid (World.ownsRow_nil _ _ _ _),lid (fun _ h=>by cases h),lid (fun _ h=>by cases h),lid (Below.refl _ _)⟩
 case round =>
  obtain ⟨j,L,hj,rfl,hL,HO,HMA,HMV,HBR⟩:=hrel
  have hrr:wr.heap[w.heap.size]?=_:=(HBR.out.block _ (row_lt HR3.out)).trans HR3.out
  have k0:wr.cell? ⟨w.heap.size,0,none⟩=some (.int .i64 9):=row_cell hrr 0
  have k1:wr.cell? ⟨w.heap.size,1,none⟩=some (.string p):=row_cell hrr 1
  have lk:=row_lt hrr
  by_cases hjn:j<n
  ·have hjl:j<ds.length:=by rw [HNN.out];exact hjn
   obtain ⟨d,hd⟩:∃ d,ds[j]=d:=⟨_,rfl⟩
   obtain ⟨b,o,rfl,hbz,hc⟩:=HSD.out.at_ (k:=j) hjn
   have hcd:∀ i u,(dce d)[i]?=some u→i<11→wr.cell? ⟨b,o+(j*11+i),none⟩=some u:=fun i u hu hi=>by rw [bc HBR.out hbz _];exact hc _ u (by rw [dcs_cell hjl hi,hd];exact hu)
   have y0:wr.cell? ⟨b,o+j*11,none⟩=some (.int .i64 d.id):=by have:=hcd 0 _ rfl (by omega);exact this
   have y1:wr.cell? ⟨b,o+j*11+1,none⟩=some (.int .i64 d.kind):=by have:=hcd 1 _ rfl (by omega);rwa [← Nat.add_assoc] at this
   have y2:wr.cell? ⟨b,o+j*11+2,none⟩=some (.bool d.pub):=by have:=hcd 2 _ rfl (by omega);rwa [← Nat.add_assoc] at this
   have y3:wr.cell? ⟨b,o+j*11+3,none⟩=some (.slice d.na d.names.length d.ncap):=by have:=hcd 3 _ rfl (by omega);rwa [← Nat.add_assoc] at this
   have y4:wr.cell? ⟨b,o+j*11+4,none⟩=some (.bool d.doubt):=by have:=hcd 4 _ rfl (by omega);rwa [← Nat.add_assoc] at this
   have y5:wr.cell? ⟨b,o+j*11+5,none⟩=some (.int .i64 d.body.kind):=by have:=hcd 5 _ rfl (by omega);rwa [← Nat.add_assoc] at this
   have y6:wr.cell? ⟨b,o+j*11+6,none⟩=some (.string d.body.name):=by have:=hcd 6 _ rfl (by omega);rwa [← Nat.add_assoc] at this
   have y7:wr.cell? ⟨b,o+j*11+7,none⟩=some (.string d.body.more):=by have:=hcd 7 _ rfl (by omega);rwa [← Nat.add_assoc] at this
   have y8:wr.cell? ⟨b,o+j*11+8,none⟩=some (.int .i64 d.body.int):=by have:=hcd 8 _ rfl (by omega);rwa [← Nat.add_assoc] at this
   have y9:wr.cell? ⟨b,o+j*11+9,none⟩=some (.int .i64 d.body.den):=by have:=hcd 9 _ rfl (by omega);rwa [← Nat.add_assoc] at this
   have y10:wr.cell? ⟨b,o+j*11+10,none⟩=some (.slice d.body.ao d.body.sub.length d.body.cap):=by have:=hcd 10 _ rfl (by omega);rwa [← Nat.add_assoc] at this
   have hbz2:b<wr.heap.size:=Nat.lt_of_lt_of_le hbz HBR.out.size
   have HDW:Hid (DwA w3 d):=lid ((HDS.out d (by rw [← hd];exact List.getElem_mem hjl)).below HB3.out)
   have HMD:Hid (∀ a c ua uc da dc,modW ⟨p,ua,[],uc,da,[cmplW 9 d a c],dc⟩):=lid (HM.out d (by rw [← hd];exact List.getElem_mem hjl))
   have HLL:=lid hL
   obtain ⟨X,hX⟩:∃ X,((((wr).alloc (Obj.cells #[.int .i64 d.id,.int .i64 d.kind,.bool d.pub,.slice (some ⟨wr.heap.size+1,0,none⟩) 1 1,.bool d.doubt,.int .i64 11,.string ⟨#[]⟩,.string ⟨#[]⟩,.int .i64 0,.int .i64 0,.slice none 0 0] 65)).alloc (Obj.cells #[Value.string ⟨#[97]⟩] 9)).alloc (Obj.cells #[.int .i64 d.id,.int .i64 d.kind,.bool d.pub,.slice (some ⟨wr.heap.size+1,0,none⟩) 1 1,.bool d.doubt,.int .i64 11,.string ⟨#[]⟩,.string ⟨#[]⟩,.int .i64 0,.int .i64 0,.slice none 0 0] 65)).alloc (Obj.cells #[Value.string p,Value.slice none 0 0,Value.slice (some ⟨wr.heap.size+1+1,0,none⟩) 1 1] 45)=X:=⟨_,rfl⟩
   have hbX:Below wr.heap.size wr X:=by rw [← hX];exact (((ba _ _).alloc (by simp) _).alloc (by simp <;> omega) _).alloc (by simp <;> omega) _
   have hMX:X.heap[wr.heap.size+1+1+1]?=some (.cells #[.string p,.slice none 0 0,.slice (some ⟨wr.heap.size+1+1,0,none⟩) 1 1] 45 (0,0)):=by rw [← hX];exact h_new (by simp) _
   have hDX:X.heap[wr.heap.size+1+1]?=some (.cells #[.int .i64 d.id,.int .i64 d.kind,.bool d.pub,.slice (some ⟨wr.heap.size+1,0,none⟩) 1 1,.bool d.doubt,.int .i64 11,.string ⟨#[]⟩,.string ⟨#[]⟩,.int .i64 0,.int .i64 0,.slice none 0 0] 65 (0,0)):=by rw [← hX];exact (h_old (by simp) _).trans (h_new (by simp) _)
   have HAX:Hid (X.heap[wr.heap.size+1]?=some (.cells #[.string ⟨#[97]⟩] 9 (0,0))):=lid (by rw [← hX];exact (h_old (by simp) _).trans ((h_old (by simp) _).trans (h_new (by simp) _)))
   have HHX:=lid hX
   have HBX:=lid hbX
   have HMX:=lid hMX
   have HDX:=lid hDX
   have hz3:w3.heap.size≤X.heap.size:=Nat.le_trans HBR.out.size hbX.size
   have hj2:j≤1:=by omega
   have HOX:Hid (X.ownsRow w3.heap.size 45 3 u3 j (mcs L)):=lid (own_keep HO.out (fun g hg=>hbX.block g (HO.out.lt g hg).2))
   clear hc hcd hd hjl hrr hL hX hbX hMX hDX
   go_wp2_with (at_builtin;rw [HHX.out];go_must (refine wpList_append_sla rfl _ _ 22 rfl w3.heap.size 45 (.agg #[.string ⟨#[]⟩,.slice none 0 0,.slice none 0 0]) 3 64 info_mod Tryz.underlying22 rfl (by decide) u3 j (mcs L) HOX.out rfl ⟨wr.heap.size+1+1+1,0,none⟩ 1 1 #[.string p,.slice none 0 0,.slice (some ⟨wr.heap.size+1+1,0,none⟩) 1 1].toList rfl (sl_row HMX.out rfl) (by simp [Value.oneCell']) (by simp only [maxLen];omega) (by omega) hz3 ?_))
   intro v9 w9 own9 hb9 hg9 hat9
   have hkg:KL (ersO u3.ownBlock X) (ersO v9.ownBlock w9):=kl_ers_grown hg9 (hat9.elim .inl (fun h=>.inr ⟨_,h,Nat.le_refl _⟩))
   have hne:∀ q,wr.heap.size≤q→u3.ownBlock≠some q:=fun q hq e=>by have:=(HO.out.lt q e).2;omega
   have hbw3:Below w3.heap.size w3 X:=HBR.out.trans (HBX.out.mono HBR.out.size)
   have hkb:KL w3 (ersO u3.ownBlock X):=kl_ers_base hbw3 (fun q hq=>(HO.out.lt q hq).1)
   obtain ⟨m0,hm0⟩:∃ m:Mw,m=⟨p,none,[],0,some ⟨wr.heap.size+1+1,0,none⟩,[cmplW 9 d (some ⟨wr.heap.size+1,0,none⟩) 1],1⟩:=⟨_,rfl⟩
   have hma0:MwA (ersO u3.ownBlock X) m0:=by
    rw [hm0]
    refine ⟨HP.out,SA.empty,⟨rfl,?_,Nat.le_refl _,by simp [maxLen],fun x hx=>?_,fun e=>by cases e⟩⟩
    ·have:=sl_row (size:=11) (n:=1) ((ersO_other (hne _ (by omega))).trans HDX.out) rfl
     exact this
    ·rw [List.mem_singleton.1 hx]
     exact ⟨HDW.out.id,HDW.out.kind,⟨rfl,by have:=sl_row (size:=1) (n:=1) ((ersO_other (hne _ (by omega))).trans HAX.out) rfl;exact this,Nat.le_refl _,by show 1≤maxLen;simp [maxLen],fun s hs=>(by rw [List.mem_singleton.1 hs];show 1≤maxLen;simp [maxLen]),fun e=>by cases e⟩,nilEw_EA⟩
   have HO9:Hid (w9.ownsRow w3.heap.size 45 3 v9 (j+1) (mcs (L++[m0]))):=lid (by rw [mcs_append,hm0];exact own9)
   have HMA9:Hid (∀ m∈L++[m0],MwA (ersO v9.ownBlock w9) m):=lid (fun m hm=>by
    rcases List.mem_append.1 hm with hm | hm
    ·exact ((HMA.out m hm).kl (kl_ers_below HBX.out)).kl hkg
    ·rw [List.mem_singleton.1 hm];exact hma0.kl hkg)
   have HMV9:Hid (∀ m∈L++[m0],modW m):=lid (fun m hm=>by
    rcases List.mem_append.1 hm with hm | hm
    ·exact HMV.out m hm
    ·rw [List.mem_singleton.1 hm,hm0];exact HMD.out (some ⟨wr.heap.size+1,0,none⟩) 1 none 0 (some ⟨wr.heap.size+1+1,0,none⟩) 1)
   have HB9:Hid (Below w3.heap.size w3 w9):=lid (hbw3.trans hb9)
   have HL9:Hid ((L++[m0]).length=j+1):=lid (by rw [List.length_append,HLL.out];rfl)
   clear own9 hb9 hg9 hat9 hkg hne hbw3 hkb hma0 hm0 y0 y1 y2 y3 y4 y5 y6 y7 y8 y9 y10 k0 k1 lk
   try simp only [Act.put,q1,q2,q3]
   go_wp2_with fail
   go_roundw
   case measure=>simp only [intOf];omega
   case rel=>exact ⟨j+1,L++[m0],by omega,by simp,HL9.out,HO9,HMA9,HMV9,HB9⟩
  ·obtain rfl:j=n:=by omega
   obtain ⟨ao4,cap4,rfl⟩:=own_slice HO.out
   obtain ⟨ao5,cap5,e5,hc1,hc2,hsl5⟩:=Sl.of_own HO.out
   injection e5 with e51 _ e52
   subst e51 e52
   have HLA:Hid (MLA wr ao4 L.length cap4 L):=lid ⟨rfl,by rw [hL];exact hsl5,by rw [hL];exact hc1,hc2,fun m hm=>(HMA.out m hm).kl (kl_ers _ _),fun e=>by
    rcases HO.out.2 with ⟨e3,_⟩ | ⟨g,c,cur,e3,_⟩
    ·injection e3
    ·injection e3 with e3
     rw [e] at e3
     cases e3⟩
   have HLL:=lid hL
   clear hjn hsl5 hc1 hc2
   go_wp2_with fail
   go_ret
   exact ⟨ao4,cap4,L,by rw [HLL.out];rfl,HLA.out,HMV.out,HB3.out.trans (HBR.out.mono HB3.out.size)⟩
theorem tests_any (k:Kw) (w:World) (h:KwA w k) (hf:FitK k) (ht:TestK k):Calls Tryz.prog 56 #[.agg (kca k)] w (TestP w):=by
 obtain ⟨kd,p,t,oa,old,oc,na,new,nc⟩:=k
 have ho:=h.old
 have hn:=h.new
 rw [show kca ⟨kd,p,t,oa,old,oc,na,new,nc⟩=#[.int .i64 kd,.string p,.string t,.slice oa old.length oc,.slice na new.length nc] from rfl]
 rcases hf with ⟨hk,-,-,-⟩ | ⟨hk,-,-⟩ | ⟨hk,-,h1,d,h2⟩ | ⟨hk,-,⟨d,h1⟩,h2⟩ | ⟨hk,-,a,b,h1,h2,-⟩
 ·rcases hk with rfl | rfl
  ·exact tests_12 _ (.inl rfl) p t oa na _ _ oc nc w h.pack (ht.lo (by simp))
  ·exact tests_12 _ (.inr rfl) p t oa na _ _ oc nc w h.pack (ht.lo (by simp))
 ·rcases hk with rfl | rfl
  ·exact tests_34 _ (.inl rfl) p t oa na _ _ oc nc w h.pack h.text (ht.us (.inl rfl))
  ·exact tests_34 _ (.inr rfl) p t oa na _ _ oc nc w h.pack h.text (ht.us (.inr rfl))
 ·simp only at hk h1 h2
  subst hk h1 h2
  exact tests_56 _ (.inl rfl) p t oa na _ _ oc nc w h.pack ho hn (by simp) (ht.ds (by simp))
 ·simp only at hk h1 h2
  subst hk h1 h2
  exact tests_56 _ (.inr rfl) p t oa na _ _ oc nc w h.pack ho hn (by simp) (ht.ds (by simp))
 ·simp only at hk h1 h2
  subst h1 h2
  rcases hk with rfl | rfl | rfl
  ·exact tests_7 p t oa na _ _ oc nc w h.pack ho hn (by simp) (ht.ds (by simp))
  ·exact tests_8 p t oa na _ _ oc nc w h.pack ho hn (by simp) (ht.ds (by simp))
  ·exact tests_9 p t oa na _ _ oc nc w h.pack ho hn (by simp) (ht.ds (by simp))
end Go.Proofs.YtgcceepadlmelaaGreatDoor
