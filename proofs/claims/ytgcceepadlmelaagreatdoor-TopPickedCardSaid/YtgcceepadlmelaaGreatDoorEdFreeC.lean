import Derived.Test.YtgcceepadlmelaaGreatDoorQAE
namespace Go.Proofs.YtgcceepadlmelaaGreatDoor
set_option maxRecDepth 100000
set_option maxHeartbeats 16000000
open Go.RowKit
theorem own_slice {w:World} {base:Nat} {e:TypeId} {size:Nat} {v:Value} {n:Nat} {xs:List Value} (h:w.ownsRow base e size v n xs):∃ ao cap,v=.slice ao n cap:=by
 rcases h.2 with ⟨rfl,rfl⟩ | ⟨g,cap,cur,rfl,_⟩
 ·exact ⟨none,0,rfl⟩
 ·exact ⟨_,_,rfl⟩
theorem own_low {w:World} {base base':Nat} {e:TypeId} {size:Nat} {v:Value} {n:Nat} {xs:List Value} (h:w.ownsRow base e size v n xs) (hb:base'≤base):w.ownsRow base' e size v n xs:=by
 refine ⟨h.1,?_⟩
 rcases h.2 with h1 | ⟨g,cap,cur,h1,h2,h3⟩
 ·exact .inl h1
 ·exact .inr ⟨g,cap,cur,h1,Nat.le_trans hb h2,h3⟩
theorem keptx {B X:Nat} {W w':World} (h:Below B W w'):KeptX B X W w':=(KeptX.refl _ _ _).below h
theorem KeptX.kx {B X:Nat} {W w1 w2:World} (h:KeptX B X W w1) (hk:Kx X w1 w2) (hB:B≤w1.heap.size):KeptX B X W w2:=fun k hk1 hx=>(hk.blk k (by omega) hx).trans (h k hk1 hx)
theorem SA.of_own {w:World} {base:Nat} {e:TypeId} {ao:Option Addr} {n cap:Nat} {l:List ByteArray} (h:w.ownsRow base e 1 (.slice ao n cap) n (svals l)) (hs:∀ s∈l,s.size≤maxLen):SA w ao n cap l:=by
 obtain ⟨ao',cap',e1,h1,h2,h3⟩:=Sl.of_own h
 injection e1 with e1 _ e2
 subst e1 e2
 refine ⟨by have:=h.1;rw [svals_length] at this;omega,h3,h1,h2,hs,fun e2=>?_⟩
 rcases h.2 with ⟨e3,_⟩ | ⟨g,c,cur,e3,_⟩
 ·injection e3
 ·injection e3 with e3
  rw [e2] at e3
  cases e3
theorem addFree_fun {c:Nat} (ih:AF c) (e:Ew) (L:List ByteArray) (ao:Option Addr) (n cap mb k:Nat) (S:List ByteArray) (w:World) (hc:cntE e≤c+1) (h:AFh e L ao n cap mb k S w) (hkd:e.kind=6) :
  Calls Tryz.prog 121 #[.agg (eca e),.slice ao n cap,.map (some mb)] w (AFp e L mb k S w):=by
 obtain ⟨ek,en,em,ei,ed,ea,ec,es⟩:=e
 obtain rfl:ek=6:=hkd
 have hlen:es.length=1:=by
  have:=(any_sub h.shp).1
  simp only [badS,Ew.kind,Ew.sub] at this
  simpa using this
 obtain ⟨s0,rfl⟩:∃ s0,es=[s0]:=by
  match es,hlen with
  | [s0],_=>exact ⟨s0,rfl⟩
 obtain ⟨sb,so,rfl,hsb,-⟩:=(show Sl w 6 ea 1 (ecs [s0]) from h.ea.sl).at_ (k:=0) (by omega)
 have HEA:=lid h.ea
 have HSHP:=lid h.shp
 have HSA:=lid h.sa
 have HOS:=lid h.own
 have HSZ:Hid (en.size≤maxLen∧em.size≤maxLen):=lid h.ea.sz
 have HCN:Hid (cntE (Ew.mk 6 en em ei ed (some ⟨sb,so,none⟩) ec [s0])=cntL [s0]+1):=lid (cntE_eq _)
 have hhn:=h.hn
 have hhk:=h.hk
 rw [HCN.out] at hhn hhk hc
 have HHN:=lid hhn
 have HHK:=lid hhk
 have HC:=lid hc
 have HIH:=lid ih
 have HV:Hid (freeE L (Ew.mk 6 en em ei ed (some ⟨sb,so,none⟩) ec [s0])=freeE (L++[en]) s0):=lid (by rw [freeE_eq];show (if (6:Int)=3 then _ else freeS L 6 en em 0 [s0])=_;rw [if_neg (by decide)];simp [freeS,extraN])
 obtain ⟨W1,hW1⟩:∃ y,w.alloc (Obj.cells #[.int .i64 6,.string en,.string em,.int .i64 ei,.int .i64 ed,.slice (some ⟨sb,so,none⟩) 1 ec] 63)=y:=⟨_,rfl⟩
 have hb1:Below w.heap.size w W1:=by rw [← hW1];exact ba _ _
 have HW1:=lid hW1
 have HK1:Hid (Kx mb w W1):=lid (Kx.of_below hb1 (Nat.le_refl _))
 have HO1:Hid (OwnSet W1 mb k S):=lid (OwnSet.belowN h.own hb1 (Nat.le_refl _))
 have HR1:Hid (W1.heap[w.heap.size]?=some (.cells #[.int .i64 6,.string en,.string em,.int .i64 ei,.int .i64 ed,.slice (some ⟨sb,so,none⟩) 1 ec] 63 (0,0))):=lid (by rw [← hW1];exact h_new rfl _)
 have lmb:mb<w.heap.size:=by obtain ⟨o,ho,_⟩:=h.own.map;exact row_lt ho
 have hsm:sb≠mb:=fun e=>by
  obtain ⟨o,ho,hco⟩:=h.own.map
  obtain ⟨b9,o9,e9,hsb,hcell⟩:=(show Sl w 6 (some ⟨sb,so,none⟩) 1 (ecs [s0]) from h.ea.sl).at_ (k:=0) (by omega)
  injection e9 with e9
  injection e9 with e91 e92
  subst e91 e92
  obtain ⟨ob,h1,h2⟩:=cells_of_cell (hcell 0 _ rfl)
  rw [e,ho] at h1
  obtain rfl:=Option.some.inj h1
  cases o <;> first | (cases hco;done) | (cases h2;done)
 rw [show eca (Ew.mk 6 en em ei ed (some ⟨sb,so,none⟩) ec [s0])=#[.int .i64 6,.string en,.string em,.int .i64 ei,.int .i64 ed,.slice (some ⟨sb,so,none⟩) 1 ec] from rfl]
 clear h ih hlen hW1 hb1 hhn hhk hc
 go_enter Tryz.func121,Tryz.ntmps121
 go_wp2_with fail
 rw [HW1.out]
 have hea:=HEA.out.kl (HK1.out.kl HOS.out)
 obtain ⟨b9,o9,e9,hsb,hcell⟩:=(show Sl W1 6 (some ⟨sb,so,none⟩) 1 (ecs [s0]) from hea.sl).at_ (k:=0) (by omega)
 injection e9 with e9
 injection e9 with e91 e92
 subst e91 e92
 have y0:W1.cell? ⟨sb,so,none⟩=some (.int .i64 s0.kind):=hcell 0 _ rfl
 have y1:W1.cell? ⟨sb,so+1,none⟩=some (.string s0.name):=hcell 1 _ rfl
 have y2:W1.cell? ⟨sb,so+2,none⟩=some (.string s0.more):=hcell 2 _ rfl
 have y3:W1.cell? ⟨sb,so+3,none⟩=some (.int .i64 s0.int):=hcell 3 _ rfl
 have y4:W1.cell? ⟨sb,so+4,none⟩=some (.int .i64 s0.den):=hcell 4 _ rfl
 have y5:W1.cell? ⟨sb,so+5,none⟩=some (.slice s0.ao s0.sub.length s0.cap):=hcell 5 _ rfl
 have hRW:W1.heap[w.heap.size]?=_:=(show W1.heap[w.heap.size]?=W1.heap[w.heap.size]? from rfl).trans HR1.out
 have c1:W1.cell? ⟨w.heap.size,1,none⟩=some (.string en):=row_cell hRW 1
 have c2:W1.cell? ⟨w.heap.size,2,none⟩=some (.string em):=row_cell hRW 2
 have c5:W1.cell? ⟨w.heap.size,5,none⟩=some (.slice (some ⟨sb,so,none⟩) 1 ec):=row_cell hRW 5
 have lb:=row_lt hRW
 have HSAW:=lid (HSA.out.kl (HK1.out.kl HOS.out))
 have CL:=lid (fun (w1:World) (hb:Below W1.heap.size W1 w1)=>CloneS_any n cap ao (svals L) w1 ((HSAW.out.sl).below hb) (svals_one L) HSAW.out.nil (by have:=HHN.out;omega))
 clear hea hcell hRW
 replace y0:=SinceX.cell (B:=W1.heap.size) (X:=mb) (W:=W1) sb (so) hsb hsm y0
 replace y1:=SinceX.cell (B:=W1.heap.size) (X:=mb) (W:=W1) sb (so+1) hsb hsm y1
 replace y2:=SinceX.cell (B:=W1.heap.size) (X:=mb) (W:=W1) sb (so+2) hsb hsm y2
 replace y3:=SinceX.cell (B:=W1.heap.size) (X:=mb) (W:=W1) sb (so+3) hsb hsm y3
 replace y4:=SinceX.cell (B:=W1.heap.size) (X:=mb) (W:=W1) sb (so+4) hsb hsm y4
 replace y5:=SinceX.cell (B:=W1.heap.size) (X:=mb) (W:=W1) sb (so+5) hsb hsm y5
 replace c1:=SinceX.cell (B:=W1.heap.size) (X:=mb) (W:=W1) w.heap.size 1 lb (by omega) c1
 replace c2:=SinceX.cell (B:=W1.heap.size) (X:=mb) (W:=W1) w.heap.size 2 lb (by omega) c2
 replace c5:=SinceX.cell (B:=W1.heap.size) (X:=mb) (W:=W1) w.heap.size 5 lb (by omega) c5
 go_wp2_with fail
 refine wp_region_ot (fun w'=>∃ s:SinceX W1.heap.size mb W1,w'=s.world) (.seq [(0,true),(1,true),(2,true),(3,true),(4,true),(6,true),(7,true),(10,true)] (.two 5 8 (.seq [(8,false),(9,false),(11,false)] .done) (.seq [(5,false),(9,false),(11,false)] .done))) (by kernel_rfl) (by kernel_rfl) (by intro c d v a w h;first | (cases d <;> exact h) | cases h.1) (sincex (KeptX.refl _ _ _).drew) ?_
 repeat (first | (refine qk ?_;simp only [Act.put,q1,q2,q3]) | (refine qf ?_;intro K hK;go_big_quiet_op;go_big_quiet_on))
 refine seq_nil (ot_two ?_ ?_)
 focus
  refine qc ?_
  intro K hK
  go_wp2_with fail
  (with_reducible refine (CL.out _ (Below.refl _ _).drew).mono ?_);rintro e w4 ⟨v4,rfl,hown4,hb4⟩
  have g4:Below W1.heap.size W1 w4:=(Below.refl _ _).drew.trans hb4
  have HO4:=lid hown4
  clear hown4 hb4
  go_wp2_with fail
  refine hK.out _ _ (sincex (keptx g4)) (seq_nil (ot_seq ?_))
  clear hK K
  refine qc ?_
  intro K hK
  go_wp2_with fail
  obtain ⟨w7,hw7⟩:∃ y,w4.alloc (.cells #[.string en] 9)=y:=⟨_,rfl⟩
  have h74:Below w4.heap.size w4 w7:=by rw [← hw7];exact ba _ _
  have HLAY:Hid (w7.heap[w4.heap.size]?=some (.cells #[.string en] 9 (0,0))):=lid (by rw [← hw7];exact h_new rfl _)
  have HOW:Hid (w7.ownsRow W1.heap.size 9 1 v4 n (svals L)):=lid (own_keep (own_low HO4.out (Nat.le_refl _)) (fun g hg=>h74.block g (HO4.out.lt g hg).2))
  have HGA:=lid (g4.trans (h74.mono g4.size))
  rw [hw7]
  clear hw7 h74 HO4
 rotate_left
 focus
  refine qc ?_
  intro K hK
  go_wp2_with fail
  obtain ⟨w7,hw7⟩:∃ y,(W1.alloc (.cells #[.string en] 9)).drew=y:=⟨_,rfl⟩
  have h7:Below W1.heap.size W1 w7:=by rw [← hw7];exact (ba _ _).drew
  have hlay:w7.heap[W1.heap.size]?=some (.cells #[.string en] 9 (0,0)):=by
   rw [← hw7]
   show (W1.alloc _).heap[_]?=_
   exact h_new rfl _
  rw [hw7]
  clear hw7
  have HLAY7:=lid hlay
  clear hlay
  refine hK.out _ _ (sincex (keptx h7)) (seq_nil (ot_seq ?_))
  clear hK K
  refine qc ?_
  intro K hK
  go_wp2_with fail
  (with_reducible refine (CL.out _ h7).mono ?_);rintro e w4 ⟨v4,rfl,hown4,hb4⟩
  have HLAY:Hid (w4.heap[W1.heap.size]?=some (.cells #[.string en] 9 (0,0))):=lid ((hb4.block _ (row_lt HLAY7.out)).trans HLAY7.out)
  have HGA:=lid (h7.trans (hb4.mono h7.size))
  have HOW:Hid (w4.ownsRow W1.heap.size 9 1 v4 n (svals L)):=lid (own_low hown4 h7.size)
  clear hown4 hb4 HLAY7
  go_wp2_with fail
 rotate_left
 all_goals
  refine hK.out _ _ (sincex (keptx HGA.out)) ?_
  clear hK K
  refine qc ?_
  intro K hK
  go_wp2_with (at_builtin;go_must (refine wpList_append_sl rfl _ _ 42 rfl W1.heap.size 9 (.string ⟨#[]⟩) 1 16 info_str Tryz.underlying42 rfl (by decide) v4 n (svals L) HOW.out rfl _ 1 1 #[.string en].toList rfl (sl_row HLAY.out rfl) (by intro h;cases h) (by simp [Value.oneCell']) (by have:=HHN.out;simp only [maxLen];omega) (by have:=HHN.out;omega) HGA.out.size ?_))
  intro v5 w5 hown5 hb5
  have HG5:=lid (HGA.out.trans hb5)
  obtain ⟨ao5,cap5,rfl⟩:=own_slice hown5
  have HS5:Hid (SA w5 ao5 (n+1) cap5 (L++[en])):=lid (SA.of_own (by simpa [svals] using hown5) (fun s hs=>by
   rcases List.mem_append.1 hs with hs | hs
   ·exact HSA.out.sz s hs
   ·simp only [List.mem_cons,List.not_mem_nil,or_false] at hs
    first | (subst hs;first | exact HSZ.out.1 | exact HSZ.out.2) | (rcases hs with rfl | rfl <;> first | exact HSZ.out.1 | exact HSZ.out.2)))
  clear hown5 hb5
  try simp only [Act.put,q1,q2,q3]
  go_wp2_with fail
  refine hK.out _ _ (sincex (keptx HG5.out)) ?_
  clear hK K
  have hk5:Kx mb w w5:=HK1.out.below HG5.out HK1.out.size
  have hAF:AFh s0 (L++[en]) ao5 (n+1) cap5 mb k S w5:=⟨(HEA.out.all s0 (by simp [Ew.sub])).kl (hk5.kl HOS.out),any_mem (any_sub HSHP.out).2 (by simp [Ew.sub]),HS5.out,OwnSet.belowN HO1.out HG5.out (Nat.le_refl _),by have:=HHN.out;have:=HCN.out;simp only [cntL] at *;omega,by have:=HHK.out;have:=HCN.out;simp only [cntL] at *;omega⟩
  have CI:=lid (HIH.out s0 _ _ _ _ _ _ _ w5 (by have:=HCN.out;have:=HC.out;simp only [cntL] at *;omega) hAF)
  have HK5:=lid hk5
  clear hAF hk5
  refine qc ?_
  intro K hK
  go_wp2_with fail
  (with_reducible refine (CI.out).mono ?_);rintro e w6 ⟨rfl,hO6,hK6⟩
  have HO6:=lid hO6
  have HK6:=lid (HK5.out.trans hK6)
  have HX6:Hid (KeptX W1.heap.size mb W1 w6):=lid ((keptx HG5.out).kx hK6 HG5.out.size)
  clear hO6 hK6
  clear y0 y1 y2 y3 y4 y5 c1 c2 c5
  go_wp2_with fail
  refine hK.out _ _ (sincex HX6.out) (seq_nil (ot_done ?_))
  clear hK K
  go_wp2_with fail
  exact bodyPost_ret (results_none rfl _ _ _) rfl ⟨rfl,by rw [HV.out];exact HO6.out,HK6.out⟩
theorem addFree_let {c:Nat} (ih:AF c) (e:Ew) (L:List ByteArray) (ao:Option Addr) (n cap mb k:Nat) (S:List ByteArray) (w:World) (hc:cntE e≤c+1) (h:AFh e L ao n cap mb k S w) (hkd:e.kind=8) :
  Calls Tryz.prog 121 #[.agg (eca e),.slice ao n cap,.map (some mb)] w (AFp e L mb k S w):=by
 obtain ⟨ek,en,em,ei,ed,ea,ec,es⟩:=e
 obtain rfl:ek=8:=hkd
 have hlen:es.length=2:=by
  have:=(any_sub h.shp).1
  simp only [badS,Ew.kind,Ew.sub] at this
  simpa using this
 obtain ⟨s0,s1,rfl⟩:∃ s0 s1,es=[s0,s1]:=by
  match es,hlen with
  | [s0,s1],_=>exact ⟨s0,s1,rfl⟩
 obtain ⟨sb,so,rfl,hsb,-⟩:=(show Sl w 6 ea 2 (ecs [s0,s1]) from h.ea.sl).at_ (k:=0) (by omega)
 have HEA:=lid h.ea
 have HSHP:=lid h.shp
 have HSA:=lid h.sa
 have HOS:=lid h.own
 have HSZ:Hid (en.size≤maxLen∧em.size≤maxLen):=lid h.ea.sz
 have HCN:Hid (cntE (Ew.mk 8 en em ei ed (some ⟨sb,so,none⟩) ec [s0,s1])=cntL [s0,s1]+1):=lid (cntE_eq _)
 have hhn:=h.hn
 have hhk:=h.hk
 rw [HCN.out] at hhn hhk hc
 have HHN:=lid hhn
 have HHK:=lid hhk
 have HC:=lid hc
 have HIH:=lid ih
 have HV:Hid (freeE L (Ew.mk 8 en em ei ed (some ⟨sb,so,none⟩) ec [s0,s1])=freeE L s0++freeE (L++[en]) s1):=lid (by rw [freeE_eq];show (if (8:Int)=3 then _ else freeS L 8 en em 0 [s0,s1])=_;rw [if_neg (by decide)];simp [freeS,extraN])
 obtain ⟨W1,hW1⟩:∃ y,w.alloc (Obj.cells #[.int .i64 8,.string en,.string em,.int .i64 ei,.int .i64 ed,.slice (some ⟨sb,so,none⟩) 2 ec] 63)=y:=⟨_,rfl⟩
 have hb1:Below w.heap.size w W1:=by rw [← hW1];exact ba _ _
 have HW1:=lid hW1
 have HK1:Hid (Kx mb w W1):=lid (Kx.of_below hb1 (Nat.le_refl _))
 have HO1:Hid (OwnSet W1 mb k S):=lid (OwnSet.belowN h.own hb1 (Nat.le_refl _))
 have HR1:Hid (W1.heap[w.heap.size]?=some (.cells #[.int .i64 8,.string en,.string em,.int .i64 ei,.int .i64 ed,.slice (some ⟨sb,so,none⟩) 2 ec] 63 (0,0))):=lid (by rw [← hW1];exact h_new rfl _)
 have lmb:mb<w.heap.size:=by obtain ⟨o,ho,_⟩:=h.own.map;exact row_lt ho
 have hsm:sb≠mb:=fun e=>by
  obtain ⟨o,ho,hco⟩:=h.own.map
  obtain ⟨b9,o9,e9,hsb,hcell⟩:=(show Sl w 6 (some ⟨sb,so,none⟩) 2 (ecs [s0,s1]) from h.ea.sl).at_ (k:=0) (by omega)
  injection e9 with e9
  injection e9 with e91 e92
  subst e91 e92
  obtain ⟨ob,h1,h2⟩:=cells_of_cell (hcell 0 _ rfl)
  rw [e,ho] at h1
  obtain rfl:=Option.some.inj h1
  cases o <;> first | (cases hco;done) | (cases h2;done)
 rw [show eca (Ew.mk 8 en em ei ed (some ⟨sb,so,none⟩) ec [s0,s1])=#[.int .i64 8,.string en,.string em,.int .i64 ei,.int .i64 ed,.slice (some ⟨sb,so,none⟩) 2 ec] from rfl]
 clear h ih hlen hW1 hb1 hhn hhk hc
 go_enter Tryz.func121,Tryz.ntmps121
 have hea:=HEA.out
 obtain ⟨b9,o9,e9,hsb0,hcell⟩:=(show Sl w 6 (some ⟨sb,so,none⟩) 2 (ecs [s0,s1]) from hea.sl).at_ (k:=0) (by omega)
 injection e9 with e9
 injection e9 with e91 e92
 subst e91 e92
 have y0:w.cell? ⟨sb,so,none⟩=some (.int .i64 s0.kind):=hcell 0 _ rfl
 have y1:w.cell? ⟨sb,so+1,none⟩=some (.string s0.name):=hcell 1 _ rfl
 have y2:w.cell? ⟨sb,so+2,none⟩=some (.string s0.more):=hcell 2 _ rfl
 have y3:w.cell? ⟨sb,so+3,none⟩=some (.int .i64 s0.int):=hcell 3 _ rfl
 have y4:w.cell? ⟨sb,so+4,none⟩=some (.int .i64 s0.den):=hcell 4 _ rfl
 have y5:w.cell? ⟨sb,so+5,none⟩=some (.slice s0.ao s0.sub.length s0.cap):=hcell 5 _ rfl
 have hAF:AFh s0 L ao n cap mb k S W1:=⟨(HEA.out.all s0 (by simp [Ew.sub])).kl (HK1.out.kl HOS.out),any_mem (any_sub HSHP.out).2 (by simp [Ew.sub]),HSA.out.kl (HK1.out.kl HOS.out),HO1.out,by have:=HHN.out;have:=HCN.out;simp only [cntL] at *;omega,by have:=HHK.out;have:=HCN.out;simp only [cntL] at *;omega⟩
 have CI0:=lid (HIH.out s0 _ _ _ _ _ _ _ W1 (by have:=HCN.out;have:=HC.out;simp only [cntL] at *;omega) hAF)
 clear hea hcell hAF
 go_wp2_with fail
 rw [HW1.out]
 (with_reducible refine (CI0.out).mono ?_);rintro e w2 ⟨rfl,hO2,hK2⟩
 have HO2:=lid hO2
 have HK2:=lid (HK1.out.trans hK2)
 have hKa:=lid hK2
 clear hO2 hK2 y0 y1 y2 y3 y4 y5 hsb0
 have KB2:Hid (w2.heap[w.heap.size]?=W1.heap[w.heap.size]?):=lid (by have h:=hKa.out.blk w.heap.size (row_lt HR1.out) (by omega);exact h)
 have hea:=HEA.out.kl (HK2.out.kl HOS.out)
 obtain ⟨b9,o9,e9,hsb,hcell⟩:=(show Sl w2 6 (some ⟨sb,so,none⟩) 2 (ecs [s0,s1]) from hea.sl).at_ (k:=1) (by omega)
 injection e9 with e9
 injection e9 with e91 e92
 subst e91 e92
 have y0:w2.cell? ⟨sb,so+6,none⟩=some (.int .i64 s1.kind):=hcell 6 _ rfl
 have y1:w2.cell? ⟨sb,so+7,none⟩=some (.string s1.name):=hcell 7 _ rfl
 have y2:w2.cell? ⟨sb,so+8,none⟩=some (.string s1.more):=hcell 8 _ rfl
 have y3:w2.cell? ⟨sb,so+9,none⟩=some (.int .i64 s1.int):=hcell 9 _ rfl
 have y4:w2.cell? ⟨sb,so+10,none⟩=some (.int .i64 s1.den):=hcell 10 _ rfl
 have y5:w2.cell? ⟨sb,so+11,none⟩=some (.slice s1.ao s1.sub.length s1.cap):=hcell 11 _ rfl
 have hRW:w2.heap[w.heap.size]?=_:=(KB2.out).trans HR1.out
 have c1:w2.cell? ⟨w.heap.size,1,none⟩=some (.string en):=row_cell hRW 1
 have c2:w2.cell? ⟨w.heap.size,2,none⟩=some (.string em):=row_cell hRW 2
 have c5:w2.cell? ⟨w.heap.size,5,none⟩=some (.slice (some ⟨sb,so,none⟩) 2 ec):=row_cell hRW 5
 have lb:=row_lt hRW
 have HSAW:=lid (HSA.out.kl (HK2.out.kl HOS.out))
 have CL:=lid (fun (w1:World) (hb:Below w2.heap.size w2 w1)=>CloneS_any n cap ao (svals L) w1 ((HSAW.out.sl).below hb) (svals_one L) HSAW.out.nil (by have:=HHN.out;omega))
 clear hea hcell hRW
 replace y0:=SinceX.cell (B:=w2.heap.size) (X:=mb) (W:=w2) sb (so+6) hsb hsm y0
 replace y1:=SinceX.cell (B:=w2.heap.size) (X:=mb) (W:=w2) sb (so+7) hsb hsm y1
 replace y2:=SinceX.cell (B:=w2.heap.size) (X:=mb) (W:=w2) sb (so+8) hsb hsm y2
 replace y3:=SinceX.cell (B:=w2.heap.size) (X:=mb) (W:=w2) sb (so+9) hsb hsm y3
 replace y4:=SinceX.cell (B:=w2.heap.size) (X:=mb) (W:=w2) sb (so+10) hsb hsm y4
 replace y5:=SinceX.cell (B:=w2.heap.size) (X:=mb) (W:=w2) sb (so+11) hsb hsm y5
 replace c1:=SinceX.cell (B:=w2.heap.size) (X:=mb) (W:=w2) w.heap.size 1 lb (by omega) c1
 replace c2:=SinceX.cell (B:=w2.heap.size) (X:=mb) (W:=w2) w.heap.size 2 lb (by omega) c2
 replace c5:=SinceX.cell (B:=w2.heap.size) (X:=mb) (W:=w2) w.heap.size 5 lb (by omega) c5
 go_wp2_with fail
 refine wp_region_ot (fun w'=>∃ s:SinceX w2.heap.size mb w2,w'=s.world) (.seq [(0,true),(1,true),(2,true),(3,true),(4,true),(6,true),(7,true),(10,true)] (.two 5 8 (.seq [(8,false),(9,false),(11,false)] .done) (.seq [(5,false),(9,false),(11,false)] .done))) (by kernel_rfl) (by kernel_rfl) (by intro c d v a w h;first | (cases d <;> exact h) | cases h.1) (sincex (KeptX.refl _ _ _).drew) ?_
 repeat (first | (refine qk ?_;simp only [Act.put,q1,q2,q3]) | (refine qf ?_;intro K hK;go_big_quiet_op;go_big_quiet_on))
 refine seq_nil (ot_two ?_ ?_)
 focus
  refine qc ?_
  intro K hK
  go_wp2_with fail
  (with_reducible refine (CL.out _ (Below.refl _ _).drew).mono ?_);rintro e w4 ⟨v4,rfl,hown4,hb4⟩
  have g4:Below w2.heap.size w2 w4:=(Below.refl _ _).drew.trans hb4
  have HO4:=lid hown4
  clear hown4 hb4
  go_wp2_with fail
  refine hK.out _ _ (sincex (keptx g4)) (seq_nil (ot_seq ?_))
  clear hK K
  refine qc ?_
  intro K hK
  go_wp2_with fail
  obtain ⟨w7,hw7⟩:∃ y,w4.alloc (.cells #[.string en] 9)=y:=⟨_,rfl⟩
  have h74:Below w4.heap.size w4 w7:=by rw [← hw7];exact ba _ _
  have HLAY:Hid (w7.heap[w4.heap.size]?=some (.cells #[.string en] 9 (0,0))):=lid (by rw [← hw7];exact h_new rfl _)
  have HOW:Hid (w7.ownsRow w2.heap.size 9 1 v4 n (svals L)):=lid (own_keep (own_low HO4.out (Nat.le_refl _)) (fun g hg=>h74.block g (HO4.out.lt g hg).2))
  have HGA:=lid (g4.trans (h74.mono g4.size))
  rw [hw7]
  clear hw7 h74 HO4
 rotate_left
 focus
  refine qc ?_
  intro K hK
  go_wp2_with fail
  obtain ⟨w7,hw7⟩:∃ y,(w2.alloc (.cells #[.string en] 9)).drew=y:=⟨_,rfl⟩
  have h7:Below w2.heap.size w2 w7:=by rw [← hw7];exact (ba _ _).drew
  have hlay:w7.heap[w2.heap.size]?=some (.cells #[.string en] 9 (0,0)):=by
   rw [← hw7]
   show (w2.alloc _).heap[_]?=_
   exact h_new rfl _
  rw [hw7]
  clear hw7
  have HLAY7:=lid hlay
  clear hlay
  refine hK.out _ _ (sincex (keptx h7)) (seq_nil (ot_seq ?_))
  clear hK K
  refine qc ?_
  intro K hK
  go_wp2_with fail
  (with_reducible refine (CL.out _ h7).mono ?_);rintro e w4 ⟨v4,rfl,hown4,hb4⟩
  have HLAY:Hid (w4.heap[w2.heap.size]?=some (.cells #[.string en] 9 (0,0))):=lid ((hb4.block _ (row_lt HLAY7.out)).trans HLAY7.out)
  have HGA:=lid (h7.trans (hb4.mono h7.size))
  have HOW:Hid (w4.ownsRow w2.heap.size 9 1 v4 n (svals L)):=lid (own_low hown4 h7.size)
  clear hown4 hb4 HLAY7
  go_wp2_with fail
 rotate_left
 all_goals
  refine hK.out _ _ (sincex (keptx HGA.out)) ?_
  clear hK K
  refine qc ?_
  intro K hK
  go_wp2_with (at_builtin;go_must (refine wpList_append_sl rfl _ _ 42 rfl w2.heap.size 9 (.string ⟨#[]⟩) 1 16 info_str Tryz.underlying42 rfl (by decide) v4 n (svals L) HOW.out rfl _ 1 1 #[.string en].toList rfl (sl_row HLAY.out rfl) (by intro h;cases h) (by simp [Value.oneCell']) (by have:=HHN.out;simp only [maxLen];omega) (by have:=HHN.out;omega) HGA.out.size ?_))
  intro v5 w5 hown5 hb5
  have HG5:=lid (HGA.out.trans hb5)
  obtain ⟨ao5,cap5,rfl⟩:=own_slice hown5
  have HS5:Hid (SA w5 ao5 (n+1) cap5 (L++[en])):=lid (SA.of_own (by simpa [svals] using hown5) (fun s hs=>by
   rcases List.mem_append.1 hs with hs | hs
   ·exact HSA.out.sz s hs
   ·simp only [List.mem_cons,List.not_mem_nil,or_false] at hs
    first | (subst hs;first | exact HSZ.out.1 | exact HSZ.out.2) | (rcases hs with rfl | rfl <;> first | exact HSZ.out.1 | exact HSZ.out.2)))
  clear hown5 hb5
  try simp only [Act.put,q1,q2,q3]
  go_wp2_with fail
  refine hK.out _ _ (sincex (keptx HG5.out)) ?_
  clear hK K
  have hk5:Kx mb w w5:=HK2.out.below HG5.out HK2.out.size
  have hAF:AFh s1 (L++[en]) ao5 (n+1) cap5 mb (k+(freeE L s0).length) (S++freeE L s0) w5:=⟨(HEA.out.all s1 (by simp [Ew.sub])).kl (hk5.kl HOS.out),any_mem (any_sub HSHP.out).2 (by simp [Ew.sub]),HS5.out,OwnSet.belowN HO2.out HG5.out (Nat.le_refl _),by have:=HHN.out;have:=HCN.out;simp only [cntL] at *;omega,by have:=HHK.out;have:=HCN.out;have:=freeE_len L s0;simp only [cntL] at *;omega⟩
  have CI:=lid (HIH.out s1 _ _ _ _ _ _ _ w5 (by have:=HCN.out;have:=HC.out;simp only [cntL] at *;omega) hAF)
  have HK5:=lid hk5
  clear hAF hk5
  refine qc ?_
  intro K hK
  go_wp2_with fail
  (with_reducible refine (CI.out).mono ?_);rintro e w6 ⟨rfl,hO6,hK6⟩
  have HO6:=lid hO6
  have HK6:=lid (HK5.out.trans hK6)
  have HX6:Hid (KeptX w2.heap.size mb w2 w6):=lid ((keptx HG5.out).kx hK6 HG5.out.size)
  clear hO6 hK6
  clear y0 y1 y2 y3 y4 y5 c1 c2 c5
  go_wp2_with fail
  refine hK.out _ _ (sincex HX6.out) (seq_nil (ot_done ?_))
  clear hK K
  go_wp2_with fail
  exact bodyPost_ret (results_none rfl _ _ _) rfl ⟨rfl,by rw [HV.out];rw [List.length_append,← Nat.add_assoc,← List.append_assoc];exact HO6.out,HK6.out⟩
theorem addFree_case {c:Nat} (ih:AF c) (e:Ew) (L:List ByteArray) (ao:Option Addr) (n cap mb k:Nat) (S:List ByteArray) (w:World) (hc:cntE e≤c+1) (h:AFh e L ao n cap mb k S w) (hkd:e.kind=13) :
  Calls Tryz.prog 121 #[.agg (eca e),.slice ao n cap,.map (some mb)] w (AFp e L mb k S w):=by
 obtain ⟨ek,en,em,ei,ed,ea,ec,es⟩:=e
 obtain rfl:ek=13:=hkd
 have hlen:es.length=3:=by
  have:=(any_sub h.shp).1
  simp only [badS,Ew.kind,Ew.sub] at this
  simpa using this
 obtain ⟨s0,s1,s2,rfl⟩:∃ s0 s1 s2,es=[s0,s1,s2]:=by
  match es,hlen with
  | [s0,s1,s2],_=>exact ⟨s0,s1,s2,rfl⟩
 obtain ⟨sb,so,rfl,hsb,-⟩:=(show Sl w 6 ea 3 (ecs [s0,s1,s2]) from h.ea.sl).at_ (k:=0) (by omega)
 have HEA:=lid h.ea
 have HSHP:=lid h.shp
 have HSA:=lid h.sa
 have HOS:=lid h.own
 have HSZ:Hid (en.size≤maxLen∧em.size≤maxLen):=lid h.ea.sz
 have HCN:Hid (cntE (Ew.mk 13 en em ei ed (some ⟨sb,so,none⟩) ec [s0,s1,s2])=cntL [s0,s1,s2]+1):=lid (cntE_eq _)
 have hhn:=h.hn
 have hhk:=h.hk
 rw [HCN.out] at hhn hhk hc
 have HHN:=lid hhn
 have HHK:=lid hhk
 have HC:=lid hc
 have HIH:=lid ih
 have HV:Hid (freeE L (Ew.mk 13 en em ei ed (some ⟨sb,so,none⟩) ec [s0,s1,s2])=freeE L s0++(freeE L s1++freeE (L++[en,em]) s2)):=lid (by rw [freeE_eq];show (if (13:Int)=3 then _ else freeS L 13 en em 0 [s0,s1,s2])=_;rw [if_neg (by decide)];simp [freeS,extraN])
 obtain ⟨W1,hW1⟩:∃ y,w.alloc (Obj.cells #[.int .i64 13,.string en,.string em,.int .i64 ei,.int .i64 ed,.slice (some ⟨sb,so,none⟩) 3 ec] 63)=y:=⟨_,rfl⟩
 have hb1:Below w.heap.size w W1:=by rw [← hW1];exact ba _ _
 have HW1:=lid hW1
 have HK1:Hid (Kx mb w W1):=lid (Kx.of_below hb1 (Nat.le_refl _))
 have HO1:Hid (OwnSet W1 mb k S):=lid (OwnSet.belowN h.own hb1 (Nat.le_refl _))
 have HR1:Hid (W1.heap[w.heap.size]?=some (.cells #[.int .i64 13,.string en,.string em,.int .i64 ei,.int .i64 ed,.slice (some ⟨sb,so,none⟩) 3 ec] 63 (0,0))):=lid (by rw [← hW1];exact h_new rfl _)
 have lmb:mb<w.heap.size:=by obtain ⟨o,ho,_⟩:=h.own.map;exact row_lt ho
 have hsm:sb≠mb:=fun e=>by
  obtain ⟨o,ho,hco⟩:=h.own.map
  obtain ⟨b9,o9,e9,hsb,hcell⟩:=(show Sl w 6 (some ⟨sb,so,none⟩) 3 (ecs [s0,s1,s2]) from h.ea.sl).at_ (k:=0) (by omega)
  injection e9 with e9
  injection e9 with e91 e92
  subst e91 e92
  obtain ⟨ob,h1,h2⟩:=cells_of_cell (hcell 0 _ rfl)
  rw [e,ho] at h1
  obtain rfl:=Option.some.inj h1
  cases o <;> first | (cases hco;done) | (cases h2;done)
 rw [show eca (Ew.mk 13 en em ei ed (some ⟨sb,so,none⟩) ec [s0,s1,s2])=#[.int .i64 13,.string en,.string em,.int .i64 ei,.int .i64 ed,.slice (some ⟨sb,so,none⟩) 3 ec] from rfl]
 clear h ih hlen hW1 hb1 hhn hhk hc
 go_enter Tryz.func121,Tryz.ntmps121
 have hea:=HEA.out
 obtain ⟨b9,o9,e9,hsb0,hcell⟩:=(show Sl w 6 (some ⟨sb,so,none⟩) 3 (ecs [s0,s1,s2]) from hea.sl).at_ (k:=0) (by omega)
 injection e9 with e9
 injection e9 with e91 e92
 subst e91 e92
 have y0:w.cell? ⟨sb,so,none⟩=some (.int .i64 s0.kind):=hcell 0 _ rfl
 have y1:w.cell? ⟨sb,so+1,none⟩=some (.string s0.name):=hcell 1 _ rfl
 have y2:w.cell? ⟨sb,so+2,none⟩=some (.string s0.more):=hcell 2 _ rfl
 have y3:w.cell? ⟨sb,so+3,none⟩=some (.int .i64 s0.int):=hcell 3 _ rfl
 have y4:w.cell? ⟨sb,so+4,none⟩=some (.int .i64 s0.den):=hcell 4 _ rfl
 have y5:w.cell? ⟨sb,so+5,none⟩=some (.slice s0.ao s0.sub.length s0.cap):=hcell 5 _ rfl
 have hAF:AFh s0 L ao n cap mb k S W1:=⟨(HEA.out.all s0 (by simp [Ew.sub])).kl (HK1.out.kl HOS.out),any_mem (any_sub HSHP.out).2 (by simp [Ew.sub]),HSA.out.kl (HK1.out.kl HOS.out),HO1.out,by have:=HHN.out;have:=HCN.out;simp only [cntL] at *;omega,by have:=HHK.out;have:=HCN.out;simp only [cntL] at *;omega⟩
 have CI0:=lid (HIH.out s0 _ _ _ _ _ _ _ W1 (by have:=HCN.out;have:=HC.out;simp only [cntL] at *;omega) hAF)
 clear hea hcell hAF
 go_wp2_with fail
 rw [HW1.out]
 (with_reducible refine (CI0.out).mono ?_);rintro e w2 ⟨rfl,hO2,hK2⟩
 have HO2:=lid hO2
 have HK2:=lid (HK1.out.trans hK2)
 have hKa:=lid hK2
 clear hO2 hK2 y0 y1 y2 y3 y4 y5 hsb0
 have KB2:Hid (w2.heap[w.heap.size]?=W1.heap[w.heap.size]?):=lid (by have h:=hKa.out.blk w.heap.size (row_lt HR1.out) (by omega);exact h)
 clear hKa
 have hea:=HEA.out.kl (HK2.out.kl HOS.out)
 obtain ⟨b9,o9,e9,hsb1,hcell⟩:=(show Sl w2 6 (some ⟨sb,so,none⟩) 3 (ecs [s0,s1,s2]) from hea.sl).at_ (k:=1) (by omega)
 injection e9 with e9
 injection e9 with e91 e92
 subst e91 e92
 have y0:w2.cell? ⟨sb,so+6,none⟩=some (.int .i64 s1.kind):=hcell 6 _ rfl
 have y1:w2.cell? ⟨sb,so+7,none⟩=some (.string s1.name):=hcell 7 _ rfl
 have y2:w2.cell? ⟨sb,so+8,none⟩=some (.string s1.more):=hcell 8 _ rfl
 have y3:w2.cell? ⟨sb,so+9,none⟩=some (.int .i64 s1.int):=hcell 9 _ rfl
 have y4:w2.cell? ⟨sb,so+10,none⟩=some (.int .i64 s1.den):=hcell 10 _ rfl
 have y5:w2.cell? ⟨sb,so+11,none⟩=some (.slice s1.ao s1.sub.length s1.cap):=hcell 11 _ rfl
 have hRW:w2.heap[w.heap.size]?=_:=(KB2.out).trans HR1.out
 have c5:w2.cell? ⟨w.heap.size,5,none⟩=some (.slice (some ⟨sb,so,none⟩) 3 ec):=row_cell hRW 5
 have lb:=row_lt hRW
 have hAF:AFh s1 L ao n cap mb (k+(freeE L s0).length) (S++freeE L s0) w2:=⟨(HEA.out.all s1 (by simp [Ew.sub])).kl (HK2.out.kl HOS.out),any_mem (any_sub HSHP.out).2 (by simp [Ew.sub]),HSA.out.kl (HK2.out.kl HOS.out),HO2.out,by have:=HHN.out;have:=HCN.out;simp only [cntL] at *;omega,by have:=HHK.out;have:=HCN.out;have:=freeE_len L s0;simp only [cntL] at *;omega⟩
 have CI1:=lid (HIH.out s1 _ _ _ _ _ _ _ w2 (by have:=HCN.out;have:=HC.out;simp only [cntL] at *;omega) hAF)
 clear hea hcell hRW hAF
 go_wp2_with fail
 (with_reducible refine (CI1.out).mono ?_);rintro e w3 ⟨rfl,hO2,hK2⟩
 have HO3:=lid hO2
 have HK3:=lid (HK2.out.trans hK2)
 have hKa:=lid hK2
 clear hO2 hK2 y0 y1 y2 y3 y4 y5 c5 lb hsb1
 have KB3:Hid (w3.heap[w.heap.size]?=W1.heap[w.heap.size]?):=lid (by have h:=hKa.out.blk w.heap.size (row_lt (KB2.out.trans HR1.out)) (by omega);exact h.trans KB2.out)
 have hea:=HEA.out.kl (HK3.out.kl HOS.out)
 obtain ⟨b9,o9,e9,hsb,hcell⟩:=(show Sl w3 6 (some ⟨sb,so,none⟩) 3 (ecs [s0,s1,s2]) from hea.sl).at_ (k:=2) (by omega)
 injection e9 with e9
 injection e9 with e91 e92
 subst e91 e92
 have y0:w3.cell? ⟨sb,so+12,none⟩=some (.int .i64 s2.kind):=hcell 12 _ rfl
 have y1:w3.cell? ⟨sb,so+13,none⟩=some (.string s2.name):=hcell 13 _ rfl
 have y2:w3.cell? ⟨sb,so+14,none⟩=some (.string s2.more):=hcell 14 _ rfl
 have y3:w3.cell? ⟨sb,so+15,none⟩=some (.int .i64 s2.int):=hcell 15 _ rfl
 have y4:w3.cell? ⟨sb,so+16,none⟩=some (.int .i64 s2.den):=hcell 16 _ rfl
 have y5:w3.cell? ⟨sb,so+17,none⟩=some (.slice s2.ao s2.sub.length s2.cap):=hcell 17 _ rfl
 have hRW:w3.heap[w.heap.size]?=_:=(KB3.out).trans HR1.out
 have c1:w3.cell? ⟨w.heap.size,1,none⟩=some (.string en):=row_cell hRW 1
 have c2:w3.cell? ⟨w.heap.size,2,none⟩=some (.string em):=row_cell hRW 2
 have c5:w3.cell? ⟨w.heap.size,5,none⟩=some (.slice (some ⟨sb,so,none⟩) 3 ec):=row_cell hRW 5
 have lb:=row_lt hRW
 have HSAW:=lid (HSA.out.kl (HK3.out.kl HOS.out))
 have CL:=lid (fun (w1:World) (hb:Below w3.heap.size w3 w1)=>CloneS_any n cap ao (svals L) w1 ((HSAW.out.sl).below hb) (svals_one L) HSAW.out.nil (by have:=HHN.out;omega))
 clear hea hcell hRW
 replace y0:=SinceX.cell (B:=w3.heap.size) (X:=mb) (W:=w3) sb (so+12) hsb hsm y0
 replace y1:=SinceX.cell (B:=w3.heap.size) (X:=mb) (W:=w3) sb (so+13) hsb hsm y1
 replace y2:=SinceX.cell (B:=w3.heap.size) (X:=mb) (W:=w3) sb (so+14) hsb hsm y2
 replace y3:=SinceX.cell (B:=w3.heap.size) (X:=mb) (W:=w3) sb (so+15) hsb hsm y3
 replace y4:=SinceX.cell (B:=w3.heap.size) (X:=mb) (W:=w3) sb (so+16) hsb hsm y4
 replace y5:=SinceX.cell (B:=w3.heap.size) (X:=mb) (W:=w3) sb (so+17) hsb hsm y5
 replace c1:=SinceX.cell (B:=w3.heap.size) (X:=mb) (W:=w3) w.heap.size 1 lb (by omega) c1
 replace c2:=SinceX.cell (B:=w3.heap.size) (X:=mb) (W:=w3) w.heap.size 2 lb (by omega) c2
 replace c5:=SinceX.cell (B:=w3.heap.size) (X:=mb) (W:=w3) w.heap.size 5 lb (by omega) c5
 go_wp2_with fail
 refine wp_region_ot (fun w'=>∃ s:SinceX w3.heap.size mb w3,w'=s.world) (.seq [(0,true),(1,true),(2,true),(3,true),(4,true),(6,true),(7,true),(8,true),(9,true),(12,true)] (.two 5 10 (.seq [(10,false),(11,false),(13,false)] .done) (.seq [(5,false),(11,false),(13,false)] .done))) (by kernel_rfl) (by kernel_rfl) (by intro c d v a w h;first | (cases d <;> exact h) | cases h.1) (sincex (KeptX.refl _ _ _).drew) ?_
 repeat (first | (refine qk ?_;simp only [Act.put,q1,q2,q3]) | (refine qf ?_;intro K hK;go_big_quiet_op;go_big_quiet_on))
 refine seq_nil (ot_two ?_ ?_)
 focus
  refine qc ?_
  intro K hK
  go_wp2_with fail
  (with_reducible refine (CL.out _ (Below.refl _ _).drew).mono ?_);rintro e w4 ⟨v4,rfl,hown4,hb4⟩
  have g4:Below w3.heap.size w3 w4:=(Below.refl _ _).drew.trans hb4
  have HO4:=lid hown4
  clear hown4 hb4
  go_wp2_with fail
  refine hK.out _ _ (sincex (keptx g4)) (seq_nil (ot_seq ?_))
  clear hK K
  refine qc ?_
  intro K hK
  go_wp2_with fail
  obtain ⟨w7,hw7⟩:∃ y,w4.alloc (.cells #[.string en,.string em] 9)=y:=⟨_,rfl⟩
  have h74:Below w4.heap.size w4 w7:=by rw [← hw7];exact ba _ _
  have HLAY:Hid (w7.heap[w4.heap.size]?=some (.cells #[.string en,.string em] 9 (0,0))):=lid (by rw [← hw7];exact h_new rfl _)
  have HOW:Hid (w7.ownsRow w3.heap.size 9 1 v4 n (svals L)):=lid (own_keep (own_low HO4.out (Nat.le_refl _)) (fun g hg=>h74.block g (HO4.out.lt g hg).2))
  have HGA:=lid (g4.trans (h74.mono g4.size))
  rw [hw7]
  clear hw7 h74 HO4
 rotate_left
 focus
  refine qc ?_
  intro K hK
  go_wp2_with fail
  obtain ⟨w7,hw7⟩:∃ y,(w3.alloc (.cells #[.string en,.string em] 9)).drew=y:=⟨_,rfl⟩
  have h7:Below w3.heap.size w3 w7:=by rw [← hw7];exact (ba _ _).drew
  have hlay:w7.heap[w3.heap.size]?=some (.cells #[.string en,.string em] 9 (0,0)):=by
   rw [← hw7]
   show (w3.alloc _).heap[_]?=_
   exact h_new rfl _
  rw [hw7]
  clear hw7
  have HLAY7:=lid hlay
  clear hlay
  refine hK.out _ _ (sincex (keptx h7)) (seq_nil (ot_seq ?_))
  clear hK K
  refine qc ?_
  intro K hK
  go_wp2_with fail
  (with_reducible refine (CL.out _ h7).mono ?_);rintro e w4 ⟨v4,rfl,hown4,hb4⟩
  have HLAY:Hid (w4.heap[w3.heap.size]?=some (.cells #[.string en,.string em] 9 (0,0))):=lid ((hb4.block _ (row_lt HLAY7.out)).trans HLAY7.out)
  have HGA:=lid (h7.trans (hb4.mono h7.size))
  have HOW:Hid (w4.ownsRow w3.heap.size 9 1 v4 n (svals L)):=lid (own_low hown4 h7.size)
  clear hown4 hb4 HLAY7
  go_wp2_with fail
 rotate_left
 all_goals
  refine hK.out _ _ (sincex (keptx HGA.out)) ?_
  clear hK K
  refine qc ?_
  intro K hK
  go_wp2_with (at_builtin;go_must (refine wpList_append_sl rfl _ _ 42 rfl w3.heap.size 9 (.string ⟨#[]⟩) 1 16 info_str Tryz.underlying42 rfl (by decide) v4 n (svals L) HOW.out rfl _ 2 2 #[.string en,.string em].toList rfl (sl_row HLAY.out rfl) (by intro h;cases h) (by simp [Value.oneCell']) (by have:=HHN.out;simp only [maxLen];omega) (by have:=HHN.out;omega) HGA.out.size ?_))
  intro v5 w5 hown5 hb5
  have HG5:=lid (HGA.out.trans hb5)
  obtain ⟨ao5,cap5,rfl⟩:=own_slice hown5
  have HS5:Hid (SA w5 ao5 (n+2) cap5 (L++[en,em])):=lid (SA.of_own (by simpa [svals] using hown5) (fun s hs=>by
   rcases List.mem_append.1 hs with hs | hs
   ·exact HSA.out.sz s hs
   ·simp only [List.mem_cons,List.not_mem_nil,or_false] at hs
    first | (subst hs;first | exact HSZ.out.1 | exact HSZ.out.2) | (rcases hs with rfl | rfl <;> first | exact HSZ.out.1 | exact HSZ.out.2)))
  clear hown5 hb5
  try simp only [Act.put,q1,q2,q3]
  go_wp2_with fail
  refine hK.out _ _ (sincex (keptx HG5.out)) ?_
  clear hK K
  have hk5:Kx mb w w5:=HK3.out.below HG5.out HK3.out.size
  have hAF:AFh s2 (L++[en,em]) ao5 (n+2) cap5 mb (k+(freeE L s0).length+(freeE L s1).length) (S++freeE L s0++freeE L s1) w5:=⟨(HEA.out.all s2 (by simp [Ew.sub])).kl (hk5.kl HOS.out),any_mem (any_sub HSHP.out).2 (by simp [Ew.sub]),HS5.out,OwnSet.belowN HO3.out HG5.out (Nat.le_refl _),by have:=HHN.out;have:=HCN.out;simp only [cntL] at *;omega,by have:=HHK.out;have:=HCN.out;have:=freeE_len L s0;have:=freeE_len L s1;simp only [cntL] at *;omega⟩
  have CI:=lid (HIH.out s2 _ _ _ _ _ _ _ w5 (by have:=HCN.out;have:=HC.out;simp only [cntL] at *;omega) hAF)
  have HK5:=lid hk5
  clear hAF hk5
  refine qc ?_
  intro K hK
  go_wp2_with fail
  (with_reducible refine (CI.out).mono ?_);rintro e w6 ⟨rfl,hO6,hK6⟩
  have HO6:=lid hO6
  have HK6:=lid (HK5.out.trans hK6)
  have HX6:Hid (KeptX w3.heap.size mb w3 w6):=lid ((keptx HG5.out).kx hK6 HG5.out.size)
  clear hO6 hK6
  clear y0 y1 y2 y3 y4 y5 c1 c2 c5
  go_wp2_with fail
  refine hK.out _ _ (sincex HX6.out) (seq_nil (ot_done ?_))
  clear hK K
  go_wp2_with fail
  exact bodyPost_ret (results_none rfl _ _ _) rfl ⟨rfl,by rw [HV.out];rw [List.length_append,List.length_append,← Nat.add_assoc,← Nat.add_assoc,← List.append_assoc,← List.append_assoc];exact HO6.out,HK6.out⟩
theorem addFree_any:∀ c:Nat,AF c
 | 0=>fun e L ao n cap mb k S w hc _=>by rw [cntE_eq] at hc;omega
 | c+1=>fun e L ao n cap mb k S w hc h=>by
  have ih:=addFree_any c
  by_cases h3:e.kind=3
  ·exact addFree_var e L ao n cap mb k S w h h3
  by_cases h6:e.kind=6
  ·exact addFree_fun ih e L ao n cap mb k S w hc h h6
  by_cases h8:e.kind=8
  ·exact addFree_let ih e L ao n cap mb k S w hc h h8
  by_cases h13:e.kind=13
  ·exact addFree_case ih e L ao n cap mb k S w hc h h13
  exact addFree_other ih e L ao n cap mb k S w hc h h3 h6 h8 h13
end Go.Proofs.YtgcceepadlmelaaGreatDoor
