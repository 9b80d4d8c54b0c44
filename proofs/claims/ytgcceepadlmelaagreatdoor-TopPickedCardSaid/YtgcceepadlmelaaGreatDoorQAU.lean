import Derived.Test.YtgcceepadlmelaaGreatDoorQAT
import Derived.Test.YtgcceepadlmelaaGreatDoorEdInv
import Derived.Test.YtgcceepadlmelaaGreatDoorEdSx
import Derived.Test.YtgcceepadlmelaaGreatDoorQAA
namespace Go.Proofs.YtgcceepadlmelaaGreatDoor
set_option maxRecDepth 100000
set_option maxHeartbeats 16000000
open Go.RowKit
def VisP (K:List Kw) (W0:World) (b2 b5 b6 mb:Nat) (ao:Option Addr) (n cap i:Nat) (M:List Bool) (r:Ending) (w':World):Prop :=
 r=.returned (.tuple #[])∧∃ N,VS W0 b2 b5 b6 mb ao n cap w' N∧Mk K M i N
theorem visit_upto (K:List Kw) (W0:World) (b2 b5 b6 mb:Nat) (ao:Option Addr) (n cap:Nat) (hK:KLA W0 ao n cap K) (hv:∀ x∈K,FitK x∧TestK x):∀ (c i:Nat) (M:List Bool) (w:World),i<c→i<n→VS W0 b2 b5 b6 mb ao n cap w M →
  Calls Tryz.prog 61 #[.int .i64 i,.pointer (some ⟨b5,0,none⟩),.pointer (some ⟨b2,0,none⟩),.pointer (some ⟨b6,0,none⟩)] w (VisP K W0 b2 b5 b6 mb ao n cap i M)
 | 0,_,_,_,h,_,_=>by omega
 | c+1,i,M,w,hic,hin,hS=>by
  have IH:Hid (∀ (k:Nat) (N:List Bool) (W:World),k<i→VS W0 b2 b5 b6 mb ao n cap W N→Calls Tryz.prog 61 #[.int .i64 k,.pointer (some ⟨b5,0,none⟩),.pointer (some ⟨b2,0,none⟩),.pointer (some ⟨b6,0,none⟩)] W (VisP K W0 b2 b5 b6 mb ao n cap k N)) :=
   lid (fun k N W hk hW=>visit_upto K W0 b2 b5 b6 mb ao n cap hK hv c k N W (by omega) (by omega) hW)
  have HK:=lid hK
  have HV:=lid hv
  have HS:=lid hS
  have hnc:n≤cap:=hK.le
  have hcm:cap≤9223372036854775807:=hK.max
  have l5:=row_lt hS.h5
  have lm:=row_lt hS.row
  have x5:w.cell? ⟨b5,0,none⟩=some (.slice (some ⟨mb,0,none⟩) n n):=row_cell hS.h5 0
  obtain ⟨v0,hv0⟩:∃ v0,M[i]?=some v0:=⟨_,List.getElem?_eq_getElem (by rw [hS.len];exact hin)⟩
  have z0:w.cell? ⟨mb,i,none⟩=some (.bool v0):=by rw [row_cell hS.row];exact bls_at hv0
  obtain ⟨a,ha⟩:∃ a,K[i]?=some a:=⟨_,List.getElem?_eq_getElem (by rw [hK.len];exact hin)⟩
  have HA:=lid ha
  have HSTART:Hid (LpI K M i i (M.set i true)):=lid (.start (by rw [hS.len];exact hin))
  have HVS1:Hid (VS W0 b2 b5 b6 mb ao n cap (w.setCell ⟨mb,i,none⟩ (.bool true)) (M.set i true)):=lid hS.mark
  have hfz:=row_fz hS.row i
  clear hS hv0 ha hK hv hic
  go_enter Tryz.func61,Tryz.ntmps61
  go_wp2_with fail
  go_loopw [5] (fun u5 wr=>∃ (j:Nat) (N:List Bool),j≤i∧u5=.int .i64 ((j:Int)-1)∧Hid (VS W0 b2 b5 b6 mb ao n cap wr N)∧Hid (LpI K M i j N)) (fun u5 _=>(intOf u5+1).toNat)
  case atStart=>exact ⟨i,_,Nat.le_refl _,rfl,HVS1,HSTART⟩
  case round =>
   clear HS HVS1 HSTART x5 z0 l5 lm hfz
   obtain ⟨j,N,hj,rfl,HS,HL⟩:=hrel
   have l2:=row_lt HS.out.h2
   have l5:=row_lt HS.out.h5
   have l6:=row_lt HS.out.h6
   have lm:=row_lt HS.out.row
   have x2:wr.cell? ⟨b2,0,none⟩=some (.slice ao n cap):=row_cell HS.out.h2 0
   have x5:wr.cell? ⟨b5,0,none⟩=some (.slice (some ⟨mb,0,none⟩) n n):=row_cell HS.out.h5 0
   have x6:wr.cell? ⟨b6,0,none⟩=some (visF b2 b5 b6):=row_cell HS.out.h6 0
   by_cases hj0:j=0
   ·subst hj0
    have HD:=lid HL.out.done
    clear HL
    go_wp2_with fail
    have hfin:VisP K W0 b2 b5 b6 mb ao n cap i M (.returned (.tuple #[])) wr:=⟨rfl,_,HS.out,HD.out⟩
    exact bodyPost_ret (by simp [results,Tryz.results61,go_sem]) rfl hfin
   ·obtain ⟨k,rfl⟩:∃ k,j=k+1:=⟨j-1,by omega⟩
    rw [show (((k+1:Nat):Int)-1)=(k:Int) by omega]
    clear hj0
    have hkn:k<n:=by omega
    obtain ⟨v,hv⟩:∃ v,N[k]?=some v:=⟨_,List.getElem?_eq_getElem (by rw [HS.out.len];exact hkn)⟩
    have z0:wr.cell? ⟨mb,k,none⟩=some (.bool v):=by rw [row_cell HS.out.row];exact bls_at hv
    cases v with
    | true =>
     have HL2:=lid (HL.out.met hv)
     have HS2:Hid (VS W0 b2 b5 b6 mb ao n cap wr.drew N):=lid (HS.out.keep (Below.refl _ _).drew)
     clear HL hv
     go_wp2_with fail
     refine qd (fun w'=>∃ s:Since wr.heap.size wr,w'=s.world) [(0,true),(1,true),(2,true),(3,true),(4,true),(5,true),(6,true),(7,true),(8,true),(9,true),(10,true),(11,true),(12,true),(13,true),(14,true),(15,true),(16,true)] ?_
     repeat (first | (refine qk ?_;simp only [Act.put,q1,q2,q3]) | (refine qf ?_;intro K hK;go_big_quiet_op;go_big_quiet_on))
     refine seq_nil ?_
     go_wp2_with fail
     go_roundw
     case rel=>exact ⟨k,N,by omega,by go_num,HS2,HL2⟩
     case measure=>simp only [intOf];omega
    | false =>
     clear hv
     obtain ⟨s,hs⟩:∃ s,K[k]?=some s:=⟨_,List.getElem?_eq_getElem (by rw [HK.out.len];exact hkn)⟩
     obtain ⟨p,po,rfl,hpz,hc⟩:=kla_cells HK.out HS.out.below (by omega)
     have lp:p<wr.heap.size:=Nat.lt_of_lt_of_le hpz HS.out.below.size
     have hc1:=hc k s hs
     have hc2:=hc i a HA.out
     have s0:wr.cell? ⟨p,po+k*5,none⟩=some (.int .i64 s.kind):=by have:=hc1 0 _ rfl (by omega);exact this
     have s1:wr.cell? ⟨p,po+k*5+1,none⟩=some (.string s.pack):=by have:=hc1 1 _ rfl (by omega);rwa [← Nat.add_assoc] at this
     have s2:wr.cell? ⟨p,po+k*5+2,none⟩=some (.string s.text):=by have:=hc1 2 _ rfl (by omega);rwa [← Nat.add_assoc] at this
     have s3:wr.cell? ⟨p,po+k*5+3,none⟩=some (.slice s.oa s.old.length s.ocap):=by have:=hc1 3 _ rfl (by omega);rwa [← Nat.add_assoc] at this
     have s4:wr.cell? ⟨p,po+k*5+4,none⟩=some (.slice s.na s.new.length s.ncap):=by have:=hc1 4 _ rfl (by omega);rwa [← Nat.add_assoc] at this
     have t0:wr.cell? ⟨p,po+i*5,none⟩=some (.int .i64 a.kind):=by have:=hc2 0 _ rfl (by omega);exact this
     have t1:wr.cell? ⟨p,po+i*5+1,none⟩=some (.string a.pack):=by have:=hc2 1 _ rfl (by omega);rwa [← Nat.add_assoc] at this
     have t2:wr.cell? ⟨p,po+i*5+2,none⟩=some (.string a.text):=by have:=hc2 2 _ rfl (by omega);rwa [← Nat.add_assoc] at this
     have t3:wr.cell? ⟨p,po+i*5+3,none⟩=some (.slice a.oa a.old.length a.ocap):=by have:=hc2 3 _ rfl (by omega);rwa [← Nat.add_assoc] at this
     have t4:wr.cell? ⟨p,po+i*5+4,none⟩=some (.slice a.na a.new.length a.ncap):=by have:=hc2 4 _ rfl (by omega);rwa [← Nat.add_assoc] at this
     have hms:=List.mem_of_getElem? hs
     have hma:=List.mem_of_getElem? HA.out
     have CI:=lid (fun (W:World) (hW:Below W0.heap.size W0 W)=>independent_any s a W ((HK.out.el s hms).below hW) ((HK.out.el a hma).below hW) (HV.out s hms).1 (HV.out a hma).1)
     have HLI:Hid (indK s a=true→LpI K M i k N):=lid (fun h=>HL.out.ind hs HA.out h)
     clear hc hc1 hc2 hms hma hs
     go_wp2_with fail
     refine qd (fun w'=>∃ s:Since wr.heap.size wr,w'=s.world) [(0,true),(1,true),(2,true),(3,true),(4,true),(5,true),(6,true),(7,true),(8,true),(9,true),(10,true),(11,true),(12,true),(13,true),(14,false),(15,true),(16,true)] ?_
     repeat (first | (refine qk ?_;simp only [Act.put,q1,q2,q3]) | (refine qf ?_;intro K hK;go_big_quiet_op;go_big_quiet_on))
     refine qc ?_
     intro K hK
     go_wp2_with fail
     (with_reducible refine (CI.out _ HS.out.below.drew).mono ?_);rintro e w2 ⟨rfl,hb2⟩
     have HB2:=lid ((Below.refl wr.heap.size wr).drew.trans hb2)
     have HS2:=lid (HS.out.keep HB2.out)
     clear hb2 CI
     go_wp2_with fail
     refine hK.out _ _ (since HB2.out) ?_
     clear hK K
     repeat (first | (refine qk ?_;simp only [Act.put,q1,q2,q3]) | (refine qf ?_;intro K hK;go_big_quiet_op;go_big_quiet_on))
     refine seq_nil ?_
     obtain ⟨q,hq⟩:∃ q,indK s a=q:=⟨_,rfl⟩
     rw [hq] at HLI ⊢
     cases q with
     | true =>
      have HL2:=lid (HLI.out rfl)
      clear HL HLI hq
      go_wp2_with fail
      go_roundw
      case rel=>exact ⟨k,N,by omega,by go_num,HS2,HL2⟩
      case measure=>simp only [intOf];omega
     | false =>
      have y6:w2.cell? ⟨b6,0,none⟩=some (visF b2 b5 b6):=row_cell HS2.out.h6 0
      have m6:=row_lt HS2.out.h6
      have CV:=lid (IH.out k N w2 (by omega) HS2.out)
      clear HLI hq
      go_wp2_with fail
      (with_reducible refine (CV.out).mono ?_);rintro e w3 ⟨rfl,N',hS3,hM3⟩
      have HS3:=lid hS3
      have HL3:=lid (HL.out.go hM3)
      clear hS3 hM3 CV
      go_wp2_with fail
      go_roundw
      case rel=>exact ⟨k,N',by omega,by go_num,HS3,HL3⟩
      case measure=>simp only [intOf];omega
end Go.Proofs.YtgcceepadlmelaaGreatDoor
namespace Go.Proofs.YtgcceepadlmelaaGreatDoor
set_option maxRecDepth 100000
set_option maxHeartbeats 16000000
open Go.RowKit
theorem info_boolN:(Tryz.prog.info? 4).map (fun i=>(i.zero,i.size,i.bytes))=some (some (.bool false),1,1):=by kernel_rfl
def NeedN (K:List Kw) (i:Nat) (N:List Bool):Prop:=N.length=K.length∧N[i]?=some true∧∀ x:Nat,N[x]?=some true→Cl K N x
theorem bls_made {w:World} {base g n:Nat} (h:w.ownsRow base 4 1 (.slice (some ⟨g,0,none⟩) n n) n (madeCells #[.bool false] n).toList):w.heap[g]?=some (.cells (bls (List.replicate n false)) 4 (0,0)):=by
 obtain ⟨cur,-,h2,-,-,h5,h6⟩:=own_formK h
 have e:cur=bls (List.replicate n false):=by
  apply Array.toList_inj.1
  rw [toList_madeCells_one,List.take_of_length_le (by rw [Array.length_toList,h5];exact Nat.le_refl _)] at h6
  rw [h6]
  simp [bls]
 rw [h2,e]
theorem needed_any (ao:Option Addr) (n cap:Nat) (K:List Kw) (i:Nat) (w:World) (h:KLA w ao n cap K) (hn:n≤100000) (hi:i<n) (hv:∀ x∈K,FitK x∧TestK x) :
  Calls Tryz.prog 31 #[.slice ao n cap,.int .i64 i] w fun r w'=>∃ g N,r=.returned (.slice (some ⟨g,0,none⟩) n n)∧w.heap.size≤g∧w'.heap[g]?=some (.cells (bls N) 4 (0,0))∧NeedN K i N∧Below w.heap.size w w':=by
 have HK:=lid h
 have HV:=lid hv
 have hcn:n≤cap:=h.le
 have hc63:cap≤9223372036854775807:=h.max
 clear h hv
 go_enter Tryz.func31,Tryz.ntmps31
 obtain ⟨ii,hi0,hz0,hz1,hz2⟩:=info_parts info_boolN
 have HII:=lid (And.intro hi0 (And.intro hz0 (And.intro hz1 hz2)))
 clear hi0 hz0 hz1 hz2
 go_wp2_with (at_make;go_must (refine wpList_make_full (w.alloc (.cells #[.slice ao n cap] 26)) rfl _ _ 71 rfl (w.heap.size+1) 4 ii (.bool false) 1 Tryz.underlying71 HII.out.1 HII.out.2.1 HII.out.2.2.1 _ _ n n n rfl rfl rfl rfl (by rw [HII.out.2.2.2];omega) (by simp only [maxLen];omega) (by simp) ?_))
 intro w1 own1 hg1
 clear HII ii
 have hb0:Below w.heap.size w (w.alloc (.cells #[.slice ao n cap] 26)):=ba _ _
 have hg:Below (w.alloc (.cells #[.slice ao n cap] 26)).heap.size (w.alloc (.cells #[.slice ao n cap] 26)) w1:=(Below.refl _ _).grown hg1 (Nat.le_refl _) (fun k hk=>by cases hk)
 have hb1:=hb0.trans (hg.mono (by simp))
 have h2:w1.heap[w.heap.size]?=some (.cells #[.slice ao n cap] 26 (0,0)):=(hg.block _ (by simp)).trans (h_new rfl _)
 have hrow:=bls_made own1
 have hrl:=row_lt hrow
 obtain ⟨W3,hW3⟩:∃ y,(w1.alloc (.cells #[.slice (some ⟨w.heap.size+1,0,none⟩) n n] 71)).alloc (.cells #[visF w.heap.size w1.heap.size (w1.heap.size+1)] 102)=y:=⟨_,rfl⟩
 have hb3:Below w1.heap.size w1 W3:=by rw [← hW3];exact (ba _ _).alloc (by simp) _
 have HS3:Hid (VS w w.heap.size w1.heap.size (w1.heap.size+1) (w.heap.size+1) ao n cap W3 (List.replicate n false)):=lid ⟨hb1.trans (hb3.mono hb1.size),(hb3.block _ (row_lt h2)).trans h2,by rw [← hW3];exact (h_old (by simp) _).trans (h_new rfl _),by rw [← hW3];exact h_new (by simp) _,(hb3.block _ hrl).trans hrow,by simp,by omega,by omega,by omega,by omega⟩
 have CV:=lid (visit_upto K w w.heap.size w1.heap.size (w1.heap.size+1) (w.heap.size+1) ao n cap HK.out HV.out (i+1) i _ W3 (by omega) hi HS3.out)
 have HW3:=lid hW3
 clear hb0 hg hb1 h2 hrow hrl hW3 hb3 own1 hg1 HS3
 go_wp2_with fail
 rw [HW3.out]
 (with_reducible refine (CV.out).mono ?_);rintro e w4 ⟨rfl,N,hS,hM⟩
 have x5:w4.cell? ⟨w1.heap.size,0,none⟩=some (.slice (some ⟨w.heap.size+1,0,none⟩) n n):=row_cell hS.h5 0
 have l5:=row_lt hS.h5
 have HS:=lid hS
 have HM:=lid hM
 clear hS hM CV
 go_wp2_with fail
 go_ret
 refine ⟨_,N,rfl,by omega,HS.out.row,⟨by rw [HS.out.len,HK.out.len],HM.out.2.1,fun x hx=>?_⟩,HS.out.below⟩
 rcases HM.out.2.2 x hx with h | h
 ·rw [List.getElem?_replicate] at h
  split at h
  ·cases h
  ·cases h
 ·exact h
end Go.Proofs.YtgcceepadlmelaaGreatDoor
namespace Go.Proofs.YtgcceepadlmelaaGreatDoor
set_option maxRecDepth 100000
set_option maxHeartbeats 16000000
open Go.RowKit
def pk (K:List Kw) (N:List Bool):List Kw:=((K.zip N).filter (·.2)).map (·.1)
def optL:Bool→Kw→List Kw
 | true,x=>[x]
 | false,_=>[]
theorem pk_succ {K:List Kw} {N:List Bool} {k:Nat} {x:Kw} {b:Bool} (hx:K[k]?=some x) (hb:N[k]?=some b):pk (K.take (k+1)) (N.take (k+1))=pk (K.take k) (N.take k)++optL b x:=by
 obtain ⟨h1,e1⟩:=List.getElem?_eq_some_iff.1 hx
 obtain ⟨h2,e2⟩:=List.getElem?_eq_some_iff.1 hb
 unfold pk
 rw [List.take_succ_eq_append_getElem h1,List.take_succ_eq_append_getElem h2,List.zip_append (by simp;omega),e1,e2,List.filter_append,List.map_append]
 cases b <;> rfl
theorem pk_len (K:List Kw) (N:List Bool):(pk K N).length≤K.length:=by
 unfold pk
 rw [List.length_map]
 refine Nat.le_trans (List.length_filter_le _ _) ?_
 rw [List.length_zip]
 exact Nat.min_le_left _ _
theorem Pick_any (ao:Option Addr) (n cap:Nat) (K:List Kw) (i:Nat) (w:World) (h:KLA w ao n cap K) (hn:n≤100000) (hi:i<n) (hv:∀ x∈K,FitK x∧TestK x) :
  Calls Tryz.prog 11 #[.slice ao n cap,.int .i64 i] w fun r w'=>∃ v N,r=.returned (.tuple #[v,.int .i64 0])∧w'.ownsRow w.heap.size 52 5 v (pk K N).length (kcs (pk K N))∧NeedN K i N∧Below w.heap.size w w':=by
 have HK:=lid h
 have hcn:n≤cap:=h.le
 have hc63:cap≤9223372036854775807:=h.max
 have CC:=lid (pcheck_any ao n cap K i w h hi hv)
 have CN:=lid (fun W (hW:Below w.heap.size w W)=>needed_any ao n cap K i W (h.below hW) hn hi hv)
 clear h hv
 go_enter Tryz.func11,Tryz.ntmps11
 go_wp2_with fail
 (with_reducible refine (CC.out).mono ?_);rintro e w1 ⟨rfl,hb1⟩
 have HB1:=lid hb1
 clear hb1 CC
 go_wp2_with fail
 (with_reducible refine (CN.out _ HB1.out).mono ?_);rintro e w2 ⟨g,N,rfl,hg0,hrow,hN,hb2⟩
 have HB2:=lid (HB1.out.trans (hb2.mono HB1.out.size))
 have HROW:=lid hrow
 have HN:=lid hN
 have hg:w.heap.size≤g:=Nat.le_trans HB1.out.size hg0
 obtain ⟨GB,hGB⟩:∃ y,w2.heap.size=y:=⟨_,rfl⟩
 have HGB:=lid hGB
 have HBG0:Hid (Below GB w2 w2):=lid (Below.refl _ _)
 have HO0:Hid (w2.ownsRow GB 52 5 (.slice none 0 0) (pk (K.take 0) (N.take 0)).length (kcs (pk (K.take 0) (N.take 0)))):=lid (World.ownsRow_nil _ _ _ _)
 clear hb2 hrow hN CN hGB hg0
 go_wp2_with fail
 go_loopw [7,20] (fun u7 u20 wr=>∃ k:Nat,k≤n∧u20=.int .i64 k∧Hid (wr.ownsRow GB 52 5 u7 (pk (K.take k) (N.take k)).length (kcs (pk (K.take k) (N.take k))))∧Hid (Below GB w2 wr)) (fun _ u20 _=>n-(intOf u20).toNat)
 case atStart=>exact ⟨0,Nat.zero_le _,rfl,HO0,HBG0⟩
 case round =>
  clear HO0 HBG0
  obtain ⟨k,hk,rfl,HO,HBG⟩:=hrel
  have HB:Hid (Below w.heap.size w wr):=lid (HB2.out.trans (HBG.out.mono (by rw [← HGB.out];exact HB2.out.size)))
  have HRW:wr.heap[g]?=some (.cells (bls N) 4 (0,0)):=(HBG.out.block _ (by rw [← HGB.out];exact row_lt HROW.out)).trans HROW.out
  have lg:=row_lt HRW
  have GBL:GB≤wr.heap.size:=by rw [← HGB.out];exact HBG.out.size
  by_cases hkn:k<n
  ·obtain ⟨b,hb⟩:∃ b,N[k]?=some b:=⟨_,List.getElem?_eq_getElem (by rw [HN.out.1,HK.out.len];exact hkn)⟩
   obtain ⟨x,hx⟩:∃ x,K[k]?=some x:=⟨_,List.getElem?_eq_getElem (by rw [HK.out.len];exact hkn)⟩
   have z0:wr.cell? ⟨g,k,none⟩=some (.bool b):=by rw [row_cell HRW];exact bls_at hb
   have HS:=lid (pk_succ hx hb)
   have HLEN:Hid ((pk (K.take k) (N.take k)).length≤n):=lid (by
    refine Nat.le_trans (pk_len _ _) ?_
    rw [List.length_take]
    omega)
   obtain ⟨p,po,rfl,hpz,hc⟩:=kla_cells HK.out HB.out (by omega)
   have lp:p<wr.heap.size:=Nat.lt_of_lt_of_le hpz HB.out.size
   have hc1:=hc k x hx
   have y0:wr.cell? ⟨p,po+k*5,none⟩=some (.int .i64 x.kind):=by have:=hc1 0 _ rfl (by omega);exact this
   have y1:wr.cell? ⟨p,po+k*5+1,none⟩=some (.string x.pack):=by have:=hc1 1 _ rfl (by omega);rwa [← Nat.add_assoc] at this
   have y2:wr.cell? ⟨p,po+k*5+2,none⟩=some (.string x.text):=by have:=hc1 2 _ rfl (by omega);rwa [← Nat.add_assoc] at this
   have y3:wr.cell? ⟨p,po+k*5+3,none⟩=some (.slice x.oa x.old.length x.ocap):=by have:=hc1 3 _ rfl (by omega);rwa [← Nat.add_assoc] at this
   have y4:wr.cell? ⟨p,po+k*5+4,none⟩=some (.slice x.na x.new.length x.ncap):=by have:=hc1 4 _ rfl (by omega);rwa [← Nat.add_assoc] at this
   clear hc hc1 hb hx HRW
   cases b with
   | true =>
    obtain ⟨W1,hW1⟩:∃ y,wr.alloc (.cells (kca x) 52)=y:=⟨_,rfl⟩
    have hb1:Below wr.heap.size wr W1:=by rw [← hW1];exact ba _ _
    have hlay:W1.heap[wr.heap.size]?=some (.cells (kca x) 52 (0,0)):=by rw [← hW1];exact h_new rfl _
    obtain ⟨m,hm⟩:∃ m,(pk (K.take k) (N.take k)).length=m:=⟨_,rfl⟩
    have HM:=lid hm
    have HOW:Hid (W1.ownsRow GB 52 5 u7 m (kcs (pk (K.take k) (N.take k)))):=lid (by rw [← hm];exact own_keep HO.out (fun k e=>hb1.block k (HO.out.lt k e).2))
    have hmn:m≤100000:=by rw [← hm];exact Nat.le_trans HLEN.out hn
    have HLAY:Hid (Sl W1 5 (some ⟨wr.heap.size,0,none⟩) 1 (kce x)):=lid (sl_row hlay rfl)
    have HZ:GB≤W1.heap.size:=Nat.le_trans GBL hb1.size
    have HBG1:=lid (HBG.out.trans (hb1.mono GBL))
    have HW1:=lid hW1
    clear hW1 hb1 hlay hm
    go_wp2_with (at_builtin;rw [HW1.out];go_must (refine wpList_append_sl rfl _ _ 26 rfl GB 52 (.agg #[.int .i64 0,.string ⟨#[]⟩,.string ⟨#[]⟩,.slice none 0 0,.slice none 0 0]) 5 88 info_edit Tryz.underlying26 rfl (by decide) _ m (kcs (pk (K.take k) (N.take k))) HOW.out rfl (some ⟨wr.heap.size,0,none⟩) 1 1 (kce x) rfl HLAY.out (by intro h;cases h) (by simp [Value.oneCell']) (by simp only [maxLen];omega) (by omega) HZ ?_))
    intro v5 w5 hown5 hb5
    have HO5:Hid (w5.ownsRow GB 52 5 v5 ((pk (K.take k) (N.take k))++[x]).length (kcs ((pk (K.take k) (N.take k))++[x]))):=lid (by
     rw [List.length_append,HM.out,kcs_append]
     have e:kcs [x]=kce x:=by simp [kcs]
     rw [e]
     exact hown5)
    have HB5:=lid (HBG1.out.trans hb5)
    clear hown5 hb5 HO HBG HBG1 HOW HLAY HM
    go_wp2_with fail
    go_roundw
    case measure=>simp only [intOf];omega
    case rel=>exact ⟨k+1,by omega,by go_num,lid (by rw [HS.out,show optL true x=[x] from rfl];exact HO5.out),HB5⟩
   | false =>
    go_wp2_with fail
    go_roundw
    case measure=>simp only [intOf];omega
    case rel=>exact ⟨k+1,by omega,by go_num,lid (by rw [HS.out,show optL false x=[] from rfl,List.append_nil];exact HO.out),HBG⟩
  ·obtain rfl:k=n:=by omega
   clear hkn
   have HFIN:Hid (wr.ownsRow GB 52 5 u7 (pk K N).length (kcs (pk K N))):=lid (by
    have:=HO.out
    rwa [List.take_of_length_le (by rw [HK.out.len];exact Nat.le_refl _),List.take_of_length_le (by rw [HN.out.1,HK.out.len];exact Nat.le_refl _)] at this)
   go_wp2_with fail
   go_ret2
   exact ⟨_,N,rfl,own_low HFIN.out (by rw [← HGB.out];exact HB2.out.size),HN.out,HB.out⟩
end Go.Proofs.YtgcceepadlmelaaGreatDoor
namespace Go.Proofs.YtgcceepadlmelaaGreatDoor
set_option maxRecDepth 100000
set_option maxHeartbeats 16000000
open Go.RowKit
noncomputable def eqK (a b:Kw):Bool:=pB (a.x=b.x)
theorem rest_nil {α:Type} {eq:α→α→Bool} {x:α} {l:List α}:restL eq (x::l) []=x::restL eq l []:=by rw [restL]
theorem rest_end {α:Type} {eq:α→α→Bool} {p:List α}:restL eq [] p=[]:=by rw [restL]
theorem rest_t {α:Type} {eq:α→α→Bool} {x y:α} {l p:List α} (h:eq x y=true):restL eq (x::l) (y::p)=restL eq l p:=by rw [restL,if_pos h]
theorem rest_f {α:Type} {eq:α→α→Bool} {x y:α} {l p:List α} (h:eq x y=false):restL eq (x::l) (y::p)=x::restL eq l (y::p):=by rw [restL,if_neg (by rw [h];simp)]
theorem drop_at {α:Type} {l:List α} {k:Nat} {x:α} (h:l[k]?=some x):l.drop k=x::l.drop (k+1):=by
 obtain ⟨h1,e⟩:=List.getElem?_eq_some_iff.1 h
 rw [List.drop_eq_getElem_cons h1,e]
theorem Rest_any (ao bo:Option Addr) (n m ca cb:Nat) (K P:List Kw) (w:World) (hA:KLA w ao n ca K) (hB:KLA w bo m cb P) (hn:n≤100000) :
  Calls Tryz.prog 14 #[.slice ao n ca,.slice bo m cb] w fun r w'=>∃ v,r=.returned v∧w'.ownsRow w.heap.size 52 5 v (restL eqK K P).length (kcs (restL eqK K P))∧Below w.heap.size w w':=by
 have HK:=lid hA
 have HP:=lid hB
 have c1:n≤ca:=hA.le
 have c2:m≤cb:=hB.le
 have m1:ca≤9223372036854775807:=hA.max
 have m2:cb≤9223372036854775807:=hB.max
 clear hA hB
 obtain ⟨W0,hW0⟩:∃ y,w.alloc (.cells #[] 52)=y:=⟨_,rfl⟩
 have HO0:Hid (W0.ownsRow w.heap.size 52 5 (.slice (some ⟨w.heap.size,0,none⟩) 0 0) ([]:List Kw).length (kcs [])):=lid (by
  rw [← hW0]
  exact World.ownsRow_lit w #[] 0 (Nat.le_refl _) (by simp [maxLen]) rfl)
 have HB0:Hid (Below w.heap.size w W0):=lid (by rw [← hW0];exact ba _ _)
 have HW0:=lid hW0
 clear hW0
 go_enter Tryz.func14,Tryz.ntmps14
 go_wp2_with fail
 rw [HW0.out]
 go_loopw [5,6,7] (fun u5 u6 u7 wr=>∃ (i k:Nat) (O:List Kw),i≤n∧k≤m∧u7=.int .i64 i∧u6=.int .i64 k∧Hid (wr.ownsRow w.heap.size 52 5 u5 O.length (kcs O))∧Hid (Below w.heap.size w wr)∧Hid (O.length≤i)∧Hid (restL eqK K P=O++restL eqK (K.drop i) (P.drop k))) (fun _ _ u7 _=>n-(intOf u7).toNat)
 case atStart=>exact ⟨0,0,[],Nat.zero_le _,Nat.zero_le _,rfl,rfl,HO0,HB0,lid (Nat.le_refl _),lid rfl⟩
 case round =>
  clear HO0 HB0 HW0
  obtain ⟨i,k,O,hi,hk,rfl,rfl,HO,HB,HOL,HR⟩:=hrel
  by_cases hin:i<n
  ·obtain ⟨x,hx⟩:∃ x,K[i]?=some x:=⟨_,List.getElem?_eq_getElem (by rw [HK.out.len];exact hin)⟩
   obtain ⟨p,po,rfl,hpz,hc⟩:=kla_cells HK.out HB.out (by omega)
   have lp:p<wr.heap.size:=Nat.lt_of_lt_of_le hpz HB.out.size
   have hc1:=hc i x hx
   have HXM:=lid (List.mem_of_getElem? hx)
   have HDX:=lid (drop_at hx)
   have y0:wr.cell? ⟨p,po+i*5,none⟩=some (.int .i64 x.kind):=by have:=hc1 0 _ rfl (by omega);exact this
   have y1:wr.cell? ⟨p,po+i*5+1,none⟩=some (.string x.pack):=by have:=hc1 1 _ rfl (by omega);rwa [← Nat.add_assoc] at this
   have y2:wr.cell? ⟨p,po+i*5+2,none⟩=some (.string x.text):=by have:=hc1 2 _ rfl (by omega);rwa [← Nat.add_assoc] at this
   have y3:wr.cell? ⟨p,po+i*5+3,none⟩=some (.slice x.oa x.old.length x.ocap):=by have:=hc1 3 _ rfl (by omega);rwa [← Nat.add_assoc] at this
   have y4:wr.cell? ⟨p,po+i*5+4,none⟩=some (.slice x.na x.new.length x.ncap):=by have:=hc1 4 _ rfl (by omega);rwa [← Nat.add_assoc] at this
   clear hc hc1 hx hpz
   by_cases hkm:k<m
   ·obtain ⟨z,hz⟩:∃ z,P[k]?=some z:=⟨_,List.getElem?_eq_getElem (by rw [HP.out.len];exact hkm)⟩
    obtain ⟨g,go,rfl,hgz,hd⟩:=kla_cells HP.out HB.out (by omega)
    have lg:g<wr.heap.size:=Nat.lt_of_lt_of_le hgz HB.out.size
    have hd1:=hd k z hz
    have HZM:=lid (List.mem_of_getElem? hz)
    have HDZ:=lid (drop_at hz)
    have z0:wr.cell? ⟨g,go+k*5,none⟩=some (.int .i64 z.kind):=by have:=hd1 0 _ rfl (by omega);exact this
    have z1:wr.cell? ⟨g,go+k*5+1,none⟩=some (.string z.pack):=by have:=hd1 1 _ rfl (by omega);rwa [← Nat.add_assoc] at this
    have z2:wr.cell? ⟨g,go+k*5+2,none⟩=some (.string z.text):=by have:=hd1 2 _ rfl (by omega);rwa [← Nat.add_assoc] at this
    have z3:wr.cell? ⟨g,go+k*5+3,none⟩=some (.slice z.oa z.old.length z.ocap):=by have:=hd1 3 _ rfl (by omega);rwa [← Nat.add_assoc] at this
    have z4:wr.cell? ⟨g,go+k*5+4,none⟩=some (.slice z.na z.new.length z.ncap):=by have:=hd1 4 _ rfl (by omega);rwa [← Nat.add_assoc] at this
    have CS:=lid (fun (W:World) (hW:Below w.heap.size w W)=>SameK_any x z W ((HK.out.el x HXM.out).below hW) ((HP.out.el z HZM.out).below hW))
    clear hd hd1 hz hgz
    have HO2:=HO
    go_wp2_with fail
    refine qd (fun w'=>∃ s:Since wr.heap.size wr,w'=s.world) [(0,true),(1,true),(2,true),(3,true),(4,true),(5,true),(6,true),(7,true),(8,true),(9,true),(10,true),(11,true),(12,true),(13,false),(14,true)] ?_
    repeat (first | (refine qk ?_;simp only [Act.put,q1,q2,q3]) | (refine qf ?_;intro K hK;go_big_quiet_op;go_big_quiet_on))
    refine qc ?_
    intro K hK
    go_wp2_with fail
    (with_reducible refine (CS.out _ HB.out.drew).mono ?_);rintro e wq ⟨rfl,hb2⟩
    have HBQ0:=lid ((Below.refl wr.heap.size wr).drew.trans hb2)
    clear hb2 CS
    go_wp2_with fail
    refine hK.out _ _ (since HBQ0.out) ?_
    clear hK K
    repeat (first | (refine qk ?_;simp only [Act.put,q1,q2,q3]) | (refine qf ?_;intro K hK;go_big_quiet_op;go_big_quiet_on))
    refine seq_nil ?_
    obtain ⟨q,hq⟩:∃ q,pB (x.x=z.x)=q:=⟨_,rfl⟩
    rw [hq]
    have hq2:eqK x z=q:=hq
    cases q with
    | true =>
     have HR2:Hid (restL eqK K P=O++restL eqK (K.drop (i+1)) (P.drop (k+1))):=lid (by rw [HR.out,HDX.out,HDZ.out,rest_t hq2])
     have HB2:=lid (HB.out.trans (HBQ0.out.mono HB.out.size))
     have HO3:Hid (wq.ownsRow w.heap.size 52 5 u5 O.length (kcs O)):=lid (own_keep HO2.out (fun k e=>HBQ0.out.block k (HO2.out.lt k e).2))
     clear hq hq2 HO HB
     go_wp2_with fail
     go_roundw
     case rel=>exact ⟨i+1,k+1,O,by omega,by omega,by go_num,by go_num,HO3,HB2,lid (Nat.le_succ_of_le HOL.out),HR2⟩
     case measure=>simp only [intOf];omega
    | false =>
     have HR2:Hid (restL eqK K P=O++x::restL eqK (K.drop (i+1)) (P.drop k)):=lid (by rw [HR.out,HDX.out,HDZ.out,rest_f hq2])
     clear hq hq2 HO2
     replace y0:=(bc HBQ0.out lp _).trans y0
     replace y1:=(bc HBQ0.out lp _).trans y1
     replace y2:=(bc HBQ0.out lp _).trans y2
     replace y3:=(bc HBQ0.out lp _).trans y3
     replace y4:=(bc HBQ0.out lp _).trans y4
     have lpq:p<wq.heap.size:=Nat.lt_of_lt_of_le lp HBQ0.out.size
     have HOQ:Hid (wq.ownsRow w.heap.size 52 5 u5 O.length (kcs O)):=lid (own_keep HO.out (fun k e=>HBQ0.out.block k (HO.out.lt k e).2))
     have HBQ:=lid (HB.out.trans (HBQ0.out.mono HB.out.size))
     have HL:Hid (w.heap.size≤wq.heap.size):=lid (Nat.le_trans HB.out.size HBQ0.out.size)
     clear HO HB HBQ0
     obtain ⟨W1,hW1⟩:∃ y,wq.alloc (.cells (kca x) 52)=y:=⟨_,rfl⟩
     have hb1:Below wq.heap.size wq W1:=by rw [← hW1];exact ba _ _
     have hlay:W1.heap[wq.heap.size]?=some (.cells (kca x) 52 (0,0)):=by rw [← hW1];exact h_new rfl _
     obtain ⟨m5,hm⟩:∃ m5,(O).length=m5:=⟨_,rfl⟩
     have HM:=lid hm
     have HOW:Hid (W1.ownsRow w.heap.size 52 5 u5 m5 (kcs (O))):=lid (by rw [← hm];exact own_keep HOQ.out (fun k e=>hb1.block k (HOQ.out.lt k e).2))
     have hmn:m5≤100000:=by rw [← hm];exact Nat.le_trans (Nat.le_trans HOL.out hi) hn
     have HLAY:Hid (Sl W1 5 (some ⟨wq.heap.size,0,none⟩) 1 (kce x)):=lid (sl_row hlay rfl)
     have HZ:w.heap.size≤W1.heap.size:=Nat.le_trans HL.out hb1.size
     have HBG1:=lid (HBQ.out.trans (hb1.mono HL.out))
     have HW1:=lid hW1
     clear hW1 hb1 hlay hm
     go_wp2_with (at_builtin;rw [HW1.out];go_must (refine wpList_append_sl rfl _ _ 26 rfl w.heap.size 52 (.agg #[.int .i64 0,.string ⟨#[]⟩,.string ⟨#[]⟩,.slice none 0 0,.slice none 0 0]) 5 88 info_edit Tryz.underlying26 rfl (by decide) _ m5 (kcs (O)) HOW.out rfl (some ⟨wq.heap.size,0,none⟩) 1 1 (kce x) rfl HLAY.out (by intro h;cases h) (by simp [Value.oneCell']) (by simp only [maxLen];omega) (by omega) HZ ?_))
     intro v5 w5 hown5 hb5
     have HO5:Hid (w5.ownsRow w.heap.size 52 5 v5 ((O)++[x]).length (kcs ((O)++[x]))):=lid (by
      rw [List.length_append,HM.out,kcs_append]
      have e:kcs [x]=kce x:=by simp [kcs]
      rw [e]
      exact hown5)
     have HB5:=lid (HBG1.out.trans hb5)
     clear hown5 hb5 HOQ HBQ HBG1 HOW HLAY HM
     go_wp2_with fail
     go_roundw
     case rel=>exact ⟨i+1,k,O++[x],by omega,hk,by go_num,rfl,HO5,HB5,lid (by rw [List.length_append];have:=HOL.out;simp only [List.length_cons,List.length_nil];omega),lid (by rw [HR2.out];simp)⟩
     case measure=>simp only [intOf];omega
   ·obtain rfl:k=m:=by omega
    have HR2:Hid (restL eqK K P=O++x::restL eqK (K.drop (i+1)) (P.drop k)):=lid (by
     have e:P.drop k=[]:=List.drop_of_length_le (by rw [HP.out.len];exact Nat.le_refl _)
     rw [HR.out,HDX.out,e,rest_nil])
    clear hkm
    have HBQ0:Hid (Below wr.heap.size wr wr.drew):=lid (Below.refl _ _).drew
    go_wp2_with fail
    refine qd (fun w'=>∃ s:Since wr.heap.size wr,w'=s.world) [(0,true),(1,true),(2,true),(3,true),(4,true),(5,true),(6,true),(7,true),(8,true),(9,true),(10,true),(11,true),(12,true),(13,true),(14,true)] ?_
    repeat (first | (refine qk ?_;simp only [Act.put,q1,q2,q3]) | (refine qf ?_;intro K hK;go_big_quiet_op;go_big_quiet_on))
    refine seq_nil ?_
    obtain ⟨wq,hwq⟩:∃ y,wr.drew=y:=⟨_,rfl⟩
    rw [hwq] at HBQ0 ⊢
    clear hwq
    replace y0:=(bc HBQ0.out lp _).trans y0
    replace y1:=(bc HBQ0.out lp _).trans y1
    replace y2:=(bc HBQ0.out lp _).trans y2
    replace y3:=(bc HBQ0.out lp _).trans y3
    replace y4:=(bc HBQ0.out lp _).trans y4
    have lpq:p<wq.heap.size:=Nat.lt_of_lt_of_le lp HBQ0.out.size
    have HOQ:Hid (wq.ownsRow w.heap.size 52 5 u5 O.length (kcs O)):=lid (own_keep HO.out (fun k e=>HBQ0.out.block k (HO.out.lt k e).2))
    have HBQ:=lid (HB.out.trans (HBQ0.out.mono HB.out.size))
    have HL:Hid (w.heap.size≤wq.heap.size):=lid (Nat.le_trans HB.out.size HBQ0.out.size)
    clear HO HB HBQ0
    obtain ⟨W1,hW1⟩:∃ y,wq.alloc (.cells (kca x) 52)=y:=⟨_,rfl⟩
    have hb1:Below wq.heap.size wq W1:=by rw [← hW1];exact ba _ _
    have hlay:W1.heap[wq.heap.size]?=some (.cells (kca x) 52 (0,0)):=by rw [← hW1];exact h_new rfl _
    obtain ⟨m5,hm⟩:∃ m5,(O).length=m5:=⟨_,rfl⟩
    have HM:=lid hm
    have HOW:Hid (W1.ownsRow w.heap.size 52 5 u5 m5 (kcs (O))):=lid (by rw [← hm];exact own_keep HOQ.out (fun k e=>hb1.block k (HOQ.out.lt k e).2))
    have hmn:m5≤100000:=by rw [← hm];exact Nat.le_trans (Nat.le_trans HOL.out hi) hn
    have HLAY:Hid (Sl W1 5 (some ⟨wq.heap.size,0,none⟩) 1 (kce x)):=lid (sl_row hlay rfl)
    have HZ:w.heap.size≤W1.heap.size:=Nat.le_trans HL.out hb1.size
    have HBG1:=lid (HBQ.out.trans (hb1.mono HL.out))
    have HW1:=lid hW1
    clear hW1 hb1 hlay hm
    go_wp2_with (at_builtin;rw [HW1.out];go_must (refine wpList_append_sl rfl _ _ 26 rfl w.heap.size 52 (.agg #[.int .i64 0,.string ⟨#[]⟩,.string ⟨#[]⟩,.slice none 0 0,.slice none 0 0]) 5 88 info_edit Tryz.underlying26 rfl (by decide) _ m5 (kcs (O)) HOW.out rfl (some ⟨wq.heap.size,0,none⟩) 1 1 (kce x) rfl HLAY.out (by intro h;cases h) (by simp [Value.oneCell']) (by simp only [maxLen];omega) (by omega) HZ ?_))
    intro v5 w5 hown5 hb5
    have HO5:Hid (w5.ownsRow w.heap.size 52 5 v5 ((O)++[x]).length (kcs ((O)++[x]))):=lid (by
     rw [List.length_append,HM.out,kcs_append]
     have e:kcs [x]=kce x:=by simp [kcs]
     rw [e]
     exact hown5)
    have HB5:=lid (HBG1.out.trans hb5)
    clear hown5 hb5 HOQ HBQ HBG1 HOW HLAY HM
    go_wp2_with fail
    go_roundw
    case rel=>exact ⟨i+1,k,O++[x],by omega,hk,by go_num,rfl,HO5,HB5,lid (by rw [List.length_append];have:=HOL.out;simp only [List.length_cons,List.length_nil];omega),lid (by rw [HR2.out];simp)⟩
    case measure=>simp only [intOf];omega
  ·obtain rfl:i=n:=by omega
   have HFIN:Hid (wr.ownsRow w.heap.size 52 5 u5 (restL eqK K P).length (kcs (restL eqK K P))):=lid (by
    have e:K.drop i=[]:=List.drop_of_length_le (by rw [HK.out.len];exact Nat.le_refl _)
    have e2:restL eqK K P=O:=by rw [HR.out,e,rest_end,List.append_nil]
    rw [e2]
    exact HO.out)
   clear hin
   go_wp2_with fail
   go_ret
   exact ⟨_,rfl,HFIN.out,HB.out⟩
end Go.Proofs.YtgcceepadlmelaaGreatDoor
namespace Go.Proofs.YtgcceepadlmelaaGreatDoor
open Go.RowKit
def DropN (K:List Kw) (D:List Bool):Prop:=D.length=K.length∧∀ j x:Nat,j<x→D[j]?=some true→D[x]?=some false→∀ a b,K[j]?=some a→K[x]?=some b→indK a b=true
def OutD (K:List Kw) (i k:Nat) (D:List Bool):Prop :=
 D.length=K.length∧(∀ x:Nat,D[x]?=some true→i≤x)∧(∀ x:Nat,k≤x→x<K.length→∃ b,D[x]?=some b)∧∀ j x:Nat,j<x→x<k→D[j]?=some true→D[x]?=some false→∀ a b,K[j]?=some a→K[x]?=some b→indK a b=true
def InD (K:List Kw) (i k j:Nat) (D:List Bool) (d:Bool):Prop :=
 (d=true→i≤k)∧(d=false→∀ t,i≤t→t<j→D[t]?=some true→∀ a b,K[t]?=some a→K[k]?=some b→indK a b=true)
theorem OutD.start {K:List Kw} {i n:Nat} (hn:K.length=n):OutD K i 0 ((List.replicate n false).set i true):=by
 refine ⟨by simp [hn],fun x hx=>?_,fun x _ h=>⟨_,List.getElem?_eq_getElem (by simp;omega)⟩,fun j x _ h=>by omega⟩
 rw [List.getElem?_set] at hx
 split at hx
 ·omega
 ·rw [List.getElem?_replicate] at hx
  split at hx <;> cases hx
theorem OutD.inn {K:List Kw} {i k:Nat} {D:List Bool} (h:OutD K i k D) {d:Bool} (hd:D[k]?=some d):InD K i k i D d∧D.set k d=D :=
 ⟨⟨fun e=>h.2.1 k (by rw [hd,e]),fun _ t h1 h2=>by omega⟩,by
   obtain ⟨h1,e⟩:=List.getElem?_eq_some_iff.1 hd
   rw [← e]
   exact List.set_getElem_self h1⟩
theorem InD.skip {K:List Kw} {i k j:Nat} {D:List Bool} (h:InD K i k j D false) (hb:D[j]?=some false):InD K i k (j+1) D false :=
 ⟨fun e=>(by cases e),fun _ t h1 h2 h3 a b ha hk=>by
  by_cases e:t=j
  ·rw [e,hb] at h3
   cases h3
  ·exact h.2 rfl t h1 (by omega) h3 a b ha hk⟩
theorem InD.step {K:List Kw} {i k j:Nat} {D:List Bool} {a x:Kw} (h:InD K i k j D false) (hij:i≤j) (hjk:j<k) (ha:K[j]?=some a) (hx:K[k]?=some x):InD K i k (j+1) D (!indK a x) :=
 ⟨fun _=>by omega,fun hd t h1 h2 h3 a' b ha' hk=>by
  by_cases e:t=j
  ·subst e
   rw [ha] at ha'
   rw [hx] at hk
   cases ha'
   cases hk
   simpa using hd
  ·exact h.2 rfl t h1 (by omega) h3 a' b ha' hk⟩
theorem OutD.next {K:List Kw} {i k j:Nat} {D:List Bool} {d:Bool} (h:OutD K i k D) (hk:k<K.length) (hI:InD K i k j D d) (hj:d=true∨k≤j):OutD K i (k+1) (D.set k d):=by
 have hkl:k<D.length:=by rw [h.1];exact hk
 refine ⟨by rw [List.length_set];exact h.1,fun x hx=>?_,fun x h1 h2=>?_,fun t x h1 h2 h3 h4 a b ha hb=>?_⟩
 ·by_cases e:x=k
  ·subst e
   rw [List.getElem?_set_self hkl] at hx
   exact hI.1 (Option.some.inj hx)
  ·rw [List.getElem?_set_ne (Ne.symm e)] at hx
   exact h.2.1 x hx
 ·rw [List.getElem?_set_ne (by omega)]
  exact h.2.2.1 x (by omega) h2
 ·rw [List.getElem?_set_ne (by omega)] at h3
  by_cases e:x=k
  ·subst e
   rw [List.getElem?_set_self hkl] at h4
   have hd:=Option.some.inj h4
   refine hI.2 hd t (h.2.1 t h3) ?_ h3 a b ha hb
   rcases hj with hj | hj
   ·rw [hd] at hj;cases hj
   ·omega
  ·rw [List.getElem?_set_ne (Ne.symm e)] at h4
   exact h.2.2.2 t x h1 (by omega) h3 h4 a b ha hb
theorem OutD.done {K:List Kw} {i n:Nat} {D:List Bool} (h:OutD K i n D) (hn:K.length=n):DropN K D:=by
 refine ⟨h.1,fun j x h1 h3 h4 a b ha hb=>?_⟩
 have hx:=(List.getElem?_eq_some_iff.1 hb).1
 exact h.2.2.2 j x h1 (by omega) h3 h4 a b ha hb
def notL (D:List Bool):List Bool:=D.map (fun b=>!b)
theorem pk_drop {K:List Kw} {D:List Bool} {k:Nat} {x:Kw} {d:Bool} (hx:K[k]?=some x) (hk:k<D.length):pk (K.take (k+1)) ((notL (D.set k d)).take (k+1))=pk (K.take k) ((notL D).take k)++optL (!d) x:=by
 rw [pk_succ hx (b:=!d) (by unfold notL;rw [List.getElem?_map,List.getElem?_set_self hk];rfl)]
 have e:(notL (D.set k d)).take k=(notL D).take k:=by
  unfold notL
  refine List.ext_getElem? fun m=>?_
  rw [List.getElem?_take,List.getElem?_take]
  split
  ·rw [List.getElem?_map,List.getElem?_map,List.getElem?_set_ne (by omega)]
  ·rfl
 rw [e]
theorem bls_put (M:List Bool) (i:Nat) (b:Bool):(bls M).setIfInBounds i (.bool b)=bls (M.set i b):=by simp [bls,List.map_set]
structure DS (w:World) (GB mb eb:Nat) (u:Value) (P:List Kw) (x:Kw) (W:World) (D:List Bool):Prop where
 below:Below w.heap.size w W
 row:W.heap[mb]?=some (.cells (bls D) 4 (0,0))
 own:W.ownsRow GB 52 5 u P.length (kcs P)
 box:W.heap[eb]?=some (.cells (kca x) 52 (0,0))
 mB:w.heap.size≤mb
 mG:mb<GB
 eM:mb<eb
 gW:GB≤W.heap.size
theorem DS.keep {w W W':World} {GB mb eb:Nat} {u:Value} {P:List Kw} {x:Kw} {D:List Bool} (h:DS w GB mb eb u P x W D) (hb:Below W.heap.size W W'):DS w GB mb eb u P x W' D :=
 ⟨h.below.trans (hb.mono h.below.size),(hb.block _ (row_lt h.row)).trans h.row,own_keep h.own (fun k e=>hb.block k (h.own.lt k e).2),(hb.block _ (row_lt h.box)).trans h.box,h.mB,h.mG,h.eM,Nat.le_trans h.gW hb.size⟩
theorem DS.put {w W:World} {GB mb eb:Nat} {u:Value} {P:List Kw} {x:Kw} {D:List Bool} (h:DS w GB mb eb u P x W D) (k:Nat) (b:Bool):DS w GB mb eb u P x (W.setCell ⟨mb,k,none⟩ (.bool b)) (D.set k b):=by
 have hk:∀ t,t≠mb→(W.setCell ⟨mb,k,none⟩ (.bool b)).heap[t]?=W.heap[t]?:=fun t ht=>Below.heap_setCell _ _ _ _ ht
 have hg:=h.mG
 have he:=h.eM
 refine ⟨h.below.setCell h.mB _,?_,own_keep h.own (fun t e=>hk t (by have:=(h.own.lt t e).1;omega)),(hk _ (by omega)).trans h.box,h.mB,hg,he,?_⟩
 ·rw [row_set h.row k _,bls_put]
 ·rw [World.size_setCell]
  exact h.gW
end Go.Proofs.YtgcceepadlmelaaGreatDoor
