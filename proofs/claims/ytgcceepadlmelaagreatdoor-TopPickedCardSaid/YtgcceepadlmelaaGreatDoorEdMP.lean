import Derived.Test.YtgcceepadlmelaaGreatDoorQAD
import Derived.Test.YtgcceepadlmelaaGreatDoorEdInsS
namespace Go.Proofs.YtgcceepadlmelaaGreatDoor
open Go.RowKit
section
variable {w:World} {base g n cap size:Nat} {e:TypeId} {xs:List Value}
theorem own_cells (h:w.ownsRow base e size (.slice (some ⟨g,0,none⟩) n cap) n xs) (p:Nat) (vs:List Value) (hp:p+vs.length≤n*size) :
  w.there g p vs.length∧base≤g∧(w.setCells g p vs).ownsRow base e size (.slice (some ⟨g,0,none⟩) n cap) n (xs.take p++vs++xs.drop (p+vs.length)):=by
 have hx:=h.1
 obtain ⟨cur,h1,h2,h3,h4,h5,h6⟩:=own_formK h
 have hn5:n*size≤cap*size:=Nat.mul_le_mul_right _ h3
 refine ⟨there_row h2 (by omega),h1,⟨by simp;omega,.inr ⟨g,cap,layAt cur p vs,rfl,h1,row_setCells _ _ _ _ h2,h3,h4,by rw [layAt_size,h5],?_⟩⟩⟩
 refine List.ext_getElem? fun m=>?_
 have hc:∀ j,j<n*size→cur[j]?=xs[j]?:=fun j hj=>by
  rw [← h6,List.getElem?_take,if_pos hj,Array.getElem?_toList]
 have htl:(xs.take p).length=p:=by rw [List.length_take];omega
 rw [List.getElem?_take]
 by_cases hm:m<n*size
 ·rw [if_pos hm,Array.getElem?_toList,layAt_get? _ _ _ _ (by omega)]
  by_cases e1:m<p
  ·rw [if_neg (by omega),hc _ hm,List.append_assoc,List.getElem?_append_left (by omega),List.getElem?_take,if_pos e1]
  ·by_cases e2:m<p+vs.length
   ·rw [if_pos (by omega),List.append_assoc,List.getElem?_append_right (by omega),htl,List.getElem?_append_left (by omega)]
   ·rw [if_neg (by omega),hc _ hm,List.append_assoc,List.getElem?_append_right (by omega),htl,List.getElem?_append_right (by omega),List.getElem?_drop]
    congr 1
    omega
 ·rw [if_neg hm,List.getElem?_eq_none (by simp;omega)]
end
section
variable {α:Type} {sz:Nat} {enc:α→List Value}
theorem flat_set (he:∀ x,(enc x).length=sz) {l:List α} {j:Nat} (hj:j<l.length) {x:α} {i:Nat} {vs:List Value} (hx:enc x=(enc l[j]).take i++vs++(enc l[j]).drop (i+vs.length)) (hi:i+vs.length≤sz) :
  (l.flatMap enc).take (j*sz+i)++vs++(l.flatMap enc).drop (j*sz+i+vs.length)=(l.set j x).flatMap enc:=by
 have h1:l.flatMap enc=(l.take j).flatMap enc++(enc l[j]++(l.drop (j+1)).flatMap enc):=by
  conv=>lhs;rw [list_at hj]
  rw [List.flatMap_append,List.flatMap_cons]
 have hl:((l.take j).flatMap enc).length=j*sz:=by rw [flat_length he,List.length_take,Nat.min_eq_left (by omega)]
 have hy:=he l[j]
 rw [set_at hj,List.flatMap_append,List.flatMap_cons,h1,hx,List.take_append,List.drop_append,hl]
 rw [List.take_of_length_le (l:=(l.take j).flatMap enc) (by omega),List.drop_of_length_le (l:=(l.take j).flatMap enc) (by omega)]
 rw [show j*sz+i-j*sz=i by omega,show j*sz+i+vs.length-j*sz=i+vs.length by omega,List.take_append_of_le_length (by omega),List.drop_append_of_le_length (by omega)]
 simp
end
structure Stp (w w':World) (v v':Value) (L L':List Mw):Prop where
 fr:Fr w w' v L
 bl:∀ k,(k∈obs v'∨k∈L'.flatMap blkM)→(k∈obs v∨k∈L.flatMap blkM)∨w.heap.size≤k
 le:w.heap.size≤w'.heap.size
theorem Stp.trans {w w1 w2:World} {v v1 v2:Value} {L L1 L2:List Mw} (h:Stp w w1 v v1 L L1) (h':Stp w1 w2 v1 v2 L1 L2):Stp w w2 v v2 L L2:=by
 refine ⟨fun k hk h1 h2=>?_,fun k hk=>?_,Nat.le_trans h.le h'.le⟩
 ·rw [h'.fr k (Nat.lt_of_lt_of_le hk h.le) (fun ho=>?_) (fun ho=>?_),h.fr k hk h1 h2]
  ·rcases h.bl k (.inl ho) with h3 | h3
   ·exact h3.elim h1 h2
   ·omega
  ·rcases h.bl k (.inr ho) with h3 | h3
   ·exact h3.elim h1 h2
   ·omega
 ·rcases h'.bl k hk with h3 | h3
  ·exact h.bl k h3
  ·exact .inr (Nat.le_trans h.le h3)
theorem Stp.below {w w1:World} {v:Value} {L:List Mw} (hb:Below w.heap.size w w1):Stp w w1 v v L L:=⟨fun k hk _ _=>hb.block k hk,fun _ h=>.inl h,hb.size⟩
theorem nodup_blkM {w0 w:World} {v:Value} {L:List Mw} (h:MO w0 w v L) {j:Nat} (hj:j<L.length):(obs v++blkM L[j]).Nodup:=by
 have h1:=h.nd
 rw [List.nodup_append] at h1 ⊢
 have h3:∀ k∈blkM L[j],k∈L.flatMap blkM:=fun k hk=>List.mem_flatMap.2 ⟨_,List.getElem_mem hj,hk⟩
 refine ⟨h1.1,?_,fun a ha b hb=>h1.2.2 a ha b (h3 b hb)⟩
 have h4:=h1.2.1
 rw [list_at hj,List.flatMap_append,List.flatMap_cons,List.nodup_append,List.nodup_append] at h4
 exact h4.2.1.1
theorem MO.stp {w0 w w':World} {v:Value} {L:List Mw} (_h:MO w0 w v L) {j:Nat} (hj:j<L.length) {m':Mw}
  (hk:∀ k,k<w.heap.size→k∉obs v→k∉blkM L[j]→w'.heap[k]?=w.heap[k]?) (hm:∀ k∈blkM m',k∈blkM L[j]∨w.heap.size≤k) (hle:w.heap.size≤w'.heap.size):Stp w w' v v L (L.set j m'):=by
 refine ⟨fun k h1 h2 h3=>hk k h1 h2 (fun h4=>h3 (List.mem_flatMap.2 ⟨_,List.getElem_mem hj,h4⟩)),fun k hk=>?_,hle⟩
 rcases hk with hk | hk
 ·exact .inl (.inl hk)
 ·obtain ⟨m,h1,h2⟩:=List.mem_flatMap.1 hk
  rcases List.mem_or_eq_of_mem_set h1 with h1 | rfl
  ·exact .inl (.inr (List.mem_flatMap.2 ⟨m,h1,h2⟩))
  ·rcases hm k h2 with h3 | h3
   ·exact .inl (.inr (List.mem_flatMap.2 ⟨_,List.getElem_mem hj,h3⟩))
   ·exact .inr h3
theorem MO.cells {w0 w:World} {L:List Mw} {g cap:Nat} (h:MO w0 w (.slice (some ⟨g,0,none⟩) L.length cap) L) {j:Nat} (hj:j<L.length) :
  g<w.heap.size∧w0.heap.size≤g∧w.cell? ⟨g,j*3,none⟩=some (.string L[j].label)∧w.cell? ⟨g,j*3+1,none⟩=some (uV L[j])∧w.cell? ⟨g,j*3+2,none⟩=some (dV L[j])∧(∀ i,w.frozen? ⟨g,i,none⟩=false):=by
 obtain ⟨c0,c1,c2⟩:=mcs_at hj
 obtain ⟨cur,h1,h2,_⟩:=own_formK h.own
 exact ⟨row_lt h2,h1,own_cellK h.own _ c0,own_cellK h.own _ c1,own_cellK h.own _ c2,fun i=>row_fz h2 i⟩
theorem MO.uses {w0 w w2:World} {L:List Mw} {g cap:Nat} (h:MO w0 w (.slice (some ⟨g,0,none⟩) L.length cap) L) {j:Nat} (hj:j<L.length) {ao:Option Addr} {us:List ByteArray} {c:Nat}
  (hb:Below w0.heap.size w0 w2) (hle:w.heap.size≤w2.heap.size) (hel:Else w w2 (uV L[j])) (hown:w2.ownsRow w0.heap.size 9 1 (.slice ao us.length c) us.length (svals us))
  (hat:(Value.slice ao us.length c).ownBlock=(uV L[j]).ownBlock∨∃ k,(Value.slice ao us.length c).ownBlock=some k∧w.heap.size≤k) (hsz:∀ u∈us,u.size≤maxLen) :
  MO w0 (w2.setCell ⟨g,j*3+1,none⟩ (.slice ao us.length c)) (.slice (some ⟨g,0,none⟩) L.length cap) (L.set j ⟨L[j].label,ao,us,c,L[j].da,L[j].decls,L[j].dcap⟩) ∧
   Stp w (w2.setCell ⟨g,j*3+1,none⟩ (.slice ao us.length c)) (.slice (some ⟨g,0,none⟩) L.length cap) (.slice (some ⟨g,0,none⟩) L.length cap) L (L.set j ⟨L[j].label,ao,us,c,L[j].da,L[j].decls,L[j].dcap⟩) ∧
   (w2.cell? ⟨g,j*3+1,none⟩=some (uV L[j])∧w2.frozen? ⟨g,j*3+1,none⟩=false∧g<w2.heap.size):=by
 have hnd:=nodup_blkM h hj
 have hE:=h.el _ (List.getElem_mem hj)
 have hgo:g∈obs (.slice (some ⟨g,0,none⟩) L.length cap):=mem_obs.2 rfl
 have hgl:=(h.lt (.inl hgo)).2
 rw [List.nodup_append] at hnd
 have hng:g∉blkM L[j]:=fun hm=>hnd.2.2 g hgo g hm rfl
 have hg2:w2.heap[g]?=w.heap[g]?:=hel g hgl (fun e=>hng (List.mem_append.2 (.inl (mem_obs.2 e.symm))))
 have hrow2:=own_keep h.own (w':=w2) (fun k hk=>by cases hk;exact hg2)
 have h2:=hnd.2.1
 rw [blkM,List.nodup_append] at h2
 have hbk:∀ k,k<w.heap.size→k∉obs (.slice (some ⟨g,0,none⟩) L.length cap)→k∉obs (uV L[j])→(w2.setCell ⟨g,j*3+1,none⟩ (.slice ao us.length c)).heap[k]?=w.heap[k]?:=fun k h1 h3 h4=>by
  rw [Below.heap_setCell _ _ _ _ (show k≠g from fun e=>h3 (by rw [e];exact hgo))]
  exact hel k h1 (fun e=>h4 (mem_obs.2 e.symm))
 have hgn:∀ k∈obs (Value.slice ao us.length c),k∈obs (uV L[j])∨w.heap.size≤k:=fun k hk=>by
  rw [mem_obs] at hk
  rcases hat with h1 | ⟨k',h1,h3⟩
  ·exact .inl (mem_obs.2 (by rw [← h1,hk]))
  ·rw [h1] at hk
   cases hk
   exact .inr h3
 have hne:∀ k,(Value.slice ao us.length c).ownBlock=some k→k≠g:=fun k hk e=>by
  rcases hgn k (mem_obs.2 hk) with h1 | h1
  ·exact hng (List.mem_append.2 (.inl (by rw [← e];exact h1)))
  ·omega
 have hm:∀ k∈blkM ⟨L[j].label,ao,us,c,L[j].da,L[j].decls,L[j].dcap⟩,k∈blkM L[j]∨w.heap.size≤k:=fun k hk=>by
  rcases List.mem_append.1 hk with hk | hk
  ·exact (hgn k hk).imp (fun h=>List.mem_append.2 (.inl h)) id
  ·exact .inl (List.mem_append.2 (.inr hk))
 have hk':∀ k,k<w.heap.size→k∉obs (.slice (some ⟨g,0,none⟩) L.length cap)→k∉blkM L[j]→(w2.setCell ⟨g,j*3+1,none⟩ (.slice ao us.length c)).heap[k]?=w.heap[k]?:=fun k h1 h3 h4=>hbk k h1 h3 (fun h=>h4 (List.mem_append.2 (.inl h)))
 have hsp:j*3+1+([.slice ao us.length c]:List Value).length≤L.length*3:=by simp;omega
 obtain ⟨t1,t2,t3⟩:=own_cells hrow2 (j*3+1) [.slice ao us.length c] hsp
 have hfs:=flat_set (enc:=mce) (sz:=3) mce_length hj (x:=⟨L[j].label,ao,us,c,L[j].da,L[j].decls,L[j].dcap⟩) (i:=1) (vs:=[.slice ao us.length c]) rfl (by simp)
 have hfs':(mcs L).take (j*3+1)++[.slice ao us.length c]++(mcs L).drop (j*3+1+([.slice ao us.length c]:List Value).length)=mcs (L.set j ⟨L[j].label,ao,us,c,L[j].da,L[j].decls,L[j].dcap⟩):=hfs
 rw [hfs'] at t3
 have hb3:Below w0.heap.size w0 (w2.setCell ⟨g,j*3+1,none⟩ (.slice ao us.length c)):=hb.setCell (p:=⟨g,j*3+1,none⟩) (h.lt (.inl hgo)).1 _
 have hs3:(w2.setCell ⟨g,j*3+1,none⟩ (.slice ao us.length c)).heap.size=w2.heap.size:=World.size_setCell _ _ _
 refine ⟨h.set hj hb3 t3 ⟨hE.sz,own_keep hown (fun k hk=>Below.heap_setCell _ _ _ _ (hne k hk)),hsz,own_keep hE.ds (fun k hk=>?_),hE.del⟩ hk' ?_ hm,h.stp hj hk' hm (by omega),?_⟩
 ·have hkd:k∈obs (dV L[j]):=mem_obs.2 hk
  refine hbk k (own_blk hE.ds hk).2 (fun h5=>hnd.2.2 k h5 k (List.mem_append.2 (.inr hkd)) rfl) (fun h5=>h2.2.2 k h5 k hkd rfl)
 ·show (obs _++obs (dV L[j])).Nodup
  rw [List.nodup_append]
  refine ⟨obs_nodup _,obs_nodup _,fun a ha b hb' e=>?_⟩
  rcases hgn a ha with h5 | h5
  ·exact h2.2.2 a h5 b hb' e
  ·have:=(own_blk hE.ds (mem_obs.1 hb')).2
   omega
 ·obtain ⟨c0,c1,c2⟩:=mcs_at hj
  obtain ⟨cur,p1,p2,_⟩:=own_formK hrow2
  exact ⟨own_cellK hrow2 _ c1,row_fz p2 _,row_lt p2⟩
theorem MO.decls {w0 w w2:World} {L:List Mw} {g cap:Nat} (h:MO w0 w (.slice (some ⟨g,0,none⟩) L.length cap) L) {j:Nat} (hj:j<L.length) {ao:Option Addr} {us:List Dw} {c:Nat}
  (hb:Below w0.heap.size w0 w2) (hle:w.heap.size≤w2.heap.size) (hel:Else w w2 (dV L[j])) (hown:w2.ownsRow w0.heap.size 65 11 (.slice ao us.length c) us.length (dcs us))
  (hat:(Value.slice ao us.length c).ownBlock=(dV L[j]).ownBlock∨∃ k,(Value.slice ao us.length c).ownBlock=some k∧w.heap.size≤k) (hsz:∀ u∈us,DwA w0 u) :
  MO w0 (w2.setCell ⟨g,j*3+2,none⟩ (.slice ao us.length c)) (.slice (some ⟨g,0,none⟩) L.length cap) (L.set j ⟨L[j].label,L[j].ua,L[j].uses,L[j].ucap,ao,us,c⟩) ∧
   Stp w (w2.setCell ⟨g,j*3+2,none⟩ (.slice ao us.length c)) (.slice (some ⟨g,0,none⟩) L.length cap) (.slice (some ⟨g,0,none⟩) L.length cap) L (L.set j ⟨L[j].label,L[j].ua,L[j].uses,L[j].ucap,ao,us,c⟩) ∧
   (w2.cell? ⟨g,j*3+2,none⟩=some (dV L[j])∧w2.frozen? ⟨g,j*3+2,none⟩=false∧g<w2.heap.size):=by
 have hnd:=nodup_blkM h hj
 have hE:=h.el _ (List.getElem_mem hj)
 have hgo:g∈obs (.slice (some ⟨g,0,none⟩) L.length cap):=mem_obs.2 rfl
 have hgl:=(h.lt (.inl hgo)).2
 rw [List.nodup_append] at hnd
 have hng:g∉blkM L[j]:=fun hm=>hnd.2.2 g hgo g hm rfl
 have hg2:w2.heap[g]?=w.heap[g]?:=hel g hgl (fun e=>hng (List.mem_append.2 (.inr (mem_obs.2 e.symm))))
 have hrow2:=own_keep h.own (w':=w2) (fun k hk=>by cases hk;exact hg2)
 have h2:=hnd.2.1
 rw [blkM,List.nodup_append] at h2
 have hbk:∀ k,k<w.heap.size→k∉obs (.slice (some ⟨g,0,none⟩) L.length cap)→k∉obs (dV L[j])→(w2.setCell ⟨g,j*3+2,none⟩ (.slice ao us.length c)).heap[k]?=w.heap[k]?:=fun k h1 h3 h4=>by
  rw [Below.heap_setCell _ _ _ _ (show k≠g from fun e=>h3 (by rw [e];exact hgo))]
  exact hel k h1 (fun e=>h4 (mem_obs.2 e.symm))
 have hgn:∀ k∈obs (Value.slice ao us.length c),k∈obs (dV L[j])∨w.heap.size≤k:=fun k hk=>by
  rw [mem_obs] at hk
  rcases hat with h1 | ⟨k',h1,h3⟩
  ·exact .inl (mem_obs.2 (by rw [← h1,hk]))
  ·rw [h1] at hk
   cases hk
   exact .inr h3
 have hne:∀ k,(Value.slice ao us.length c).ownBlock=some k→k≠g:=fun k hk e=>by
  rcases hgn k (mem_obs.2 hk) with h1 | h1
  ·exact hng (List.mem_append.2 (.inr (by rw [← e];exact h1)))
  ·omega
 have hm:∀ k∈blkM ⟨L[j].label,L[j].ua,L[j].uses,L[j].ucap,ao,us,c⟩,k∈blkM L[j]∨w.heap.size≤k:=fun k hk=>by
  rcases List.mem_append.1 hk with hk | hk
  ·exact .inl (List.mem_append.2 (.inl hk))
  ·exact (hgn k hk).imp (fun h=>List.mem_append.2 (.inr h)) id
 have hk':∀ k,k<w.heap.size→k∉obs (.slice (some ⟨g,0,none⟩) L.length cap)→k∉blkM L[j]→(w2.setCell ⟨g,j*3+2,none⟩ (.slice ao us.length c)).heap[k]?=w.heap[k]?:=fun k h1 h3 h4=>hbk k h1 h3 (fun h=>h4 (List.mem_append.2 (.inr h)))
 have hsp:j*3+2+([.slice ao us.length c]:List Value).length≤L.length*3:=by simp;omega
 obtain ⟨t1,t2,t3⟩:=own_cells hrow2 (j*3+2) [.slice ao us.length c] hsp
 have hfs:=flat_set (enc:=mce) (sz:=3) mce_length hj (x:=⟨L[j].label,L[j].ua,L[j].uses,L[j].ucap,ao,us,c⟩) (i:=2) (vs:=[.slice ao us.length c]) rfl (by simp)
 have hfs':(mcs L).take (j*3+2)++[.slice ao us.length c]++(mcs L).drop (j*3+2+([.slice ao us.length c]:List Value).length)=mcs (L.set j ⟨L[j].label,L[j].ua,L[j].uses,L[j].ucap,ao,us,c⟩):=hfs
 rw [hfs'] at t3
 have hb3:Below w0.heap.size w0 (w2.setCell ⟨g,j*3+2,none⟩ (.slice ao us.length c)):=hb.setCell (p:=⟨g,j*3+2,none⟩) (h.lt (.inl hgo)).1 _
 have hs3:(w2.setCell ⟨g,j*3+2,none⟩ (.slice ao us.length c)).heap.size=w2.heap.size:=World.size_setCell _ _ _
 refine ⟨h.set hj hb3 t3 ⟨hE.sz,own_keep hE.us (fun k hk=>?_),hE.usz,own_keep hown (fun k hk=>Below.heap_setCell _ _ _ _ (hne k hk)),hsz⟩ hk' ?_ hm,h.stp hj hk' hm (by omega),?_⟩
 ·have hkd:k∈obs (uV L[j]):=mem_obs.2 hk
  refine hbk k (own_blk hE.us hk).2 (fun h5=>hnd.2.2 k h5 k (List.mem_append.2 (.inl hkd)) rfl) (fun h5=>h2.2.2 k hkd k h5 rfl)
 ·show (obs (uV L[j])++obs _).Nodup
  rw [List.nodup_append]
  refine ⟨obs_nodup _,obs_nodup _,fun a ha b hb' e=>?_⟩
  rcases hgn b hb' with h5 | h5
  ·exact h2.2.2 a ha b h5 e
  ·have:=(own_blk hE.us (mem_obs.1 ha)).2
   omega
 ·obtain ⟨c0,c1,c2⟩:=mcs_at hj
  obtain ⟨cur,p1,p2,_⟩:=own_formK hrow2
  exact ⟨own_cellK hrow2 _ c2,row_fz p2 _,row_lt p2⟩
theorem MO.part {w0 w w2:World} {L:List Mw} {g cap dg dc:Nat} (h:MO w0 w (.slice (some ⟨g,0,none⟩) L.length cap) L) {j:Nat} (hj:j<L.length) {D:List Dw} (hd:dV L[j]=.slice (some ⟨dg,0,none⟩) L[j].decls.length dc) (hl:D.length=L[j].decls.length)
  (hb:Below w0.heap.size w0 w2) (hle:w.heap.size≤w2.heap.size) (hel:∀ k,k<w.heap.size→k≠dg→w2.heap[k]?=w.heap[k]?) (hown:w2.ownsRow w0.heap.size 65 11 (.slice (some ⟨dg,0,none⟩) L[j].decls.length dc) L[j].decls.length (dcs D)) (hsz:∀ u∈D,DwA w0 u) :
  MO w0 w2 (.slice (some ⟨g,0,none⟩) L.length cap) (L.set j ⟨L[j].label,L[j].ua,L[j].uses,L[j].ucap,L[j].da,D,L[j].dcap⟩) ∧
   Stp w w2 (.slice (some ⟨g,0,none⟩) L.length cap) (.slice (some ⟨g,0,none⟩) L.length cap) L (L.set j ⟨L[j].label,L[j].ua,L[j].uses,L[j].ucap,L[j].da,D,L[j].dcap⟩):=by
 have hnd:=nodup_blkM h hj
 have hE:=h.el _ (List.getElem_mem hj)
 have hgo:g∈obs (.slice (some ⟨g,0,none⟩) L.length cap):=mem_obs.2 rfl
 have hgl:=(h.lt (.inl hgo)).2
 rw [List.nodup_append] at hnd
 have hdo:dg∈obs (dV L[j]):=mem_obs.2 (by rw [hd];rfl)
 have hdb:dg∈blkM L[j]:=List.mem_append.2 (.inr hdo)
 have hgd:g≠dg:=fun e=>hnd.2.2 g hgo dg hdb e
 have h2:=hnd.2.1
 rw [blkM,List.nodup_append] at h2
 have hdV:dV ⟨L[j].label,L[j].ua,L[j].uses,L[j].ucap,L[j].da,D,L[j].dcap⟩=dV L[j]:=by show Value.slice _ D.length _=_;rw [hl]
 have hmc:mcs (L.set j ⟨L[j].label,L[j].ua,L[j].uses,L[j].ucap,L[j].da,D,L[j].dcap⟩)=mcs L:=by
  have h5:mce ⟨L[j].label,L[j].ua,L[j].uses,L[j].ucap,L[j].da,D,L[j].dcap⟩=mce L[j]:=by
   show [Value.string _,uV L[j],Value.slice _ D.length _]=_
   rw [hl]
  rw [set_at hj,mcs,List.flatMap_append,List.flatMap_cons,h5]
  conv=>rhs;rw [mcs,list_at hj]
  rw [List.flatMap_append,List.flatMap_cons]
 have hbl:blkM ⟨L[j].label,L[j].ua,L[j].uses,L[j].ucap,L[j].da,D,L[j].dcap⟩=blkM L[j]:=by
  show obs (uV L[j])++obs (dV _)=_
  rw [hdV]
  rfl
 have hk':∀ k,k<w.heap.size→k∉obs (.slice (some ⟨g,0,none⟩) L.length cap)→k∉blkM L[j]→w2.heap[k]?=w.heap[k]?:=fun k h1 _ h4=>hel k h1 (fun e=>h4 (by rw [e];exact hdb))
 refine ⟨h.set hj hb (by rw [hmc];exact own_keep h.own (fun k hk=>by cases hk;exact hel g hgl hgd)) ⟨hE.sz,own_keep hE.us (fun k hk=>hel k (own_blk hE.us hk).2 (fun e=>h2.2.2 k (mem_obs.2 hk) dg hdo e)),hE.usz,?_,hsz⟩ hk' (by rw [hbl];exact hnd.2.1) (fun k hk=>.inl (by rw [hbl] at hk;exact hk)),h.stp hj hk' (fun k hk=>.inl (by rw [hbl] at hk;exact hk)) hle⟩
 show w2.ownsRow _ _ _ (dV _) D.length _
 rw [hdV,hl,hd]
 exact hown
end Go.Proofs.YtgcceepadlmelaaGreatDoor
