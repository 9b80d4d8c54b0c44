import Derived.Test.YtgcceepadlmelaaGreatDoorQAH
import Derived.Test.YtgcceepadlmelaaGreatDoorQAE
namespace Go.Proofs.YtgcceepadlmelaaGreatDoor
set_option maxRecDepth 100000
set_option maxHeartbeats 16000000
open Go.RowKit
structure PartK (k:Int) (o n:Dw):Prop where
 old:o.x=(menW k o).x
 new:n.x=(menW k n).x
 id:o.id=n.id
 ne:o.x≠n.x
def FitK (k:Kw):Prop :=
 ((k.kind=1∨k.kind=2)∧k.text=⟨#[]⟩∧k.old=[]∧k.new=[]) ∨
 ((k.kind=3∨k.kind=4)∧k.old=[]∧k.new=[]) ∨
 (k.kind=5∧k.text=⟨#[]⟩∧k.old=[]∧∃ d,k.new=[d]) ∨
 (k.kind=6∧k.text=⟨#[]⟩∧(∃ d,k.old=[d])∧k.new=[]) ∨
 ((k.kind=7∨k.kind=8∨k.kind=9)∧k.text=⟨#[]⟩∧∃ o n,k.old=[o]∧k.new=[n]∧PartK k.kind o n∧cntE o.body≤1000∧cntE n.body≤1000)
theorem fits_1 (p:ByteArray) (oa na:Option Addr) (oc nc:Nat) (w:World):Calls Tryz.prog 55 #[.agg #[.int .i64 1,.string p,.string ⟨#[]⟩,.slice oa 0 oc,.slice na 0 nc]] w fun r w'=>r=.returned (.bool true)∧Below w.heap.size w w':=by
 have HB:=lid (ba w (.cells #[.int .i64 1,.string p,.string ⟨#[]⟩,.slice oa 0 oc,.slice na 0 nc] 52))
 go_enter Tryz.func55,Tryz.ntmps55
 go_wp2_with fail
 go_ret
 exact ⟨rfl,HB.out⟩
theorem fits_2 (p:ByteArray) (oa na:Option Addr) (oc nc:Nat) (w:World):Calls Tryz.prog 55 #[.agg #[.int .i64 2,.string p,.string ⟨#[]⟩,.slice oa 0 oc,.slice na 0 nc]] w fun r w'=>r=.returned (.bool true)∧Below w.heap.size w w':=by
 have HB:=lid (ba w (.cells #[.int .i64 2,.string p,.string ⟨#[]⟩,.slice oa 0 oc,.slice na 0 nc] 52))
 go_enter Tryz.func55,Tryz.ntmps55
 go_wp2_with fail
 go_ret
 exact ⟨rfl,HB.out⟩
theorem fits_3 (p t:ByteArray) (oa na:Option Addr) (oc nc:Nat) (w:World):Calls Tryz.prog 55 #[.agg #[.int .i64 3,.string p,.string t,.slice oa 0 oc,.slice na 0 nc]] w fun r w'=>r=.returned (.bool true)∧Below w.heap.size w w':=by
 have HB:=lid (ba w (.cells #[.int .i64 3,.string p,.string t,.slice oa 0 oc,.slice na 0 nc] 52))
 cases ht:(t.toList == []) with
 | true =>
  go_enter Tryz.func55,Tryz.ntmps55
  go_wp2_with fail
  go_ret
  exact ⟨rfl,HB.out⟩
 | false =>
  go_enter Tryz.func55,Tryz.ntmps55
  go_wp2_with fail
  go_ret
  exact ⟨rfl,HB.out⟩
theorem fits_4 (p t:ByteArray) (oa na:Option Addr) (oc nc:Nat) (w:World):Calls Tryz.prog 55 #[.agg #[.int .i64 4,.string p,.string t,.slice oa 0 oc,.slice na 0 nc]] w fun r w'=>r=.returned (.bool true)∧Below w.heap.size w w':=by
 have HB:=lid (ba w (.cells #[.int .i64 4,.string p,.string t,.slice oa 0 oc,.slice na 0 nc] 52))
 cases ht:(t.toList == []) with
 | true =>
  go_enter Tryz.func55,Tryz.ntmps55
  go_wp2_with fail
  go_ret
  exact ⟨rfl,HB.out⟩
 | false =>
  go_enter Tryz.func55,Tryz.ntmps55
  go_wp2_with fail
  go_ret
  exact ⟨rfl,HB.out⟩
theorem fits_5 (p:ByteArray) (oa na:Option Addr) (oc nc:Nat) (w:World):Calls Tryz.prog 55 #[.agg #[.int .i64 5,.string p,.string ⟨#[]⟩,.slice oa 0 oc,.slice na 1 nc]] w fun r w'=>r=.returned (.bool true)∧Below w.heap.size w w':=by
 have HB:=lid (ba w (.cells #[.int .i64 5,.string p,.string ⟨#[]⟩,.slice oa 0 oc,.slice na 1 nc] 52))
 go_enter Tryz.func55,Tryz.ntmps55
 go_wp2_with fail
 go_ret
 exact ⟨rfl,HB.out⟩
theorem fits_6 (p:ByteArray) (oa na:Option Addr) (oc nc:Nat) (w:World):Calls Tryz.prog 55 #[.agg #[.int .i64 6,.string p,.string ⟨#[]⟩,.slice oa 1 oc,.slice na 0 nc]] w fun r w'=>r=.returned (.bool true)∧Below w.heap.size w w':=by
 have HB:=lid (ba w (.cells #[.int .i64 6,.string p,.string ⟨#[]⟩,.slice oa 1 oc,.slice na 0 nc] 52))
 go_enter Tryz.func55,Tryz.ntmps55
 go_wp2_with fail
 go_ret
 exact ⟨rfl,HB.out⟩
theorem fits_hi (k:Int) (p:ByteArray) (ob oo nb no oc nc:Nat) (a b:Dw) (w:World) (hk:7≤k) (ho:DLA w (some ⟨ob,oo,none⟩) 1 oc [a]) (hn:DLA w (some ⟨nb,no,none⟩) 1 nc [b]) (hp:PartK k a b) (hca:cntE a.body≤1000) (hcb:cntE b.body≤1000) :
  Calls Tryz.prog 55 #[.agg #[.int .i64 k,.string p,.string ⟨#[]⟩,.slice (some ⟨ob,oo,none⟩) 1 oc,.slice (some ⟨nb,no,none⟩) 1 nc]] w fun r w'=>r=.returned (.bool true)∧Below w.heap.size w w':=by
 obtain ⟨W1,hW1⟩:∃ y,w.alloc (.cells #[.int .i64 k,.string p,.string ⟨#[]⟩,.slice (some ⟨ob,oo,none⟩) 1 oc,.slice (some ⟨nb,no,none⟩) 1 nc] 52)=y:=⟨_,rfl⟩
 have hb1:Below w.heap.size w W1:=by rw [← hW1];exact ba _ _
 have hR1:W1.heap[w.heap.size]?=some (.cells #[.int .i64 k,.string p,.string ⟨#[]⟩,.slice (some ⟨ob,oo,none⟩) 1 oc,.slice (some ⟨nb,no,none⟩) 1 nc] 52 (0,0)):=by rw [← hW1];exact h_new rfl _
 obtain ⟨b9,o9,e9,hob,hoc⟩:=(ho.sl.below hb1).at_ (k:=0) (by omega)
 injection e9 with e9
 injection e9 with e91 e92
 subst e91 e92
 obtain ⟨b9,o9,e9,hnb,hnc⟩:=(hn.sl.below hb1).at_ (k:=0) (by omega)
 injection e9 with e9
 injection e9 with e91 e92
 subst e91 e92
 have HDA:=lid ((ho.el a (by simp)).below hb1)
 have HDB:=lid ((hn.el b (by simp)).below hb1)
 have hoc63:oc≤9223372036854775807:=ho.max
 have hnc63:nc≤9223372036854775807:=hn.max
 have h1oc:1≤oc:=ho.le
 have h1nc:1≤nc:=hn.le
 have a0:W1.cell? ⟨ob,oo,none⟩=some (.int .i64 a.id):=hoc 0 _ rfl
 have a1:W1.cell? ⟨ob,oo+1,none⟩=some (.int .i64 a.kind):=hoc 1 _ rfl
 have a2:W1.cell? ⟨ob,oo+2,none⟩=some (.bool a.pub):=hoc 2 _ rfl
 have a3:W1.cell? ⟨ob,oo+3,none⟩=some (.slice a.na a.names.length a.ncap):=hoc 3 _ rfl
 have a4:W1.cell? ⟨ob,oo+4,none⟩=some (.bool a.doubt):=hoc 4 _ rfl
 have a5:W1.cell? ⟨ob,oo+5,none⟩=some (.int .i64 a.body.kind):=hoc 5 _ rfl
 have a6:W1.cell? ⟨ob,oo+6,none⟩=some (.string a.body.name):=hoc 6 _ rfl
 have a7:W1.cell? ⟨ob,oo+7,none⟩=some (.string a.body.more):=hoc 7 _ rfl
 have a8:W1.cell? ⟨ob,oo+8,none⟩=some (.int .i64 a.body.int):=hoc 8 _ rfl
 have a9:W1.cell? ⟨ob,oo+9,none⟩=some (.int .i64 a.body.den):=hoc 9 _ rfl
 have a10:W1.cell? ⟨ob,oo+10,none⟩=some (.slice a.body.ao a.body.sub.length a.body.cap):=hoc 10 _ rfl
 have b0:W1.cell? ⟨nb,no,none⟩=some (.int .i64 b.id):=hnc 0 _ rfl
 have b1:W1.cell? ⟨nb,no+1,none⟩=some (.int .i64 b.kind):=hnc 1 _ rfl
 have b2:W1.cell? ⟨nb,no+2,none⟩=some (.bool b.pub):=hnc 2 _ rfl
 have b3:W1.cell? ⟨nb,no+3,none⟩=some (.slice b.na b.names.length b.ncap):=hnc 3 _ rfl
 have b4:W1.cell? ⟨nb,no+4,none⟩=some (.bool b.doubt):=hnc 4 _ rfl
 have b5:W1.cell? ⟨nb,no+5,none⟩=some (.int .i64 b.body.kind):=hnc 5 _ rfl
 have b6:W1.cell? ⟨nb,no+6,none⟩=some (.string b.body.name):=hnc 6 _ rfl
 have b7:W1.cell? ⟨nb,no+7,none⟩=some (.string b.body.more):=hnc 7 _ rfl
 have b8:W1.cell? ⟨nb,no+8,none⟩=some (.int .i64 b.body.int):=hnc 8 _ rfl
 have b9:W1.cell? ⟨nb,no+9,none⟩=some (.int .i64 b.body.den):=hnc 9 _ rfl
 have b10:W1.cell? ⟨nb,no+10,none⟩=some (.slice b.body.ao b.body.sub.length b.body.cap):=hnc 10 _ rfl
 have k0:W1.cell? ⟨w.heap.size,0,none⟩=some (.int .i64 k):=row_cell hR1 0
 have k3:W1.cell? ⟨w.heap.size,3,none⟩=some (.slice (some ⟨ob,oo,none⟩) 1 oc):=row_cell hR1 3
 have k4:W1.cell? ⟨w.heap.size,4,none⟩=some (.slice (some ⟨nb,no,none⟩) 1 nc):=row_cell hR1 4
 have lk:=row_lt hR1
 have HW1:=lid hW1
 have HB1:=lid hb1
 have HR1:=lid hR1
 have HP:=lid hp
 have d6:(k == 6)=false:=by simp;omega
 have d5:(k == 5)=false:=by simp;omega
 have d7:decide (7≤k)=true:=by simpa using hk
 have d7':decide (k<7)=false:=by simp;omega
 clear ho hn hp hW1 hb1 hR1 hoc hnc hk
 go_enter Tryz.func55,Tryz.ntmps55
 go_wp2_with fail
 rw [HW1.out]
 refine wp_region_ot (fun w'=>∃ s:Since W1.heap.size W1,w'=s.world) (.seq [(0,true),(1,true),(2,true),(3,true),(4,true),(5,true),(6,true),(7,true)] (.two 8 9 (.seq [(9,false),(10,false),(11,false)] .done) (.seq [(8,false),(10,false),(11,false)] .done))) (by kernel_rfl) (by kernel_rfl) (by intro c d v a w h;first | (cases d <;> exact h) | cases h.1) (since (Below.refl _ _).drew) ?_
 repeat (first | (refine qk ?_;simp only [Act.put,q1,q2,q3]) | (refine qf ?_;intro K hK;go_big_quiet_op;go_big_quiet_on))
 refine seq_nil (ot_two ?_ ?_)
 focus
  refine qc ?_
  intro K hK
  go_wp2_with fail
  obtain ⟨w7,hw7⟩:∃ y,(W1.alloc (.cells #[.int .i64 0,.int .i64 0,.bool false,.slice none 0 0,.bool false,.int .i64 0,.string ⟨#[]⟩,.string ⟨#[]⟩,.int .i64 0,.int .i64 0,.slice none 0 0] 65)).drew=y:=⟨_,rfl⟩
  have h7:Below W1.heap.size W1 w7:=by rw [← hw7];exact (ba _ _).drew
  have hz7:w7.heap.size=W1.heap.size+1:=by rw [← hw7];show (W1.alloc _).heap.size=_;simp
  have hl7:w7.heap[W1.heap.size]?=some (.cells #[.int .i64 0,.int .i64 0,.bool false,.slice none 0 0,.bool false,.int .i64 0,.string ⟨#[]⟩,.string ⟨#[]⟩,.int .i64 0,.int .i64 0,.slice none 0 0] 65 (0,0)):=by
   rw [← hw7]
   show (W1.alloc _).heap[_]?=_
   exact h_new rfl _
  rw [hw7]
  clear hw7
  refine hK.out _ _ (since h7) (seq_nil (ot_seq ?_))
  clear hK K
  refine qc ?_
  intro K hK
  go_wp2_with fail
  obtain ⟨w8,hw8⟩:∃ y,w7.alloc (.cells #[.int .i64 0,.int .i64 0,.bool false,.slice none 0 0,.bool false,.int .i64 0,.string ⟨#[]⟩,.string ⟨#[]⟩,.int .i64 0,.int .i64 0,.slice none 0 0] 65)=y:=⟨_,rfl⟩
  have h8:Below W1.heap.size W1 w8:=by rw [← hw8];exact h7.alloc (by omega) _
  have hl8:w8.heap[W1.heap.size]?=some (.cells #[.int .i64 0,.int .i64 0,.bool false,.slice none 0 0,.bool false,.int .i64 0,.string ⟨#[]⟩,.string ⟨#[]⟩,.int .i64 0,.int .i64 0,.slice none 0 0] 65 (0,0)):=by rw [← hw8];exact (h_old (by omega) _).trans hl7
  have hm8:w8.heap[W1.heap.size+1]?=some (.cells #[.int .i64 0,.int .i64 0,.bool false,.slice none 0 0,.bool false,.int .i64 0,.string ⟨#[]⟩,.string ⟨#[]⟩,.int .i64 0,.int .i64 0,.slice none 0 0] 65 (0,0)):=by rw [← hw8];exact h_new hz7 _
  have hz8:w8.heap.size=W1.heap.size+2:=by rw [← hw8];simp [hz7]
  rw [hw8]
  clear hw8 hl7
  refine hK.out _ _ (since h8) ?_
  clear hK K
  refine qc ?_
  intro K hK
  refine wpList_store_mid rfl 65 _ _ rfl (W1.heap.size) 0 (dca a) rfl rfl (there_row hl8 (by simp)) (by kernel_rfl) (by simp [Value.oneCell']) ?_
  obtain ⟨w9,hw9⟩:∃ y,w8.setCells (W1.heap.size) 0 (dca a).toList=y:=⟨_,rfl⟩
  have h9:Below W1.heap.size W1 w9:=by rw [← hw9];exact below_cells (by omega) _ _ _ h8
  have hA9:w9.heap[W1.heap.size]?=some (.cells (dca a) 65 (0,0)):=by rw [← hw9];exact row_whole hl8 rfl
  have hB9:w9.heap[W1.heap.size+1]?=some (.cells #[.int .i64 0,.int .i64 0,.bool false,.slice none 0 0,.bool false,.int .i64 0,.string ⟨#[]⟩,.string ⟨#[]⟩,.int .i64 0,.int .i64 0,.slice none 0 0] 65 (0,0)):=by rw [← hw9];exact (setCells_other (by omega) _ _ _).trans hm8
  rw [hw9]
  clear hw9
  simp only [Act.put]
  go_wp2_with fail
  refine hK.out _ _ (since h9) ?_
  clear hK K
  refine qc ?_
  intro K hK
  refine wpList_store_mid rfl 65 _ _ rfl (W1.heap.size+1) 0 (dca b) rfl rfl (there_row hB9 (by simp)) (by kernel_rfl) (by simp [Value.oneCell']) ?_
  obtain ⟨w10,hw10⟩:∃ y,w9.setCells (W1.heap.size+1) 0 (dca b).toList=y:=⟨_,rfl⟩
  have h10:Below W1.heap.size W1 w10:=by rw [← hw10];exact below_cells (by omega) _ _ _ h9
  have hB10:w10.heap[W1.heap.size+1]?=some (.cells (dca b) 65 (0,0)):=by rw [← hw10];exact row_whole hB9 rfl
  have hA10:w10.heap[W1.heap.size]?=some (.cells (dca a) 65 (0,0)):=by rw [← hw10];exact (setCells_other (by omega) _ _ _).trans hA9
  have hz10:W1.heap.size+2≤w10.heap.size:=by have:=row_lt hB10;have:=row_lt hA10;omega
  rw [hw10]
  simp only [Act.put]
  clear hw10 hl8 hm8 hA9 hB9
  have HB10:=lid (HB1.out.trans (h10.mono HB1.out.size))
  have HR10:=lid ((h10.block _ lk).trans HR1.out)
  have HDA10:=lid (HDA.out.below h10)
  have HDB10:=lid (HDB.out.below h10)
  go_wp2_with fail
  refine hK.out _ _ (since h10) (seq_nil (ot_done ?_))
  clear hK K
  clear a0 a1 a2 a3 a4 a5 a6 a7 a8 a9 a10 b0 b1 b2 b3 b4 b5 b6 b7 b8 b9 b10 k0 k3 k4 h7 hz7 h8 hz8 h9 h10
  have a0:w10.cell? ⟨W1.heap.size,0,none⟩=some (.int .i64 a.id):=row_cell hA10 0
  have a1:w10.cell? ⟨W1.heap.size,1,none⟩=some (.int .i64 a.kind):=row_cell hA10 1
  have a2:w10.cell? ⟨W1.heap.size,2,none⟩=some (.bool a.pub):=row_cell hA10 2
  have a3:w10.cell? ⟨W1.heap.size,3,none⟩=some (.slice a.na a.names.length a.ncap):=row_cell hA10 3
  have a4:w10.cell? ⟨W1.heap.size,4,none⟩=some (.bool a.doubt):=row_cell hA10 4
  have a5:w10.cell? ⟨W1.heap.size,5,none⟩=some (.int .i64 a.body.kind):=row_cell hA10 5
  have a6:w10.cell? ⟨W1.heap.size,6,none⟩=some (.string a.body.name):=row_cell hA10 6
  have a7:w10.cell? ⟨W1.heap.size,7,none⟩=some (.string a.body.more):=row_cell hA10 7
  have a8:w10.cell? ⟨W1.heap.size,8,none⟩=some (.int .i64 a.body.int):=row_cell hA10 8
  have a9:w10.cell? ⟨W1.heap.size,9,none⟩=some (.int .i64 a.body.den):=row_cell hA10 9
  have a10:w10.cell? ⟨W1.heap.size,10,none⟩=some (.slice a.body.ao a.body.sub.length a.body.cap):=row_cell hA10 10
  have b0:w10.cell? ⟨W1.heap.size+1,0,none⟩=some (.int .i64 b.id):=row_cell hB10 0
  have b1:w10.cell? ⟨W1.heap.size+1,1,none⟩=some (.int .i64 b.kind):=row_cell hB10 1
  have b2:w10.cell? ⟨W1.heap.size+1,2,none⟩=some (.bool b.pub):=row_cell hB10 2
  have b3:w10.cell? ⟨W1.heap.size+1,3,none⟩=some (.slice b.na b.names.length b.ncap):=row_cell hB10 3
  have b4:w10.cell? ⟨W1.heap.size+1,4,none⟩=some (.bool b.doubt):=row_cell hB10 4
  have b5:w10.cell? ⟨W1.heap.size+1,5,none⟩=some (.int .i64 b.body.kind):=row_cell hB10 5
  have b6:w10.cell? ⟨W1.heap.size+1,6,none⟩=some (.string b.body.name):=row_cell hB10 6
  have b7:w10.cell? ⟨W1.heap.size+1,7,none⟩=some (.string b.body.more):=row_cell hB10 7
  have b8:w10.cell? ⟨W1.heap.size+1,8,none⟩=some (.int .i64 b.body.int):=row_cell hB10 8
  have b9:w10.cell? ⟨W1.heap.size+1,9,none⟩=some (.int .i64 b.body.den):=row_cell hB10 9
  have b10:w10.cell? ⟨W1.heap.size+1,10,none⟩=some (.slice b.body.ao b.body.sub.length b.body.cap):=row_cell hB10 10
 rotate_left
 focus
  refine qc ?_
  intro K hK
  go_wp2_with fail
  obtain ⟨w7,hw7⟩:∃ y,(W1.alloc (.cells #[.int .i64 0,.int .i64 0,.bool false,.slice none 0 0,.bool false,.int .i64 0,.string ⟨#[]⟩,.string ⟨#[]⟩,.int .i64 0,.int .i64 0,.slice none 0 0] 65)).drew=y:=⟨_,rfl⟩
  have h7:Below W1.heap.size W1 w7:=by rw [← hw7];exact (ba _ _).drew
  have hz7:w7.heap.size=W1.heap.size+1:=by rw [← hw7];show (W1.alloc _).heap.size=_;simp
  have hl7:w7.heap[W1.heap.size]?=some (.cells #[.int .i64 0,.int .i64 0,.bool false,.slice none 0 0,.bool false,.int .i64 0,.string ⟨#[]⟩,.string ⟨#[]⟩,.int .i64 0,.int .i64 0,.slice none 0 0] 65 (0,0)):=by
   rw [← hw7]
   show (W1.alloc _).heap[_]?=_
   exact h_new rfl _
  rw [hw7]
  clear hw7
  refine hK.out _ _ (since h7) (seq_nil (ot_seq ?_))
  clear hK K
  refine qc ?_
  intro K hK
  go_wp2_with fail
  obtain ⟨w8,hw8⟩:∃ y,w7.alloc (.cells #[.int .i64 0,.int .i64 0,.bool false,.slice none 0 0,.bool false,.int .i64 0,.string ⟨#[]⟩,.string ⟨#[]⟩,.int .i64 0,.int .i64 0,.slice none 0 0] 65)=y:=⟨_,rfl⟩
  have h8:Below W1.heap.size W1 w8:=by rw [← hw8];exact h7.alloc (by omega) _
  have hl8:w8.heap[W1.heap.size]?=some (.cells #[.int .i64 0,.int .i64 0,.bool false,.slice none 0 0,.bool false,.int .i64 0,.string ⟨#[]⟩,.string ⟨#[]⟩,.int .i64 0,.int .i64 0,.slice none 0 0] 65 (0,0)):=by rw [← hw8];exact (h_old (by omega) _).trans hl7
  have hm8:w8.heap[W1.heap.size+1]?=some (.cells #[.int .i64 0,.int .i64 0,.bool false,.slice none 0 0,.bool false,.int .i64 0,.string ⟨#[]⟩,.string ⟨#[]⟩,.int .i64 0,.int .i64 0,.slice none 0 0] 65 (0,0)):=by rw [← hw8];exact h_new hz7 _
  have hz8:w8.heap.size=W1.heap.size+2:=by rw [← hw8];simp [hz7]
  rw [hw8]
  clear hw8 hl7
  refine hK.out _ _ (since h8) ?_
  clear hK K
  refine qc ?_
  intro K hK
  refine wpList_store_mid rfl 65 _ _ rfl (W1.heap.size+1) 0 (dca a) rfl rfl (there_row hm8 (by simp)) (by kernel_rfl) (by simp [Value.oneCell']) ?_
  obtain ⟨w9,hw9⟩:∃ y,w8.setCells (W1.heap.size+1) 0 (dca a).toList=y:=⟨_,rfl⟩
  have h9:Below W1.heap.size W1 w9:=by rw [← hw9];exact below_cells (by omega) _ _ _ h8
  have hA9:w9.heap[W1.heap.size+1]?=some (.cells (dca a) 65 (0,0)):=by rw [← hw9];exact row_whole hm8 rfl
  have hB9:w9.heap[W1.heap.size]?=some (.cells #[.int .i64 0,.int .i64 0,.bool false,.slice none 0 0,.bool false,.int .i64 0,.string ⟨#[]⟩,.string ⟨#[]⟩,.int .i64 0,.int .i64 0,.slice none 0 0] 65 (0,0)):=by rw [← hw9];exact (setCells_other (by omega) _ _ _).trans hl8
  rw [hw9]
  clear hw9
  simp only [Act.put]
  go_wp2_with fail
  refine hK.out _ _ (since h9) ?_
  clear hK K
  refine qc ?_
  intro K hK
  refine wpList_store_mid rfl 65 _ _ rfl (W1.heap.size) 0 (dca b) rfl rfl (there_row hB9 (by simp)) (by kernel_rfl) (by simp [Value.oneCell']) ?_
  obtain ⟨w10,hw10⟩:∃ y,w9.setCells (W1.heap.size) 0 (dca b).toList=y:=⟨_,rfl⟩
  have h10:Below W1.heap.size W1 w10:=by rw [← hw10];exact below_cells (by omega) _ _ _ h9
  have hB10:w10.heap[W1.heap.size]?=some (.cells (dca b) 65 (0,0)):=by rw [← hw10];exact row_whole hB9 rfl
  have hA10:w10.heap[W1.heap.size+1]?=some (.cells (dca a) 65 (0,0)):=by rw [← hw10];exact (setCells_other (by omega) _ _ _).trans hA9
  have hz10:W1.heap.size+2≤w10.heap.size:=by have:=row_lt hB10;have:=row_lt hA10;omega
  rw [hw10]
  simp only [Act.put]
  clear hw10 hl8 hm8 hA9 hB9
  have HB10:=lid (HB1.out.trans (h10.mono HB1.out.size))
  have HR10:=lid ((h10.block _ lk).trans HR1.out)
  have HDA10:=lid (HDA.out.below h10)
  have HDB10:=lid (HDB.out.below h10)
  go_wp2_with fail
  refine hK.out _ _ (since h10) (seq_nil (ot_done ?_))
  clear hK K
  clear a0 a1 a2 a3 a4 a5 a6 a7 a8 a9 a10 b0 b1 b2 b3 b4 b5 b6 b7 b8 b9 b10 k0 k3 k4 h7 hz7 h8 hz8 h9 h10
  have a0:w10.cell? ⟨W1.heap.size+1,0,none⟩=some (.int .i64 a.id):=row_cell hA10 0
  have a1:w10.cell? ⟨W1.heap.size+1,1,none⟩=some (.int .i64 a.kind):=row_cell hA10 1
  have a2:w10.cell? ⟨W1.heap.size+1,2,none⟩=some (.bool a.pub):=row_cell hA10 2
  have a3:w10.cell? ⟨W1.heap.size+1,3,none⟩=some (.slice a.na a.names.length a.ncap):=row_cell hA10 3
  have a4:w10.cell? ⟨W1.heap.size+1,4,none⟩=some (.bool a.doubt):=row_cell hA10 4
  have a5:w10.cell? ⟨W1.heap.size+1,5,none⟩=some (.int .i64 a.body.kind):=row_cell hA10 5
  have a6:w10.cell? ⟨W1.heap.size+1,6,none⟩=some (.string a.body.name):=row_cell hA10 6
  have a7:w10.cell? ⟨W1.heap.size+1,7,none⟩=some (.string a.body.more):=row_cell hA10 7
  have a8:w10.cell? ⟨W1.heap.size+1,8,none⟩=some (.int .i64 a.body.int):=row_cell hA10 8
  have a9:w10.cell? ⟨W1.heap.size+1,9,none⟩=some (.int .i64 a.body.den):=row_cell hA10 9
  have a10:w10.cell? ⟨W1.heap.size+1,10,none⟩=some (.slice a.body.ao a.body.sub.length a.body.cap):=row_cell hA10 10
  have b0:w10.cell? ⟨W1.heap.size,0,none⟩=some (.int .i64 b.id):=row_cell hB10 0
  have b1:w10.cell? ⟨W1.heap.size,1,none⟩=some (.int .i64 b.kind):=row_cell hB10 1
  have b2:w10.cell? ⟨W1.heap.size,2,none⟩=some (.bool b.pub):=row_cell hB10 2
  have b3:w10.cell? ⟨W1.heap.size,3,none⟩=some (.slice b.na b.names.length b.ncap):=row_cell hB10 3
  have b4:w10.cell? ⟨W1.heap.size,4,none⟩=some (.bool b.doubt):=row_cell hB10 4
  have b5:w10.cell? ⟨W1.heap.size,5,none⟩=some (.int .i64 b.body.kind):=row_cell hB10 5
  have b6:w10.cell? ⟨W1.heap.size,6,none⟩=some (.string b.body.name):=row_cell hB10 6
  have b7:w10.cell? ⟨W1.heap.size,7,none⟩=some (.string b.body.more):=row_cell hB10 7
  have b8:w10.cell? ⟨W1.heap.size,8,none⟩=some (.int .i64 b.body.int):=row_cell hB10 8
  have b9:w10.cell? ⟨W1.heap.size,9,none⟩=some (.int .i64 b.body.den):=row_cell hB10 9
  have b10:w10.cell? ⟨W1.heap.size,10,none⟩=some (.slice b.body.ao b.body.sub.length b.body.cap):=row_cell hB10 10
 rotate_left
 all_goals
  have k0:w10.cell? ⟨w.heap.size,0,none⟩=some (.int .i64 k):=row_cell HR10.out 0
  have l1:=row_lt hA10
  have l2:=row_lt hB10
  have l3:=row_lt HR10.out
  have HXA:=lid hA10
  have CM1:=lid (fun (W:World) (_:Below w10.heap.size w10 W)=>mentioned_any k a W)
  have CM2:=lid (fun (W:World) (_:Below w10.heap.size w10 W)=>mentioned_any k b W)
  have did:(a.id == b.id)=true:=by have:=HP.out.id;simp [this]
  have HXB:=lid hB10
  clear hA10 hB10 lk
  go_wp2_with fail
  refine qd (fun w'=>∃ s:Since w10.heap.size w10,w'=s.world) [(0,true),(1,true),(2,true),(3,true),(4,false),(5,false),(6,true),(7,true),(8,true),(9,true),(10,true),(11,false),(12,false),(13,true),(14,true),(15,true),(16,true),(17,true),(18,true),(19,true),(20,true),(21,true),(22,true),(23,true),(24,false),(25,true),(26,true),(27,false)] ?_
  repeat (first | (refine qk ?_;simp only [Act.put,q1,q2,q3]) | (refine qf ?_;intro K hK;go_big_quiet_op;go_big_quiet_on))
  refine qc ?_
  intro K hK
  go_wp2_with fail
  (with_reducible refine (CM1.out _ (Below.refl _ _).drew).mono ?_);rintro e w11 ⟨rfl,hb11⟩
  have h11:Below w10.heap.size w10 w11:=(Below.refl _ _).drew.trans hb11
  have CE1:=lid (equalDecl_any a (menW k a) w11 (HDA10.out.below h11) (menW_A (HDA10.out.below h11)) hca)
  have H11:=lid h11
  clear hb11 h11
  go_wp2_with fail
  refine hK.out _ _ (since H11.out) ?_
  clear hK K
  repeat (first | (refine qk ?_;simp only [Act.put,q1,q2,q3]) | (refine qf ?_;intro K hK;go_big_quiet_op;go_big_quiet_on))
  refine qc ?_
  intro K hK
  go_wp2_with fail
  (with_reducible refine (CE1.out).mono ?_);rintro e w12 ⟨rfl,hb12⟩
  rw [pB_t HP.out.old]
  have H12:=lid (H11.out.trans (hb12.mono H11.out.size))
  clear hb12 CE1
  go_wp2_with fail
  refine hK.out _ _ (since H12.out) ?_
  clear hK K
  repeat (first | (refine qk ?_;simp only [Act.put,q1,q2,q3]) | (refine qf ?_;intro K hK;go_big_quiet_op;go_big_quiet_on))
  refine qc ?_
  intro K hK
  go_wp2_with fail
  (with_reducible refine (CM2.out _ H12.out).mono ?_);rintro e w13 ⟨rfl,hb13⟩
  have H13:=lid (H12.out.trans (hb13.mono H12.out.size))
  have CE2:=lid (equalDecl_any b (menW k b) w13 (HDB10.out.below H13.out) (menW_A (HDB10.out.below H13.out)) hcb)
  clear hb13
  go_wp2_with fail
  refine hK.out _ _ (since H13.out) ?_
  clear hK K
  repeat (first | (refine qk ?_;simp only [Act.put,q1,q2,q3]) | (refine qf ?_;intro K hK;go_big_quiet_op;go_big_quiet_on))
  refine qc ?_
  intro K hK
  go_wp2_with fail
  (with_reducible refine (CE2.out).mono ?_);rintro e w14 ⟨rfl,hb14⟩
  rw [pB_t HP.out.new]
  have H14:=lid (H13.out.trans (hb14.mono H13.out.size))
  have CE3:=lid (equalDecl_any a b w14 (HDA10.out.below H14.out) (HDB10.out.below H14.out) hca)
  clear hb14 CE2
  go_wp2_with fail
  refine hK.out _ _ (since H14.out) ?_
  clear hK K
  repeat (first | (refine qk ?_;simp only [Act.put,q1,q2,q3]) | (refine qf ?_;intro K hK;go_big_quiet_op;go_big_quiet_on))
  refine qc ?_
  intro K hK
  go_wp2_with fail
  (with_reducible refine (CE3.out).mono ?_);rintro e w15 ⟨rfl,hb15⟩
  rw [pB_f HP.out.ne]
  have H15:=lid (H14.out.trans (hb15.mono H14.out.size))
  clear hb15 CE3
  go_wp2_with fail
  refine hK.out _ _ (since H15.out) ?_
  clear hK K
  repeat (first | (refine qk ?_;simp only [Act.put,q1,q2,q3]) | (refine qf ?_;intro K hK;go_big_quiet_op;go_big_quiet_on))
  refine qc ?_
  intro K hK
  go_wp2_with fail
  refine hK.out _ _ (since H15.out) ?_
  clear hK K
  refine seq_nil ?_
  go_wp2_with fail
  go_ret
  exact ⟨rfl,HB10.out.trans (H15.out.mono HB10.out.size)⟩
theorem fits_any (k:Kw) (w:World) (h:KwA w k) (hf:FitK k):Calls Tryz.prog 55 #[.agg (kca k)] w fun r w'=>r=.returned (.bool true)∧Below w.heap.size w w':=by
 obtain ⟨kd,p,t,oa,old,oc,na,new,nc⟩:=k
 have ho:=h.old
 have hn:=h.new
 rw [show kca ⟨kd,p,t,oa,old,oc,na,new,nc⟩=#[.int .i64 kd,.string p,.string t,.slice oa old.length oc,.slice na new.length nc] from rfl]
 rcases hf with ⟨hk,ht,h1,h2⟩ | ⟨hk,h1,h2⟩ | ⟨hk,ht,h1,d,h2⟩ | ⟨hk,ht,⟨d,h1⟩,h2⟩ | ⟨hk,ht,a,b,h1,h2,hp,hca,hcb⟩
 ·simp only at hk ht h1 h2
  subst ht h1 h2
  rcases hk with rfl | rfl
  ·exact fits_1 p oa na oc nc w
  ·exact fits_2 p oa na oc nc w
 ·simp only at hk h1 h2
  subst h1 h2
  rcases hk with rfl | rfl
  ·exact fits_3 p t oa na oc nc w
  ·exact fits_4 p t oa na oc nc w
 ·simp only at hk ht h1 h2
  subst hk ht h1 h2
  exact fits_5 p oa na oc nc w
 ·simp only at hk ht h1 h2
  subst hk ht h1 h2
  exact fits_6 p oa na oc nc w
 ·simp only at hk ht h1 h2 hp
  subst ht h1 h2
  obtain ⟨ob,oo,rfl,-,-⟩:=ho.sl.at_ (k:=0) (by simp)
  obtain ⟨nb,no,rfl,-,-⟩:=hn.sl.at_ (k:=0) (by simp)
  exact fits_hi kd p ob oo nb no oc nc a b w (by omega) ho hn hp hca hcb
end Go.Proofs.YtgcceepadlmelaaGreatDoor
