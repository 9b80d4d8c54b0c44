/-
  chunk.Manifest: the digests of the chunks.
-/
import Derived.Test.YtmebjjoldhcgpaaChkSplit
import Derived.Test.YtmebjjoldhcgpaaDigOf
import Derived.Test.YtmebjjoldhcgpaaDigHash
import Derived.Test.YtmebjjoldhcgpaaAppG
namespace Go.Proofs.Ytmebjjoldhcgpaa
open Go.RowKit Go.Shelf
attribute [local go_sem] Oper.semAt_some

theorem info_dg : (Try.prog.info? 56).map (fun i => (i.zero, i.size, i.bytes)) = some (some (.agg #[.int .u64 0, .int .u64 0]), 2, 16) := by kernel_rfl

/-- The digests of pieces of data. -/
def digs (s : ByteArray) (l : List (Nat × Nat)) : List Dg := l.map fun x => ofU (sub s x).data.toList

set_option maxRecDepth 100000 in
set_option maxHeartbeats 4000000 in
theorem Manifest_ok (s : ByteArray) (l m v b : Nat) (w : World) (hv1 : 1 ≤ v) (hvl : v ≤ l) (hlm : l ≤ m) (hm : m ≤ 65536) (hb16 : b ≤ 16) (hs : s.size ≤ 65536) :
    Calls Try.prog 20 #[.string s, .agg (pcells l m v b)] w fun e w' => ∃ v', e = .returned (.tuple #[v', .int .i64 0]) ∧
      w'.ownsRow w.heap.size 56 2 v' (cuts s.data.toList l m v b).length (dcells (digs s (cuts s.data.toList l m v b))) ∧ Below w.heap.size w w' := by
  have hE : checkE l m v b = 0 := by unfold checkE; rw [if_neg (by omega)]
  have hN := cuts_length s.data.toList l m v b
  have hN' : s.data.toList.length = s.size := rfl
  rw [hN'] at hN
  refine (callsIn_wide (n := 3)).1 ?_
  refine callsIn_of_wp_marks Try.func20 rfl trivial ?_ rfl
  simp only [Try.ntmps20, List.size_toArray, List.length_cons, List.length_nil, Nat.reduceAdd, Nat.reduceSub, Array.replicate_succ, Array.replicate_zero, List.push_toArray, List.append_toArray, List.nil_append, List.cons_append]
  gi_wp2_with fail
  refine ⟨trivial, (callsIn_wide.2 (checkAll_any l m v b (w.heap.size + 2) 1 1 _ (by omega) (by simp) (by omega) ?_)).mono ?_⟩
  · intro j hj
    obtain rfl : j = 0 := by omega
    exact ⟨s, by rw [cell_new_at (by simp)]; rfl, hs⟩
  rintro e w1 ⟨rfl, hb1⟩
  have hb01 : Below (w.heap.size + 3) (((w.alloc (Obj.cells #[Value.string s] 9)).alloc (Obj.cells (pcells l m v b) 23)).alloc (Obj.cells #[Value.string s] 9)) w1 := by simpa using hb1
  obtain ⟨hc1, hf1⟩ := bcell hb01
  have hzw : w.heap.size + 3 ≤ w1.heap.size := by have := hb01.size; simpa using this
  have hw1 : Below w.heap.size w w1 := ((((Below.refl _ _).alloc (Nat.le_refl _) _).alloc (by simp) _).alloc (by simp; omega) _).trans (hb01.mono (by omega))
  have hlt : w.heap.size + 1 < w1.heap.size := by omega
  have hlt0 : w.heap.size < w1.heap.size := by omega
  have c0 : w1.cell? ⟨w.heap.size + 1, 0, none⟩ = some (.int .i64 l) := by rw [hc1 _ _ (by omega), cell_old_at (by simp), cell_new_at (by simp)]; rfl
  have c1 : w1.cell? ⟨w.heap.size + 1, 1, none⟩ = some (.int .i64 m) := by rw [hc1 _ _ (by omega), cell_old_at (by simp), cell_new_at (by simp)]; rfl
  have c2 : w1.cell? ⟨w.heap.size + 1, 2, none⟩ = some (.int .i64 v) := by rw [hc1 _ _ (by omega), cell_old_at (by simp), cell_new_at (by simp)]; rfl
  have c3 : w1.cell? ⟨w.heap.size + 1, 3, none⟩ = some (.int .i64 b) := by rw [hc1 _ _ (by omega), cell_old_at (by simp), cell_new_at (by simp)]; rfl
  have cs : w1.cell? ⟨w.heap.size, 0, none⟩ = some (.string s) := by rw [hc1 _ _ (by omega), cell_old_at (by simp; omega), cell_old_at (by simp), cell_new_at rfl]; rfl
  clear hb1 hc1 hf1
  rw [hE]
  have HE := lid hE
  clear hE
  gi_wp2_with fail
  refine ⟨trivial, (callsIn_wide.2 (chunks_fn s l m v b _)).mono ?_⟩
  rintro e w' ⟨rfl, rfl⟩
  gi_wp2_with fail
  have bO := Boxed.new w1 43 (.slice none 0 0)
  obtain ⟨W0, hW0⟩ : ∃ W0, ((w1.alloc (Obj.cells #[Value.slice none 0 0] 43)).alloc (Obj.cells #[Value.string s] 9)).alloc (Obj.cells (pcells l m v b) 23) = W0 := ⟨_, rfl⟩
  have hsz : W0.heap.size = w1.heap.size + 3 := by rw [← hW0]; simp
  have hB0 : Below w.heap.size w W0 := by rw [← hW0]; exact ((hw1.alloc (by omega) _).alloc (by simp; omega) _).alloc (by simp; omega) _
  have bO0 : Boxed W0 w1.heap.size 43 (.slice none 0 0) := by rw [← hW0]; exact (bO.alloc _).alloc _
  have d0 : W0.cell? ⟨w1.heap.size + 2, 0, none⟩ = some (.int .i64 l) := by rw [← hW0, cell_new_at (by simp)]; rfl
  have d1 : W0.cell? ⟨w1.heap.size + 2, 1, none⟩ = some (.int .i64 m) := by rw [← hW0, cell_new_at (by simp)]; rfl
  have d2 : W0.cell? ⟨w1.heap.size + 2, 2, none⟩ = some (.int .i64 v) := by rw [← hW0, cell_new_at (by simp)]; rfl
  have d3 : W0.cell? ⟨w1.heap.size + 2, 3, none⟩ = some (.int .i64 b) := by rw [← hW0, cell_new_at (by simp)]; rfl
  have ds : W0.cell? ⟨w1.heap.size + 1, 0, none⟩ = some (.string s) := by rw [← hW0, cell_old_at (by simp), cell_new_at (by simp)]; rfl
  rw [hW0]
  have es : W0.cell? ⟨w.heap.size, 0, none⟩ = some (.string s) := by rw [← hW0, cell_old_at (by simp; omega), cell_old_at (by simp; omega), cell_old_at (by omega)]; exact cs
  clear bO c0 c1 c2 c3 cs
  refine wpIn_rangeFunc_ownG rfl (by omega) (gf := 30) (lb := #[.pointer (some ⟨w1.heap.size + 2, 0, none⟩), .pointer (some ⟨w1.heap.size + 1, 0, none⟩)]) rfl trivial (enters_of Try.func30 (by kernel_rfl) rfl)
    (chunks_stops Fence.wide _ trivial rfl (by omega) (w1.heap.size + 2) (w1.heap.size + 1) s l m v b W0 hv1 hvl hlm hm hb16 hs (by omega) (by omega) d0 d1 d2 d3 ds) Kept2.t (Kept2.b (by omega) (by omega)) (Below.refl _ _) (fun _ => rfl)
    (fun pre W => (∃ v', Boxed W w1.heap.size 43 v' ∧ W.ownsRow W0.heap.size 56 2 v' pre.length (dcells (digs s (pre.map (·.1)))) ∧ True) ∧ Below w1.heap.size W0 W)
    (fun _ _ _ => False)
    (OwnFrom.and (Own.from (holdsRow_own W0.heap.size w1.heap.size 43 56 2 (fun pre : List (Cut s.data.toList) => pre.length) (fun pre => dcells (digs s (pre.map (·.1)))) (fun _ _ => True)) _) (ownFrom_below (by omega) (by omega)))
    (fun _ _ _ _ _ hs _ _ => hs)
    ⟨⟨_, bO0, World.ownsRow_nil _ _ _ _, trivial⟩, Below.refl _ _⟩
    (fun x => { tmps := #[.string s, .agg (pcells l m v b), .pointer (some ⟨w.heap.size, 0, none⟩), .pointer (some ⟨w.heap.size + 1, 0, none⟩), .slice none 0 0, .int .i64 0, .int .i64 0, .pointer (some ⟨w1.heap.size, 0, none⟩), .int .i64 x.1.1, .int .i64 x.1.2, .agg (pcells l m v b), .string s, .slice (some ⟨w.heap.size + 2, 0, none⟩) 1 1, .int .i64 0, .int .i64 0, .bool false, undef, .string s, .agg (pcells l m v b), .func (.func 30) #[] #[.pointer (some ⟨w1.heap.size + 2, 0, none⟩), .pointer (some ⟨w1.heap.size + 1, 0, none⟩)], .int .i64 x.1.1, .int .i64 x.1.2, undef, undef, undef, undef, undef, undef, undef, undef, undef], defers := [] }) ?assign ?body ?done ?stop
  case assign =>
    intro l x W K hK
    gi_wp2
    exact hK
  case body =>
    rintro l' pre x W ⟨⟨v', hv, hrow, -⟩, hB⟩ hlt
    have hc := hv.cell
    have hrl := hB.size
    have es' : W.cell? ⟨w.heap.size, 0, none⟩ = some (.string s) := (bc hB (by omega) 0).trans es
    obtain ⟨hx1, hx2⟩ := x.2
    have hlx : x.1.2 ≤ s.size := hx2
    have hszA := Nat.le_of_eq hsz
    have hszB := Nat.le_of_eq hsz.symm
    clear hsz
    have hq1 : w1.heap.size < W0.heap.size := by omega
    have hq2 : w.heap.size < W0.heap.size := by omega
    have hq3 : (x.1.1 : Int) ≤ (x.1.2 : Int) := by omega
    have hq4 : (x.1.2 : Int) ≤ (s.size : Int) := by omega
    gi_wp2
    generalize hD : ofU (sub s x.1).data.toList = dg
    have HD : Hid (ofU (s.extract x.1.1 x.1.2).data.toList = dg) := lid hD
    clear hD
    have hsx : (s.extract x.1.1 x.1.2).size ≤ maxLen := by unfold maxLen; simp [ByteArray.size_extract]; omega
    refine wpIn_region_seqL 8 (fun w' => ∃ s : Since W0.heap.size W, w' = s.world) [(0, true), (1, true), (2, true), (3, true), (4, true), (5, false), (6, false), (7, false), (8, false)] (by kernel_rfl) (by kernel_rfl) (since (Below.refl _ _).drew) ?_
    repeat (first | (refine seqL_skip (by rfl) (by rfl) (by rfl) ?_; simp only [Act.put, List.setIfInBounds_toArray, List.set_cons_succ, List.set_cons_zero]) | (refine seqL_float (by rfl) (by rfl) (by rfl) (by rfl) ?_; intro K hK; go_big_quiet_op; go_big_quiet_on))
    refine seqL_chain (by rfl) ?_
    intro K hK
    go_wp2_with fail
    (with_reducible refine (of_any (s.extract x.1.1 x.1.2) _ hsx).mono ?_); rintro e w3 ⟨rfl, hb3⟩
    rw [HD.out]
    have hb3' : Below W.heap.size W w3 := (Below.refl _ _).drew.trans hb3
    have hz3 := hb3'.size
    go_wp2_with fail
    refine hK.out _ _ (since (hb3'.mono hrl)) ?_
    clear hK K
    repeat (first | (refine seqL_skip (by rfl) (by rfl) (by rfl) ?_; simp only [Act.put, List.setIfInBounds_toArray, List.set_cons_succ, List.set_cons_zero]) | (refine seqL_float (by rfl) (by rfl) (by rfl) (by rfl) ?_; intro K hK; go_big_quiet_op; go_big_quiet_on))
    have hrow' : w3.ownsRow W0.heap.size 56 2 v' pre.length (dcells (digs s (pre.map (·.1)))) := ownsRow_below hrow hb3'
    have hv0 : Boxed w3 w1.heap.size 43 v' := (hb3'.block _ (by omega)).trans hv
    refine seqL_chain (by rfl) ?_
    intro K hK
    go_wp2_with fail
    refine hK.out _ _ (since ((hb3'.mono hrl).alloc (by omega) _)) ?_
    clear hK K
    repeat (first | (refine seqL_skip (by rfl) (by rfl) (by rfl) ?_; simp only [Act.put, List.setIfInBounds_toArray, List.set_cons_succ, List.set_cons_zero]) | (refine seqL_float (by rfl) (by rfl) (by rfl) (by rfl) ?_; intro K hK; go_big_quiet_op; go_big_quiet_on))
    refine seqL_chain (by rfl) ?_
    intro K hK
    go_wp2_with (at_builtin; go_must (refine wpList_append_newG #[.int .u64 dg.1.toNat, .int .u64 dg.2.toNat] rfl _ _ 43 rfl W0.heap.size 56 (.agg #[.int .u64 0, .int .u64 0]) 2 16 info_dg Try.underlying43 rfl (by decide) _ _ _ hrow' rfl rfl rfl (by simp [Value.oneCell']) (by unfold maxLen; omega) (by omega) (by omega) ?_))
    intro v'' w2 hown' hgrow
    obtain ⟨g', cap', rfl⟩ := ownsRow_succ hown'
    obtain ⟨hv1, hv2, hr2, hk2, hb2, hx2⟩ := appended_x hv0 hrow' (by omega) (by omega) hown' hgrow
    have hc1 := hv1.cell
    have hf1 := hv1.frozen
    have hw2 : Below W0.heap.size W w2 := (hb3'.mono hrl).trans (((Below.refl W0.heap.size w3).alloc (by omega) _).grown hgrow (by simp; omega) (fun k hk => ownsRow_row hrow' k hk))
    go_wp2_with fail
    refine hK.out _ _ (since hw2) ?_
    clear hK K
    repeat (first | (refine seqL_skip (by rfl) (by rfl) (by rfl) ?_; simp only [Act.put, List.setIfInBounds_toArray, List.set_cons_succ, List.set_cons_zero]) | (refine seqL_float (by rfl) (by rfl) (by rfl) (by rfl) ?_; intro K hK; go_big_quiet_op; go_big_quiet_on))
    refine seqL_last (by rfl) (by rfl) ?_
    intro K hK
    go_wp2_with fail
    refine hK.out _ _ ⟨rfl, ?_⟩
    clear hK K
    gi_wp2_with fail
    have he : dcells (digs s ((pre ++ [x]).map (·.1))) = dcells (digs s (pre.map (·.1))) ++ (#[Value.int .u64 dg.1.toNat, .int .u64 dg.2.toNat] : Array Value).toList := by
      rw [List.map_append, digs, List.map_append, dcells_append]
      show _ ++ dcells [ofU (sub s x.1).data.toList] = _
      rw [show ofU (sub s x.1).data.toList = dg from HD.out]
      rfl
    have hko : KeepsOthers W w3 := ⟨hb3'.size, fun i o hi _ => (hb3'.block i (Array.getElem?_eq_some_iff.1 hi).1).trans hi⟩
    exact ⟨(hko.trans hk2).from _, ⟨(hx2 _ (by omega) (by omega)).trans (hb3'.block _ (by omega)), (hx2 _ (by omega) (by omega)).trans (hb3'.block _ (by omega))⟩,
      ⟨_, hv2, by rw [he, List.length_append]; exact hr2, trivial⟩, hB.trans ((hb3'.mono (by omega)).trans hb2)⟩
  case done =>
    rintro D ys W hD hys ⟨⟨v', hv, hrow, -⟩, hB⟩ hK
    have hc := hv.cell
    gi_wp2
    refine ⟨by simp, .inl ⟨_, _, rfl, run_takeDeferred hK, ?_⟩⟩
    have hput : Below w1.heap.size W0 (W.putObj D (.deferred none)) := hB.trans (belowK_b (w := W0) (by omega) W D _ _ hD hK rfl rfl)
    refine ⟨_, results_tmp2 rfl _ _ _, v', rfl, ?_, hB0.trans (hput.mono (by omega))⟩
    rw [← hys, List.length_map]
    exact ownsRow_putObj (ownsRow_base hrow (by omega)) _ hK rfl
  case stop =>
    rintro D c pre W _ _ h _
    exact h.elim
end Go.Proofs.Ytmebjjoldhcgpaa
