/-
  chunk.Split: the chunks.
-/
import Derived.Test.YtmebjjoldhcgpaaRegionL
import Derived.Test.YtmebjjoldhcgpaaChkBounds
namespace Go.Proofs.Ytmebjjoldhcgpaa
open Go.RowKit Go.Shelf
attribute [local go_sem] Oper.semAt_some

theorem info_string : (Try.prog.info? 9).map (fun i => (i.zero, i.size, i.bytes)) = some (some (.string ByteArray.empty), 1, 16) := by kernel_rfl

/-- A piece of data, as a string. -/
def sub (s : ByteArray) (x : Nat × Nat) : ByteArray := s.extract x.1 x.2
def subVals (s : ByteArray) (l : List (Nat × Nat)) : List Value := l.map fun x => Value.string (sub s x)

set_option maxRecDepth 100000 in
set_option maxHeartbeats 4000000 in
theorem Split_ok (s : ByteArray) (l m v b : Nat) (w : World) (hv1 : 1 ≤ v) (hvl : v ≤ l) (hlm : l ≤ m) (hm : m ≤ 65536) (hb16 : b ≤ 16) (hs : s.size ≤ 65536) :
    Calls Try.prog 10 #[.string s, .agg (pcells l m v b)] w fun e w' => ∃ v', e = .returned (.tuple #[v', .int .i64 0]) ∧
      w'.ownsRow w.heap.size 9 1 v' (cuts s.data.toList l m v b).length (subVals s (cuts s.data.toList l m v b)) ∧ Below w.heap.size w w' := by
  have hE : checkE l m v b = 0 := by unfold checkE; rw [if_neg (by omega)]
  have hN := cuts_length s.data.toList l m v b
  have hN' : s.data.toList.length = s.size := rfl
  rw [hN'] at hN
  refine (callsIn_wide (n := 3)).1 ?_
  obtain ⟨i0, hi, hz0, hz1, hz2⟩ := info_parts info_string
  refine callsIn_of_wp_marks Try.func10 rfl trivial ?_ rfl
  simp only [Try.ntmps10, List.size_toArray, List.length_cons, List.length_nil, Nat.reduceAdd, Nat.reduceSub, Array.replicate_succ, Array.replicate_zero, List.push_toArray, List.append_toArray, List.nil_append, List.cons_append]
  gi_wp2_with fail
  refine ⟨trivial, (callsIn_wide.2 (checkAll_any l m v b (w.heap.size + 2) 1 1 _ (by omega) (by simp) (by omega) ?_)).mono ?_⟩
  · intro j hj
    obtain rfl : j = 0 := by omega
    exact ⟨s, by rw [cell_new_at (by simp)]; rfl, hs⟩
  rintro e w1 ⟨rfl, hb1⟩
  have hb01 : Below (w.heap.size + 3) (((w.alloc (Obj.cells #[Value.string s] 9)).alloc (Obj.cells (pcells l m v b) 23)).alloc (Obj.cells #[Value.string s] 9)) w1 := by simpa using hb1
  obtain ⟨hc1, hf1⟩ := bcell hb01
  have hzw : w.heap.size + 3 ≤ w1.heap.size := by have := hb01.size; simpa using this
  have hw1 : Below w.heap.size w w1 := ((((Below.refl _ _).alloc (Nat.le_refl _) _).alloc (by simp) _).alloc (by simp; omega) _).trans (hb01.mono (by omega))
  have hlt : w.heap.size + 1 < w1.heap.size := by omega
  have hlt0 : w.heap.size < w1.heap.size := by omega
  have c0 : w1.cell? ⟨w.heap.size + 1, 0, none⟩ = some (.int .i64 l) := by rw [hc1 _ _ (by omega), cell_old_at (by simp), cell_new_at (by simp)]; rfl
  have c1 : w1.cell? ⟨w.heap.size + 1, 1, none⟩ = some (.int .i64 m) := by rw [hc1 _ _ (by omega), cell_old_at (by simp), cell_new_at (by simp)]; rfl
  have c2 : w1.cell? ⟨w.heap.size + 1, 2, none⟩ = some (.int .i64 v) := by rw [hc1 _ _ (by omega), cell_old_at (by simp), cell_new_at (by simp)]; rfl
  have c3 : w1.cell? ⟨w.heap.size + 1, 3, none⟩ = some (.int .i64 b) := by rw [hc1 _ _ (by omega), cell_old_at (by simp), cell_new_at (by simp)]; rfl
  have cs : w1.cell? ⟨w.heap.size, 0, none⟩ = some (.string s) := by rw [hc1 _ _ (by omega), cell_old_at (by simp; omega), cell_old_at (by simp), cell_new_at rfl]; rfl
  clear hb1 hc1 hf1
  rw [hE]
  have HE := lid hE
  clear hE
  gi_wp2_with fail
  refine ⟨trivial, (callsIn_wide.2 (chunks_fn s l m v b _)).mono ?_⟩
  rintro e w' ⟨rfl, rfl⟩
  gi_wp2_with fail
  have bO := Boxed.new w1 25 (.slice none 0 0)
  obtain ⟨W0, hW0⟩ : ∃ W0, ((w1.alloc (Obj.cells #[Value.slice none 0 0] 25)).alloc (Obj.cells #[Value.string s] 9)).alloc (Obj.cells (pcells l m v b) 23) = W0 := ⟨_, rfl⟩
  have hsz : W0.heap.size = w1.heap.size + 3 := by rw [← hW0]; simp
  have hB0 : Below w.heap.size w W0 := by rw [← hW0]; exact ((hw1.alloc (by omega) _).alloc (by simp; omega) _).alloc (by simp; omega) _
  have bO0 : Boxed W0 w1.heap.size 25 (.slice none 0 0) := by rw [← hW0]; exact (bO.alloc _).alloc _
  have d0 : W0.cell? ⟨w1.heap.size + 2, 0, none⟩ = some (.int .i64 l) := by rw [← hW0, cell_new_at (by simp)]; rfl
  have d1 : W0.cell? ⟨w1.heap.size + 2, 1, none⟩ = some (.int .i64 m) := by rw [← hW0, cell_new_at (by simp)]; rfl
  have d2 : W0.cell? ⟨w1.heap.size + 2, 2, none⟩ = some (.int .i64 v) := by rw [← hW0, cell_new_at (by simp)]; rfl
  have d3 : W0.cell? ⟨w1.heap.size + 2, 3, none⟩ = some (.int .i64 b) := by rw [← hW0, cell_new_at (by simp)]; rfl
  have ds : W0.cell? ⟨w1.heap.size + 1, 0, none⟩ = some (.string s) := by rw [← hW0, cell_old_at (by simp), cell_new_at (by simp)]; rfl
  rw [hW0]
  have es : W0.cell? ⟨w.heap.size, 0, none⟩ = some (.string s) := by rw [← hW0, cell_old_at (by simp; omega), cell_old_at (by simp; omega), cell_old_at (by omega)]; exact cs
  clear bO c0 c1 c2 c3 cs
  refine wpIn_rangeFunc_ownG rfl (by omega) (gf := 30) (lb := #[.pointer (some ⟨w1.heap.size + 2, 0, none⟩), .pointer (some ⟨w1.heap.size + 1, 0, none⟩)]) rfl trivial (enters_of Try.func30 (by kernel_rfl) rfl)
    (chunks_stops Fence.wide _ trivial rfl (by omega) (w1.heap.size + 2) (w1.heap.size + 1) s l m v b W0 hv1 hvl hlm hm hb16 hs (by omega) (by omega) d0 d1 d2 d3 ds) Kept2.t (Kept2.b (by omega) (by omega)) (Below.refl _ _) (fun _ => rfl)
    (fun pre W => (∃ v', Boxed W w1.heap.size 25 v' ∧ W.ownsRow W0.heap.size 9 1 v' pre.length (subVals s (pre.map (·.1))) ∧ True) ∧ Below w1.heap.size W0 W)
    (fun _ _ _ => False)
    (OwnFrom.and (Own.from (holdsRow_own W0.heap.size w1.heap.size 25 9 1 (fun pre : List (Cut s.data.toList) => pre.length) (fun pre => subVals s (pre.map (·.1))) (fun _ _ => True)) _) (ownFrom_below (by omega) (by omega)))
    (fun _ _ _ _ _ hs _ _ => hs)
    ⟨⟨_, bO0, World.ownsRow_nil _ _ _ _, trivial⟩, Below.refl _ _⟩
    (fun x => { tmps := #[.string s, .agg (pcells l m v b), .pointer (some ⟨w.heap.size, 0, none⟩), .pointer (some ⟨w.heap.size + 1, 0, none⟩), .slice none 0 0, .int .i64 0, .int .i64 0, .pointer (some ⟨w1.heap.size, 0, none⟩), .int .i64 x.1.1, .int .i64 x.1.2, .agg (pcells l m v b), .string s, .slice (some ⟨w.heap.size + 2, 0, none⟩) 1 1, .int .i64 0, .int .i64 0, .bool false, undef, .string s, .agg (pcells l m v b), .func (.func 30) #[] #[.pointer (some ⟨w1.heap.size + 2, 0, none⟩), .pointer (some ⟨w1.heap.size + 1, 0, none⟩)], .int .i64 x.1.1, .int .i64 x.1.2, undef, undef, undef, undef, undef, undef, undef, undef], defers := [] }) ?assign ?body ?done ?stop
  case assign =>
    intro l x W K hK
    gi_wp2
    exact hK
  case body =>
    rintro l' pre x W ⟨⟨v', hv, hrow, -⟩, hB⟩ hlt
    have hc := hv.cell
    have hrl := hB.size
    have es' : W.cell? ⟨w.heap.size, 0, none⟩ = some (.string s) := (bc hB (by omega) 0).trans es
    obtain ⟨hx1, hx2⟩ := x.2
    have hlx : x.1.2 ≤ s.size := hx2
    have hszA := Nat.le_of_eq hsz
    have hszB := Nat.le_of_eq hsz.symm
    clear hsz
    have hq1 : w1.heap.size < W0.heap.size := by omega
    have hq2 : w.heap.size < W0.heap.size := by omega
    have hq3 : (x.1.1 : Int) ≤ (x.1.2 : Int) := by omega
    have hq4 : (x.1.2 : Int) ≤ (s.size : Int) := by omega
    gi_wp2
    refine wpIn_region_seqL 7 (fun w' => ∃ s : Since W0.heap.size W, w' = s.world) [(0, true), (1, true), (2, true), (3, true), (4, true), (5, false), (6, false), (7, false)] (by kernel_rfl) (by kernel_rfl) (since (Below.refl _ _).drew) ?_
    repeat (first | (refine seqL_skip (by rfl) (by rfl) (by rfl) ?_; simp only [Act.put, List.setIfInBounds_toArray, List.set_cons_succ, List.set_cons_zero]) | (refine seqL_float (by rfl) (by rfl) (by rfl) (by rfl) ?_; intro K hK; go_big_quiet_op; go_big_quiet_on))
    refine seqL_chain (by rfl) ?_
    intro K hK
    go_wp2_with fail
    refine hK.out _ _ (since ((Below.refl _ _).alloc hrl _).drew) ?_
    clear hK K
    repeat (first | (refine seqL_skip (by rfl) (by rfl) (by rfl) ?_; simp only [Act.put, List.setIfInBounds_toArray, List.set_cons_succ, List.set_cons_zero]) | (refine seqL_float (by rfl) (by rfl) (by rfl) (by rfl) ?_; intro K hK; go_big_quiet_op; go_big_quiet_on))
    have hrow' : W.drew.ownsRow W0.heap.size 9 1 v' pre.length (subVals s (pre.map (·.1))) := hrow
    have hv0 : Boxed W.drew w1.heap.size 25 v' := hv
    refine seqL_chain (by rfl) ?_
    intro K hK
    go_wp2_with (at_builtin; go_must (refine wpList_append_own _ rfl _ _ 25 rfl W0.heap.size 9 i0 (.string ByteArray.empty) 1 16 Try.underlying25 hi hz0 hz1 hz2 rfl (by decide) _ _ _ rfl (hrow'.alloc _) ⟨W.heap.size, 0, none⟩ 1 1 [.string (s.extract x.1.1 x.1.2)] rfl rfl (cell_one_new _ _ _) (by simp [Value.oneCell']) (by unfold maxLen; omega) (by omega) (by simp; omega) ?_))
    intro v'' w2 hown' hgrow _
    obtain ⟨g', cap', rfl⟩ := ownsRow_succ hown'
    obtain ⟨hv1, hv2, hr2, hk2, hb2, hx2⟩ := appended_x hv0 hrow' hrl (by omega) hown' hgrow
    have hc1 := hv1.cell
    have hf1 := hv1.frozen
    have hw2 : Below W0.heap.size W w2 := (Below.refl W0.heap.size W).drew.trans (((Below.refl W0.heap.size W.drew).alloc hrl _).grown hgrow (by simp; omega) (fun k hk => ownsRow_row hrow' k hk))
    go_wp2_with fail
    refine hK.out _ _ (since hw2) ?_
    clear hK K
    repeat (first | (refine seqL_skip (by rfl) (by rfl) (by rfl) ?_; simp only [Act.put, List.setIfInBounds_toArray, List.set_cons_succ, List.set_cons_zero]) | (refine seqL_float (by rfl) (by rfl) (by rfl) (by rfl) ?_; intro K hK; go_big_quiet_op; go_big_quiet_on))
    refine seqL_last (by rfl) (by rfl) ?_
    intro K hK
    go_wp2_with fail
    refine hK.out _ _ ⟨rfl, ?_⟩
    clear hK K
    gi_wp2_with fail
    exact ⟨((KeepsOthers.drew W).trans hk2).from _, ⟨hx2 _ (by omega) (by omega), hx2 _ (by omega) (by omega)⟩, ⟨_, hv2, by simpa [subVals, sub] using hr2, trivial⟩, hB.trans ((Below.refl _ W).drew.trans hb2)⟩
  case done =>
    rintro D ys W hD hys ⟨⟨v', hv, hrow, -⟩, hB⟩ hK
    have hc := hv.cell
    gi_wp2
    refine ⟨by simp, .inl ⟨_, _, rfl, run_takeDeferred hK, ?_⟩⟩
    have hput : Below w1.heap.size W0 (W.putObj D (.deferred none)) := hB.trans (belowK_b (w := W0) (by omega) W D _ _ hD hK rfl rfl)
    refine ⟨_, results_tmp2 rfl _ _ _, v', rfl, ?_, hB0.trans (hput.mono (by omega))⟩
    rw [← hys, List.length_map]
    exact ownsRow_putObj (ownsRow_base hrow (by omega)) _ hK rfl
  case stop =>
    rintro D c pre W _ _ h _
    exact h.elim
end Go.Proofs.Ytmebjjoldhcgpaa
