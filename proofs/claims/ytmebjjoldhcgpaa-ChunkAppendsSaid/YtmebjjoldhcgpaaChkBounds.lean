/-
  chunk.Bounds: the ends of the chunks.
-/
import Derived.RangeFuncBox
import Derived.Maps.AppendAt
import Derived.Test.YtmebjjoldhcgpaaChkIter
import Derived.Test.YtmebjjoldhcgpaaChkAll
import Derived.Test.YtmebjjoldhcgpaaRegion
namespace Go.Proofs.Ytmebjjoldhcgpaa
open Go.RowKit Go.Shelf
attribute [local go_sem] Oper.semAt_some

theorem cell_new_at {w : World} {n : Nat} (h : w.heap.size = n) (cs : Array Value) (t : TypeId) (o : Nat) : (w.alloc (.cells cs t)).cell? ⟨n, o, none⟩ = cs[o]? := by
  subst h
  exact cell_of_row _ _ _ cs t (0, 0) (World.alloc_heap_new w _)
theorem cell_old_at {w : World} {b : Nat} (h : b < w.heap.size) (ob : Obj) (o : Nat) : (w.alloc ob).cell? ⟨b, o, none⟩ = w.cell? ⟨b, o, none⟩ := bc (ba w ob) h o

theorem info_int : (Try.prog.info? 3).map (fun i => (i.zero, i.size, i.bytes)) = some (some (.int .i64 0), 1, 8) := by kernel_rfl

/-- The parameters, as they lie in a box. -/
abbrev pcells (l m v b : Int) : Array Value := #[.int .i64 l, .int .i64 m, .int .i64 v, .int .i64 b]

set_option maxHeartbeats 400000 in
theorem chunks_fn (s : ByteArray) (l m v b : Int) (w : World) :
    Calls Try.prog 25 #[.string s, .agg (pcells l m v b)] w fun e w' => e = .returned (.func (.func 30) #[] #[.pointer (some ⟨w.heap.size + 1, 0, none⟩), .pointer (some ⟨w.heap.size, 0, none⟩)]) ∧
      w' = (w.alloc (.cells #[.string s] 9)).alloc (.cells (pcells l m v b) 23) := by
  go_enter Try.func25, Try.ntmps25
  go_wp2
  go_ret
  exact ⟨rfl, rfl⟩

/-- 'out = append(out, ..)' where out lies in a box below the row's base. -/
theorem appended_x {W w1 : World} {n₀ B : Nat} {t e : TypeId} {size : Nat} {v v' : Value} {k m : Nat} {xs ys : List Value} {tmp : Obj} (hv : Boxed W B t v) (hrow : W.ownsRow n₀ e size v k xs) (hn₀ : n₀ ≤ W.heap.size) (hB : B < n₀)
    (hown' : w1.ownsRow n₀ e size v' m ys) (hgrow : (W.alloc tmp).grownBy w1 v.ownBlock) :
    Boxed w1 B t v ∧ Boxed (w1.setCell ⟨B, 0, none⟩ v') B t v' ∧ (w1.setCell ⟨B, 0, none⟩ v').ownsRow n₀ e size v' m ys ∧ KeepsOthers W (w1.setCell ⟨B, 0, none⟩ v') ∧ Below B W (w1.setCell ⟨B, 0, none⟩ v') ∧ KeptX n₀ B W (w1.setCell ⟨B, 0, none⟩ v') := by
  have hb : Below n₀ W w1 := ((Below.refl n₀ W).alloc hn₀ tmp).grown hgrow (by simp; omega) (fun k hk => ownsRow_row hrow k hk)
  have hv1 : Boxed w1 B t v := (hb.block B hB).trans hv
  refine ⟨hv1, hv1.set v', hown'.kept (grownBy_setCell' w1 B v') (.inr fun e => by have := ownsRow_row hown' B e; omega), ?_, (hb.mono (show B ≤ n₀ by omega)).setCell (p := ⟨B, 0, none⟩) (Nat.le_refl _) _, ((KeptX.refl _ _ _).below hb).setCell (p := ⟨B, 0, none⟩) (.inl rfl) _⟩
  refine ((KeepsOthers.alloc W tmp).trans (KeepsOthers.of_grownBy hgrow fun j o ej hj => ?_)).trans (KeepsOthers.setCell _ _ _)
  rcases (hrow.alloc tmp).2 with ⟨rfl, _⟩ | ⟨g, cap, cur, rfl, _, hgb, _⟩
  · simp [Value.ownBlock] at ej
  · obtain rfl : g = j := by simpa [Value.ownBlock] using ej
    rw [hgb] at hj; cases hj; rfl

def endVals (l : List (Nat × Nat)) : List Value := l.map fun x => Value.int .i64 (x.2 : Int)

theorem cuts_length (s : List UInt8) (l m v b : Nat) : (cuts s l m v b).length ≤ s.length := scan_len _

set_option maxRecDepth 100000 in
set_option maxHeartbeats 4000000 in
theorem Bounds_ok (s : ByteArray) (l m v b : Nat) (w : World) (hv1 : 1 ≤ v) (hvl : v ≤ l) (hlm : l ≤ m) (hm : m ≤ 65536) (hb16 : b ≤ 16) (hs : s.size ≤ 65536) :
    Calls Try.prog 12 #[.string s, .agg (pcells l m v b)] w fun e w' => ∃ v', e = .returned (.tuple #[v', .int .i64 0]) ∧
      w'.ownsRow w.heap.size 3 1 v' (cuts s.data.toList l m v b).length (endVals (cuts s.data.toList l m v b)) ∧ Below w.heap.size w w' := by
  have hE : checkE l m v b = 0 := by unfold checkE; rw [if_neg (by omega)]
  have hN := cuts_length s.data.toList l m v b
  have hN' : s.data.toList.length = s.size := rfl
  rw [hN'] at hN
  refine (callsIn_wide (n := 3)).1 ?_
  obtain ⟨i0, hi, hz0, hz1, hz2⟩ := info_parts info_int
  refine callsIn_of_wp_marks Try.func12 rfl trivial ?_ rfl
  simp only [Try.ntmps12, List.size_toArray, List.length_cons, List.length_nil, Nat.reduceAdd, Nat.reduceSub, Array.replicate_succ, Array.replicate_zero, List.push_toArray, List.append_toArray, List.nil_append, List.cons_append]
  gi_wp2_with fail
  refine ⟨trivial, (callsIn_wide.2 (checkAll_any l m v b (w.heap.size + 1) 1 1 _ (by omega) (by simp) (by omega) ?_)).mono ?_⟩
  · intro j hj
    obtain rfl : j = 0 := by omega
    exact ⟨s, by simp, hs⟩
  rintro e w1 ⟨rfl, hb1⟩
  have hb01 : Below (w.heap.size + 2) ((w.alloc (Obj.cells (pcells l m v b) 23)).alloc (Obj.cells #[Value.string s] 9)) w1 := by simpa using hb1
  obtain ⟨hc1, hf1⟩ := bcell hb01
  have hzw : w.heap.size + 2 ≤ w1.heap.size := by have := hb01.size; simpa using this
  have hw1 : Below w.heap.size w w1 := (((Below.refl _ _).alloc (Nat.le_refl _) _).alloc (by simp) _).trans (hb01.mono (by omega))
  have hlt : w.heap.size < w1.heap.size := by omega
  have c0 : w1.cell? ⟨w.heap.size, 0, none⟩ = some (.int .i64 l) := by rw [hc1 _ _ (by omega)]; simp
  have c1 : w1.cell? ⟨w.heap.size, 1, none⟩ = some (.int .i64 m) := by rw [hc1 _ _ (by omega)]; simp
  have c2 : w1.cell? ⟨w.heap.size, 2, none⟩ = some (.int .i64 v) := by rw [hc1 _ _ (by omega)]; simp
  have c3 : w1.cell? ⟨w.heap.size, 3, none⟩ = some (.int .i64 b) := by rw [hc1 _ _ (by omega)]; simp
  clear hb1 hc1 hf1
  rw [hE]
  have HE := lid hE
  clear hE
  gi_wp2_with fail
  refine ⟨trivial, (callsIn_wide.2 (chunks_fn s l m v b _)).mono ?_⟩
  rintro e w' ⟨rfl, rfl⟩
  gi_wp2_with fail
  have bO := Boxed.new w1 32 (.slice none 0 0)
  obtain ⟨W0, hW0⟩ : ∃ W0, ((w1.alloc (Obj.cells #[Value.slice none 0 0] 32)).alloc (Obj.cells #[Value.string s] 9)).alloc (Obj.cells (pcells l m v b) 23) = W0 := ⟨_, rfl⟩
  have hsz : W0.heap.size = w1.heap.size + 3 := by rw [← hW0]; simp
  have hB0 : Below w.heap.size w W0 := by rw [← hW0]; exact ((hw1.alloc (by omega) _).alloc (by simp; omega) _).alloc (by simp; omega) _
  have bO0 : Boxed W0 w1.heap.size 32 (.slice none 0 0) := by rw [← hW0]; exact (bO.alloc _).alloc _
  have d0 : W0.cell? ⟨w1.heap.size + 2, 0, none⟩ = some (.int .i64 l) := by rw [← hW0, cell_new_at (by simp)]; rfl
  have d1 : W0.cell? ⟨w1.heap.size + 2, 1, none⟩ = some (.int .i64 m) := by rw [← hW0, cell_new_at (by simp)]; rfl
  have d2 : W0.cell? ⟨w1.heap.size + 2, 2, none⟩ = some (.int .i64 v) := by rw [← hW0, cell_new_at (by simp)]; rfl
  have d3 : W0.cell? ⟨w1.heap.size + 2, 3, none⟩ = some (.int .i64 b) := by rw [← hW0, cell_new_at (by simp)]; rfl
  have ds : W0.cell? ⟨w1.heap.size + 1, 0, none⟩ = some (.string s) := by rw [← hW0, cell_old_at (by simp), cell_new_at (by simp)]; rfl
  rw [hW0]
  clear bO c0 c1 c2 c3
  refine wpIn_rangeFunc_ownG rfl (by omega) (gf := 30) (lb := #[.pointer (some ⟨w1.heap.size + 2, 0, none⟩), .pointer (some ⟨w1.heap.size + 1, 0, none⟩)]) rfl trivial (enters_of Try.func30 (by kernel_rfl) rfl)
    (chunks_stops Fence.wide _ trivial rfl (by omega) (w1.heap.size + 2) (w1.heap.size + 1) s l m v b W0 hv1 hvl hlm hm hb16 hs (by omega) (by omega) d0 d1 d2 d3 ds) Kept2.t (Kept2.b (by omega) (by omega)) (Below.refl _ _) (fun _ => rfl)
    (fun pre W => (∃ v', Boxed W w1.heap.size 32 v' ∧ W.ownsRow W0.heap.size 3 1 v' pre.length (endVals (pre.map (·.1))) ∧ True) ∧ Below w1.heap.size W0 W)
    (fun _ _ _ => False)
    (OwnFrom.and (Own.from (holdsRow_own W0.heap.size w1.heap.size 32 3 1 (fun pre : List (Cut s.data.toList) => pre.length) (fun pre => endVals (pre.map (·.1))) (fun _ _ => True)) _) (ownFrom_below (by omega) (by omega)))
    (fun _ _ _ _ _ hs _ _ => hs)
    ⟨⟨_, bO0, World.ownsRow_nil _ _ _ _, trivial⟩, Below.refl _ _⟩
    (fun x => { tmps := #[.string s, .agg (pcells l m v b), undef, .pointer (some ⟨w.heap.size, 0, none⟩), .slice none 0 0, .int .i64 0, .int .i64 0, .pointer (some ⟨w1.heap.size, 0, none⟩), undef, .int .i64 x.1.2, .agg (pcells l m v b), .string s, .slice (some ⟨w.heap.size + 1, 0, none⟩) 1 1, .int .i64 0, .int .i64 0, .bool false, undef, .string s, .agg (pcells l m v b), .func (.func 30) #[] #[.pointer (some ⟨w1.heap.size + 2, 0, none⟩), .pointer (some ⟨w1.heap.size + 1, 0, none⟩)], .int .i64 x.1.1, .int .i64 x.1.2, undef, undef, undef, undef, undef], defers := [] }) ?assign ?body ?done ?stop
  case assign =>
    intro l x W K hK
    gi_wp2
    exact hK
  case body =>
    rintro l' pre x W ⟨⟨v', hv, hrow, -⟩, hB⟩ hlt
    have hc := hv.cell
    have hrl := hB.size
    gi_wp2_with (gi_at_builtin; go_must (refine wpListIn_append_own _ rfl _ _ 32 rfl W0.heap.size 3 i0 (.int .i64 0) 1 8 Try.underlying32 hi hz0 hz1 hz2 rfl (by decide) _ _ _ rfl (hrow.alloc _) ⟨W.heap.size, 0, none⟩ 1 1 [.int .i64 x.1.2] rfl rfl (cell_one_new _ _ _) (by simp [Value.oneCell']) (by unfold maxLen; omega) (by omega) (by simp; omega) ?_); intro v'' w2 hown' hgrow _; obtain ⟨g', cap', rfl⟩ := ownsRow_succ hown'; obtain ⟨hv1, hv2, hr2, hk2, hb2, hx2⟩ := appended_x hv hrow hrl (by omega) hown' hgrow; have hc1 := hv1.cell; have hf1 := hv1.frozen)
    exact ⟨hk2.from _, ⟨hx2 _ (by omega) (by omega), hx2 _ (by omega) (by omega)⟩, ⟨_, hv2, by simpa [endVals] using hr2, trivial⟩, hB.trans hb2⟩
  case done =>
    rintro D ys W hD hys ⟨⟨v', hv, hrow, -⟩, hB⟩ hK
    have hc := hv.cell
    gi_wp2
    refine ⟨by simp, .inl ⟨_, _, rfl, run_takeDeferred hK, ?_⟩⟩
    have hput : Below w1.heap.size W0 (W.putObj D (.deferred none)) := hB.trans (belowK_b (w := W0) (by omega) W D _ _ hD hK rfl rfl)
    refine ⟨_, results_tmp2 rfl _ _ _, v', rfl, ?_, hB0.trans (hput.mono (by omega))⟩
    rw [← hys, List.length_map]
    exact ownsRow_putObj (ownsRow_base hrow (by omega)) _ hK rfl
  case stop =>
    rintro D c pre W _ _ h _
    exact h.elim
end Go.Proofs.Ytmebjjoldhcgpaa
