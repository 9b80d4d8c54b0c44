/-
  chunk.Fresh: the bytes in chunks that are not known.
-/
import Derived.Maps.OwnIn
import Derived.Test.YtmebjjoldhcgpaaStrSet
namespace Go.Proofs.Ytmebjjoldhcgpaa
open Go.RowKit Go.Shelf
attribute [local go_sem] Oper.semAt_some

/-- Own from B on: what lies below stays, but block X. -/
theorem ownFrom_keptX {β : Type} {n X B : Nat} {w₀ : World} (hB : n ≤ B) (hw : n ≤ w₀.heap.size) : OwnFrom B (fun (_ : β) W => KeptX n X w₀ W ∧ w₀.heap.size ≤ W.heap.size) :=
  fun _ W W' row hs hg hr => ⟨fun k hk hx => (hg.block k (by have := hs.2; omega) (fun e => by have := (hr k e.symm).1; omega)).trans (hs.1 k hk hx), Nat.le_trans hs.2 hg.size⟩

theorem ownFrom_set {β : Type} {b B : Nat} {f : β → Nat} {S : β → List ByteArray} (hB : b < B) : OwnFrom B (fun (x : β) W => OwnSet W b (f x) (S x)) :=
  fun _ W W' row hs hg hr => hs.of_block (hg.block b hs.lt (fun e => by have := (hr b e.symm).1; omega))

theorem KeptX.cellv {B X : Nat} {W w' : World} (h : KeptX B X W w') {b : Nat} (hb : b < B) (hx : b ≠ X) (o : Nat) : w'.cell? ⟨b, o, none⟩ = W.cell? ⟨b, o, none⟩ := World.cell?_of_block (a := ⟨b, o, none⟩) (h b hb hx)
theorem total_cuts (s : ByteArray) (pre : List (Cut s.data.toList)) : total ((pre.map (·.1)).map (sub s)) ≤ pre.length * s.size := by
  induction pre with
  | nil => simp [total]
  | cons x pre ih =>
    unfold total at ih ⊢
    simp only [List.map_cons, List.sum_cons, List.length_cons, Nat.add_mul, Nat.one_mul]
    have : (sub s x.1).size ≤ s.size := by simp [sub, ByteArray.size_extract]; omega
    omega
theorem subs_append (s : ByteArray) (pre : List (Cut s.data.toList)) (x : Cut s.data.toList) : ((pre ++ [x]).map (·.1)).map (sub s) = (pre.map (·.1)).map (sub s) ++ [sub s x.1] := by simp

set_option maxRecDepth 100000 in
set_option maxHeartbeats 8000000 in
theorem Fresh_ok (s t : ByteArray) (l m v b : Nat) (w : World) (hv1 : 1 ≤ v) (hvl : v ≤ l) (hlm : l ≤ m) (hm : m ≤ 65536) (hb16 : b ≤ 16) (hs : s.size ≤ 65536) (ht : t.size ≤ 65536) :
    Calls Try.prog 16 #[.string s, .string t, .agg (pcells l m v b)] w fun e w' => e = .returned (.tuple #[.int .i64 (freshN (chunksOf s l m v b) (chunksOf t l m v b) : Nat), .int .i64 0]) ∧ Below w.heap.size w w' := by
  have hE : checkE l m v b = 0 := by unfold checkE; rw [if_neg (by omega)]
  have hNs := cuts_length s.data.toList l m v b
  have hNt := cuts_length t.data.toList l m v b
  have hNs' : s.data.toList.length = s.size := rfl
  have hNt' : t.data.toList.length = t.size := rfl
  rw [hNs'] at hNs
  rw [hNt'] at hNt
  refine (callsIn_wide (n := 3)).1 ?_
  refine callsIn_of_wp_marks Try.func16 rfl trivial ?_ rfl
  simp only [Try.ntmps16, List.size_toArray, List.length_cons, List.length_nil, Nat.reduceAdd, Nat.reduceSub, Array.replicate_succ, Array.replicate_zero, List.push_toArray, List.append_toArray, List.nil_append, List.cons_append]
  gi_wp2_with fail
  refine ⟨trivial, (callsIn_wide.2 (checkAll_any l m v b (w.heap.size + 3) 2 2 _ (by omega) (by simp) (by omega) ?_)).mono ?_⟩
  · intro j hj
    rcases (show j = 0 ∨ j = 1 by omega) with rfl | rfl
    · exact ⟨s, by rw [cell_new_at (by simp)]; rfl, hs⟩
    · exact ⟨t, by rw [cell_new_at (by simp)]; rfl, ht⟩
  rintro e w1 ⟨rfl, hb1⟩
  have hb01 : Below (w.heap.size + 4) ((((w.alloc (Obj.cells #[Value.string s] 9)).alloc (Obj.cells #[Value.string t] 9)).alloc (Obj.cells (pcells l m v b) 23)).alloc (Obj.cells #[Value.string s, Value.string t] 9)) w1 := by simpa using hb1
  have hzw : w.heap.size + 4 ≤ w1.heap.size := by have := hb01.size; simpa using this
  have hw1 : Below w.heap.size w w1 := (((((Below.refl _ _).alloc (Nat.le_refl _) _).alloc (by simp) _).alloc (by simp <;> omega) _).alloc (by simp <;> omega) _).trans (hb01.mono (by omega))
  have hlt0 : w.heap.size < w1.heap.size := by omega
  have hlt1 : w.heap.size + 1 < w1.heap.size := by omega
  have hlt2 : w.heap.size + 2 < w1.heap.size := by omega
  have c0 : w1.cell? ⟨w.heap.size + 2, 0, none⟩ = some (.int .i64 l) := by rw [bc hb01 (by omega), cell_old_at (by simp <;> omega), cell_new_at (by simp)]; rfl
  have c1 : w1.cell? ⟨w.heap.size + 2, 1, none⟩ = some (.int .i64 m) := by rw [bc hb01 (by omega), cell_old_at (by simp <;> omega), cell_new_at (by simp)]; rfl
  have c2 : w1.cell? ⟨w.heap.size + 2, 2, none⟩ = some (.int .i64 v) := by rw [bc hb01 (by omega), cell_old_at (by simp <;> omega), cell_new_at (by simp)]; rfl
  have c3 : w1.cell? ⟨w.heap.size + 2, 3, none⟩ = some (.int .i64 b) := by rw [bc hb01 (by omega), cell_old_at (by simp <;> omega), cell_new_at (by simp)]; rfl
  have cs : w1.cell? ⟨w.heap.size, 0, none⟩ = some (.string s) := by rw [bc hb01 (by omega), cell_old_at (by simp <;> omega), cell_old_at (by simp <;> omega), cell_old_at (by simp <;> omega), cell_new_at rfl]; rfl
  have ct : w1.cell? ⟨w.heap.size + 1, 0, none⟩ = some (.string t) := by rw [bc hb01 (by omega), cell_old_at (by simp <;> omega), cell_old_at (by simp <;> omega), cell_new_at (by simp)]; rfl
  clear hb1
  rw [hE]
  have HE := lid hE
  have hmm := @run_makeMap Try.prog
  clear hE
  gi_wp2_with fail
  refine ⟨trivial, (callsIn_wide.2 (chunks_fn s l m v b _)).mono ?_⟩
  rintro e w' ⟨rfl, rfl⟩
  gi_wp2_with fail
  have bM : OwnSet (w1.alloc (.map #[] 0)) w1.heap.size 0 [] := World.ownsMap_made _ _ _ _
  obtain ⟨W0, hW0⟩ : ∃ W0, (((w1.alloc (Obj.map #[] 0)).alloc (Obj.cells #[Value.map (some w1.heap.size)] 51)).alloc (Obj.cells #[Value.string s] 9)).alloc (Obj.cells (pcells l m v b) 23) = W0 := ⟨_, rfl⟩
  have hsz : W0.heap.size = w1.heap.size + 4 := by rw [← hW0]; simp
  have hB0 : Below w1.heap.size w1 W0 := by rw [← hW0]; exact ((((Below.refl _ _).alloc (Nat.le_refl _) _).alloc (by simp) _).alloc (by simp <;> omega) _).alloc (by simp <;> omega) _
  have bM0 : OwnSet W0 w1.heap.size 0 [] := by rw [← hW0]; exact ((bM.alloc _).alloc _).alloc _
  have d0 : W0.cell? ⟨w1.heap.size + 3, 0, none⟩ = some (.int .i64 l) := by rw [← hW0, cell_new_at (by simp)]; rfl
  have d1 : W0.cell? ⟨w1.heap.size + 3, 1, none⟩ = some (.int .i64 m) := by rw [← hW0, cell_new_at (by simp)]; rfl
  have d2 : W0.cell? ⟨w1.heap.size + 3, 2, none⟩ = some (.int .i64 v) := by rw [← hW0, cell_new_at (by simp)]; rfl
  have d3 : W0.cell? ⟨w1.heap.size + 3, 3, none⟩ = some (.int .i64 b) := by rw [← hW0, cell_new_at (by simp)]; rfl
  have ds : W0.cell? ⟨w1.heap.size + 2, 0, none⟩ = some (.string s) := by rw [← hW0, cell_old_at (by simp <;> omega), cell_new_at (by simp)]; rfl
  have dm : W0.cell? ⟨w1.heap.size + 1, 0, none⟩ = some (.map (some w1.heap.size)) := by rw [← hW0, cell_old_at (by simp <;> omega), cell_old_at (by simp <;> omega), cell_new_at (by simp)]; rfl
  have es : W0.cell? ⟨w.heap.size, 0, none⟩ = some (.string s) := (bc hB0 (by omega) 0).trans cs
  have et : W0.cell? ⟨w.heap.size + 1, 0, none⟩ = some (.string t) := (bc hB0 (by omega) 0).trans ct
  have e0 : W0.cell? ⟨w.heap.size + 2, 0, none⟩ = some (.int .i64 l) := (bc hB0 (by omega) 0).trans c0
  have e1 : W0.cell? ⟨w.heap.size + 2, 1, none⟩ = some (.int .i64 m) := (bc hB0 (by omega) 1).trans c1
  have e2 : W0.cell? ⟨w.heap.size + 2, 2, none⟩ = some (.int .i64 v) := (bc hB0 (by omega) 2).trans c2
  have e3 : W0.cell? ⟨w.heap.size + 2, 3, none⟩ = some (.int .i64 b) := (bc hB0 (by omega) 3).trans c3
  rw [hW0]
  clear bM c0 c1 c2 c3 cs ct hW0 hmm
  have hszA := Nat.le_of_eq hsz
  have hszB := Nat.le_of_eq hsz.symm
  clear hsz
  refine wpIn_rangeFunc_ownG rfl (by omega) (gf := 30) (lb := #[.pointer (some ⟨w1.heap.size + 3, 0, none⟩), .pointer (some ⟨w1.heap.size + 2, 0, none⟩)]) rfl trivial (enters_of Try.func30 (by kernel_rfl) rfl)
    (chunks_stops Fence.wide _ trivial rfl (by omega) (w1.heap.size + 3) (w1.heap.size + 2) s l m v b W0 hv1 hvl hlm hm hb16 hs (by omega) (by omega) d0 d1 d2 d3 ds) Kept2.t (Kept2.b (by omega) (by omega)) (Below.refl _ _) (fun _ => rfl)
    (fun pre W => OwnSet W w1.heap.size pre.length ((pre.map (·.1)).map (sub s)) ∧ (KeptX W0.heap.size w1.heap.size W0 W ∧ W0.heap.size ≤ W.heap.size) ∧ Below w1.heap.size W0 W)
    (fun _ _ _ => False)
    (OwnFrom.and (ownFrom_set (by omega)) (OwnFrom.and (ownFrom_keptX (Nat.le_refl _) (Nat.le_refl _)) (ownFrom_below (by omega) (by omega))))
    (fun _ _ _ _ _ hs _ _ => hs)
    ⟨bM0, ⟨KeptX.refl _ _ _, Nat.le_refl _⟩, Below.refl _ _⟩
    (fun x => { tmps := #[.string s, .string t, .agg (pcells l m v b), .pointer (some ⟨w.heap.size, 0, none⟩), .pointer (some ⟨w.heap.size + 1, 0, none⟩), .pointer (some ⟨w.heap.size + 2, 0, none⟩), .int .i64 0, .int .i64 0, .int .i64 0, .pointer (some ⟨w1.heap.size + 1, 0, none⟩), .int .i64 x.1.1, .int .i64 x.1.2, undef, undef, undef, .agg (pcells l m v b), .string s, .string t, .slice (some ⟨w.heap.size + 3, 0, none⟩) 2 2, .int .i64 0, .int .i64 0, .bool false, undef, .map (some w1.heap.size), .string s, .agg (pcells l m v b), .func (.func 30) #[] #[.pointer (some ⟨w1.heap.size + 3, 0, none⟩), .pointer (some ⟨w1.heap.size + 2, 0, none⟩)], .int .i64 x.1.1, .int .i64 x.1.2, undef, undef, undef, undef, undef, undef, undef, undef, undef, undef, undef, undef, undef, undef, undef, undef, undef, undef, undef, undef, undef, undef, undef], defers := [] }) ?assign ?body ?done ?stop
  case assign =>
    intro l x W K hK
    gi_wp2
    exact hK
  case body =>
    rintro l' pre x W ⟨hset, ⟨hkx, hzW⟩, hB⟩ hlt
    have f0 := (hkx.cellv (b := w.heap.size) (by omega) (by omega) 0).trans es
    have f1 := (hkx.cellv (b := w1.heap.size + 1) (by omega) (by omega) 0).trans dm
    obtain ⟨hx1, hx2⟩ := x.2
    have hlx : x.1.2 ≤ s.size := hx2
    have hq1 : w1.heap.size + 1 < W0.heap.size := by omega
    have hq2 : w.heap.size < W0.heap.size := by omega
    have hq3 : (x.1.1 : Int) ≤ (x.1.2 : Int) := by omega
    have hq4 : (x.1.2 : Int) ≤ (s.size : Int) := by omega
    have hxs : (s.extract x.1.1 x.1.2).size ≤ maxLen := by unfold maxLen; simp [ByteArray.size_extract]; omega
    gi_wp2
    refine wpIn_region_seqL 5 (fun w' => ∃ s : Since W0.heap.size W, w' = s.world) [(0, true), (1, true), (2, true), (3, true), (4, true), (5, false)] (by kernel_rfl) (by kernel_rfl) (since (Below.refl _ _).drew) ?_
    repeat (first | (refine seqL_skip (by rfl) (by rfl) (by rfl) ?_; simp only [Act.put, List.setIfInBounds_toArray, List.set_cons_succ, List.set_cons_zero]) | (refine seqL_float (by rfl) (by rfl) (by rfl) (by rfl) ?_; intro K hK; go_big_quiet_op; go_big_quiet_on))
    refine seqL_last (by rfl) (by rfl) ?_
    intro K hK
    go_wp2_with (at_mapUpdate; go_must (refine wpList_mapUpdate_own _ rfl _ _ _ 51 rfl 9 4 (Maps.string_keyed Try.underlying9) Try.underlying51 _ w1.heap.size pre.length _ rfl hset.drew (by unfold maxLen; omega) _ _ (keyS (s.extract x.1.1 x.1.2)) rfl rfl (WideMaps.keyOf_string_mk Try.underlying9 hxs) (.lit (.bool true)) [] (plainElem_bool Try.underlying4 true) ?_))
    intro w2 hown2 hgrow2
    go_wp2_with fail
    refine hK.out _ _ ⟨rfl, ?_⟩
    clear hK K
    gi_wp2_with fail
    exact ⟨((KeepsOthers.drew W).from _).trans (KeepsFrom.of_grownBy hgrow2 (fun j e => by cases e; omega)), ⟨hgrow2.block _ (by show _ < W.heap.size; omega) (fun e => by have := Option.some.inj e; omega), hgrow2.block _ (by show _ < W.heap.size; omega) (fun e => by have := Option.some.inj e; omega)⟩,
      by rw [List.length_append, subs_append, OwnSet, setD_snoc]; exact hown2,
      ⟨fun k hk hkx' => (hgrow2.block k (by show _ < W.heap.size; omega) (fun e => by have := Option.some.inj e; omega)).trans (hkx k hk hkx'), Nat.le_trans hzW hgrow2.size⟩, hB.trans ((Below.refl _ W).drew.grown hgrow2 (by show _ ≤ W.heap.size; omega) (fun k e => by cases e; exact Nat.le_refl _))⟩
  case done =>
    rintro D ys W hD hys ⟨hset, ⟨hkx, hzW⟩, hB⟩ hK
    have hset' : OwnSet W w1.heap.size ys.length (chunksOf s l m v b) := by
      rw [hys, sub_chunks hv1 hvl] at hset
      exact hset
    generalize hC : chunksOf s l m v b = C at *
    have HC := lid hC
    clear hC
    have f0 := (hkx.cellv (b := w.heap.size + 1) (by omega) (by omega) 0).trans et
    have f1 := (hkx.cellv (b := w1.heap.size + 1) (by omega) (by omega) 0).trans dm
    have g0 := (hkx.cellv (b := w.heap.size + 2) (by omega) (by omega) 0).trans e0
    have g1 := (hkx.cellv (b := w.heap.size + 2) (by omega) (by omega) 1).trans e1
    have g2 := (hkx.cellv (b := w.heap.size + 2) (by omega) (by omega) 2).trans e2
    have g3 := (hkx.cellv (b := w.heap.size + 2) (by omega) (by omega) 3).trans e3
    have hlw0 : w.heap.size < W.heap.size := by omega
    have hlw1 : w.heap.size + 1 < W.heap.size := by omega
    have hlw2 : w.heap.size + 2 < W.heap.size := by omega
    have hDW : D < W.heap.size := (Array.getElem?_eq_some_iff.1 hK).1
    have hw1W : Below w.heap.size w W := hw1.trans ((hB0.mono (by omega)).trans (hB.mono (by omega)))
    clear hset hys es et e0 e1 e2 e3 dm ds d0 d1 d2 d3 bM0 hkx hB hB0
    gi_wp2_with fail
    refine ⟨trivial, (callsIn_wide.2 (chunks_fn t l m v b _)).mono ?_⟩
    rintro e w' ⟨rfl, rfl⟩
    gi_wp2_with fail
    have bN := Boxed.new W 3 (.int .i64 0)
    obtain ⟨V0, hV0⟩ : ∃ V0, ((W.alloc (Obj.cells #[Value.int .i64 0] 3)).alloc (Obj.cells #[Value.string t] 9)).alloc (Obj.cells (pcells l m v b) 23) = V0 := ⟨_, rfl⟩
    have hvz : V0.heap.size = W.heap.size + 3 := by rw [← hV0]; simp
    have hB1 : Below W.heap.size W V0 := by rw [← hV0]; exact (((Below.refl _ _).alloc (Nat.le_refl _) _).alloc (by simp) _).alloc (by simp <;> omega) _
    have bN0 : Boxed V0 W.heap.size 3 (.int .i64 0) := by rw [← hV0]; exact (bN.alloc _).alloc _
    have d0 : V0.cell? ⟨W.heap.size + 2, 0, none⟩ = some (.int .i64 l) := by rw [← hV0, cell_new_at (by simp)]; rfl
    have d1 : V0.cell? ⟨W.heap.size + 2, 1, none⟩ = some (.int .i64 m) := by rw [← hV0, cell_new_at (by simp)]; rfl
    have d2 : V0.cell? ⟨W.heap.size + 2, 2, none⟩ = some (.int .i64 v) := by rw [← hV0, cell_new_at (by simp)]; rfl
    have d3 : V0.cell? ⟨W.heap.size + 2, 3, none⟩ = some (.int .i64 b) := by rw [← hV0, cell_new_at (by simp)]; rfl
    have ds : V0.cell? ⟨W.heap.size + 1, 0, none⟩ = some (.string t) := by rw [← hV0, cell_old_at (by simp), cell_new_at (by simp)]; rfl
    have et := (bc hB1 (by omega : w.heap.size + 1 < W.heap.size) 0).trans f0
    have em := (bc hB1 (by omega : w1.heap.size + 1 < W.heap.size) 0).trans f1
    have hsetV : OwnSet V0 w1.heap.size ys.length C := hset'.of_block (hB1.block _ (by omega))
    have hKV := (hB1.block D hDW).trans hK
    rw [hV0]
    clear bN hV0 f0 f1 g0 g1 g2 g3 hset'
    have hvA := Nat.le_of_eq hvz
    have hvB := Nat.le_of_eq hvz.symm
    clear hvz
    refine wpIn_rangeFunc_ownG rfl (by omega) (gf := 30) (lb := #[.pointer (some ⟨W.heap.size + 2, 0, none⟩), .pointer (some ⟨W.heap.size + 1, 0, none⟩)]) rfl trivial (enters_of Try.func30 (by kernel_rfl) rfl)
      (chunks_stops Fence.wide _ trivial rfl (by omega) (W.heap.size + 2) (W.heap.size + 1) t l m v b V0 hv1 hvl hlm hm hb16 ht (by omega) (by omega) d0 d1 d2 d3 ds) Kept2.t (Kept2.b (by omega) (by omega)) (Below.refl _ _) (fun _ => rfl)
      (fun pre V => Boxed V W.heap.size 3 (.int .i64 (freshN C ((pre.map (·.1)).map (sub t)) : Nat)) ∧ KeptX V0.heap.size W.heap.size V0 V ∧ V0.heap.size ≤ V.heap.size ∧ Below W.heap.size V0 V)
      (fun _ _ _ => False)
      (OwnFrom.and (Own.from (boxed_own _ _ _) _) (fun s V V' row hs hg hr => ⟨((ownFrom_keptX (Nat.le_refl _) (Nat.le_refl _)) s V V' row ⟨hs.1, hs.2.1⟩ hg hr).1, Nat.le_trans hs.2.1 hg.size, (ownFrom_below (by omega) (by omega)) s V V' row hs.2.2 hg hr⟩))
      (fun _ _ _ _ _ hs _ _ => hs)
      ⟨bN0, KeptX.refl _ _ _, Nat.le_refl _, Below.refl _ _⟩
      (fun x => { tmps := #[.string s, .string t, .agg (pcells l m v b), .pointer (some ⟨w.heap.size, 0, none⟩), .pointer (some ⟨w.heap.size + 1, 0, none⟩), .pointer (some ⟨w.heap.size + 2, 0, none⟩), .int .i64 0, .int .i64 0, .int .i64 0, .pointer (some ⟨w1.heap.size + 1, 0, none⟩), undef, undef, .pointer (some ⟨W.heap.size, 0, none⟩), .int .i64 x.1.1, .int .i64 x.1.2, .agg (pcells l m v b), .string s, .string t, .slice (some ⟨w.heap.size + 3, 0, none⟩) 2 2, .int .i64 0, .int .i64 0, .bool false, undef, .map (some w1.heap.size), .string s, .agg (pcells l m v b), .func (.func 30) #[] #[.pointer (some ⟨w1.heap.size + 3, 0, none⟩), .pointer (some ⟨w1.heap.size + 2, 0, none⟩)], undef, undef, undef, undef, undef, undef, undef, .string t, .agg (pcells l m v b), .func (.func 30) #[] #[.pointer (some ⟨W.heap.size + 2, 0, none⟩), .pointer (some ⟨W.heap.size + 1, 0, none⟩)], .int .i64 x.1.1, .int .i64 x.1.2, undef, undef, undef, undef, undef, undef, undef, undef, undef, undef, undef, undef, undef], defers := [] }) ?assign2 ?body2 ?done2 ?stop2
    case assign2 =>
      intro l x W K hK
      gi_wp2
      exact hK
    case body2 =>
      rintro l' pre x V ⟨hbx, hkx, hzV, hB⟩ hlt
      have f0 := (hkx.cellv (b := w.heap.size + 1) (by omega) (by omega) 0).trans et
      have f1 := (hkx.cellv (b := w1.heap.size + 1) (by omega) (by omega) 0).trans em
      have hsetX := hsetV.of_block (hkx w1.heap.size (by omega) (by omega))
      obtain ⟨hx1, hx2⟩ := x.2
      have hlx : x.1.2 ≤ t.size := hx2
      have hq1 : w1.heap.size + 1 < V0.heap.size := by omega
      have hq2 : w.heap.size + 1 < V0.heap.size := by omega
      have hq3 : (x.1.1 : Int) ≤ (x.1.2 : Int) := by omega
      have hq4 : (x.1.2 : Int) ≤ (t.size : Int) := by omega
      have hxs : (t.extract x.1.1 x.1.2).size ≤ maxLen := by unfold maxLen; simp [ByteArray.size_extract]; omega
      have hlook : ∀ u : Since V0.heap.size V, (Instr.lookup 51 (.map (some w1.heap.size)) (.string (t.extract x.1.1 x.1.2)) false).run Try.prog u.world = .ok (.bool (memB (t.extract x.1.1 x.1.2) C)) u.world := fun u => (hsetX.of_block (u.2.block w1.heap.size (by omega))).look _ hxs
      have HS : Hid (((pre ++ [x]).map (·.1)).map (sub t) = (pre.map (·.1)).map (sub t) ++ [t.extract x.1.1 x.1.2]) := lid (subs_append t pre x)
      have hfb : freshN C ((pre.map (·.1)).map (sub t)) ≤ 4294967296 := Nat.le_trans (freshN_le _ _) (Nat.le_trans (total_cuts t pre) (by
        have : pre.length * t.size ≤ 65536 * 65536 := Nat.mul_le_mul (by omega) ht
        omega))
      have HF : Hid (freshN C (((pre ++ [x]).map (·.1)).map (sub t)) = freshN C ((pre.map (·.1)).map (sub t)) + if memB (t.extract x.1.1 x.1.2) C = true then 0 else (t.extract x.1.1 x.1.2).size) := lid (by rw [HS.out, freshN_snoc])
      have hxsz : (t.extract x.1.1 x.1.2).size = x.1.2 - x.1.1 := by simp [ByteArray.size_extract]; omega
      generalize hfn : freshN C ((pre.map (·.1)).map (sub t)) = fn at *
      cases hmem : memB (t.extract x.1.1 x.1.2) C with
      | true =>
        have HF2 : Hid (freshN C (((pre ++ [x]).map (·.1)).map (sub t)) = fn) := lid (by rw [HF.out, if_pos hmem]; rfl)
        rw [hmem] at hlook
        clear hmem hfn hxsz
        gi_wp2
        refine wpIn_region_seq (fun w' => ∃ s : Since V0.heap.size V, w' = s.world) [(0, true), (1, true), (2, true), (3, true), (4, true), (5, true), (6, true)] (by kernel_rfl) (by kernel_rfl) (since (Below.refl _ _).drew) ?_
        repeat (first | (refine seq_skip (by rfl) (by rfl) ?_; simp only [Act.put, List.setIfInBounds_toArray, List.set_cons_succ, List.set_cons_zero]) | (refine seq_float (by rfl) (by rfl) (by rfl) ?_; intro K hK; go_big_quiet_op; go_big_quiet_on))
        refine seq_nil ⟨rfl, ?_⟩
        gi_wp2_with fail
        exact ⟨(KeepsOthers.drew V).from _, Kept2.refl _ _ _, by rw [HF2.out]; exact hbx, hkx, hzV, hB.drew⟩
      | false =>
        have HF2 : Hid (freshN C (((pre ++ [x]).map (·.1)).map (sub t)) = fn + (x.1.2 - x.1.1)) := lid (by rw [HF.out, if_neg (by simp [hmem]), hxsz])
        rw [hmem] at hlook
        have hbc := hbx.cell
        have hbf := hbx.frozen
        clear hmem hfn hxsz
        gi_wp2
        refine wpIn_region_seq (fun w' => ∃ s : Since V0.heap.size V, w' = s.world) [(0, true), (1, true), (2, true), (3, true), (4, true), (5, true), (6, true)] (by kernel_rfl) (by kernel_rfl) (since (Below.refl _ _).drew) ?_
        repeat (first | (refine seq_skip (by rfl) (by rfl) ?_; simp only [Act.put, List.setIfInBounds_toArray, List.set_cons_succ, List.set_cons_zero]) | (refine seq_float (by rfl) (by rfl) (by rfl) ?_; intro K hK; go_big_quiet_op; go_big_quiet_on))
        refine seq_nil ⟨rfl, ?_⟩
        gi_wp2_with fail
        refine ⟨((KeepsOthers.drew V).trans (KeepsOthers.setCell _ _ _)).from _, ⟨Below.heap_setCell _ _ _ _ (by show W.heap.size + 2 ≠ W.heap.size; omega), Below.heap_setCell _ _ _ _ (by show W.heap.size + 1 ≠ W.heap.size; omega)⟩, ?_, hkx.drew.setCell (.inl rfl) _, by simp [World.setCell]; exact hzV, hB.drew.setCell (Nat.le_refl _) _⟩
        rw [HF2.out]
        have := Boxed.set (W := V.drew) (.int .i64 ((fn : Int) + ((x.1.2 : Int) - (x.1.1 : Int)))) hbx
        rw [show ((fn + (x.1.2 - x.1.1) : Nat) : Int) = (fn : Int) + ((x.1.2 : Int) - (x.1.1 : Int)) by omega]
        exact this
    case done2 =>
      rintro D2 zs V hD2 hzs ⟨hbx, hkx, hzV, hB⟩ hK2
      have hbc := hbx.cell
      rw [hzs, sub_chunks hv1 hvl] at hbx
      have hKD := (hkx D (by omega) (by omega)).trans hKV
      gi_wp2_with fail
      refine ⟨by simp, .inl ⟨_, _, rfl, run_takeDeferred hK2, ?_⟩⟩
      have hKD2 : (V.putObj D2 (.deferred none)).heap[D]? = some (.deferred (some [])) := (World.putObj_heap_other (by omega)).trans hKD
      refine ⟨by simp, .inl ⟨_, _, rfl, run_takeDeferred hKD2, ?_⟩⟩
      have hput : Below w.heap.size w ((V.putObj D2 (.deferred none)).putObj D (.deferred none)) :=
        (hw1W.trans (((hB1.trans hB).trans (belowK_b (w := V0) (by omega) V D2 _ _ hD2 hK2 rfl rfl)).mono (by omega))).trans (belowK_b (w := W0) (by omega) _ D _ _ hD hKD2 rfl rfl)
      refine ⟨_, results_tmp2 rfl _ _ _, ?_, hput⟩
      have e1 := HC.out
      subst e1
      rw [sub_chunks hv1 hvl]
      rfl
    case stop2 =>
      rintro D c pre W _ _ h _
      exact h.elim
  case stop =>
    rintro D c pre W _ _ h _
    exact h.elim
end Go.Proofs.Ytmebjjoldhcgpaa
