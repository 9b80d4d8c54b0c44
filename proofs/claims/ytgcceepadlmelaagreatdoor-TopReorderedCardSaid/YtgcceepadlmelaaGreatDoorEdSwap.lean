import Derived.Test.YtgcceepadlmelaaGreatDoorQAM
namespace Go.Proofs.YtgcceepadlmelaaGreatDoor
set_option maxRecDepth 100000
set_option maxHeartbeats 16000000
open Go.RowKit
theorem res_swap {fn : Func} (hf : fn.results = #[.cell 4 52, .cell 5 52, .tmp 6]) (t : Array Value) (w : World) (g q : Nat) (m n : Kw) (h4 : t.getD 4 undef = .pointer (some ⟨g, 0, none⟩)) (h5 : t.getD 5 undef = .pointer (some ⟨q, 0, none⟩)) (e : w.heap[g]? = some (.cells (kca m) 52 (0, 0))) (e' : w.heap[q]? = some (.cells (kca n) 52 (0, 0))) : (results fn t).run Tryz.prog w = .ok (.tuple #[.agg (kca m), .agg (kca n), t.getD 6 undef]) w := by
 have e0 : w.cell? ⟨g, 0, none⟩ = some (.int .i64 m.kind) := row_cell e 0
 have f0 : w.cell? ⟨q, 0, none⟩ = some (.int .i64 n.kind) := row_cell e' 0
 have e1 : w.cell? ⟨g, 1, none⟩ = some (.string m.pack) := row_cell e 1
 have f1 : w.cell? ⟨q, 1, none⟩ = some (.string n.pack) := row_cell e' 1
 have e2 : w.cell? ⟨g, 2, none⟩ = some (.string m.text) := row_cell e 2
 have f2 : w.cell? ⟨q, 2, none⟩ = some (.string n.text) := row_cell e' 2
 have e3 : w.cell? ⟨g, 3, none⟩ = some (.slice m.oa m.old.length m.ocap) := row_cell e 3
 have f3 : w.cell? ⟨q, 3, none⟩ = some (.slice n.oa n.old.length n.ocap) := row_cell e' 3
 have e4 : w.cell? ⟨g, 4, none⟩ = some (.slice m.na m.new.length m.ncap) := row_cell e 4
 have f4 : w.cell? ⟨q, 4, none⟩ = some (.slice n.na n.new.length n.ncap) := row_cell e' 4
 rw [Array.getD_eq_getD_getElem?] at h4 h5
 unfold results
 rw [hf]
 simp [go_sem, h4, h5, asAddr, e0, e1, e2, e3, e4, f0, f1, f2, f3, f4]
abbrev zkA : Array Value := #[.int .i64 0, .string ⟨#[]⟩, .string ⟨#[]⟩, .slice none 0 0, .slice none 0 0]
def zKw : Kw := ⟨0, ⟨#[]⟩, ⟨#[]⟩, none, [], 0, none, [], 0⟩
theorem Swap_any (a b : Kw) (w : World) (ha : KwA w a) (hb : KwA w b) (hfa : FitK a) (hfb : FitK b) (hta : TestK a) (htb : TestK b) :
  Calls Tryz.prog 23 #[.agg (kca a), .agg (kca b)] w fun r w' => r = .returned (if indK a b = true then .tuple #[.agg (kca b), .agg (kca a), .bool true] else .tuple #[.agg (kca zKw), .agg (kca zKw), .bool false]) ∧ Below w.heap.size w w' := by
 obtain ⟨W0, hW0⟩ : ∃ y, (((w.alloc (.cells (kca a) 52)).alloc (.cells (kca b) 52)).alloc (.cells zkA 52)).alloc (.cells zkA 52) = y := ⟨_, rfl⟩
 have hb0 : Below w.heap.size w W0 := by rw [← hW0]; exact (((ba _ _).alloc (by simp) _).alloc (by simp <;> omega) _).alloc (by simp <;> omega) _
 have hR : W0.heap[w.heap.size]? = some (.cells (kca a) 52 (0, 0)) ∧ W0.heap[w.heap.size + 1]? = some (.cells (kca b) 52 (0, 0)) ∧ W0.heap[w.heap.size + 1 + 1]? = some (.cells zkA 52 (0, 0)) ∧ W0.heap[w.heap.size + 1 + 1 + 1]? = some (.cells zkA 52 (0, 0)) := by
  rw [← hW0]
  refine ⟨?_, ?_, ?_, ?_⟩
  ·exact (h_old (by simp <;> omega) _).trans ((h_old (by simp <;> omega) _).trans ((h_old (by simp) _).trans (h_new rfl _)))
  ·exact (h_old (by simp <;> omega) _).trans ((h_old (by simp) _).trans (h_new (by simp) _))
  ·exact (h_old (by simp) _).trans (h_new (by simp) _)
  ·exact h_new (by simp) _
 have HRR : Hid (∀ W, Below W0.heap.size W0 W → W.heap[w.heap.size]? = some (.cells (kca a) 52 (0, 0)) ∧ W.heap[w.heap.size + 1]? = some (.cells (kca b) 52 (0, 0)) ∧ W.heap[w.heap.size + 1 + 1]? = some (.cells zkA 52 (0, 0)) ∧ W.heap[w.heap.size + 1 + 1 + 1]? = some (.cells zkA 52 (0, 0))) := lid (fun W hW => ⟨(hW.block _ (row_lt hR.1)).trans hR.1, (hW.block _ (row_lt hR.2.1)).trans hR.2.1, (hW.block _ (row_lt hR.2.2.1)).trans hR.2.2.1, (hW.block _ (row_lt hR.2.2.2)).trans hR.2.2.2⟩)
 have CA := lid (EdCheck_any a W0 (ha.below hb0) hfa hta)
 have CB := lid (fun (W : World) (hW : Below w.heap.size w W) => EdCheck_any b W (hb.below hW) hfb htb)
 have CI := lid (fun (W : World) (hW : Below w.heap.size w W) => independent_any a b W (ha.below hW) (hb.below hW) hfa hfb)
 obtain ⟨bi, hbi⟩ : ∃ y, indK a b = y := ⟨_, rfl⟩
 rw [hbi] at CI ⊢
 have HW0 := lid hW0
 have HB0 := lid hb0
 have x0 : W0.cell? ⟨w.heap.size, 0, none⟩ = some (.int .i64 a.kind) := row_cell (HRR.out _ (Below.refl _ _)).1 0
 have y0 : W0.cell? ⟨w.heap.size + 1, 0, none⟩ = some (.int .i64 b.kind) := row_cell (HRR.out _ (Below.refl _ _)).2.1 0
 have x1 : W0.cell? ⟨w.heap.size, 1, none⟩ = some (.string a.pack) := row_cell (HRR.out _ (Below.refl _ _)).1 1
 have y1 : W0.cell? ⟨w.heap.size + 1, 1, none⟩ = some (.string b.pack) := row_cell (HRR.out _ (Below.refl _ _)).2.1 1
 have x2 : W0.cell? ⟨w.heap.size, 2, none⟩ = some (.string a.text) := row_cell (HRR.out _ (Below.refl _ _)).1 2
 have y2 : W0.cell? ⟨w.heap.size + 1, 2, none⟩ = some (.string b.text) := row_cell (HRR.out _ (Below.refl _ _)).2.1 2
 have x3 : W0.cell? ⟨w.heap.size, 3, none⟩ = some (.slice a.oa a.old.length a.ocap) := row_cell (HRR.out _ (Below.refl _ _)).1 3
 have y3 : W0.cell? ⟨w.heap.size + 1, 3, none⟩ = some (.slice b.oa b.old.length b.ocap) := row_cell (HRR.out _ (Below.refl _ _)).2.1 3
 have x4 : W0.cell? ⟨w.heap.size, 4, none⟩ = some (.slice a.na a.new.length a.ncap) := row_cell (HRR.out _ (Below.refl _ _)).1 4
 have y4 : W0.cell? ⟨w.heap.size + 1, 4, none⟩ = some (.slice b.na b.new.length b.ncap) := row_cell (HRR.out _ (Below.refl _ _)).2.1 4
 have lx := row_lt (HRR.out _ (Below.refl _ _)).1
 have ly := row_lt (HRR.out _ (Below.refl _ _)).2.1
 clear ha hb hfa hfb hta htb hbi hW0 hb0 hR
 go_enter Tryz.func23, Tryz.ntmps23
 go_wp2_with fail
 rw [HW0.out]
 go_wp2_with fail
 (with_reducible refine (CA.out).mono ?_); rintro e w1 ⟨rfl, hb1⟩
 have H1 := lid hb1
 clear hb1 CA x0 x1 x2 x3 x4 y0 y1 y2 y3 y4 lx ly
 have x0 : w1.cell? ⟨w.heap.size, 0, none⟩ = some (.int .i64 a.kind) := row_cell (HRR.out _ H1.out).1 0
 have y0 : w1.cell? ⟨w.heap.size + 1, 0, none⟩ = some (.int .i64 b.kind) := row_cell (HRR.out _ H1.out).2.1 0
 have x1 : w1.cell? ⟨w.heap.size, 1, none⟩ = some (.string a.pack) := row_cell (HRR.out _ H1.out).1 1
 have y1 : w1.cell? ⟨w.heap.size + 1, 1, none⟩ = some (.string b.pack) := row_cell (HRR.out _ H1.out).2.1 1
 have x2 : w1.cell? ⟨w.heap.size, 2, none⟩ = some (.string a.text) := row_cell (HRR.out _ H1.out).1 2
 have y2 : w1.cell? ⟨w.heap.size + 1, 2, none⟩ = some (.string b.text) := row_cell (HRR.out _ H1.out).2.1 2
 have x3 : w1.cell? ⟨w.heap.size, 3, none⟩ = some (.slice a.oa a.old.length a.ocap) := row_cell (HRR.out _ H1.out).1 3
 have y3 : w1.cell? ⟨w.heap.size + 1, 3, none⟩ = some (.slice b.oa b.old.length b.ocap) := row_cell (HRR.out _ H1.out).2.1 3
 have x4 : w1.cell? ⟨w.heap.size, 4, none⟩ = some (.slice a.na a.new.length a.ncap) := row_cell (HRR.out _ H1.out).1 4
 have y4 : w1.cell? ⟨w.heap.size + 1, 4, none⟩ = some (.slice b.na b.new.length b.ncap) := row_cell (HRR.out _ H1.out).2.1 4
 have lx := row_lt (HRR.out _ H1.out).1
 have ly := row_lt (HRR.out _ H1.out).2.1
 go_wp2_with fail
 (with_reducible refine (CB.out w1 (HB0.out.trans (H1.out.mono HB0.out.size))).mono ?_); rintro e w2 ⟨rfl, hb2⟩
 have H2 := lid (H1.out.trans (hb2.mono H1.out.size))
 clear hb2 CB x0 x1 x2 x3 x4 y0 y1 y2 y3 y4 lx ly
 have x0 : w2.cell? ⟨w.heap.size, 0, none⟩ = some (.int .i64 a.kind) := row_cell (HRR.out _ H2.out).1 0
 have y0 : w2.cell? ⟨w.heap.size + 1, 0, none⟩ = some (.int .i64 b.kind) := row_cell (HRR.out _ H2.out).2.1 0
 have x1 : w2.cell? ⟨w.heap.size, 1, none⟩ = some (.string a.pack) := row_cell (HRR.out _ H2.out).1 1
 have y1 : w2.cell? ⟨w.heap.size + 1, 1, none⟩ = some (.string b.pack) := row_cell (HRR.out _ H2.out).2.1 1
 have x2 : w2.cell? ⟨w.heap.size, 2, none⟩ = some (.string a.text) := row_cell (HRR.out _ H2.out).1 2
 have y2 : w2.cell? ⟨w.heap.size + 1, 2, none⟩ = some (.string b.text) := row_cell (HRR.out _ H2.out).2.1 2
 have x3 : w2.cell? ⟨w.heap.size, 3, none⟩ = some (.slice a.oa a.old.length a.ocap) := row_cell (HRR.out _ H2.out).1 3
 have y3 : w2.cell? ⟨w.heap.size + 1, 3, none⟩ = some (.slice b.oa b.old.length b.ocap) := row_cell (HRR.out _ H2.out).2.1 3
 have x4 : w2.cell? ⟨w.heap.size, 4, none⟩ = some (.slice a.na a.new.length a.ncap) := row_cell (HRR.out _ H2.out).1 4
 have y4 : w2.cell? ⟨w.heap.size + 1, 4, none⟩ = some (.slice b.na b.new.length b.ncap) := row_cell (HRR.out _ H2.out).2.1 4
 have lx := row_lt (HRR.out _ H2.out).1
 have ly := row_lt (HRR.out _ H2.out).2.1
 go_wp2_with fail
 (with_reducible refine (CI.out w2 (HB0.out.trans (H2.out.mono HB0.out.size))).mono ?_); rintro e w3 ⟨rfl, hb3⟩
 have H3 := lid (H2.out.trans (hb3.mono H2.out.size))
 clear hb3 CI x0 x1 x2 x3 x4 y0 y1 y2 y3 y4 lx ly
 have x0 : w3.cell? ⟨w.heap.size, 0, none⟩ = some (.int .i64 a.kind) := row_cell (HRR.out _ H3.out).1 0
 have y0 : w3.cell? ⟨w.heap.size + 1, 0, none⟩ = some (.int .i64 b.kind) := row_cell (HRR.out _ H3.out).2.1 0
 have x1 : w3.cell? ⟨w.heap.size, 1, none⟩ = some (.string a.pack) := row_cell (HRR.out _ H3.out).1 1
 have y1 : w3.cell? ⟨w.heap.size + 1, 1, none⟩ = some (.string b.pack) := row_cell (HRR.out _ H3.out).2.1 1
 have x2 : w3.cell? ⟨w.heap.size, 2, none⟩ = some (.string a.text) := row_cell (HRR.out _ H3.out).1 2
 have y2 : w3.cell? ⟨w.heap.size + 1, 2, none⟩ = some (.string b.text) := row_cell (HRR.out _ H3.out).2.1 2
 have x3 : w3.cell? ⟨w.heap.size, 3, none⟩ = some (.slice a.oa a.old.length a.ocap) := row_cell (HRR.out _ H3.out).1 3
 have y3 : w3.cell? ⟨w.heap.size + 1, 3, none⟩ = some (.slice b.oa b.old.length b.ocap) := row_cell (HRR.out _ H3.out).2.1 3
 have x4 : w3.cell? ⟨w.heap.size, 4, none⟩ = some (.slice a.na a.new.length a.ncap) := row_cell (HRR.out _ H3.out).1 4
 have y4 : w3.cell? ⟨w.heap.size + 1, 4, none⟩ = some (.slice b.na b.new.length b.ncap) := row_cell (HRR.out _ H3.out).2.1 4
 have lx := row_lt (HRR.out _ H3.out).1
 have ly := row_lt (HRR.out _ H3.out).2.1
 cases bi with
 | false =>
  have hzr := (HRR.out _ H3.out).2.2
  have hth := there_row (o := 0) (n := 5) hzr.1 (by simp)
  have HTH := lid hth
  have HZR := lid hzr
  clear hth hzr
  go_wp2_with (refine wpList_store_to rfl 52 (.tmp 4) (.tmp 21) rfl (w.heap.size + 1 + 1) 0 zkA rfl rfl HTH.out (by kernel_rfl) (by simp [Value.oneCell']) ?_)
  intro w5 hw5
  have HE5 : Hid (w5.heap[w.heap.size + 1 + 1]? = some (.cells zkA 52 (0, 0))) := lid (by rw [← hw5.out]; exact row_whole (vs := zkA) HZR.out.1 rfl)
  have HF5 : Hid (w5.heap[w.heap.size + 1 + 1 + 1]? = some (.cells zkA 52 (0, 0))) := lid (by rw [← hw5.out]; exact (setCells_other (by omega) _ _ _).trans HZR.out.2)
  have HB5 : Hid (Below (w.heap.size + 1 + 1) w3 w5) := lid (by rw [← hw5.out]; exact below_cells (Nat.le_refl _) _ _ _ (Below.refl _ _))
  have HTH2 := lid (there_row (o := 0) (n := 5) HF5.out (by simp))
  clear hw5
  try simp only [Act.put, q1, q2, q3]
  go_wp2_with (refine wpList_store_to rfl 52 (.tmp 5) (.tmp 22) rfl (w.heap.size + 1 + 1 + 1) 0 zkA rfl rfl HTH2.out (by kernel_rfl) (by simp [Value.oneCell']) ?_)
  intro w6 hw6
  have hE6 : w6.heap[w.heap.size + 1 + 1]? = some (.cells zkA 52 (0, 0)) := by rw [← hw6.out]; exact (setCells_other (by omega) _ _ _).trans HE5.out
  have hF6 : w6.heap[w.heap.size + 1 + 1 + 1]? = some (.cells zkA 52 (0, 0)) := by rw [← hw6.out]; exact row_whole (vs := zkA) HF5.out rfl
  have hB6 : Below (w.heap.size + 1 + 1) w3 w6 := by rw [← hw6.out]; exact below_cells (by omega) _ _ _ HB5.out
  clear hw6
  have HE6 := lid hE6
  have HF6 := lid hF6
  have HB6 := lid hB6
  clear hE6 hF6 hB6
  try simp only [Act.put, q1, q2, q3]
  go_wp2_with fail
  exact bodyPost_ret (res_swap rfl _ _ (w.heap.size + 1 + 1) (w.heap.size + 1 + 1 + 1) zKw zKw rfl rfl HE6.out HF6.out) rfl ⟨rfl, (HB0.out.trans (H3.out.mono HB0.out.size)).trans (HB6.out.mono (by omega))⟩
 | true =>
  have hzr := (HRR.out _ H3.out).2.2
  have HZR := lid hzr
  clear hzr
  go_wp2_with fail
  refine qs (fun w' => ∃ s : Since (w.heap.size + 1 + 1) w3, w' = s.world) [(0, true), (1, true), (2, false), (3, false), (4, false)] (since (Below.refl _ _).drew) ?_
  repeat (first | (refine qk ?_; simp only [Act.put, q1, q2, q3]) | (refine qf ?_; intro K hK; go_big_quiet_op; go_big_quiet_on))
  refine qc ?_
  intro K hK
  refine wpList_store_mid rfl 52 _ _ rfl (w.heap.size + 1 + 1) 0 (kca b) rfl rfl (there_row (show w3.drew.heap[w.heap.size + 1 + 1]? = _ from HZR.out.1) (by simp)) (by kernel_rfl) (by simp [Value.oneCell']) ?_
  obtain ⟨w5, hw5⟩ : ∃ y, w3.drew.setCells (w.heap.size + 1 + 1) 0 (kca b).toList = y := ⟨_, rfl⟩
  have hE5 : w5.heap[w.heap.size + 1 + 1]? = some (.cells (kca b) 52 (0, 0)) := by rw [← hw5]; exact row_whole (vs := kca b) (show w3.drew.heap[w.heap.size + 1 + 1]? = _ from HZR.out.1) rfl
  have hF5 : w5.heap[w.heap.size + 1 + 1 + 1]? = some (.cells zkA 52 (0, 0)) := by rw [← hw5]; exact (setCells_other (by omega) _ _ _).trans HZR.out.2
  have hB5 : Below (w.heap.size + 1 + 1) w3 w5 := by rw [← hw5]; exact below_cells (Nat.le_refl _) _ _ _ (Below.refl _ _).drew
  rw [hw5]
  clear hw5
  simp only [Act.put]
  go_wp2_with fail
  refine hK.out _ _ (since hB5) ?_
  clear hK K
  refine qc ?_
  intro K hK
  refine wpList_store_mid rfl 52 _ _ rfl (w.heap.size + 1 + 1 + 1) 0 (kca a) rfl rfl (there_row hF5 (by simp)) (by kernel_rfl) (by simp [Value.oneCell']) ?_
  obtain ⟨w6, hw6⟩ : ∃ y, w5.setCells (w.heap.size + 1 + 1 + 1) 0 (kca a).toList = y := ⟨_, rfl⟩
  have hE6 : w6.heap[w.heap.size + 1 + 1]? = some (.cells (kca b) 52 (0, 0)) := by rw [← hw6]; exact (setCells_other (by omega) _ _ _).trans hE5
  have hF6 : w6.heap[w.heap.size + 1 + 1 + 1]? = some (.cells (kca a) 52 (0, 0)) := by rw [← hw6]; exact row_whole (vs := kca a) hF5 rfl
  have hB6 : Below (w.heap.size + 1 + 1) w3 w6 := by rw [← hw6]; exact below_cells (by omega) _ _ _ hB5
  rw [hw6]
  have HE6 := lid hE6
  have HF6 := lid hF6
  have HB6 := lid hB6
  clear hw6 hE5 hF5 hB5 hE6 hF6 hB6
  simp only [Act.put]
  go_wp2_with fail
  refine hK.out _ _ (since HB6.out) ?_
  clear hK K
  refine qc ?_
  intro K hK
  go_wp2_with fail
  refine hK.out _ _ (since HB6.out) ?_
  clear hK K
  refine seq_nil ?_
  go_wp2_with fail
  exact bodyPost_ret (res_swap rfl _ _ (w.heap.size + 1 + 1) (w.heap.size + 1 + 1 + 1) b a rfl rfl HE6.out HF6.out) rfl ⟨rfl, (HB0.out.trans (H3.out.mono HB0.out.size)).trans (HB6.out.mono (by omega))⟩
end Go.Proofs.YtgcceepadlmelaaGreatDoor
