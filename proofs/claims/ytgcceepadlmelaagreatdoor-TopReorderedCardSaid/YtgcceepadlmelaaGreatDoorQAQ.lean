import Derived.Test.YtgcceepadlmelaaGreatDoorQAO
import Derived.Test.YtgcceepadlmelaaGreatDoorQAJ
import Derived.Test.YtgcceepadlmelaaGreatDoorQAP
import Derived.Test.YtgcceepadlmelaaGreatDoorQAK
namespace Go.Proofs.YtgcceepadlmelaaGreatDoor
set_option maxRecDepth 100000
set_option maxHeartbeats 8000000
open Go.RowKit
theorem eff3_any (w0 w : World) (L : List Mw) (g cap j : Nat) (e : Kw) (d : Dw) (hen : e.new = [d]) (hj : j < L.length) (h : MO w0 w (.slice (some ⟨g, 0, none⟩) L.length cap) L) (he : KwA w0 e) (hA : AscK Dw.id ltI L[j].decls) (hf : (fnd Dw.id L[j].decls d.id).isSome = false) (hn : L[j].decls.length ≤ 100000) (hid : ∀ d ∈ L[j].decls, 1 ≤ d.id ∧ d.id ≤ 999999) (hdi : 1 ≤ d.id ∧ d.id ≤ 999999) :
  Calls Tryz.prog 48 #[.pointer (some ⟨g, j * 3, none⟩), .agg (kca e)] w (EfP w0 w g cap L j ⟨L[j].label, L[j].uses, (insK Dw.id ltI L[j].decls d).map Dw.x⟩) := by
 obtain ⟨W0, hW0⟩ : ∃ y, w.alloc (.cells (kca e) 52) = y := ⟨_, rfl⟩
 have hb0 : Below w.heap.size w W0 := by rw [← hW0]; exact ba _ _
 have hR : W0.heap[w.heap.size]? = some (.cells (kca e) 52 (0, 0)) := by rw [← hW0]; exact h_new rfl _
 have h0 := h.below hb0
 have hnew := he.new
 rw [hen] at hnew
 have hdw : DwA w0 d := hnew.el d (List.mem_singleton.2 rfl)
 obtain ⟨nb, no, hna, hnl, hnc⟩ := dla_row (j := 0) hnew h0.bel (by simp) (by simp)
 have hnb0 : nb < w0.heap.size := by
  obtain ⟨b, o, e1, h1, _⟩ := hnew.sl.at_ (k := 0) (by simp)
  rw [hna] at e1
  cases e1
  exact h1
 rw [show ([d] : List Dw)[0] = d from rfl] at hnc
 have hall : ∀ V, Below W0.heap.size W0 V → (V.cell? ⟨g, j * 3 + 2, none⟩ = some (.slice L[j].da L[j].decls.length L[j].dcap) ∧ V.cell? ⟨w.heap.size, 4, none⟩ = some (.slice (some ⟨nb, no, none⟩) 1 e.ncap) ∧ g < V.heap.size ∧ w.heap.size < V.heap.size ∧ nb < V.heap.size) ∧ (V.cell? ⟨nb, no, none⟩ = some (.int .i64 d.id) ∧ V.cell? ⟨nb, no + 1, none⟩ = some (.int .i64 d.kind) ∧ V.cell? ⟨nb, no + 2, none⟩ = some (.bool d.pub) ∧ V.cell? ⟨nb, no + 3, none⟩ = some (.slice d.na d.names.length d.ncap) ∧ V.cell? ⟨nb, no + 4, none⟩ = some (.bool d.doubt) ∧ V.cell? ⟨nb, no + 5, none⟩ = some (.int .i64 d.body.kind) ∧ V.cell? ⟨nb, no + 6, none⟩ = some (.string d.body.name) ∧ V.cell? ⟨nb, no + 7, none⟩ = some (.string d.body.more) ∧ V.cell? ⟨nb, no + 8, none⟩ = some (.int .i64 d.body.int) ∧ V.cell? ⟨nb, no + 9, none⟩ = some (.int .i64 d.body.den) ∧ V.cell? ⟨nb, no + 10, none⟩ = some (.slice d.body.ao d.body.sub.length d.body.cap)) := fun V hb => by
  have hR' := (hb.block _ (row_lt hR)).trans hR
  have hc := (h0.below hb).cells hj
  refine ⟨⟨hc.2.2.2.2.1, ?_, hc.1, row_lt hR', Nat.lt_of_lt_of_le hnl hb.size⟩, ?_, ?_, ?_, ?_, ?_, ?_, ?_, ?_, ?_, ?_, ?_⟩
  ·have : V.cell? ⟨w.heap.size, 4, none⟩ = some (.slice e.na e.new.length e.ncap) := row_cell hR' 4
   rw [hna, hen] at this
   exact this
  ·have := hnc 0 _ rfl (by omega); rw [← bc hb hnl _] at this; simpa using this
  ·have := hnc 1 _ rfl (by omega); rw [← bc hb hnl _] at this; simpa using this
  ·have := hnc 2 _ rfl (by omega); rw [← bc hb hnl _] at this; simpa using this
  ·have := hnc 3 _ rfl (by omega); rw [← bc hb hnl _] at this; simpa using this
  ·have := hnc 4 _ rfl (by omega); rw [← bc hb hnl _] at this; simpa using this
  ·have := hnc 5 _ rfl (by omega); rw [← bc hb hnl _] at this; simpa using this
  ·have := hnc 6 _ rfl (by omega); rw [← bc hb hnl _] at this; simpa using this
  ·have := hnc 7 _ rfl (by omega); rw [← bc hb hnl _] at this; simpa using this
  ·have := hnc 8 _ rfl (by omega); rw [← bc hb hnl _] at this; simpa using this
  ·have := hnc 9 _ rfl (by omega); rw [← bc hb hnl _] at this; simpa using this
  ·have := hnc 10 _ rfl (by omega); rw [← bc hb hnl _] at this; simpa using this
 have hm := ((h0.el _ (List.getElem_mem hj)).mwa h0.bel).decls
 have CB := lid (fun W (hb : Below W0.heap.size W0 W) => findDecl_any L[j].decls d.id _ _ _ W (hm.below hb) hA hn hid hdi)
 obtain ⟨⟨c1, x4, _, lx, lnb⟩, n0, n1, n2, n3, n4, n5, n6, n7, n8, n9, n10⟩ := hall W0 (Below.refl _ _)
 rw [hf] at CB
 obtain ⟨i, hi⟩ : ∃ i, idxK Dw.id ltI L[j].decls d.id = i := ⟨_, rfl⟩
 have hil : i ≤ L[j].decls.length := by rw [← hi]; exact idx_le
 rw [hi] at CB
 obtain ⟨us, hus⟩ : ∃ us, insK Dw.id ltI L[j].decls d = us := ⟨_, rfl⟩
 have hus2 : us = L[j].decls.take i ++ d :: L[j].decls.drop i := by rw [← hus, ← hi]; rfl
 rw [hus]
 have HNX : Hid (∀ k, (dV L[j]).ownBlock = some k → k < w.heap.size) := lid (fun k hk => (own_blk (h.el _ (List.getElem_mem hj)).ds hk).2)
 have HW0 := lid hW0
 have HALL := lid hall
 have H0 := lid h0
 have HB0 := lid hb0
 have HUS := lid hus2
 have HDW := lid hdw
 have HNB := lid hnb0
 clear hW0 hb0 h0 hR h he hA hf hi hm hen hid hdi hnew hdw hna hnc hnb0 hnl hus hus2 hall
 go_enter Tryz.func48, Tryz.ntmps48
 go_wp2_with fail
 rw [HW0.out]
 refine qd (fun w' => ∃ s : Since W0.heap.size W0, w' = s.world) [(0, true), (1, true), (2, true), (3, true), (4, true), (5, true), (6, true), (7, true), (8, true), (9, false), (10, true), (11, true), (12, true), (13, false), (14, false)] ?_
 repeat (first | (refine qk ?_; simp only [Act.put, q1, q2, q3]) | (refine qf ?_; intro K hK; go_big_quiet_op; go_big_quiet_on))
 refine qc ?_
 intro K hK
 go_wp2_with fail
 (with_reducible refine (CB.out _ (Below.refl _ _).drew).mono ?_); rintro e V ⟨rfl, hb1⟩
 have HBV := lid ((Below.refl W0.heap.size W0).drew.trans hb1)
 clear hb1 CB
 go_wp2_with fail
 refine hK.out _ _ (since HBV.out) ?_
 clear hK K
 repeat (first | (refine qk ?_; simp only [Act.put, q1, q2, q3]) | (refine qf ?_; intro K hK; go_big_quiet_op; go_big_quiet_on))
 refine qc ?_
 intro K hK
 go_wp2_with fail
 refine hK.out _ _ (since HBV.out) ?_
 clear hK K
 repeat (first | (refine qk ?_; simp only [Act.put, q1, q2, q3]) | (refine qf ?_; intro K hK; go_big_quiet_op; go_big_quiet_on))
 refine qc ?_
 intro K hK
 go_wp2_with fail
 refine hK.out _ _ (since HBV.out) ?_
 clear hK K
 repeat (first | (refine qk ?_; simp only [Act.put, q1, q2, q3]) | (refine qf ?_; intro K hK; go_big_quiet_op; go_big_quiet_on))
 refine seq_nil ?_
 clear c1 x4 lx lnb n0 n1 n2 n3 n4 n5 n6 n7 n8 n9 n10
 have hv := H0.out.below HBV.out
 obtain ⟨⟨d1, y4, dg, ly, ln⟩, m0, m1, m2, m3, m4, m5, m6, m7, m8, m9, m10⟩ := HALL.out V HBV.out
 have hE := (hv.el _ (List.getElem_mem hj)).ds
 have hE0 := (H0.out.el _ (List.getElem_mem hj)).ds
 obtain ⟨ub, hu1, hu2⟩ := left_out (w0 := w0) (W := V) hE (Nat.le_refl _)
 have hgo : g ∈ obs (.slice (some ⟨g, 0, none⟩) L.length cap) := mem_obs.2 rfl
 have hnd := nodup_blkM hv hj
 rw [List.nodup_append] at hnd
 have ng : ¬ g = ub := fun e => by
  rcases hu2 with h5 | h5
  ·omega
  ·exact hnd.2.2 g hgo ub (List.mem_append.2 (.inr (mem_obs.2 h5))) e
 have nn : ¬ nb = ub := fun e => by
  rcases hu2 with h5 | h5
  ·omega
  ·have := (own_blk hE h5).1
   have := HNB.out
   omega
 have nx : ¬ w.heap.size = ub := fun e => by
  rcases hu2 with h5 | h5
  ·omega
  ·have := HNX.out ub h5
   omega
 obtain ⟨W1, hW1⟩ : ∃ y, (V.alloc (.cells (dca d) 65)).drew = y := ⟨_, rfl⟩
 have hb1 : Below V.heap.size V W1 := by rw [← hW1]; exact ((Below.refl _ _).alloc (Nat.le_refl _) _).drew
 have CI := lid (InsD_any (hv.below hb1) hj (xb := V.heap.size) HUS.out hil (by omega) (by rw [← hW1]; exact h_new (w := V) rfl _) (fun e => by have := (own_blk hE e).2; omega) HDW.out)
 have HW1 := lid hW1
 have HU1 := lid hu1
 have HST : Hid (Stp w W1 (.slice (some ⟨g, 0, none⟩) L.length cap) (.slice (some ⟨g, 0, none⟩) L.length cap) L L) := lid ((Stp.below HB0.out).trans ((Stp.below HBV.out).trans (Stp.below hb1)))
 have q1 := SinceX.cell (B := V.heap.size) (X := ub) (W := V) g (j * 3 + 2) dg ng d1
 have q2 := SinceX.cell (B := V.heap.size) (X := ub) (W := V) w.heap.size 4 ly nx y4
 have r0 := SinceX.cell (B := V.heap.size) (X := ub) (W := V) nb (no) ln nn m0
 have r1 := SinceX.cell (B := V.heap.size) (X := ub) (W := V) nb (no + 1) ln nn m1
 have r2 := SinceX.cell (B := V.heap.size) (X := ub) (W := V) nb (no + 2) ln nn m2
 have r3 := SinceX.cell (B := V.heap.size) (X := ub) (W := V) nb (no + 3) ln nn m3
 have r4 := SinceX.cell (B := V.heap.size) (X := ub) (W := V) nb (no + 4) ln nn m4
 have r5 := SinceX.cell (B := V.heap.size) (X := ub) (W := V) nb (no + 5) ln nn m5
 have r6 := SinceX.cell (B := V.heap.size) (X := ub) (W := V) nb (no + 6) ln nn m6
 have r7 := SinceX.cell (B := V.heap.size) (X := ub) (W := V) nb (no + 7) ln nn m7
 have r8 := SinceX.cell (B := V.heap.size) (X := ub) (W := V) nb (no + 8) ln nn m8
 have r9 := SinceX.cell (B := V.heap.size) (X := ub) (W := V) nb (no + 9) ln nn m9
 have r10 := SinceX.cell (B := V.heap.size) (X := ub) (W := V) nb (no + 10) ln nn m10
 clear hv hE hE0 hu1 hu2 hgo hnd hW1 hb1 d1 y4 m0 m1 m2 m3 m4 m5 m6 m7 m8 m9 m10
 go_wp2_with fail
 refine wp_region_seqC 14 (fun w' => ∃ s : SinceX V.heap.size ub V, w' = s.world) [(0, true), (1, true), (2, true), (3, true), (4, true), (5, true), (6, true), (7, true), (8, true), (9, true), (10, false), (11, false), (12, true), (13, true), (14, false)] (by kernel_rfl) (by kernel_rfl) (by intro c d v a w h; first | (cases d <;> exact h) | cases h.1) (sincex (KeptX.refl _ _ _).drew) ?_
 repeat (first | (refine seqL_skip (by rfl) (by rfl) (by rfl) ?_; simp only [Act.put, q1, q2, q3]) | (refine seqL_float (by rfl) (by rfl) (by rfl) (by rfl) ?_; intro K hK; go_big_quiet_op; go_big_quiet_on))
 refine seqL_chain (by rfl) ?_
 intro K hK
 go_wp2_with fail
 rw [HW1.out]
 refine hK.out _ _ (sincex (by rw [← HW1.out]; exact ((KeptX.refl V.heap.size ub V).alloc (Nat.le_refl _) (.cells (dca d) 65)).drew)) ?_
 clear hK K
 repeat (first | (refine seqL_skip (by rfl) (by rfl) (by rfl) ?_; simp only [Act.put, q1, q2, q3]) | (refine seqL_float (by rfl) (by rfl) (by rfl) (by rfl) ?_; intro K hK; go_big_quiet_op; go_big_quiet_on))
 refine seqL_chain (by rfl) ?_
 intro K hK
 go_wp2_with fail
 (with_reducible refine (CI.out).mono ?_); rintro e w2 ⟨ao, c, rfl, he, hr, hq1, hq2, hq3⟩
 have HE := lid he
 have HRR := lid hr
 clear he hr CI q1 q2 r0 r1 r2 r3 r4 r5 r6 r7 r8 r9 r10
 go_wp2_with fail
 refine hK.out _ _ (sincex (by have h1 := HE.out; rw [← HW1.out] at h1; exact else_keptx h1 HU1.out)) ?_
 clear hK K
 repeat (first | (refine seqL_skip (by rfl) (by rfl) (by rfl) ?_; simp only [Act.put, q1, q2, q3]) | (refine seqL_float (by rfl) (by rfl) (by rfl) (by rfl) ?_; intro K hK; go_big_quiet_op; go_big_quiet_on))
 refine seqL_last (by rfl) (by rfl) ?_
 intro K hK
 go_wp2_with fail
 refine hK.out _ _ ?_
 clear hK K
 go_wp2_with fail
 go_ret
 exact ⟨rfl, _, rfl, HRR.out.1, HST.out.trans HRR.out.2⟩
end Go.Proofs.YtgcceepadlmelaaGreatDoor
namespace Go.Proofs.YtgcceepadlmelaaGreatDoor
set_option maxRecDepth 100000
set_option maxHeartbeats 4000000
open Go.RowKit
def SetP (w : World) (base dg cap : Nat) (D : List Dw) (a : Nat) (d : Dw) (r : Ending) (w' : World) : Prop :=
 r = .returned (.tuple #[]) ∧ w'.ownsRow base 65 11 (.slice (some ⟨dg, 0, none⟩) D.length cap) D.length (dcs (D.set a d)) ∧ Below base w w' ∧ (∀ k, k < w.heap.size → k ≠ dg → w'.heap[k]? = w.heap[k]?)
theorem set_part {w : World} {base dg cap a : Nat} {D : List Dw} (h : w.ownsRow base 65 11 (.slice (some ⟨dg, 0, none⟩) D.length cap) D.length (dcs D)) (ha : a < D.length) {i : Nat} {vs : List Value} {d : Dw} (hd : dce d = (dce D[a]).take i ++ vs ++ (dce D[a]).drop (i + vs.length)) (hi : i + vs.length ≤ 11) :
  (w.setCells dg (a * 11 + i) vs).ownsRow base 65 11 (.slice (some ⟨dg, 0, none⟩) D.length cap) D.length (dcs (D.set a d)) := by
 have hp : a * 11 + i + vs.length ≤ D.length * 11 := by have : (a + 1) * 11 ≤ D.length * 11 := Nat.mul_le_mul_right _ ha; omega
 have h2 := (own_cells h (a * 11 + i) vs hp).2.2
 have h3 := flat_set (enc := dce) (sz := 11) dce_length ha hd hi
 have h4 : (dcs D).take (a * 11 + i) ++ vs ++ (dcs D).drop (a * 11 + i + vs.length) = dcs (D.set a d) := h3
 rw [h4] at h2
 exact h2
theorem part_cells {w : World} {base dg cap a : Nat} {D : List Dw} (h : w.ownsRow base 65 11 (.slice (some ⟨dg, 0, none⟩) D.length cap) D.length (dcs D)) (ha : a < D.length) : (∀ i u, (dce D[a])[i]? = some u → i < 11 → w.cell? ⟨dg, a * 11 + i, none⟩ = some u) ∧ (∀ i, w.frozen? ⟨dg, i, none⟩ = false) ∧ dg < w.heap.size ∧ base ≤ dg := by
 obtain ⟨cur, h1, h2, _⟩ := own_formK h
 exact ⟨fun i u hu hi => own_cellK h _ (by rw [dcs_cell ha hi]; exact hu), fun i => row_fz h2 i, row_lt h2, h1⟩
theorem set4_any (w : World) (base dg cap a : Nat) (D : List Dw) (ha : a < D.length) (h : w.ownsRow base 65 11 (.slice (some ⟨dg, 0, none⟩) D.length cap) D.length (dcs D)) (n : Dw) :
  Calls Tryz.prog 52 #[.pointer (some ⟨dg, a * 11, none⟩), .agg (dca n)] w (SetP w base dg cap D a ⟨D[a].id, D[a].kind, D[a].pub, n.na, n.names, n.ncap, D[a].doubt, D[a].body⟩) := by
 obtain ⟨hc, hf, hl, hbd⟩ := part_cells h ha
 have hbw : base ≤ w.heap.size := by omega
 have hne : ¬ w.heap.size = dg := by omega
 have hne' : ¬ dg = w.heap.size := by omega
 have c3 := hc 3 _ rfl (by omega)
 have f3 := hf (a * 11 + 3)
 obtain ⟨W, hW⟩ : ∃ y, w.setCells dg (a * 11 + 3) ([.slice n.na n.names.length n.ncap]) = y := ⟨_, rfl⟩
 have hp : W.ownsRow base 65 11 (.slice (some ⟨dg, 0, none⟩) D.length cap) D.length (dcs (D.set a ⟨D[a].id, D[a].kind, D[a].pub, n.na, n.names, n.ncap, D[a].doubt, D[a].body⟩)) := by rw [← hW]; exact set_part h ha (i := 3) rfl (by simp)
 have hb : Below base w W := by rw [← hW]; exact below_cells hbd _ _ _ (Below.refl _ _)
 have ho : ∀ k, k ≠ dg → W.heap[k]? = w.heap[k]? := fun k hk => by rw [← hW]; exact setCells_other hk _ _ _
 have hs : W.heap.size = w.heap.size := by rw [← hW]; exact setCells_size _ _ _ _
 have HW := lid hW
 have HF : Hid (SetP w base dg cap D a ⟨D[a].id, D[a].kind, D[a].pub, n.na, n.names, n.ncap, D[a].doubt, D[a].body⟩ (.returned (.tuple #[])) (W.alloc (.cells (dca n) 65))) := lid ⟨rfl, own_keep hp (fun k hk => by cases hk; exact h_old (by rw [hs]; exact hl) _), hb.alloc (by omega) _, fun k hk hx => (h_old (by rw [hs]; exact hk) _).trans (ho k hx)⟩
 clear hW hp hb ho hs hbw h hc hf
 go_enter Tryz.func52, Tryz.ntmps52
 go_wp2_with fail
 have hfin := HF.out
 rw [← HW.out] at hfin
 exact bodyPost_ret (by simp [results, Tryz.results52, go_sem]) rfl hfin
theorem set5_any (w : World) (base dg cap a : Nat) (D : List Dw) (ha : a < D.length) (h : w.ownsRow base 65 11 (.slice (some ⟨dg, 0, none⟩) D.length cap) D.length (dcs D)) (n : Dw) :
  Calls Tryz.prog 53 #[.pointer (some ⟨dg, a * 11, none⟩), .agg (dca n)] w (SetP w base dg cap D a ⟨D[a].id, D[a].kind, D[a].pub, D[a].na, D[a].names, D[a].ncap, D[a].doubt, n.body⟩) := by
 obtain ⟨hc, hf, hl, hbd⟩ := part_cells h ha
 have hbw : base ≤ w.heap.size := by omega
 have hne : ¬ w.heap.size = dg := by omega
 have hne' : ¬ dg = w.heap.size := by omega
 have c5 := hc 5 _ rfl (by omega)
 have f5 := hf (a * 11 + 5)
 have c6 := hc 6 _ rfl (by omega)
 have f6 := hf (a * 11 + 6)
 have c7 := hc 7 _ rfl (by omega)
 have f7 := hf (a * 11 + 7)
 have c8 := hc 8 _ rfl (by omega)
 have f8 := hf (a * 11 + 8)
 have c9 := hc 9 _ rfl (by omega)
 have f9 := hf (a * 11 + 9)
 have c10 := hc 10 _ rfl (by omega)
 have f10 := hf (a * 11 + 10)
 obtain ⟨W, hW⟩ : ∃ y, w.setCells dg (a * 11 + 5) (ece n.body) = y := ⟨_, rfl⟩
 have hp : W.ownsRow base 65 11 (.slice (some ⟨dg, 0, none⟩) D.length cap) D.length (dcs (D.set a ⟨D[a].id, D[a].kind, D[a].pub, D[a].na, D[a].names, D[a].ncap, D[a].doubt, n.body⟩)) := by rw [← hW]; exact set_part h ha (i := 5) rfl (by simp)
 have hb : Below base w W := by rw [← hW]; exact below_cells hbd _ _ _ (Below.refl _ _)
 have ho : ∀ k, k ≠ dg → W.heap[k]? = w.heap[k]? := fun k hk => by rw [← hW]; exact setCells_other hk _ _ _
 have hs : W.heap.size = w.heap.size := by rw [← hW]; exact setCells_size _ _ _ _
 have HW := lid hW
 have HF : Hid (SetP w base dg cap D a ⟨D[a].id, D[a].kind, D[a].pub, D[a].na, D[a].names, D[a].ncap, D[a].doubt, n.body⟩ (.returned (.tuple #[])) (W.alloc (.cells (dca n) 65))) := lid ⟨rfl, own_keep hp (fun k hk => by cases hk; exact h_old (by rw [hs]; exact hl) _), hb.alloc (by omega) _, fun k hk hx => (h_old (by rw [hs]; exact hk) _).trans (ho k hx)⟩
 clear hW hp hb ho hs hbw h hc hf
 go_enter Tryz.func53, Tryz.ntmps53
 go_wp2_with fail
 have hfin := HF.out
 rw [← HW.out] at hfin
 exact bodyPost_ret (by simp [results, Tryz.results53, go_sem]) rfl hfin
theorem set6_any (w : World) (base dg cap a : Nat) (D : List Dw) (ha : a < D.length) (h : w.ownsRow base 65 11 (.slice (some ⟨dg, 0, none⟩) D.length cap) D.length (dcs D)) (n : Dw) :
  Calls Tryz.prog 54 #[.pointer (some ⟨dg, a * 11, none⟩), .agg (dca n)] w (SetP w base dg cap D a ⟨D[a].id, n.kind, n.pub, D[a].na, D[a].names, D[a].ncap, n.doubt, D[a].body⟩) := by
 obtain ⟨hc, hf, hl, hbd⟩ := part_cells h ha
 have hbw : base ≤ w.heap.size := by omega
 have hne : ¬ w.heap.size = dg := by omega
 have hne' : ¬ dg = w.heap.size := by omega
 obtain ⟨W0, hW0⟩ : ∃ y, w.alloc (.cells (dca n) 65) = y := ⟨_, rfl⟩
 have hb0 : Below w.heap.size w W0 := by rw [← hW0]; exact ba _ _
 have hR : W0.heap[w.heap.size]? = some (.cells (dca n) 65 (0, 0)) := by rw [← hW0]; exact h_new rfl _
 have h0 := own_keep h (w' := W0) (fun k hk => by cases hk; exact hb0.block _ hl)
 have x1 : W0.cell? ⟨w.heap.size, 1, none⟩ = some (.int .i64 n.kind) := row_cell hR 1
 have x2 : W0.cell? ⟨w.heap.size, 2, none⟩ = some (.bool n.pub) := row_cell hR 2
 have x4 : W0.cell? ⟨w.heap.size, 4, none⟩ = some (.bool n.doubt) := row_cell hR 4
 obtain ⟨W1, hW1⟩ : ∃ y, (W0.setCell ⟨dg, a * 11 + 1, none⟩ (.int .i64 n.kind)).drew = y := ⟨_, rfl⟩
 obtain ⟨W2, hW2⟩ : ∃ y, W1.setCell ⟨dg, a * 11 + 2, none⟩ (.bool n.pub) = y := ⟨_, rfl⟩
 obtain ⟨W3, hW3⟩ : ∃ y, W2.setCell ⟨dg, a * 11 + 4, none⟩ (.bool n.doubt) = y := ⟨_, rfl⟩
 have hp1 : W1.ownsRow base 65 11 (.slice (some ⟨dg, 0, none⟩) D.length cap) D.length (dcs (D.set a (⟨D[a].id, n.kind, D[a].pub, D[a].na, D[a].names, D[a].ncap, D[a].doubt, D[a].body⟩ : Dw))) := by rw [← hW1]; exact own_keep (set_part h0 ha (i := 1) (vs := [.int .i64 n.kind]) (d := (⟨D[a].id, n.kind, D[a].pub, D[a].na, D[a].names, D[a].ncap, D[a].doubt, D[a].body⟩ : Dw)) rfl (by simp)) (fun _ _ => rfl)
 have hl1 : a < (D.set a (⟨D[a].id, n.kind, D[a].pub, D[a].na, D[a].names, D[a].ncap, D[a].doubt, D[a].body⟩ : Dw)).length := by rw [List.length_set]; exact ha
 rw [show D.length = (D.set a (⟨D[a].id, n.kind, D[a].pub, D[a].na, D[a].names, D[a].ncap, D[a].doubt, D[a].body⟩ : Dw)).length by rw [List.length_set]] at hp1
 have hp2 : W2.ownsRow base 65 11 (.slice (some ⟨dg, 0, none⟩) (D.set a (⟨D[a].id, n.kind, D[a].pub, D[a].na, D[a].names, D[a].ncap, D[a].doubt, D[a].body⟩ : Dw)).length cap) (D.set a (⟨D[a].id, n.kind, D[a].pub, D[a].na, D[a].names, D[a].ncap, D[a].doubt, D[a].body⟩ : Dw)).length (dcs ((D.set a (⟨D[a].id, n.kind, D[a].pub, D[a].na, D[a].names, D[a].ncap, D[a].doubt, D[a].body⟩ : Dw)).set a (⟨D[a].id, n.kind, n.pub, D[a].na, D[a].names, D[a].ncap, D[a].doubt, D[a].body⟩ : Dw))) := by rw [← hW2]; exact set_part hp1 hl1 (i := 2) (vs := [.bool n.pub]) (d := (⟨D[a].id, n.kind, n.pub, D[a].na, D[a].names, D[a].ncap, D[a].doubt, D[a].body⟩ : Dw)) (by rw [List.getElem_set_self]; rfl) (by simp)
 rw [List.set_set, show (D.set a (⟨D[a].id, n.kind, D[a].pub, D[a].na, D[a].names, D[a].ncap, D[a].doubt, D[a].body⟩ : Dw)).length = (D.set a (⟨D[a].id, n.kind, n.pub, D[a].na, D[a].names, D[a].ncap, D[a].doubt, D[a].body⟩ : Dw)).length by rw [List.length_set, List.length_set]] at hp2
 have hl2 : a < (D.set a (⟨D[a].id, n.kind, n.pub, D[a].na, D[a].names, D[a].ncap, D[a].doubt, D[a].body⟩ : Dw)).length := by rw [List.length_set]; exact ha
 have hp3 : W3.ownsRow base 65 11 (.slice (some ⟨dg, 0, none⟩) (D.set a (⟨D[a].id, n.kind, n.pub, D[a].na, D[a].names, D[a].ncap, D[a].doubt, D[a].body⟩ : Dw)).length cap) (D.set a (⟨D[a].id, n.kind, n.pub, D[a].na, D[a].names, D[a].ncap, D[a].doubt, D[a].body⟩ : Dw)).length (dcs ((D.set a (⟨D[a].id, n.kind, n.pub, D[a].na, D[a].names, D[a].ncap, D[a].doubt, D[a].body⟩ : Dw)).set a (⟨D[a].id, n.kind, n.pub, D[a].na, D[a].names, D[a].ncap, n.doubt, D[a].body⟩ : Dw))) := by rw [← hW3]; exact set_part hp2 hl2 (i := 4) (vs := [.bool n.doubt]) (d := (⟨D[a].id, n.kind, n.pub, D[a].na, D[a].names, D[a].ncap, n.doubt, D[a].body⟩ : Dw)) (by rw [List.getElem_set_self]; rfl) (by simp)
 rw [List.set_set, List.length_set] at hp3
 have q0 := part_cells h0 ha
 have q1 := part_cells hp1 hl1
 have q2 := part_cells hp2 hl2
 have c1 := q0.1 1 _ rfl (by omega)
 have f1 := q0.2.1 (a * 11 + 1)
 have c2 : W1.cell? ⟨dg, a * 11 + 2, none⟩ = some (.bool D[a].pub) := by have h5 := q1.1 2 _ rfl (by omega); simpa using h5
 have f2 := q1.2.1 (a * 11 + 2)
 have c4 : W2.cell? ⟨dg, a * 11 + 4, none⟩ = some (.bool D[a].doubt) := by have h5 := q2.1 4 _ rfl (by omega); simpa using h5
 have f4 := q2.2.1 (a * 11 + 4)
 have l0 := q0.2.2.1
 have l1 := q1.2.2.1
 have l2 := q2.2.2.1
 have lx := row_lt hR
 have y1 := SinceK.cell (k := w.heap.size) (W := W0) x1
 have y2 := SinceK.cell (k := w.heap.size) (W := W0) x2
 have y4 := SinceK.cell (k := w.heap.size) (W := W0) x4
 have k1 : KeepK w.heap.size W0 W1 := by rw [← hW1]; exact (Below.heap_setCell (w := W0) _ _ _ hne)
 have k2 : KeepK w.heap.size W0 W2 := by rw [← hW2]; exact (Below.heap_setCell _ _ _ _ hne).trans k1
 have k3 : KeepK w.heap.size W0 W3 := by rw [← hW3]; exact (Below.heap_setCell _ _ _ _ hne).trans k2
 have HK1 := lid k1
 have HK2 := lid k2
 have HK3 := lid k3
 have hb3 : Below base w W3 := by rw [← hW3, ← hW2, ← hW1]; exact (((hb0.mono hbw).setCell (p := ⟨dg, a * 11 + 1, none⟩) hbd _).drew.setCell (p := ⟨dg, a * 11 + 2, none⟩) hbd _).setCell (p := ⟨dg, a * 11 + 4, none⟩) hbd _
 have ho3 : ∀ k, k < w.heap.size → k ≠ dg → W3.heap[k]? = w.heap[k]? := fun k hk hx => by rw [← hW3, ← hW2, ← hW1]; exact (Below.heap_setCell _ _ _ _ hx).trans ((Below.heap_setCell _ _ _ _ hx).trans ((Below.heap_setCell (w := W0) _ _ _ hx).trans (hb0.block k hk)))
 have HF : Hid (SetP w base dg cap D a (⟨D[a].id, n.kind, n.pub, D[a].na, D[a].names, D[a].ncap, n.doubt, D[a].body⟩ : Dw) (.returned (.tuple #[])) W3) := lid ⟨rfl, hp3, hb3, ho3⟩
 have HW0 := lid hW0
 have HW1 := lid hW1
 have HW2 := lid hW2
 have HW3 := lid hW3
 clear hW0 hW1 hW2 hW3 hb0 hR h0 hp1 hl1 hp2 hl2 hp3 q0 q1 q2 k1 k2 k3 hb3 ho3 h hc hf hbw
 go_enter Tryz.func54, Tryz.ntmps54
 go_wp2_with fail
 rw [HW0.out]
 refine qs (fun w' => ∃ s : SinceK w.heap.size W0, w' = s.world) [(0, true), (1, true), (2, true), (3, true), (4, true), (5, true), (6, true), (7, true), (8, true), (9, true), (10, true), (11, false), (12, true), (13, true), (14, false), (15, true), (16, true), (17, false)] (sincek (KeepK.refl _ _).drew) ?_
 repeat (first | (refine qk ?_; simp only [Act.put, q1, q2, q3]) | (refine qf ?_; intro K hK; go_big_quiet_op; go_big_quiet_on))
 refine qc ?_
 intro K hK
 go_wp2_with fail
 rw [HW1.out]
 refine hK.out _ _ (sincek HK1.out) ?_
 clear hK K
 repeat (first | (refine qk ?_; simp only [Act.put, q1, q2, q3]) | (refine qf ?_; intro K hK; go_big_quiet_op; go_big_quiet_on))
 refine qc ?_
 intro K hK
 go_wp2_with fail
 rw [HW2.out]
 refine hK.out _ _ (sincek HK2.out) ?_
 clear hK K
 repeat (first | (refine qk ?_; simp only [Act.put, q1, q2, q3]) | (refine qf ?_; intro K hK; go_big_quiet_op; go_big_quiet_on))
 refine qc ?_
 intro K hK
 go_wp2_with fail
 rw [HW3.out]
 refine hK.out _ _ (sincek HK3.out) ?_
 clear hK K
 repeat (first | (refine qk ?_; simp only [Act.put, q1, q2, q3]) | (refine qf ?_; intro K hK; go_big_quiet_op; go_big_quiet_on))
 refine seq_nil ?_
 go_wp2_with fail
 exact bodyPost_ret (by simp [results, Tryz.results54, go_sem]) rfl HF.out
end Go.Proofs.YtgcceepadlmelaaGreatDoor
namespace Go.Proofs.YtgcceepadlmelaaGreatDoor
set_option maxRecDepth 100000
set_option maxHeartbeats 16000000
open Go.RowKit
theorem chg6_any (w0 w : World) (L : List Mw) (g cap j : Nat) (p t : ByteArray) (ob oo oc : Nat) (o : Dw) (na : Option Addr) (new : List Dw) (nc : Nat) (x : Dw) (s : Nat) (hj : j < L.length) (h : MO w0 w (.slice (some ⟨g, 0, none⟩) L.length cap) L) (he : KwA w0 ⟨6, p, t, some ⟨ob, oo, none⟩, [o], oc, na, new, nc⟩)
  (hs : w.heap[s]? = some (.cells #[.nilFunc] 95 (0, 0))) (hA : AscK Dw.id ltI L[j].decls) (hf : fnd Dw.id L[j].decls o.id = some x) (hmx : (menW 6 x).x = o.x) (hcx : cntE x.body ≤ 1000) (hn : L[j].decls.length ≤ 100000) (hid : ∀ d ∈ L[j].decls, 1 ≤ d.id ∧ d.id ≤ 999999) (hdi : 1 ≤ o.id ∧ o.id ≤ 999999) :
  Calls Tryz.prog 77 #[.pointer (some ⟨g, j * 3, none⟩), .agg #[.int .i64 6, .string p, .string t, .slice (some ⟨ob, oo, none⟩) 1 oc, .slice na new.length nc], .pointer (some ⟨s, 0, none⟩)] w (EfP w0 w g cap L j ⟨L[j].label, L[j].uses, (L[j].decls.take (idxK Dw.id ltI L[j].decls o.id) ++ L[j].decls.drop (idxK Dw.id ltI L[j].decls o.id + 1)).map Dw.x⟩) := by
 obtain ⟨a, ha⟩ : ∃ i, idxK Dw.id ltI L[j].decls o.id = i := ⟨_, rfl⟩
 obtain ⟨hal, hax, hxi⟩ := at_some ltI_k hA hf
 simp only [ha] at hal hax
 have hsl := row_lt hs
 have hold : DLA w0 (some ⟨ob, oo, none⟩) 1 oc [o] := he.old
 have how : DwA w0 o := hold.el o (List.mem_singleton.2 rfl)
 have hob : ob < w0.heap.size ∧ ∀ i u, (dce o)[i]? = some u → i < 11 → w.cell? ⟨ob, oo + i, none⟩ = some u := by
  obtain ⟨b, o', e1, h1, _⟩ := hold.sl.at_ (k := 0) (by simp)
  cases e1
  obtain ⟨b, o', e1, _, h2⟩ := dla_row (j := 0) hold h.bel (by simp) (by simp)
  cases e1
  exact ⟨h1, fun i u hu hi => by have := h2 i u hu hi; simpa using this⟩
 have hbs := h.bel.size
 have lob : ob < w.heap.size := by omega
 obtain ⟨dg, dc, hdv, hda, hdcap⟩ : ∃ dg dc, dV L[j] = .slice (some ⟨dg, 0, none⟩) L[j].decls.length dc ∧ L[j].da = some ⟨dg, 0, none⟩ ∧ L[j].dcap = dc := by
  rcases (h.el _ (List.getElem_mem hj)).ds.2 with ⟨_, h0⟩ | ⟨g', c', cur, e1, _⟩
  ·omega
  ·injection e1 with e1 _ e3
   exact ⟨g', c', by show Value.slice L[j].da _ L[j].dcap = _; rw [e1, e3], e1, e3⟩
 obtain ⟨W1, hW1⟩ : ∃ y, (w.alloc (.cells #[.int .i64 6, .string p, .string t, .slice (some ⟨ob, oo, none⟩) 1 oc, .slice na new.length nc] 52)).alloc (.cells (dca o) 65) = y := ⟨_, rfl⟩
 have hb1 : Below w.heap.size w W1 := by rw [← hW1]; exact (ba _ _).alloc (by simp) _
 have hR : W1.heap[w.heap.size]? = some (.cells #[.int .i64 6, .string p, .string t, .slice (some ⟨ob, oo, none⟩) 1 oc, .slice na new.length nc] 52 (0, 0)) := by rw [← hW1]; exact (h_old (by simp) _).trans (h_new rfl _)
 have hR2 : W1.heap[w.heap.size + 1]? = some (.cells (dca o) 65 (0, 0)) := by rw [← hW1]; exact h_new (by simp) _
 have h1 := h.below hb1
 have hall : ∀ V, Below W1.heap.size W1 V → (V.cell? ⟨g, j * 3 + 2, none⟩ = some (.slice (some ⟨dg, 0, none⟩) L[j].decls.length dc) ∧ V.cell? ⟨w.heap.size, 0, none⟩ = some (.int .i64 6) ∧ V.cell? ⟨w.heap.size, 4, none⟩ = some (.slice na new.length nc) ∧ V.cell? ⟨s, 0, none⟩ = some (.nilFunc) ∧ g < V.heap.size ∧ w.heap.size < V.heap.size ∧ w.heap.size + 1 < V.heap.size ∧ dg < V.heap.size ∧ s < V.heap.size) ∧ (V.cell? ⟨dg, a * 11, none⟩ = some (.int .i64 x.id) ∧ V.cell? ⟨dg, a * 11 + 1, none⟩ = some (.int .i64 x.kind) ∧ V.cell? ⟨dg, a * 11 + 2, none⟩ = some (.bool x.pub) ∧ V.cell? ⟨dg, a * 11 + 3, none⟩ = some (.slice x.na x.names.length x.ncap) ∧ V.cell? ⟨dg, a * 11 + 4, none⟩ = some (.bool x.doubt) ∧ V.cell? ⟨dg, a * 11 + 5, none⟩ = some (.int .i64 x.body.kind) ∧ V.cell? ⟨dg, a * 11 + 6, none⟩ = some (.string x.body.name) ∧ V.cell? ⟨dg, a * 11 + 7, none⟩ = some (.string x.body.more) ∧ V.cell? ⟨dg, a * 11 + 8, none⟩ = some (.int .i64 x.body.int) ∧ V.cell? ⟨dg, a * 11 + 9, none⟩ = some (.int .i64 x.body.den) ∧ V.cell? ⟨dg, a * 11 + 10, none⟩ = some (.slice x.body.ao x.body.sub.length x.body.cap)) ∧ (V.cell? ⟨w.heap.size + 1, 0, none⟩ = some (.int .i64 o.id) ∧ V.cell? ⟨w.heap.size + 1, 1, none⟩ = some (.int .i64 o.kind) ∧ V.cell? ⟨w.heap.size + 1, 2, none⟩ = some (.bool o.pub) ∧ V.cell? ⟨w.heap.size + 1, 3, none⟩ = some (.slice o.na o.names.length o.ncap) ∧ V.cell? ⟨w.heap.size + 1, 4, none⟩ = some (.bool o.doubt) ∧ V.cell? ⟨w.heap.size + 1, 5, none⟩ = some (.int .i64 o.body.kind) ∧ V.cell? ⟨w.heap.size + 1, 6, none⟩ = some (.string o.body.name) ∧ V.cell? ⟨w.heap.size + 1, 7, none⟩ = some (.string o.body.more) ∧ V.cell? ⟨w.heap.size + 1, 8, none⟩ = some (.int .i64 o.body.int) ∧ V.cell? ⟨w.heap.size + 1, 9, none⟩ = some (.int .i64 o.body.den) ∧ V.cell? ⟨w.heap.size + 1, 10, none⟩ = some (.slice o.body.ao o.body.sub.length o.body.cap)) := fun V hb => by
  have hR' := (hb.block _ (row_lt hR)).trans hR
  have hR2' := (hb.block _ (row_lt hR2)).trans hR2
  have hv := h1.below hb
  have hc := hv.cells hj
  have hds := (hv.el _ (List.getElem_mem hj)).ds
  rw [hdv] at hds
  have hpc := part_cells hds hal
  rw [hax] at hpc
  have hs' : V.heap[s]? = some (.cells #[.nilFunc] 95 (0, 0)) := (hb.block _ (Nat.lt_of_lt_of_le hsl hb1.size)).trans ((hb1.block _ hsl).trans hs)
  refine ⟨⟨by rw [hc.2.2.2.2.1, hdv], row_cell hR' 0, row_cell hR' 4, row_cell hs' 0, hc.1, row_lt hR', row_lt hR2', hpc.2.2.1, row_lt hs'⟩, ⟨hpc.1 0 _ rfl (by omega), hpc.1 1 _ rfl (by omega), hpc.1 2 _ rfl (by omega), hpc.1 3 _ rfl (by omega), hpc.1 4 _ rfl (by omega), hpc.1 5 _ rfl (by omega), hpc.1 6 _ rfl (by omega), hpc.1 7 _ rfl (by omega), hpc.1 8 _ rfl (by omega), hpc.1 9 _ rfl (by omega), hpc.1 10 _ rfl (by omega)⟩, ⟨row_cell hR2' 0, row_cell hR2' 1, row_cell hR2' 2, row_cell hR2' 3, row_cell hR2' 4, row_cell hR2' 5, row_cell hR2' 6, row_cell hR2' 7, row_cell hR2' 8, row_cell hR2' 9, row_cell hR2' 10⟩⟩
 have n0 : w.cell? ⟨ob, oo, none⟩ = some (.int .i64 o.id) := hob.2 0 _ rfl (by omega)
 have n1 : w.cell? ⟨ob, oo + 1, none⟩ = some (.int .i64 o.kind) := hob.2 1 _ rfl (by omega)
 have n2 : w.cell? ⟨ob, oo + 2, none⟩ = some (.bool o.pub) := hob.2 2 _ rfl (by omega)
 have n3 : w.cell? ⟨ob, oo + 3, none⟩ = some (.slice o.na o.names.length o.ncap) := hob.2 3 _ rfl (by omega)
 have n4 : w.cell? ⟨ob, oo + 4, none⟩ = some (.bool o.doubt) := hob.2 4 _ rfl (by omega)
 have n5 : w.cell? ⟨ob, oo + 5, none⟩ = some (.int .i64 o.body.kind) := hob.2 5 _ rfl (by omega)
 have n6 : w.cell? ⟨ob, oo + 6, none⟩ = some (.string o.body.name) := hob.2 6 _ rfl (by omega)
 have n7 : w.cell? ⟨ob, oo + 7, none⟩ = some (.string o.body.more) := hob.2 7 _ rfl (by omega)
 have n8 : w.cell? ⟨ob, oo + 8, none⟩ = some (.int .i64 o.body.int) := hob.2 8 _ rfl (by omega)
 have n9 : w.cell? ⟨ob, oo + 9, none⟩ = some (.int .i64 o.body.den) := hob.2 9 _ rfl (by omega)
 have n10 : w.cell? ⟨ob, oo + 10, none⟩ = some (.slice o.body.ao o.body.sub.length o.body.cap) := hob.2 10 _ rfl (by omega)
 have hm := ((h1.el _ (List.getElem_mem hj)).mwa h1.bel).decls
 rw [hda, hdcap] at hm
 have CB := lid (fun W (hb : Below W1.heap.size W1 W) => findDecl_any L[j].decls o.id _ _ _ W (hm.below hb) hA hn hid hdi)
 rw [ha, hf] at CB
 have CM := lid (fun W => mentioned_any 6 x W)
 have hxm : x ∈ L[j].decls := by rw [← hax]; exact List.getElem_mem hal
 have CE := lid (fun W (hb : Below W1.heap.size W1 W) => equalDecl_any (menW 6 x) o W (menW_A ((((h1.el _ (List.getElem_mem hj)).del x hxm).below h1.bel).below hb)) ((how.below h1.bel).below hb) (menW_cnt hcx))
 rw [show pB ((menW 6 x).x = o.x) = true from pB_iff.2 hmx] at CE
 obtain ⟨mx, hmxe⟩ : ∃ y, menW 6 x = y := ⟨_, rfl⟩
 rw [hmxe] at CM CE
 rw [ha]
 obtain ⟨us, hus⟩ : ∃ us, L[j].decls.take a ++ L[j].decls.drop (a + 1) = us := ⟨_, rfl⟩
 rw [hus]
 have CD := lid (fun V (hb : Below W1.heap.size W1 V) => DelD_any (h1.below hb) hj hus.symm hal (by omega))
 rw [hda, hdcap] at CD
 have HST : Hid (∀ V, Below W1.heap.size W1 V → Stp w V (.slice (some ⟨g, 0, none⟩) L.length cap) (.slice (some ⟨g, 0, none⟩) L.length cap) L L) := lid (fun V hb => (Stp.below hb1).trans (Stp.below hb))
 have HALL := lid hall
 have HW1 := lid hW1
 have HN := lid hn
 clear hall hW1 hb1 hR hR2 h1 h he hs hA hf hmx hcx hid hdi ha hax hxi hsl hold how hob hbs hdv hda hdcap hm hmxe hxm hus
 go_enter Tryz.func77, Tryz.ntmps77
 go_wp2_with fail
 rw [HW1.out]
 clear n0 n1 n2 n3 n4 n5 n6 n7 n8 n9 n10 lob
 obtain ⟨⟨c2, c0, c4, cs, lg, lw, lw1, ld, ls⟩, ⟨x0, x1, x2, x3, x4, x5, x6, x7, x8, x9, x10⟩, ⟨y0, y1, y2, y3, y4, y5, y6, y7, y8, y9, y10⟩⟩ := HALL.out W1 (Below.refl _ _)
 refine qd (fun w' => ∃ s : Since W1.heap.size W1, w' = s.world) [(0, true), (1, true), (2, true), (3, true), (4, true), (5, true), (6, false), (7, true), (8, true), (9, true), (10, false), (11, false)] ?_
 repeat (first | (refine qk ?_; simp only [Act.put, q1, q2, q3]) | (refine qf ?_; intro K hK; go_big_quiet_op; go_big_quiet_on))
 refine qc ?_
 intro K hK
 go_wp2_with fail
 (with_reducible refine (CB.out _ (Below.refl _ _).drew).mono ?_); rintro e V2 ⟨rfl, hb2⟩
 have HB2 := lid ((Below.refl W1.heap.size W1).drew.trans hb2)
 clear hb2 CB
 go_wp2_with fail
 refine hK.out _ _ (since HB2.out) ?_
 clear hK K
 repeat (first | (refine qk ?_; simp only [Act.put, q1, q2, q3]) | (refine qf ?_; intro K hK; go_big_quiet_op; go_big_quiet_on))
 refine qc ?_
 intro K hK
 go_wp2_with fail
 refine hK.out _ _ (since HB2.out) ?_
 clear hK K
 repeat (first | (refine qk ?_; simp only [Act.put, q1, q2, q3]) | (refine qf ?_; intro K hK; go_big_quiet_op; go_big_quiet_on))
 refine qc ?_
 intro K hK
 go_wp2_with fail
 refine hK.out _ _ (since HB2.out) ?_
 clear hK K
 repeat (first | (refine qk ?_; simp only [Act.put, q1, q2, q3]) | (refine qf ?_; intro K hK; go_big_quiet_op; go_big_quiet_on))
 refine seq_nil ?_
 clear c2 c0 c4 cs lg lw lw1 ld ls x0 x1 x2 x3 x4 x5 x6 x7 x8 x9 x10 y0 y1 y2 y3 y4 y5 y6 y7 y8 y9 y10
 obtain ⟨⟨c2, c0, c4, cs, lg, lw, lw1, ld, ls⟩, ⟨x0, x1, x2, x3, x4, x5, x6, x7, x8, x9, x10⟩, ⟨y0, y1, y2, y3, y4, y5, y6, y7, y8, y9, y10⟩⟩ := HALL.out V2 HB2.out
 go_wp2_with fail
 refine qd (fun w' => ∃ s : Since V2.heap.size V2, w' = s.world) [(0, true), (1, true), (2, true), (3, true), (4, true), (5, true), (6, true), (7, true), (8, true), (10, true), (9, false), (11, false), (12, true)] ?_
 repeat (first | (refine qk ?_; simp only [Act.put, q1, q2, q3]) | (refine qf ?_; intro K hK; go_big_quiet_op; go_big_quiet_on))
 refine qc ?_
 intro K hK
 go_wp2_with fail
 (with_reducible refine (CM.out _).mono ?_); rintro e V3 ⟨rfl, hb3⟩
 have HB3' := lid ((Below.refl V2.heap.size V2).drew.trans hb3)
 have HB3 := lid (HB2.out.trans (HB3'.out.mono HB2.out.size))
 clear hb3 CM
 go_wp2_with fail
 refine hK.out _ _ (since HB3'.out) ?_
 clear hK K
 repeat (first | (refine qk ?_; simp only [Act.put, q1, q2, q3]) | (refine qf ?_; intro K hK; go_big_quiet_op; go_big_quiet_on))
 refine qc ?_
 intro K hK
 go_wp2_with fail
 (with_reducible refine (CE.out _ HB3.out).mono ?_); rintro e V4 ⟨rfl, hb4⟩
 have HB4' := lid (HB3'.out.trans (hb4.mono HB3'.out.size))
 have HB4 := lid (HB3.out.trans (hb4.mono HB3.out.size))
 clear hb4 CE
 go_wp2_with fail
 refine hK.out _ _ (since HB4'.out) ?_
 clear hK K
 repeat (first | (refine qk ?_; simp only [Act.put, q1, q2, q3]) | (refine qf ?_; intro K hK; go_big_quiet_op; go_big_quiet_on))
 refine seq_nil ?_
 clear c2 c0 c4 cs lg lw lw1 ld ls x0 x1 x2 x3 x4 x5 x6 x7 x8 x9 x10 y0 y1 y2 y3 y4 y5 y6 y7 y8 y9 y10
 obtain ⟨⟨c2, c0, c4, cs, lg, lw, lw1, ld, ls⟩, ⟨x0, x1, x2, x3, x4, x5, x6, x7, x8, x9, x10⟩, ⟨y0, y1, y2, y3, y4, y5, y6, y7, y8, y9, y10⟩⟩ := HALL.out V4 HB4.out
 go_wp2_with fail
 (with_reducible refine (CD.out _ HB4.out).mono ?_); rintro e w2 ⟨ao, c, rfl, he, hr, hq1, hq2, hq3⟩
 have HRR := lid hr
 clear he hr CD
 go_wp2_with fail
 go_ret
 exact ⟨rfl, _, rfl, HRR.out.1, (HST.out V4 HB4.out).trans HRR.out.2⟩
end Go.Proofs.YtgcceepadlmelaaGreatDoor
namespace Go.Proofs.YtgcceepadlmelaaGreatDoor
abbrev Sg := Nat × Int × ByteArray × ByteArray × Int × Int × Nat
def sgN (p : Nd) : Sg := (p.1, p.2.kind, p.2.name, p.2.more, p.2.int, p.2.den, p.2.sub.length)
theorem xL_len {s t : List Ew} (h : xL s = xL t) : s.length = t.length := by
 have h2 := congrArg List.length h
 rw [xL_map, xL_map, List.length_map, List.length_map] at h2
 exact h2
mutual
theorem pre_x : ∀ (d : Nat) (e f : Ew), e.x = f.x → (preW d e).map sgN = (preW d f).map sgN
 | d, .mk k n m i b a c s, .mk k' n' m' i' b' a' c' s', h => by
  simp only [Ew.x] at h
  injection h with h1 h2 h3 h4 h5 h6
  subst h1 h2 h3 h4 h5
  have h7 := preL_x (d + 1) s s' h6
  have hl := xL_len h6
  simp only [preW, List.map_cons, h7]
  congr 1
  show (d, k, n, m, i, b, s.length) = (d, k, n, m, i, b, s'.length)
  rw [hl]
theorem preL_x : ∀ (d : Nat) (s t : List Ew), xL s = xL t → (preWL d s).map sgN = (preWL d t).map sgN
 | _, [], [], _ => rfl
 | _, [], _ :: _, h => by simp [xL] at h
 | _, _ :: _, [], h => by simp [xL] at h
 | d, e :: s, f :: t, h => by
  simp only [xL, List.cons.injEq] at h
  simp only [preWL, List.map_append, pre_x d e f h.1, preL_x d s t h.2]
end
theorem cnt_x {e f : Ew} (h : e.x = f.x) : cntE e = cntE f := by
 have h2 := congrArg List.length (pre_x 1 e f h)
 rw [List.length_map, List.length_map, cnt_pre, cnt_pre] at h2
 exact h2
theorem okW_x {e f : Ew} (h : e.x = f.x) (ho : okW e) : okW f := by
 have hp := pre_x 1 e f h
 have hl := congrArg List.length hp
 rw [List.length_map, List.length_map] at hl
 have hm : ∀ x ∈ preW 1 f, ∃ y ∈ preW 1 e, sgN y = sgN x := fun x hx => by
  have h1 : sgN x ∈ (preW 1 e).map sgN := by rw [hp]; exact List.mem_map.2 ⟨x, hx, rfl⟩
  exact List.mem_map.1 h1
 refine ⟨by rw [← hl]; exact ho.1, fun x hx => ?_, fun x hx => ?_⟩
 ·obtain ⟨y, hy, e1⟩ := hm x hx
  simp only [sgN, Prod.mk.injEq] at e1
  rw [← e1.1]
  exact ho.2.1 y hy
 ·obtain ⟨y, hy, e1⟩ := hm x hx
  simp only [sgN, Prod.mk.injEq] at e1
  obtain ⟨_, a1, a2, a3, a4, a5, a6⟩ := e1
  have h3 := ho.2.2 y hy
  unfold ndC at h3 ⊢
  rw [← a1, ← a2, ← a3, ← a4, ← a5, ← a6]
  exact h3
theorem any_x {P : Ew → Bool} (Q : Sg → Bool) (hQ : ∀ p : Nd, P p.2 = Q (sgN p)) {e f : Ew} (h : e.x = f.x) : anyE P e = anyE P f := by
 have hq : ∀ g : Ew, anyE P g = ((preW 1 g).map sgN).any Q := fun g => by
  rw [any_pre P 1 g, List.any_map]
  congr 1
  funext p
  exact hQ p
 rw [hq, hq, pre_x 1 e f h]
theorem dot_x {e f : Ew} (h : e.x = f.x) : anyE isDot e = anyE isDot f := any_x (fun s => s.2.1 == 4) (fun _ => rfl) h
theorem ref_x (l : ByteArray) {e f : Ew} (h : e.x = f.x) : anyE (isRef l) e = anyE (isRef l) f := any_x (fun s => (s.2.1 == 5) && (s.2.2.1.toList == l.toList)) (fun _ => rfl) h
mutual
theorem free_x : ∀ (L : List ByteArray) (e f : Ew), e.x = f.x → freeE L e = freeE L f
 | L, .mk k n m i b a c s, .mk k' n' m' i' b' a' c' s', h => by
  simp only [Ew.x] at h
  injection h with h1 h2 h3 h4 h5 h6
  subst h1 h2 h3 h4 h5
  have h7 := freeS_x L k n m 0 s s' h6
  rw [freeE_eq, freeE_eq]
  show (if k = 3 then (if inS L n = true then [] else [n]) else freeS L k n m 0 s) = (if k = 3 then (if inS L n = true then [] else [n]) else freeS L k n m 0 s')
  rw [h7]
theorem freeS_x : ∀ (L : List ByteArray) (k : Int) (n m : ByteArray) (j : Nat) (s t : List Ew), xL s = xL t → freeS L k n m j s = freeS L k n m j t
 | _, _, _, _, _, [], [], _ => rfl
 | _, _, _, _, _, [], _ :: _, h => by simp [xL] at h
 | _, _, _, _, _, _ :: _, [], h => by simp [xL] at h
 | L, k, n, m, j, e :: s, f :: t, h => by
  simp only [xL, List.cons.injEq] at h
  rw [freeS, freeS, free_x _ e f h.1, freeS_x L k n m (j + 1) s t h.2]
end
theorem bodyW_x {l : ByteArray} {e f : Ew} (h : e.x = f.x) (hb : bodyW l e) : bodyW l f :=
 ⟨okW_x h hb.1, by rw [← dot_x h]; exact hb.2.1, by rw [← free_x [] e f h]; exact hb.2.2.1, by rw [← ref_x l h]; exact hb.2.2.2⟩
theorem declW_x {l : ByteArray} {d e : Dw} (h : d.x = e.x) (hd : declW l d) : declW l e := by
 unfold Dw.x at h
 injection h with h1 h2 h3 h4 h5 h6
 obtain ⟨a1, a2, a3, a4⟩ := hd
 rw [h1] at a1
 rw [h2] at a2
 rw [h4] at a3
 exact ⟨a1, a2, a3, bodyW_x h6 a4⟩
theorem modW_x {m n : Mw} (h : m.x = n.x) (hm : modW m) : modW n := by
 unfold Mw.x at h
 injection h with h1 h2 h3
 have hl := congrArg List.length h3
 rw [List.length_map, List.length_map] at hl
 obtain ⟨b1, b2, b3, b4, b5, b6⟩ := hm
 rw [h1] at b1 b3 b5
 rw [h2] at b2
 refine ⟨b1, b2, ?_, by rw [← hl]; exact b4, fun d hd => ?_, ?_⟩
 ·intro i hi
  have hi' : i < m.uses.length := by rw [h2]; exact hi
  have h4 := b3 i hi'
  simp only [h2] at h4
  exact h4
 ·have h1 : d.x ∈ m.decls.map Dw.x := by rw [h3]; exact List.mem_map.2 ⟨d, hd, rfl⟩
  obtain ⟨y, hy, e1⟩ := List.mem_map.1 h1
  exact declW_x e1 (b5 y hy)
 ·have h4 : (m.decls.map Dw.x).Pairwise fun x y => x.id < y.id := List.pairwise_map.2 b6
  rw [h3] at h4
  exact (List.pairwise_map (f := Dw.x) (R := fun x y : Dx => x.id < y.id)).1 h4
end Go.Proofs.YtgcceepadlmelaaGreatDoor
