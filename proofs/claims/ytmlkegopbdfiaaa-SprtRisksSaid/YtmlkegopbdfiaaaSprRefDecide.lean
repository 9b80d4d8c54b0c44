/-
  The reference's decide.
-/
import Derived.Test.YtmlkegopbdfiaaaSprRefTimes
import Derived.Test.YtmlkegopbdfiaaaSprDecide
namespace Go.Proofs.Ytmlkegopbdfiaaa
open Go.RowKit

theorem pow2_norm (B a p b q : Nat) (hB : 1 < B) (ha : 1 ≤ a ∧ a < B) (hb : 1 ≤ b ∧ b < B) : Norm B (powL B (powL B [1] a p) b q) := powL_norm hB (powL_norm hB (norm_one hB) ha.1 ha.2 p) hb.1 hb.2 q
theorem pow2_val (B a p b q : Nat) (hB : 0 < B) : lval B (powL B (powL B [1] a p) b q) = a ^ p * b ^ q := by rw [powL_val hB, powL_val hB]; simp [lval]
theorem pow2_len (B a p b q : Nat) (hp : p ≤ 40) (hq : q ≤ 40) : (powL B (powL B [1] a p) b q).length ≤ 81 := by
  have h1 := powL_length (B := B) (powL B [1] a p) b q
  have h2 := powL_length (B := B) [1] a p
  simp at h2
  omega
theorem mul2_norm {B : Nat} {l : List Nat} {a b : Nat} (hB : 1 < B) (hl : Norm B l) (ha : 1 ≤ a ∧ a < B) (hb : 1 ≤ b ∧ b < B) : Norm B (mulL B (mulL B l a) b) := mulL_norm hB (mulL_norm hB hl ha.1 ha.2) hb.1 hb.2
theorem mul2_val {B : Nat} (l : List Nat) (a b : Nat) (hB : 0 < B) : lval B (mulL B (mulL B l a) b) = lval B l * (a * b) := by rw [mulL_val hB, mulL_val hB, Nat.mul_assoc]
theorem mul2_len {B : Nat} (l : List Nat) (a b : Nat) : (mulL B (mulL B l a) b).length ≤ l.length + 2 := by
  have h1 := mulL_length (B := B) (mulL B l a) b
  have h2 := mulL_length (B := B) l a
  omega
/-- Two ints in a box. -/
def RC (w : World) (n : Nat) (x y : Int) : Prop := w.cell? ⟨n, 0, none⟩ = some (.int .i64 x) ∧ w.cell? ⟨n, 1, none⟩ = some (.int .i64 y)
theorem RC.below {w w' : World} {B n : Nat} {x y : Int} (h : RC w n x y) (hb : Below B w w') (hn : n < B) : RC w' n x y := ⟨(bc hb hn 0).trans h.1, (bc hb hn 1).trans h.2⟩

set_option maxRecDepth 100000 in
set_option maxHeartbeats 16000000 in
theorem refDecide_any (gn gd bn bd an ad en ed p f : Nat) (w : World) (hg : RatioN gn gd) (hb : RatioN bn bd) (ha : RatioN an ad) (he : RatioN en ed) (hp : p ≤ 40) (hf : f ≤ 40) :
    Calls Try.prog 28 #[.agg (tv gn gd bn bd an ad en ed), .int .i64 p, .int .i64 f] w fun e w' => e = .returned (.int .i64 (decS gn gd bn bd an ad en ed p f)) ∧ Below w.heap.size w w' := by
  obtain ⟨g1, g2, g3⟩ := hg
  obtain ⟨b1, b2, b3⟩ := hb
  obtain ⟨a1, a2, a3⟩ := ha
  obtain ⟨e1, e2, e3⟩ := he
  obtain ⟨D1, hD1⟩ : ∃ x, bd - bn = x := ⟨_, rfl⟩
  obtain ⟨G1, hG1⟩ : ∃ x, gd - gn = x := ⟨_, rfl⟩
  obtain ⟨E1, hE1⟩ : ∃ x, ed - en = x := ⟨_, rfl⟩
  obtain ⟨F1, hF1⟩ : ∃ x, ad - an = x := ⟨_, rfl⟩
  obtain ⟨A1, hA1⟩ : ∃ x, bn * gd = x := ⟨_, rfl⟩
  obtain ⟨A2, hA2⟩ : ∃ x, (bd - bn) * gd = x := ⟨_, rfl⟩
  obtain ⟨B1, hB1⟩ : ∃ x, bd * gn = x := ⟨_, rfl⟩
  obtain ⟨B2, hB2⟩ : ∃ x, bd * (gd - gn) = x := ⟨_, rfl⟩
  have bA1 := mulN_bounds (a := bn) (b := gd) (by omega) (by omega) (by omega) (by omega)
  rw [hA1] at bA1
  have bA2 := mulN_bounds (a := bd - bn) (b := gd) (by omega) (by omega) (by omega) (by omega)
  rw [hA2] at bA2
  have bB1 := mulN_bounds (a := bd) (b := gn) (by omega) (by omega) (by omega) (by omega)
  rw [hB1] at bB1
  have bB2 := mulN_bounds (a := bd) (b := gd - gn) (by omega) (by omega) (by omega) (by omega)
  rw [hB2] at bB2
  have HV : Hid (decS gn gd bn bd an ad en ed p f = if B1 ^ p * B2 ^ f * (E1 * ad) ≤ A1 ^ p * A2 ^ f * (ed * an) then 2 else if A1 ^ p * A2 ^ f * (ed * F1) ≤ B1 ^ p * B2 ^ f * (en * ad) then 1 else 0) := lid (by
    rw [decS, aboveN, belowN, hA1, hA2, hB1, hB2, hE1, hF1])
  have iD1 : ((bd : Int) - (bn : Int)) = (D1 : Int) := by omega
  have iG1 : ((gd : Int) - (gn : Int)) = (G1 : Int) := by omega
  have iE1 : ((ed : Int) - (en : Int)) = (E1 : Int) := by omega
  have iF1 : ((ad : Int) - (an : Int)) = (F1 : Int) := by omega
  have iA1 : (bn : Int) * (gd : Int) = (A1 : Int) := by rw [← hA1, Int.natCast_mul]
  have iA2 : (D1 : Int) * (gd : Int) = (A2 : Int) := by rw [← hA2, hD1, Int.natCast_mul]
  have iB1 : (bd : Int) * (gn : Int) = (B1 : Int) := by rw [← hB1, Int.natCast_mul]
  have iB2 : (bd : Int) * (G1 : Int) = (B2 : Int) := by rw [← hB2, hG1, Int.natCast_mul]
  have uA1 : (A1 : Int) ≤ 400 := by omega
  have uA2 : (A2 : Int) ≤ 400 := by omega
  have uB1 : (B1 : Int) ≤ 400 := by omega
  have uB2 : (B2 : Int) ≤ 400 := by omega
  have vD1 : (D1 : Int) ≤ 20 := by omega
  have vG1 : (G1 : Int) ≤ 20 := by omega
  have vE1 : (E1 : Int) ≤ 20 := by omega
  have vF1 : (F1 : Int) ≤ 20 := by omega
  have vbd : (bd : Int) ≤ 20 := by omega
  have vgd : (gd : Int) ≤ 20 := by omega
  have ved : (ed : Int) ≤ 20 := by omega
  have vad : (ad : Int) ≤ 20 := by omega
  have vbn : (bn : Int) ≤ 20 := by omega
  have vgn : (gn : Int) ≤ 20 := by omega
  have ven : (en : Int) ≤ 20 := by omega
  have van : (an : Int) ≤ 20 := by omega
  have wD1 : IntKind.i64.wrap (D1 : Int) = (D1 : Int) := IntWalk.i64_in _ (by omega)
  have wG1 : IntKind.i64.wrap (G1 : Int) = (G1 : Int) := IntWalk.i64_in _ (by omega)
  have wE1 : IntKind.i64.wrap (E1 : Int) = (E1 : Int) := IntWalk.i64_in _ (by omega)
  have wF1 : IntKind.i64.wrap (F1 : Int) = (F1 : Int) := IntWalk.i64_in _ (by omega)
  have wA1 : IntKind.i64.wrap (A1 : Int) = (A1 : Int) := IntWalk.i64_in _ (by omega)
  have wA2 : IntKind.i64.wrap (A2 : Int) = (A2 : Int) := IntWalk.i64_in _ (by omega)
  have wB1 : IntKind.i64.wrap (B1 : Int) = (B1 : Int) := IntWalk.i64_in _ (by omega)
  have wB2 : IntKind.i64.wrap (B2 : Int) = (B2 : Int) := IntWalk.i64_in _ (by omega)
  have rD1 : 1 ≤ D1 ∧ D1 ≤ 20 := by omega
  have rG1 : 1 ≤ G1 ∧ G1 ≤ 20 := by omega
  have rE1 : 1 ≤ E1 ∧ E1 ≤ 20 := by omega
  have rF1 : 1 ≤ F1 ∧ F1 ≤ 20 := by omega
  have qA1 : A1 ≤ 1000 := by omega
  have qA2 : A2 ≤ 1000 := by omega
  have qB1 : B1 ≤ 1000 := by omega
  have qB2 : B2 ≤ 1000 := by omega
  clear hA1 hA2 hB1 hB2 hD1 hG1 hE1 hF1
  have hT0 := TC.new w gn gd bn bd an ad en ed 25
  have hb0 : Below w.heap.size w (w.alloc (Obj.cells (tv gn gd bn bd an ad en ed) 25)) := ba _ _
  go_enter Try.func28, Try.ntmps28
  go_wp2_with fail
  refine wp_cut (fun a w' => ∃ X Y : Nat, X < w'.heap.size ∧ Y < w'.heap.size ∧ w.heap.size < w'.heap.size ∧ RC w' X gn gd ∧ RC w' Y bn bd ∧ TC w' w.heap.size gn gd bn bd an ad en ed ∧ Below w.heap.size w w' ∧ a = { tmps := (Value.agg (tv gn gd bn bd an ad en ed) :: .int .i64 p :: .int .i64 f :: .pointer (some ⟨w.heap.size, 0, none⟩) :: undef :: undef :: .int .i64 0 :: .pointer (some ⟨X, 0, none⟩) :: .pointer (some ⟨Y, 0, none⟩) :: undef :: undef :: .pointer (some ⟨w.heap.size, 0, none⟩) :: .agg #[.int .i64 gn, .int .i64 gd] :: .pointer (some ⟨w.heap.size, 2, none⟩) :: .agg #[.int .i64 bn, .int .i64 bd] :: undef :: undef :: undef :: undef :: undef :: undef :: undef :: undef :: undef :: undef :: undef :: undef :: undef :: undef :: undef :: undef :: undef :: undef :: undef :: undef :: undef :: undef :: undef :: undef :: undef :: undef :: undef :: undef :: undef :: undef :: undef :: undef :: undef :: undef :: undef :: undef :: undef :: undef :: undef :: undef :: undef :: undef :: undef :: undef :: undef :: undef :: undef :: undef :: undef :: undef :: undef :: undef :: undef :: undef :: undef :: undef :: undef :: undef :: undef :: undef :: undef :: undef :: undef :: undef :: undef :: undef :: undef :: undef :: undef :: undef :: undef :: undef :: undef :: undef :: undef :: undef :: undef :: undef :: undef :: undef :: undef :: undef :: []).toArray, defers := [] }) (fun a wq hR => ?_) ?_
  rotate_left
  · have hq : w.heap.size < (w.alloc (Obj.cells (tv gn gd bn bd an ad en ed) 25)).heap.size := by simp
    obtain ⟨t0, t1, t2, t3, t4, t5, t6, t7⟩ := hT0
    obtain ⟨W0, hW0⟩ : ∃ W0, w.alloc (Obj.cells (tv gn gd bn bd an ad en ed) 25) = W0 := ⟨_, rfl⟩
    rw [hW0] at t0 t1 t2 t3 t4 t5 t6 t7 hb0 hq ⊢
    clear hW0
    have hTW : Hid (TC W0 w.heap.size gn gd bn bd an ad en ed) := lid ⟨t0, t1, t2, t3, t4, t5, t6, t7⟩
    refine wp_region_two (fun w' => ∃ s : Since W0.heap.size W0, w' = s.world) [(0, true), (1, true), (2, true), (3, true)] 4 5 [(5, false), (6, false), (7, false)] [(4, false), (6, false), (7, false)] (by kernel_rfl) (by kernel_rfl) (by intro c d v a w h; cases d <;> exact h) (since (Below.refl _ _).drew) ?_
    repeat (first | (refine seq_skip (by rfl) (by rfl) ?_; simp only [Act.put, List.setIfInBounds_toArray, List.set_cons_succ, List.set_cons_zero]) | (refine seq_float (by rfl) (by rfl) (by rfl) ?_; intro K hK; go_big_quiet_op; go_big_quiet_on))
    refine seq_nil ⟨?_, ?_⟩
    · refine seq_chain (by rfl) ?_
      intro K hK
      go_wp2_with fail
      refine hK.out _ _ (since ((Below.refl _ _).drew.alloc (Nat.le_refl _) _)) ?_
      clear hK K
      repeat (first | (refine seq_skip (by rfl) (by rfl) ?_; simp only [Act.put, List.setIfInBounds_toArray, List.set_cons_succ, List.set_cons_zero]) | (refine seq_float (by rfl) (by rfl) (by rfl) ?_; intro K hK; go_big_quiet_op; go_big_quiet_on))
      refine seq_chain (by rfl) ?_
      intro K hK
      go_wp2_with fail
      refine hK.out _ _ (since (((Below.refl _ _).drew.alloc (Nat.le_refl _) _).alloc (by simp) _)) ?_
      clear hK K
      repeat (first | (refine seq_skip (by rfl) (by rfl) ?_; simp only [Act.put, List.setIfInBounds_toArray, List.set_cons_succ, List.set_cons_zero]) | (refine seq_float (by rfl) (by rfl) (by rfl) ?_; intro K hK; go_big_quiet_op; go_big_quiet_on))
      refine seq_chain (by rfl) ?_
      intro K hK
      go_wp2_with fail
      refine hK.out _ _ (since (((Below.refl _ _).alloc (Nat.le_refl _) _).alloc (by simp) _).drew) ?_
      clear hK K
      repeat (first | (refine seq_skip (by rfl) (by rfl) ?_; simp only [Act.put, List.setIfInBounds_toArray, List.set_cons_succ, List.set_cons_zero]) | (refine seq_float (by rfl) (by rfl) (by rfl) ?_; intro K hK; go_big_quiet_op; go_big_quiet_on))
      refine seq_chain (by rfl) ?_
      intro K hK
      go_wp2_with fail
      refine hK.out _ _ (since (((Below.refl _ _).alloc (Nat.le_refl _) _).alloc (by simp) _).drew) ?_
      clear hK K
      repeat (first | (refine seq_skip (by rfl) (by rfl) ?_; simp only [Act.put, List.setIfInBounds_toArray, List.set_cons_succ, List.set_cons_zero]) | (refine seq_float (by rfl) (by rfl) (by rfl) ?_; intro K hK; go_big_quiet_op; go_big_quiet_on))
      refine seq_nil ?_
      refine ⟨W0.heap.size, W0.heap.size + 1, ?_, ?_, ?_, ⟨?_, ?_⟩, ⟨?_, ?_⟩, hTW.out.below ((((Below.refl _ _).alloc (Nat.le_refl _) _).alloc (by simp) _).drew) hq, hb0.trans (((((Below.refl _ _).alloc (Nat.le_refl _) _).alloc (by simp) _).drew).mono (by omega)), rfl⟩
      · show _ < (World.alloc _ _).heap.size
        simp <;> omega
      · show _ < (World.alloc _ _).heap.size
        simp <;> omega
      · show _ < (World.alloc _ _).heap.size
        simp <;> omega
      · show (World.alloc _ _).cell? _ = _
        rw [cell_old_at (by simp), cell_new_at rfl]
        rfl
      · show (World.alloc _ _).cell? _ = _
        rw [cell_old_at (by simp), cell_new_at rfl]
        rfl
      · show (World.alloc _ _).cell? _ = _
        rw [cell_new_at (by simp)]
        rfl
      · show (World.alloc _ _).cell? _ = _
        rw [cell_new_at (by simp)]
        rfl
    · refine seq_chain (by rfl) ?_
      intro K hK
      go_wp2_with fail
      refine hK.out _ _ (since ((Below.refl _ _).drew.alloc (Nat.le_refl _) _)) ?_
      clear hK K
      repeat (first | (refine seq_skip (by rfl) (by rfl) ?_; simp only [Act.put, List.setIfInBounds_toArray, List.set_cons_succ, List.set_cons_zero]) | (refine seq_float (by rfl) (by rfl) (by rfl) ?_; intro K hK; go_big_quiet_op; go_big_quiet_on))
      refine seq_chain (by rfl) ?_
      intro K hK
      go_wp2_with fail
      refine hK.out _ _ (since (((Below.refl _ _).drew.alloc (Nat.le_refl _) _).alloc (by simp) _)) ?_
      clear hK K
      repeat (first | (refine seq_skip (by rfl) (by rfl) ?_; simp only [Act.put, List.setIfInBounds_toArray, List.set_cons_succ, List.set_cons_zero]) | (refine seq_float (by rfl) (by rfl) (by rfl) ?_; intro K hK; go_big_quiet_op; go_big_quiet_on))
      refine seq_chain (by rfl) ?_
      intro K hK
      go_wp2_with fail
      refine hK.out _ _ (since (((Below.refl _ _).alloc (Nat.le_refl _) _).alloc (by simp) _).drew) ?_
      clear hK K
      repeat (first | (refine seq_skip (by rfl) (by rfl) ?_; simp only [Act.put, List.setIfInBounds_toArray, List.set_cons_succ, List.set_cons_zero]) | (refine seq_float (by rfl) (by rfl) (by rfl) ?_; intro K hK; go_big_quiet_op; go_big_quiet_on))
      refine seq_chain (by rfl) ?_
      intro K hK
      go_wp2_with fail
      refine hK.out _ _ (since (((Below.refl _ _).alloc (Nat.le_refl _) _).alloc (by simp) _).drew) ?_
      clear hK K
      repeat (first | (refine seq_skip (by rfl) (by rfl) ?_; simp only [Act.put, List.setIfInBounds_toArray, List.set_cons_succ, List.set_cons_zero]) | (refine seq_float (by rfl) (by rfl) (by rfl) ?_; intro K hK; go_big_quiet_op; go_big_quiet_on))
      refine seq_nil ?_
      refine ⟨W0.heap.size + 1, W0.heap.size, ?_, ?_, ?_, ⟨?_, ?_⟩, ⟨?_, ?_⟩, hTW.out.below ((((Below.refl _ _).alloc (Nat.le_refl _) _).alloc (by simp) _).drew) hq, hb0.trans (((((Below.refl _ _).alloc (Nat.le_refl _) _).alloc (by simp) _).drew).mono (by omega)), rfl⟩
      · show _ < (World.alloc _ _).heap.size
        simp <;> omega
      · show _ < (World.alloc _ _).heap.size
        simp <;> omega
      · show _ < (World.alloc _ _).heap.size
        simp <;> omega
      · show (World.alloc _ _).cell? _ = _
        rw [cell_new_at (by simp)]
        rfl
      · show (World.alloc _ _).cell? _ = _
        rw [cell_new_at (by simp)]
        rfl
      · show (World.alloc _ _).cell? _ = _
        rw [cell_old_at (by simp), cell_new_at rfl]
        rfl
      · show (World.alloc _ _).cell? _ = _
        rw [cell_old_at (by simp), cell_new_at rfl]
        rfl
  · obtain ⟨X, Y, hX, hY, hz, hRX, hRY, hT, hbw, rfl⟩ := hR
    clear hT0 hb0
    have HT := lid hT
    have HRX := lid hRX
    have HRY := lid hRY
    obtain ⟨t0, t1, t2, t3, t4, t5, t6, t7⟩ := hT
    obtain ⟨x0, x1⟩ := hRX
    obtain ⟨y0, y1⟩ := hRY
    have KX : Hid (Norm B4 (powL B4 (powL B4 [1] A1 p) A2 f)) := lid (pow2_norm B4 A1 p A2 f (by decide) ⟨bA1.1, by show A1 < 10000; omega⟩ ⟨bA2.1, by show A2 < 10000; omega⟩)
    have KY : Hid (Norm B4 (powL B4 (powL B4 [1] B1 p) B2 f)) := lid (pow2_norm B4 B1 p B2 f (by decide) ⟨bB1.1, by show B1 < 10000; omega⟩ ⟨bB2.1, by show B2 < 10000; omega⟩)
    have VX := lid (pow2_val B4 A1 p A2 f (by decide))
    have VY := lid (pow2_val B4 B1 p B2 f (by decide))
    have LX := lid (pow2_len B4 A1 p A2 f hp hf)
    have LY := lid (pow2_len B4 B1 p B2 f hp hf)
    have N1 : Hid (Norm B4 [1]) := lid (norm_one (by decide))
    go_wp2_with fail
    refine wp_region_seq (fun w' => ∃ s : Since wq.heap.size wq, w' = s.world) [(1, true), (2, true), (3, true), (4, true), (5, true), (6, true), (8, true), (9, true), (10, true), (11, true), (12, true), (13, true), (14, true), (15, true), (16, true), (0, false), (7, false), (17, false), (18, false)] (by kernel_rfl) (by kernel_rfl) (by intro c d v a w h; cases d <;> exact h) (since (Below.refl _ _).drew) ?_
    repeat (first | (refine seq_skip (by rfl) (by rfl) ?_; simp only [Act.put, List.setIfInBounds_toArray, List.set_cons_succ, List.set_cons_zero]) | (refine seq_float (by rfl) (by rfl) (by rfl) ?_; intro K hK; go_big_quiet_op; go_big_quiet_on))
    refine seq_chain (by rfl) ?_
    intro K hK
    go_wp2_with fail
    refine hK.out _ _ (since ((Below.refl _ _).alloc (Nat.le_refl _) _).drew) ?_
    clear hK K
    repeat (first | (refine seq_skip (by rfl) (by rfl) ?_; simp only [Act.put, List.setIfInBounds_toArray, List.set_cons_succ, List.set_cons_zero]) | (refine seq_float (by rfl) (by rfl) (by rfl) ?_; intro K hK; go_big_quiet_op; go_big_quiet_on))
    have S1 : Hid (Sl (wq.alloc (Obj.cells #[Value.int .i64 1] 3)).drew 1 (some ⟨wq.heap.size, 0, none⟩) 1 (nvals [1])) := lid ⟨rfl, .inr ⟨wq.heap.size, 0, rfl, by show _ < (World.alloc _ _).heap.size; simp, fun j u hu => by
      show (World.alloc _ _).cell? _ = _
      rw [Nat.zero_add, cell_new_at rfl]
      simpa [nvals] using hu⟩⟩
    refine seq_chain (by rfl) ?_
    intro K hK
    go_wp2_with fail
    (with_reducible refine (refPower_any A1 p [1] 1 1 (some ⟨wq.heap.size, 0, none⟩) _ bA1.1 qA1 hp rfl (by omega) N1.out S1.out).mono ?_); rintro e w1a ⟨o1a, n1a, c1a, rfl, hn1a, hs1a, hb1a⟩
    have hc1a : Below wq.heap.size wq w1a := ((Below.refl _ _).alloc (Nat.le_refl _) _).drew.trans (hb1a.mono (by show _ ≤ (World.alloc _ _).heap.size; simp))
    have HN1a := lid hn1a
    have HS1a := lid hs1a
    have hl1a : n1a ≤ 1000 := by rw [← hn1a]; have := powL_length (B := B4) [1] A1 p; simp at this; omega
    have KN1a : Hid (Norm B4 (powL B4 [1] A1 p)) := lid (powL_norm (by decide) N1.out bA1.1 (by show A1 < 10000; omega) p)
    clear hn1a hs1a hb1a
    go_wp2_with fail
    refine hK.out _ _ (since hc1a) ?_
    clear hK K
    repeat (first | (refine seq_skip (by rfl) (by rfl) ?_; simp only [Act.put, List.setIfInBounds_toArray, List.set_cons_succ, List.set_cons_zero]) | (refine seq_float (by rfl) (by rfl) (by rfl) ?_; intro K hK; go_big_quiet_op; go_big_quiet_on))
    refine seq_chain (by rfl) ?_
    intro K hK
    go_wp2_with fail
    (with_reducible refine (refPower_any A2 f (powL B4 [1] A1 p) n1a c1a o1a _ bA2.1 qA2 hf HN1a.out hl1a KN1a.out HS1a.out).mono ?_); rintro e w1 ⟨o1, n1, c1, rfl, hn1, hs1, hb1⟩
    have hc1 := hc1a.trans (hb1.mono hc1a.size)
    have HN1 := lid hn1
    have HS1 := lid hs1
    clear hn1 hs1 hb1
    go_wp2_with fail
    refine hK.out _ _ (since hc1) ?_
    clear hK K
    repeat (first | (refine seq_skip (by rfl) (by rfl) ?_; simp only [Act.put, List.setIfInBounds_toArray, List.set_cons_succ, List.set_cons_zero]) | (refine seq_float (by rfl) (by rfl) (by rfl) ?_; intro K hK; go_big_quiet_op; go_big_quiet_on))
    refine seq_chain (by rfl) ?_
    intro K hK
    go_wp2_with fail
    refine hK.out _ _ (since hc1) ?_
    clear hK K
    repeat (first | (refine seq_skip (by rfl) (by rfl) ?_; simp only [Act.put, List.setIfInBounds_toArray, List.set_cons_succ, List.set_cons_zero]) | (refine seq_float (by rfl) (by rfl) (by rfl) ?_; intro K hK; go_big_quiet_op; go_big_quiet_on))
    refine seq_nil ?_
    have hbw1 := hbw.trans (hc1.mono hbw.size)
    have hz1 : w.heap.size < w1.heap.size := by have := hc1.size; omega
    have hX1 : X < w1.heap.size := by have := hc1.size; omega
    have hY1 : Y < w1.heap.size := by have := hc1.size; omega
    replace HT := lid (HT.out.below hc1 hz)
    replace HRX := lid (HRX.out.below hc1 hX)
    replace HRY := lid (HRY.out.below hc1 hY)
    clear t0 t1 t2 t3 t4 t5 t6 t7 x0 x1 y0 y1 hc1 hc1a HS1a S1
    obtain ⟨t0, t1, t2, t3, t4, t5, t6, t7⟩ := HT.out
    obtain ⟨x0, x1⟩ := HRX.out
    obtain ⟨y0, y1⟩ := HRY.out
    go_wp2_with fail
    refine wp_region_seq (fun w' => ∃ s : Since w1.heap.size w1, w' = s.world) [(1, true), (2, true), (3, true), (4, true), (5, true), (6, true), (8, true), (9, true), (10, true), (11, true), (12, true), (13, true), (14, true), (15, true), (16, true), (0, false), (7, false), (17, false), (18, false)] (by kernel_rfl) (by kernel_rfl) (by intro c d v a w h; cases d <;> exact h) (since (Below.refl _ _).drew) ?_
    repeat (first | (refine seq_skip (by rfl) (by rfl) ?_; simp only [Act.put, List.setIfInBounds_toArray, List.set_cons_succ, List.set_cons_zero]) | (refine seq_float (by rfl) (by rfl) (by rfl) ?_; intro K hK; go_big_quiet_op; go_big_quiet_on))
    refine seq_chain (by rfl) ?_
    intro K hK
    go_wp2_with fail
    refine hK.out _ _ (since ((Below.refl _ _).alloc (Nat.le_refl _) _).drew) ?_
    clear hK K
    repeat (first | (refine seq_skip (by rfl) (by rfl) ?_; simp only [Act.put, List.setIfInBounds_toArray, List.set_cons_succ, List.set_cons_zero]) | (refine seq_float (by rfl) (by rfl) (by rfl) ?_; intro K hK; go_big_quiet_op; go_big_quiet_on))
    have S2 : Hid (Sl (w1.alloc (Obj.cells #[Value.int .i64 1] 3)).drew 1 (some ⟨w1.heap.size, 0, none⟩) 1 (nvals [1])) := lid ⟨rfl, .inr ⟨w1.heap.size, 0, rfl, by show _ < (World.alloc _ _).heap.size; simp, fun j u hu => by
      show (World.alloc _ _).cell? _ = _
      rw [Nat.zero_add, cell_new_at rfl]
      simpa [nvals] using hu⟩⟩
    refine seq_chain (by rfl) ?_
    intro K hK
    go_wp2_with fail
    (with_reducible refine (refPower_any B1 p [1] 1 1 (some ⟨w1.heap.size, 0, none⟩) _ bB1.1 qB1 hp rfl (by omega) N1.out S2.out).mono ?_); rintro e w2a ⟨o2a, n2a, c2a, rfl, hn2a, hs2a, hb2a⟩
    have hc2a : Below w1.heap.size w1 w2a := ((Below.refl _ _).alloc (Nat.le_refl _) _).drew.trans (hb2a.mono (by show _ ≤ (World.alloc _ _).heap.size; simp))
    have HN2a := lid hn2a
    have HS2a := lid hs2a
    have hl2a : n2a ≤ 1000 := by rw [← hn2a]; have := powL_length (B := B4) [1] B1 p; simp at this; omega
    have KN2a : Hid (Norm B4 (powL B4 [1] B1 p)) := lid (powL_norm (by decide) N1.out bB1.1 (by show B1 < 10000; omega) p)
    clear hn2a hs2a hb2a
    go_wp2_with fail
    refine hK.out _ _ (since hc2a) ?_
    clear hK K
    repeat (first | (refine seq_skip (by rfl) (by rfl) ?_; simp only [Act.put, List.setIfInBounds_toArray, List.set_cons_succ, List.set_cons_zero]) | (refine seq_float (by rfl) (by rfl) (by rfl) ?_; intro K hK; go_big_quiet_op; go_big_quiet_on))
    refine seq_chain (by rfl) ?_
    intro K hK
    go_wp2_with fail
    (with_reducible refine (refPower_any B2 f (powL B4 [1] B1 p) n2a c2a o2a _ bB2.1 qB2 hf HN2a.out hl2a KN2a.out HS2a.out).mono ?_); rintro e w2 ⟨o2, n2, c2, rfl, hn2, hs2, hb2⟩
    have hc2 := hc2a.trans (hb2.mono hc2a.size)
    have HN2 := lid hn2
    have HS2 := lid hs2
    clear hn2 hs2 hb2
    go_wp2_with fail
    refine hK.out _ _ (since hc2) ?_
    clear hK K
    repeat (first | (refine seq_skip (by rfl) (by rfl) ?_; simp only [Act.put, List.setIfInBounds_toArray, List.set_cons_succ, List.set_cons_zero]) | (refine seq_float (by rfl) (by rfl) (by rfl) ?_; intro K hK; go_big_quiet_op; go_big_quiet_on))
    refine seq_chain (by rfl) ?_
    intro K hK
    go_wp2_with fail
    refine hK.out _ _ (since hc2) ?_
    clear hK K
    repeat (first | (refine seq_skip (by rfl) (by rfl) ?_; simp only [Act.put, List.setIfInBounds_toArray, List.set_cons_succ, List.set_cons_zero]) | (refine seq_float (by rfl) (by rfl) (by rfl) ?_; intro K hK; go_big_quiet_op; go_big_quiet_on))
    refine seq_nil ?_
    have hbw2 := hbw1.trans (hc2.mono hbw1.size)
    have hz2 : w.heap.size < w2.heap.size := by have := hc2.size; omega
    have hX2 : X < w2.heap.size := by have := hc2.size; omega
    have hY2 : Y < w2.heap.size := by have := hc2.size; omega
    replace HT := lid (HT.out.below hc2 hz1)
    replace HRX := lid (HRX.out.below hc2 hX1)
    replace HRY := lid (HRY.out.below hc2 hY1)
    replace HS1 := lid (HS1.out.below hc2)
    clear t0 t1 t2 t3 t4 t5 t6 t7 x0 x1 y0 y1 hc2 hc2a HS2a S2
    obtain ⟨t0, t1, t2, t3, t4, t5, t6, t7⟩ := HT.out
    obtain ⟨x0, x1⟩ := HRX.out
    obtain ⟨y0, y1⟩ := HRY.out
    go_wp2_with fail
    have HDg : Hid (∀ {l : List Nat}, Norm B4 l → ∀ d ∈ l, d < B4) := lid fun h => h.1
    have hlX : n1 ≤ 1000 := by rw [← HN1.out]; have := LX.out; omega
    have hlY : n2 ≤ 1000 := by rw [← HN2.out]; have := LY.out; omega
    have DX : Hid (∀ d ∈ powL B4 (powL B4 [1] A1 p) A2 f, d < B4) := lid (HDg.out KX.out)
    have DY : Hid (∀ d ∈ powL B4 (powL B4 [1] B1 p) B2 f, d < B4) := lid (HDg.out KY.out)
    have zE1 : E1 ≤ 1000 := by omega
    have zad : ad ≤ 1000 := by omega
    have zed : ed ≤ 1000 := by omega
    have zan : an ≤ 1000 := by omega
    have zen : en ≤ 1000 := by omega
    have zF1 : F1 ≤ 1000 := by omega
    generalize hXD : powL B4 (powL B4 [1] A1 p) A2 f = XD at *
    generalize hYD : powL B4 (powL B4 [1] B1 p) B2 f = YD at *
    clear hXD hYD
    refine wp_region_seq (fun w' => ∃ s : Since w2.heap.size w2, w' = s.world) [(0, true), (1, true), (2, true), (3, true), (4, true), (5, true), (6, true), (7, true), (9, true), (10, true), (11, true), (13, true), (14, true), (15, true), (16, true), (18, true), (19, true), (20, true), (8, false), (12, false), (17, false), (21, false), (22, false)] (by kernel_rfl) (by kernel_rfl) (by intro c d v a w h; cases d <;> exact h) (since (Below.refl _ _).drew) ?_
    repeat (first | (refine seq_skip (by rfl) (by rfl) ?_; simp only [Act.put, List.setIfInBounds_toArray, List.set_cons_succ, List.set_cons_zero]) | (refine seq_float (by rfl) (by rfl) (by rfl) ?_; intro K hK; go_big_quiet_op; go_big_quiet_on))
    refine seq_chain (by rfl) ?_
    intro K hK
    go_wp2_with fail
    (with_reducible refine (refTimes_any E1 YD n2 c2 o2 _ zE1 HN2.out (by omega) DY.out HS2.out.drew).mono ?_); rintro e v11 ⟨a11, m11, d11, rfl, g11, s11, h11⟩
    have c11 : Below w2.heap.size w2 v11 := (Below.refl _ _).drew.trans h11
    have G11 := lid g11
    have T11 := lid s11
    have M11 : m11 ≤ 1001 := by rw [← g11]; have := mulL_length (B := B4) YD E1; have := HN2.out; omega
    have E11 : Hid (∀ d ∈ mulL B4 YD E1, d < B4) := lid (HDg.out (mulL_norm (by decide) KY.out (by omega) (by show E1 < 10000; omega)))
    clear g11 s11 h11
    go_wp2_with fail
    refine hK.out _ _ (since c11) ?_
    clear hK K
    repeat (first | (refine seq_skip (by rfl) (by rfl) ?_; simp only [Act.put, List.setIfInBounds_toArray, List.set_cons_succ, List.set_cons_zero]) | (refine seq_float (by rfl) (by rfl) (by rfl) ?_; intro K hK; go_big_quiet_op; go_big_quiet_on))
    refine seq_chain (by rfl) ?_
    intro K hK
    go_wp2_with fail
    (with_reducible refine (refTimes_any ad (mulL B4 YD E1) m11 d11 a11 _ zad G11.out (by omega) E11.out T11.out).mono ?_); rintro e v12 ⟨a12, m12, d12, rfl, g12, s12, h12⟩
    have c12 := c11.trans (h12.mono c11.size)
    have G12 := lid g12
    have T12 := lid s12
    have M12 : m12 ≤ 1002 := by rw [← g12]; have := mulL_length (B := B4) (mulL B4 YD E1) ad; have := G11.out; omega
    have P12 : Hid (Norm B4 (mulL B4 (mulL B4 YD E1) ad)) := lid (mul2_norm (by decide) KY.out ⟨by omega, by show E1 < 10000; omega⟩ ⟨by omega, by show ad < 10000; omega⟩)
    clear g12 s12 h12
    go_wp2_with fail
    refine hK.out _ _ (since c12) ?_
    clear hK K
    repeat (first | (refine seq_skip (by rfl) (by rfl) ?_; simp only [Act.put, List.setIfInBounds_toArray, List.set_cons_succ, List.set_cons_zero]) | (refine seq_float (by rfl) (by rfl) (by rfl) ?_; intro K hK; go_big_quiet_op; go_big_quiet_on))
    refine seq_chain (by rfl) ?_
    intro K hK
    go_wp2_with fail
    (with_reducible refine (refTimes_any ed XD n1 c1 o1 _ zed HN1.out (by omega) DX.out (HS1.out.below c12)).mono ?_); rintro e v13 ⟨a13, m13, d13, rfl, g13, s13, h13⟩
    have c13 := c12.trans (h13.mono c12.size)
    have G13 := lid g13
    have T13 := lid s13
    replace T12 := lid (T12.out.below h13)
    have M13 : m13 ≤ 1001 := by rw [← g13]; have := mulL_length (B := B4) XD ed; have := HN1.out; omega
    have E13 : Hid (∀ d ∈ mulL B4 XD ed, d < B4) := lid (HDg.out (mulL_norm (by decide) KX.out (by omega) (by show ed < 10000; omega)))
    clear g13 s13 h13
    go_wp2_with fail
    refine hK.out _ _ (since c13) ?_
    clear hK K
    repeat (first | (refine seq_skip (by rfl) (by rfl) ?_; simp only [Act.put, List.setIfInBounds_toArray, List.set_cons_succ, List.set_cons_zero]) | (refine seq_float (by rfl) (by rfl) (by rfl) ?_; intro K hK; go_big_quiet_op; go_big_quiet_on))
    refine seq_chain (by rfl) ?_
    intro K hK
    go_wp2_with fail
    (with_reducible refine (refTimes_any an (mulL B4 XD ed) m13 d13 a13 _ zan G13.out (by omega) E13.out T13.out).mono ?_); rintro e v14 ⟨a14, m14, d14, rfl, g14, s14, h14⟩
    have c14 := c13.trans (h14.mono c13.size)
    have G14 := lid g14
    have T14 := lid s14
    replace T12 := lid (T12.out.below h14)
    have M14 : m14 ≤ 1002 := by rw [← g14]; have := mulL_length (B := B4) (mulL B4 XD ed) an; have := G13.out; omega
    have P14 : Hid (Norm B4 (mulL B4 (mulL B4 XD ed) an)) := lid (mul2_norm (by decide) KX.out ⟨by omega, by show ed < 10000; omega⟩ ⟨by omega, by show an < 10000; omega⟩)
    clear g14 s14 h14
    go_wp2_with fail
    refine hK.out _ _ (since c14) ?_
    clear hK K
    repeat (first | (refine seq_skip (by rfl) (by rfl) ?_; simp only [Act.put, List.setIfInBounds_toArray, List.set_cons_succ, List.set_cons_zero]) | (refine seq_float (by rfl) (by rfl) (by rfl) ?_; intro K hK; go_big_quiet_op; go_big_quiet_on))
    refine seq_chain (by rfl) ?_
    intro K hK
    go_wp2_with fail
    (with_reducible refine (refMost_any _ _ m12 m14 d12 d14 a12 a14 _ G12.out G14.out (by omega) (by omega) P12.out P14.out T12.out T14.out).mono ?_); rintro e v15 ⟨rfl, h15⟩
    rw [mul2_val _ _ _ (by decide), mul2_val _ _ _ (by decide), VY.out, VX.out]
    have c15 := c14.trans (h15.mono c14.size)
    clear h15
    by_cases hq1 : B1 ^ p * B2 ^ f * (E1 * ad) ≤ A1 ^ p * A2 ^ f * (ed * an)
    · have HV2 : Hid (decS gn gd bn bd an ad en ed p f = 2) := lid (by rw [HV.out, if_pos hq1])
      rw [decide_eq_true hq1]
      clear hq1
      go_wp2_with fail
      refine hK.out _ _ (since c15) ?_
      clear hK K
      repeat (first | (refine seq_skip (by rfl) (by rfl) ?_; simp only [Act.put, List.setIfInBounds_toArray, List.set_cons_succ, List.set_cons_zero]) | (refine seq_float (by rfl) (by rfl) (by rfl) ?_; intro K hK; go_big_quiet_op; go_big_quiet_on))
      refine seq_nil ?_
      go_wp2_with fail
      go_ret
      exact ⟨ret_i64 HV2.out.symm, hbw2.trans (c15.mono hbw2.size)⟩
    · have HQ := lid hq1
      rw [decide_eq_false hq1]
      clear hq1
      go_wp2_with fail
      refine hK.out _ _ (since c15) ?_
      clear hK K
      repeat (first | (refine seq_skip (by rfl) (by rfl) ?_; simp only [Act.put, List.setIfInBounds_toArray, List.set_cons_succ, List.set_cons_zero]) | (refine seq_float (by rfl) (by rfl) (by rfl) ?_; intro K hK; go_big_quiet_op; go_big_quiet_on))
      refine seq_nil ?_
      have hbw3 := hbw2.trans (c15.mono hbw2.size)
      have hz3 : w.heap.size < v15.heap.size := by have := c15.size; omega
      replace HT := lid (HT.out.below c15 hz2)
      replace HS1 := lid (HS1.out.below c15)
      replace HS2 := lid (HS2.out.below c15)
      clear t0 t1 t2 t3 t4 t5 t6 t7 x0 x1 y0 y1 c11 c12 c13 c14 c15 T11 T12 T13 T14 G11 G12 G13 G14 E11 E13 P12 P14
      obtain ⟨t0, t1, t2, t3, t4, t5, t6, t7⟩ := HT.out
      go_wp2_with fail
      refine wp_region_seq (fun w' => ∃ s : Since v15.heap.size v15, w' = s.world) [(0, true), (1, true), (2, true), (3, true), (5, true), (6, true), (7, true), (8, true), (9, true), (10, true), (11, true), (13, true), (14, true), (15, true), (16, true), (18, true), (19, true), (20, true), (4, false), (12, false), (17, false), (21, false), (22, false)] (by kernel_rfl) (by kernel_rfl) (by intro c d v a w h; cases d <;> exact h) (since (Below.refl _ _).drew) ?_
      repeat (first | (refine seq_skip (by rfl) (by rfl) ?_; simp only [Act.put, List.setIfInBounds_toArray, List.set_cons_succ, List.set_cons_zero]) | (refine seq_float (by rfl) (by rfl) (by rfl) ?_; intro K hK; go_big_quiet_op; go_big_quiet_on))
      refine seq_chain (by rfl) ?_
      intro K hK
      go_wp2_with fail
      (with_reducible refine (refTimes_any ed XD n1 c1 o1 _ zed HN1.out (by omega) DX.out HS1.out.drew).mono ?_); rintro e v21 ⟨a21, m21, d21, rfl, g21, s21, h21⟩
      have c21 : Below v15.heap.size v15 v21 := (Below.refl _ _).drew.trans h21
      have G21 := lid g21
      have T21 := lid s21
      have M21 : m21 ≤ 1001 := by rw [← g21]; have := mulL_length (B := B4) XD ed; have := HN1.out; omega
      have E21 : Hid (∀ d ∈ mulL B4 XD ed, d < B4) := lid (HDg.out (mulL_norm (by decide) KX.out (by omega) (by show ed < 10000; omega)))
      clear g21 s21 h21
      go_wp2_with fail
      refine hK.out _ _ (since c21) ?_
      clear hK K
      repeat (first | (refine seq_skip (by rfl) (by rfl) ?_; simp only [Act.put, List.setIfInBounds_toArray, List.set_cons_succ, List.set_cons_zero]) | (refine seq_float (by rfl) (by rfl) (by rfl) ?_; intro K hK; go_big_quiet_op; go_big_quiet_on))
      refine seq_chain (by rfl) ?_
      intro K hK
      go_wp2_with fail
      (with_reducible refine (refTimes_any F1 (mulL B4 XD ed) m21 d21 a21 _ zF1 G21.out (by omega) E21.out T21.out).mono ?_); rintro e v22 ⟨a22, m22, d22, rfl, g22, s22, h22⟩
      have c22 := c21.trans (h22.mono c21.size)
      have G22 := lid g22
      have T22 := lid s22
      have M22 : m22 ≤ 1002 := by rw [← g22]; have := mulL_length (B := B4) (mulL B4 XD ed) F1; have := G21.out; omega
      have P22 : Hid (Norm B4 (mulL B4 (mulL B4 XD ed) F1)) := lid (mul2_norm (by decide) KX.out ⟨by omega, by show ed < 10000; omega⟩ ⟨by omega, by show F1 < 10000; omega⟩)
      clear g22 s22 h22
      go_wp2_with fail
      refine hK.out _ _ (since c22) ?_
      clear hK K
      repeat (first | (refine seq_skip (by rfl) (by rfl) ?_; simp only [Act.put, List.setIfInBounds_toArray, List.set_cons_succ, List.set_cons_zero]) | (refine seq_float (by rfl) (by rfl) (by rfl) ?_; intro K hK; go_big_quiet_op; go_big_quiet_on))
      refine seq_chain (by rfl) ?_
      intro K hK
      go_wp2_with fail
      (with_reducible refine (refTimes_any en YD n2 c2 o2 _ zen HN2.out (by omega) DY.out (HS2.out.below c22)).mono ?_); rintro e v23 ⟨a23, m23, d23, rfl, g23, s23, h23⟩
      have c23 := c22.trans (h23.mono c22.size)
      have G23 := lid g23
      have T23 := lid s23
      replace T22 := lid (T22.out.below h23)
      have M23 : m23 ≤ 1001 := by rw [← g23]; have := mulL_length (B := B4) YD en; have := HN2.out; omega
      have E23 : Hid (∀ d ∈ mulL B4 YD en, d < B4) := lid (HDg.out (mulL_norm (by decide) KY.out (by omega) (by show en < 10000; omega)))
      clear g23 s23 h23
      go_wp2_with fail
      refine hK.out _ _ (since c23) ?_
      clear hK K
      repeat (first | (refine seq_skip (by rfl) (by rfl) ?_; simp only [Act.put, List.setIfInBounds_toArray, List.set_cons_succ, List.set_cons_zero]) | (refine seq_float (by rfl) (by rfl) (by rfl) ?_; intro K hK; go_big_quiet_op; go_big_quiet_on))
      refine seq_chain (by rfl) ?_
      intro K hK
      go_wp2_with fail
      (with_reducible refine (refTimes_any ad (mulL B4 YD en) m23 d23 a23 _ zad G23.out (by omega) E23.out T23.out).mono ?_); rintro e v24 ⟨a24, m24, d24, rfl, g24, s24, h24⟩
      have c24 := c23.trans (h24.mono c23.size)
      have G24 := lid g24
      have T24 := lid s24
      replace T22 := lid (T22.out.below h24)
      have M24 : m24 ≤ 1002 := by rw [← g24]; have := mulL_length (B := B4) (mulL B4 YD en) ad; have := G23.out; omega
      have P24 : Hid (Norm B4 (mulL B4 (mulL B4 YD en) ad)) := lid (mul2_norm (by decide) KY.out ⟨by omega, by show en < 10000; omega⟩ ⟨by omega, by show ad < 10000; omega⟩)
      clear g24 s24 h24
      go_wp2_with fail
      refine hK.out _ _ (since c24) ?_
      clear hK K
      repeat (first | (refine seq_skip (by rfl) (by rfl) ?_; simp only [Act.put, List.setIfInBounds_toArray, List.set_cons_succ, List.set_cons_zero]) | (refine seq_float (by rfl) (by rfl) (by rfl) ?_; intro K hK; go_big_quiet_op; go_big_quiet_on))
      refine seq_chain (by rfl) ?_
      intro K hK
      go_wp2_with fail
      (with_reducible refine (refMost_any _ _ m22 m24 d22 d24 a22 a24 _ G22.out G24.out (by omega) (by omega) P22.out P24.out T22.out T24.out).mono ?_); rintro e v25 ⟨rfl, h25⟩
      rw [mul2_val _ _ _ (by decide), mul2_val _ _ _ (by decide), VX.out, VY.out]
      have c25 := c24.trans (h25.mono c24.size)
      clear h25
      by_cases hq2 : A1 ^ p * A2 ^ f * (ed * F1) ≤ B1 ^ p * B2 ^ f * (en * ad)
      · have HV2 : Hid (decS gn gd bn bd an ad en ed p f = 1) := lid (by rw [HV.out, if_neg HQ.out, if_pos hq2])
        rw [decide_eq_true hq2]
        clear hq2
        go_wp2_with fail
        refine hK.out _ _ (since c25) ?_
        clear hK K
        repeat (first | (refine seq_skip (by rfl) (by rfl) ?_; simp only [Act.put, List.setIfInBounds_toArray, List.set_cons_succ, List.set_cons_zero]) | (refine seq_float (by rfl) (by rfl) (by rfl) ?_; intro K hK; go_big_quiet_op; go_big_quiet_on))
        refine seq_nil ?_
        go_wp2_with fail
        go_ret
        exact ⟨ret_i64 HV2.out.symm, hbw3.trans (c25.mono hbw3.size)⟩
      · have HV2 : Hid (decS gn gd bn bd an ad en ed p f = 0) := lid (by rw [HV.out, if_neg HQ.out, if_neg hq2])
        rw [decide_eq_false hq2]
        clear hq2
        go_wp2_with fail
        refine hK.out _ _ (since c25) ?_
        clear hK K
        repeat (first | (refine seq_skip (by rfl) (by rfl) ?_; simp only [Act.put, List.setIfInBounds_toArray, List.set_cons_succ, List.set_cons_zero]) | (refine seq_float (by rfl) (by rfl) (by rfl) ?_; intro K hK; go_big_quiet_op; go_big_quiet_on))
        refine seq_nil ?_
        go_wp2_with fail
        go_ret
        exact ⟨ret_i64 HV2.out.symm, hbw3.trans (c25.mono hbw3.size)⟩
end Go.Proofs.Ytmlkegopbdfiaaa
