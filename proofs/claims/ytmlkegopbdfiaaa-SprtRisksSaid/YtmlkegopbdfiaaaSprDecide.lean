/-
  sprt.decide: the decision of a valid trial.
-/
import Derived.Test.YtmlkegopbdfiaaaSprTimes
namespace Go.Proofs.Ytmlkegopbdfiaaa
open Go.RowKit

/-- The likelihoods. -/
def aboveN (gd bn bd p f : Nat) : Nat := (bn * gd) ^ p * ((bd - bn) * gd) ^ f
def belowN (gn gd bd p f : Nat) : Nat := (bd * gn) ^ p * (bd * (gd - gn)) ^ f
/-- The decision. -/
def decS (gn gd bn bd an ad en ed p f : Nat) : Int :=
  if belowN gn gd bd p f * ((ed - en) * ad) ≤ aboveN gd bn bd p f * (ed * an) then 2
  else if aboveN gd bn bd p f * (ed * (ad - an)) ≤ belowN gn gd bd p f * (en * ad) then 1 else 0

/-- A ratio in its bounds. -/
def RatioN (n d : Nat) : Prop := 1 ≤ n ∧ n < d ∧ d ≤ 20

theorem prod2_val (B f a p b q : Nat) (hB : 0 < B) : lval B (prodL B [1] [(f, 1), (a, p), (b, q)]) = a ^ p * b ^ q * f := by
  rw [prodL_val hB]
  simp [lval]
  rw [Nat.mul_comm]
theorem prod2_norm (f a p b q : Nat) (hf : 1 ≤ f ∧ f ≤ 1000) (ha : 1 ≤ a ∧ a ≤ 1000) (hb : 1 ≤ b ∧ b ≤ 1000) : Norm B32 (prodL B32 [1] [(f, 1), (a, p), (b, q)]) :=
  prodL_norm (by decide) _ (fun x hx => by
    simp at hx
    rcases hx with rfl | rfl | rfl
    · exact ⟨hf.1, by show f < 4294967296; omega⟩
    · exact ⟨ha.1, by show a < 4294967296; omega⟩
    · exact ⟨hb.1, by show b < 4294967296; omega⟩) _ (norm_one (by decide))
theorem prod2_len (f a p b q : Nat) (hp : p ≤ 40) (hq : q ≤ 40) : (prodL B32 [1] [(f, 1), (a, p), (b, q)]).length ≤ 100000 := by
  have := prodL_length (B := B32) [(f, 1), (a, p), (b, q)] [1]
  simp at this
  omega
theorem mulN_bounds {a b : Nat} (ha : 1 ≤ a) (ha' : a ≤ 20) (hb : 1 ≤ b) (hb' : b ≤ 20) : 1 ≤ a * b ∧ a * b ≤ 400 :=
  ⟨Nat.mul_pos ha hb, Nat.mul_le_mul ha' hb'⟩

set_option maxRecDepth 100000 in
set_option maxHeartbeats 8000000 in
theorem decide_any (gn gd bn bd an ad en ed p f : Nat) (w : World) (hg : RatioN gn gd) (hb : RatioN bn bd) (ha : RatioN an ad) (he : RatioN en ed) (hp : p ≤ 40) (hf : f ≤ 40) :
    Calls Try.prog 27 #[.agg (tv gn gd bn bd an ad en ed), .int .i64 p, .int .i64 f] w fun e w' => e = .returned (.int .i64 (decS gn gd bn bd an ad en ed p f)) ∧ Below w.heap.size w w' := by
  obtain ⟨g1, g2, g3⟩ := hg
  obtain ⟨b1, b2, b3⟩ := hb
  obtain ⟨a1, a2, a3⟩ := ha
  obtain ⟨e1, e2, e3⟩ := he
  obtain ⟨A1, hA1⟩ : ∃ x, bn * gd = x := ⟨_, rfl⟩
  obtain ⟨A2, hA2⟩ : ∃ x, (bd - bn) * gd = x := ⟨_, rfl⟩
  obtain ⟨B1, hB1⟩ : ∃ x, bd * gn = x := ⟨_, rfl⟩
  obtain ⟨B2, hB2⟩ : ∃ x, bd * (gd - gn) = x := ⟨_, rfl⟩
  obtain ⟨C1, hC1⟩ : ∃ x, ed * an = x := ⟨_, rfl⟩
  obtain ⟨C2, hC2⟩ : ∃ x, (ed - en) * ad = x := ⟨_, rfl⟩
  obtain ⟨C3, hC3⟩ : ∃ x, ed * (ad - an) = x := ⟨_, rfl⟩
  obtain ⟨C4, hC4⟩ : ∃ x, en * ad = x := ⟨_, rfl⟩
  have bA1 := mulN_bounds (a := bn) (b := gd) b1 (by omega) (by omega) g3
  have bA2 := mulN_bounds (a := bd - bn) (b := gd) (by omega) (by omega) (by omega) g3
  have bB1 := mulN_bounds (a := bd) (b := gn) (by omega) (by omega) (by omega) (by omega)
  have bB2 := mulN_bounds (a := bd) (b := gd - gn) (by omega) (by omega) (by omega) (by omega)
  have bC1 := mulN_bounds (a := ed) (b := an) (by omega) (by omega) (by omega) (by omega)
  have bC2 := mulN_bounds (a := ed - en) (b := ad) (by omega) (by omega) (by omega) (by omega)
  have bC3 := mulN_bounds (a := ed) (b := ad - an) (by omega) (by omega) (by omega) (by omega)
  have bC4 := mulN_bounds (a := en) (b := ad) (by omega) (by omega) (by omega) (by omega)
  rw [hA1] at bA1
  rw [hA2] at bA2
  rw [hB1] at bB1
  rw [hB2] at bB2
  rw [hC1] at bC1
  rw [hC2] at bC2
  rw [hC3] at bC3
  rw [hC4] at bC4
  have HV : Hid (decS gn gd bn bd an ad en ed p f = if B1 ^ p * B2 ^ f * C2 ≤ A1 ^ p * A2 ^ f * C1 then 2 else if A1 ^ p * A2 ^ f * C3 ≤ B1 ^ p * B2 ^ f * C4 then 1 else 0) := lid (by
    rw [decS, aboveN, belowN, hA1, hA2, hB1, hB2, hC1, hC2, hC3, hC4])
  have iA1 : (bn : Int) * (gd : Int) = (A1 : Int) := by rw [← hA1, Int.natCast_mul]
  have iA2 : ((bd : Int) - (bn : Int)) * (gd : Int) = (A2 : Int) := by rw [← hA2, Int.natCast_mul, Int.ofNat_sub (by omega)]
  have iB1 : (bd : Int) * (gn : Int) = (B1 : Int) := by rw [← hB1, Int.natCast_mul]
  have iB2 : (bd : Int) * ((gd : Int) - (gn : Int)) = (B2 : Int) := by rw [← hB2, Int.natCast_mul, Int.ofNat_sub (by omega)]
  have iC1 : (ed : Int) * (an : Int) = (C1 : Int) := by rw [← hC1, Int.natCast_mul]
  have iC2 : ((ed : Int) - (en : Int)) * (ad : Int) = (C2 : Int) := by rw [← hC2, Int.natCast_mul, Int.ofNat_sub (by omega)]
  have iC3 : (ed : Int) * ((ad : Int) - (an : Int)) = (C3 : Int) := by rw [← hC3, Int.natCast_mul, Int.ofNat_sub (by omega)]
  have iC4 : (en : Int) * (ad : Int) = (C4 : Int) := by rw [← hC4, Int.natCast_mul]
  have uA1 : (A1 : Int) ≤ 400 := by omega
  have uA2 : (A2 : Int) ≤ 400 := by omega
  have uB1 : (B1 : Int) ≤ 400 := by omega
  have uB2 : (B2 : Int) ≤ 400 := by omega
  have uC1 : (C1 : Int) ≤ 400 := by omega
  have uC2 : (C2 : Int) ≤ 400 := by omega
  have uC3 : (C3 : Int) ≤ 400 := by omega
  have uC4 : (C4 : Int) ≤ 400 := by omega
  have v1 : (bd : Int) ≤ 20 := by omega
  have v2 : (gd : Int) ≤ 20 := by omega
  have v3 : (ed : Int) ≤ 20 := by omega
  have v4 : (ad : Int) ≤ 20 := by omega
  have v5 : (bn : Int) ≤ 20 := by omega
  have v6 : (gn : Int) ≤ 20 := by omega
  have v7 : (en : Int) ≤ 20 := by omega
  have v8 : (an : Int) ≤ 20 := by omega
  clear hA1 hA2 hB1 hB2 hC1 hC2 hC3 hC4
  go_enter Try.func27, Try.ntmps27
  go_wp2_with fail
  have wC1 : IntKind.i64.wrap (C1 : Int) = (C1 : Int) := IntWalk.i64_in _ (by omega)
  have wC2 : IntKind.i64.wrap (C2 : Int) = (C2 : Int) := IntWalk.i64_in _ (by omega)
  have wC3 : IntKind.i64.wrap (C3 : Int) = (C3 : Int) := IntWalk.i64_in _ (by omega)
  have wC4 : IntKind.i64.wrap (C4 : Int) = (C4 : Int) := IntWalk.i64_in _ (by omega)
  have we : IntKind.i64.wrap ((ed : Int) - (en : Int)) = (ed : Int) - (en : Int) := IntWalk.i64_in _ (by omega)
  have wa : IntKind.i64.wrap ((ad : Int) - (an : Int)) = (ad : Int) - (an : Int) := IntWalk.i64_in _ (by omega)
  obtain ⟨W0, hW0⟩ : ∃ W0, ((w.alloc (Obj.cells (tv gn gd bn bd an ad en ed) 25)).alloc (Obj.cells #[Value.int .i64 A1, .int .i64 p, .int .i64 A2, .int .i64 f] 56)).alloc (Obj.cells #[Value.int .i64 B1, .int .i64 p, .int .i64 B2, .int .i64 f] 56) = W0 := ⟨_, rfl⟩
  have hbW : Below w.heap.size w W0 := by rw [← hW0]; exact (((Below.refl _ _).alloc (Nat.le_refl _) _).alloc (by simp) _).alloc (by simp <;> omega) _
  have hT : TC W0 w.heap.size gn gd bn bd an ad en ed := by
    rw [← hW0]
    exact (TC.new w gn gd bn bd an ad en ed 25).below (((Below.refl _ _).alloc (Nat.le_refl _) _).alloc (by simp) _) (by simp)
  have S1 : Hid (Sl W0 2 (some ⟨w.heap.size + 1, 0, none⟩) 2 (pvals [(A1, p), (A2, f)])) := lid (by
    rw [← hW0]
    refine ⟨rfl, .inr ⟨w.heap.size + 1, 0, rfl, by simp <;> omega, fun j u hu => ?_⟩⟩
    rw [Nat.zero_add, cell_old_at (by simp <;> omega), cell_new_at (by simp <;> omega)]
    simpa [pvals] using hu)
  have S2 : Hid (Sl W0 2 (some ⟨w.heap.size + 2, 0, none⟩) 2 (pvals [(B1, p), (B2, f)])) := lid (by
    rw [← hW0]
    refine ⟨rfl, .inr ⟨w.heap.size + 2, 0, rfl, by simp <;> omega, fun j u hu => ?_⟩⟩
    rw [Nat.zero_add, cell_new_at (by simp <;> omega)]
    simpa [pvals] using hu)
  have hz : w.heap.size < W0.heap.size := by rw [← hW0]; simp <;> omega
  rw [hW0]
  clear hW0
  have P1 : Hid (∀ x ∈ [(A1, p), (A2, f)], 1 ≤ x.1 ∧ x.1 ≤ 1000 ∧ x.2 ≤ 40) := lid (by
    intro x hx
    simp at hx
    rcases hx with rfl | rfl
    · exact ⟨bA1.1, by show A1 ≤ 1000; omega, hp⟩
    · exact ⟨bA2.1, by show A2 ≤ 1000; omega, hf⟩)
  have P2 : Hid (∀ x ∈ [(B1, p), (B2, f)], 1 ≤ x.1 ∧ x.1 ≤ 1000 ∧ x.2 ≤ 40) := lid (by
    intro x hx
    simp at hx
    rcases hx with rfl | rfl
    · exact ⟨bB1.1, by show B1 ≤ 1000; omega, hp⟩
    · exact ⟨bB2.1, by show B2 ≤ 1000; omega, hf⟩)
  have hT' := lid hT
  obtain ⟨t0, t1, t2, t3, t4, t5, t6, t7⟩ := hT
  have q1 : C1 ≤ 1000 := by omega
  have q2 : C2 ≤ 1000 := by omega
  have q3 : C3 ≤ 1000 := by omega
  have q4 : C4 ≤ 1000 := by omega
  have HD1 := lid (prod2_norm C1 A1 p A2 f ⟨bC1.1, q1⟩ ⟨bA1.1, by omega⟩ ⟨bA2.1, by omega⟩)
  have HD2 := lid (prod2_norm C2 B1 p B2 f ⟨bC2.1, q2⟩ ⟨bB1.1, by omega⟩ ⟨bB2.1, by omega⟩)
  have HD3 := lid (prod2_norm C3 A1 p A2 f ⟨bC3.1, q3⟩ ⟨bA1.1, by omega⟩ ⟨bA2.1, by omega⟩)
  have HD4 := lid (prod2_norm C4 B1 p B2 f ⟨bC4.1, q4⟩ ⟨bB1.1, by omega⟩ ⟨bB2.1, by omega⟩)
  have V1 := lid (prod2_val B32 C1 A1 p A2 f (by decide))
  have V2 := lid (prod2_val B32 C2 B1 p B2 f (by decide))
  have V3 := lid (prod2_val B32 C3 A1 p A2 f (by decide))
  have V4 := lid (prod2_val B32 C4 B1 p B2 f (by decide))
  have L1 := lid (prod2_len C1 A1 p A2 f hp hf)
  have L2 := lid (prod2_len C2 B1 p B2 f hp hf)
  have L3 := lid (prod2_len C3 A1 p A2 f hp hf)
  have L4 := lid (prod2_len C4 B1 p B2 f hp hf)
  have HC : Hid (∀ a b : Nat, (b ≤ a → 0 ≤ cmpI a b) ∧ (¬ b ≤ a → cmpI a b < 0) ∧ (a ≤ b → cmpI a b ≤ 0) ∧ (¬ a ≤ b → 0 < cmpI a b)) := lid fun a b => by
    unfold cmpI
    refine ⟨fun h => ?_, fun h => ?_, fun h => ?_, fun h => ?_⟩ <;> (split <;> (try split) <;> omega)
  refine wp_region_seq (fun w' => ∃ s : Since W0.heap.size W0, w' = s.world) [(0, true), (1, true), (2, true), (3, true), (4, true), (5, true), (6, true), (7, true), (8, true), (10, true), (11, true), (12, true), (13, true), (14, true), (15, true), (16, true), (17, true), (18, true), (19, true), (20, true), (21, true), (22, true), (9, false), (23, false), (24, false), (25, true)] (by kernel_rfl) (by kernel_rfl) (by intro c d v a w h; cases d <;> exact h) (since (Below.refl _ _).drew) ?_
  repeat (first | (refine seq_skip (by rfl) (by rfl) ?_; simp only [Act.put, List.setIfInBounds_toArray, List.set_cons_succ, List.set_cons_zero]) | (refine seq_float (by rfl) (by rfl) (by rfl) ?_; intro K hK; go_big_quiet_op; go_big_quiet_on))
  refine seq_chain (by rfl) ?_
  intro K hK
  go_wp2_with fail
  (with_reducible refine (times_any C1 [(A1, p), (A2, f)] 2 (some ⟨w.heap.size + 1, 0, none⟩) _ rfl bC1.1 q1 P1.out S1.out.drew).mono ?_); rintro e w1 ⟨x1, n1, c1, rfl, hnc1, hcm1, hn1, hsl1, hb1⟩
  have hb01 : Below W0.heap.size W0 w1 := (Below.refl _ _).drew.trans hb1
  have HN1 := lid hn1
  have HS1 := lid hsl1
  clear hn1 hsl1 hb1
  go_wp2_with fail
  refine hK.out _ _ (since hb01) ?_
  clear hK K
  repeat (first | (refine seq_skip (by rfl) (by rfl) ?_; simp only [Act.put, List.setIfInBounds_toArray, List.set_cons_succ, List.set_cons_zero]) | (refine seq_float (by rfl) (by rfl) (by rfl) ?_; intro K hK; go_big_quiet_op; go_big_quiet_on))
  refine seq_chain (by rfl) ?_
  intro K hK
  go_wp2_with fail
  (with_reducible refine (times_any C2 [(B1, p), (B2, f)] 2 (some ⟨w.heap.size + 2, 0, none⟩) _ rfl bC2.1 q2 P2.out (S2.out.below hb01)).mono ?_); rintro e w2 ⟨x2, n2, c2, rfl, hnc2, hcm2, hn2, hsl2, hb2⟩
  have hb02 := hb01.trans (hb2.mono hb01.size)
  have HN2 := lid hn2
  have HS2 := lid hsl2
  replace HS1 := lid (HS1.out.below hb2)
  clear hn2 hsl2 hb2
  go_wp2_with fail
  refine hK.out _ _ (since hb02) ?_
  clear hK K
  repeat (first | (refine seq_skip (by rfl) (by rfl) ?_; simp only [Act.put, List.setIfInBounds_toArray, List.set_cons_succ, List.set_cons_zero]) | (refine seq_float (by rfl) (by rfl) (by rfl) ?_; intro K hK; go_big_quiet_op; go_big_quiet_on))
  have hl1 : n1 ≤ 100000 := by rw [← HN1.out]; exact L1.out
  have hl2 : n2 ≤ 100000 := by rw [← HN2.out]; exact L2.out
  refine seq_chain (by rfl) ?_
  intro K hK
  go_wp2_with fail
  (with_reducible refine (compare_any _ _ n1 n2 c1 c2 x1 x2 _ HN1.out HN2.out hl1 hl2 HD1.out HD2.out HS1.out HS2.out).mono ?_); rintro e w3 ⟨rfl, hb3⟩
  rw [V1.out, V2.out]
  have hb03 := hb02.trans (hb3.mono hb02.size)
  clear hb3
  by_cases hc1 : B1 ^ p * B2 ^ f * C2 ≤ A1 ^ p * A2 ^ f * C1
  · have hk := (HC.out (A1 ^ p * A2 ^ f * C1) (B1 ^ p * B2 ^ f * C2)).1 hc1
    have HV2 : Hid (decS gn gd bn bd an ad en ed p f = 2) := lid (by rw [HV.out, if_pos hc1])
    generalize cmpI ((A1 ^ p * A2 ^ f * C1 : Nat) : Int) ((B1 ^ p * B2 ^ f * C2 : Nat) : Int) = r at *
    have hk' : decide (0 ≤ r) = true := by simpa using hk
    clear hc1
    go_wp2_with fail
    refine hK.out _ _ (since hb03) ?_
    clear hK K
    repeat (first | (refine seq_skip (by rfl) (by rfl) ?_; simp only [Act.put, List.setIfInBounds_toArray, List.set_cons_succ, List.set_cons_zero]) | (refine seq_float (by rfl) (by rfl) (by rfl) ?_; intro K hK; go_big_quiet_op; go_big_quiet_on))
    refine seq_nil ?_
    go_wp2_with fail
    go_ret
    exact ⟨ret_i64 HV2.out.symm, hbW.trans (hb03.mono hbW.size)⟩
  · have hk := (HC.out (A1 ^ p * A2 ^ f * C1) (B1 ^ p * B2 ^ f * C2)).2.1 hc1
    have HC1 := lid hc1
    generalize cmpI ((A1 ^ p * A2 ^ f * C1 : Nat) : Int) ((B1 ^ p * B2 ^ f * C2 : Nat) : Int) = r at *
    have hk' : decide (0 ≤ r) = false := by simpa using hk
    clear hc1
    go_wp2_with fail
    refine hK.out _ _ (since hb03) ?_
    clear hK K
    repeat (first | (refine seq_skip (by rfl) (by rfl) ?_; simp only [Act.put, List.setIfInBounds_toArray, List.set_cons_succ, List.set_cons_zero]) | (refine seq_float (by rfl) (by rfl) (by rfl) ?_; intro K hK; go_big_quiet_op; go_big_quiet_on))
    refine seq_nil ?_
    have hw3 := hbW.trans (hb03.mono hbW.size)
    have hT3 := hT'.out.below hb03 hz
    replace S1 := lid (S1.out.below hb03)
    replace S2 := lid (S2.out.below hb03)
    have hz3 : w.heap.size < w3.heap.size := by have := hb03.size; omega
    clear t0 t1 t2 t3 t4 t5 t6 t7 hk hk' HS1 HS2 hb01 hb02 hb03 hT' hnc1 hcm1 hnc2 hcm2 hl1 hl2
    obtain ⟨t0, t1, t2, t3, t4, t5, t6, t7⟩ := hT3
    go_wp2_with fail
    refine wp_region_seq (fun w' => ∃ s : Since w3.heap.size w3, w' = s.world) [(0, true), (1, true), (2, true), (3, true), (4, true), (5, true), (6, true), (7, true), (8, true), (9, true), (10, true), (11, true), (12, true), (14, true), (15, true), (16, true), (17, true), (18, true), (19, true), (20, true), (21, true), (22, true), (13, false), (23, false), (24, false), (25, true)] (by kernel_rfl) (by kernel_rfl) (by intro c d v a w h; cases d <;> exact h) (since (Below.refl _ _).drew) ?_
    repeat (first | (refine seq_skip (by rfl) (by rfl) ?_; simp only [Act.put, List.setIfInBounds_toArray, List.set_cons_succ, List.set_cons_zero]) | (refine seq_float (by rfl) (by rfl) (by rfl) ?_; intro K hK; go_big_quiet_op; go_big_quiet_on))
    refine seq_chain (by rfl) ?_
    intro K hK
    go_wp2_with fail
    (with_reducible refine (times_any C3 [(A1, p), (A2, f)] 2 (some ⟨w.heap.size + 1, 0, none⟩) _ rfl bC3.1 q3 P1.out S1.out.drew).mono ?_); rintro e w4 ⟨x3, n3, c3, rfl, hnc3, hcm3, hn3, hsl3, hb4⟩
    have hb34 : Below w3.heap.size w3 w4 := (Below.refl _ _).drew.trans hb4
    have HN3 := lid hn3
    have HS3 := lid hsl3
    clear hn3 hsl3 hb4
    go_wp2_with fail
    refine hK.out _ _ (since hb34) ?_
    clear hK K
    repeat (first | (refine seq_skip (by rfl) (by rfl) ?_; simp only [Act.put, List.setIfInBounds_toArray, List.set_cons_succ, List.set_cons_zero]) | (refine seq_float (by rfl) (by rfl) (by rfl) ?_; intro K hK; go_big_quiet_op; go_big_quiet_on))
    refine seq_chain (by rfl) ?_
    intro K hK
    go_wp2_with fail
    (with_reducible refine (times_any C4 [(B1, p), (B2, f)] 2 (some ⟨w.heap.size + 2, 0, none⟩) _ rfl bC4.1 q4 P2.out (S2.out.below hb34)).mono ?_); rintro e w5 ⟨x4, n4, c4, rfl, hnc4, hcm4, hn4, hsl4, hb5⟩
    have hb35 := hb34.trans (hb5.mono hb34.size)
    have HN4 := lid hn4
    have HS4 := lid hsl4
    replace HS3 := lid (HS3.out.below hb5)
    clear hn4 hsl4 hb5
    go_wp2_with fail
    refine hK.out _ _ (since hb35) ?_
    clear hK K
    repeat (first | (refine seq_skip (by rfl) (by rfl) ?_; simp only [Act.put, List.setIfInBounds_toArray, List.set_cons_succ, List.set_cons_zero]) | (refine seq_float (by rfl) (by rfl) (by rfl) ?_; intro K hK; go_big_quiet_op; go_big_quiet_on))
    have hl3 : n3 ≤ 100000 := by rw [← HN3.out]; exact L3.out
    have hl4 : n4 ≤ 100000 := by rw [← HN4.out]; exact L4.out
    refine seq_chain (by rfl) ?_
    intro K hK
    go_wp2_with fail
    (with_reducible refine (compare_any _ _ n3 n4 c3 c4 x3 x4 _ HN3.out HN4.out hl3 hl4 HD3.out HD4.out HS3.out HS4.out).mono ?_); rintro e w6 ⟨rfl, hb6⟩
    rw [V3.out, V4.out]
    have hb36 := hb35.trans (hb6.mono hb35.size)
    clear hb6
    by_cases hc1 : A1 ^ p * A2 ^ f * C3 ≤ B1 ^ p * B2 ^ f * C4
    · have hk := (HC.out (A1 ^ p * A2 ^ f * C3) (B1 ^ p * B2 ^ f * C4)).2.2.1 hc1
      have HV2 : Hid (decS gn gd bn bd an ad en ed p f = 1) := lid (by rw [HV.out, if_neg HC1.out, if_pos hc1])
      generalize cmpI ((A1 ^ p * A2 ^ f * C3 : Nat) : Int) ((B1 ^ p * B2 ^ f * C4 : Nat) : Int) = r2 at *
      have hk' : decide (r2 ≤ 0) = true := by simpa using hk
      clear hc1
      go_wp2_with fail
      refine hK.out _ _ (since hb36) ?_
      clear hK K
      repeat (first | (refine seq_skip (by rfl) (by rfl) ?_; simp only [Act.put, List.setIfInBounds_toArray, List.set_cons_succ, List.set_cons_zero]) | (refine seq_float (by rfl) (by rfl) (by rfl) ?_; intro K hK; go_big_quiet_op; go_big_quiet_on))
      refine seq_nil ?_
      go_wp2_with fail
      go_ret
      exact ⟨ret_i64 HV2.out.symm, hw3.trans (hb36.mono hw3.size)⟩
    · have hk := (HC.out (A1 ^ p * A2 ^ f * C3) (B1 ^ p * B2 ^ f * C4)).2.2.2 hc1
      have HV2 : Hid (decS gn gd bn bd an ad en ed p f = 0) := lid (by rw [HV.out, if_neg HC1.out, if_neg hc1])
      generalize cmpI ((A1 ^ p * A2 ^ f * C3 : Nat) : Int) ((B1 ^ p * B2 ^ f * C4 : Nat) : Int) = r2 at *
      have hk' : decide (r2 ≤ 0) = false := by simpa using hk
      clear hc1
      go_wp2_with fail
      refine hK.out _ _ (since hb36) ?_
      clear hK K
      repeat (first | (refine seq_skip (by rfl) (by rfl) ?_; simp only [Act.put, List.setIfInBounds_toArray, List.set_cons_succ, List.set_cons_zero]) | (refine seq_float (by rfl) (by rfl) (by rfl) ?_; intro K hK; go_big_quiet_op; go_big_quiet_on))
      refine seq_nil ?_
      go_wp2_with fail
      go_ret
      exact ⟨ret_i64 HV2.out.symm, hw3.trans (hb36.mono hw3.size)⟩
end Go.Proofs.Ytmlkegopbdfiaaa
