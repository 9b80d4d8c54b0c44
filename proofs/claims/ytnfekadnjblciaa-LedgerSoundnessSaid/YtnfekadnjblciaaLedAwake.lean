/-
  The examples of the chapter: the statements' awake returns true.
-/
import Derived.Test.YtnfekadnjblciaaLedHolds
import Derived.Test.YtnfekadnjblciaaLedGreat
import Derived.Test.YtnfekadnjblciaaLedExtend
import Derived.Test.YtnfekadnjblciaaLedHead2
namespace Go.Proofs.Ytnfekadnjblciaa
open Go.RowKit

abbrev exR (d : ByteArray) : Rec := (5, ⟨#[97, 110, 110]⟩, ⟨#[108, 97, 110, 100]⟩, d)
abbrev exA : Rec := exR ⟨#[97]⟩
abbrev exB : Rec := exR ⟨#[98]⟩
abbrev exC : Rec := exR ⟨#[99]⟩
theorem half3 : halfN 3 = 2 := (halfN_eq (j := 1) rfl (by omega) (by omega)).symm
theorem proofD_abc (a b c : Dg) : proofD [a, b, c] 2 = [rootD [a, b]] := by
  have h : halfN [a, b, c].length = 2 := half3
  rw [proofD_hi (by simp) (by rw [h]; omega), h]
  show proofD [c] 0 ++ [rootD [a, b]] = _
  rw [proofD_few (by simp)]
  rfl
theorem growD_abc (a b c : Dg) : growD [a, b, c] 2 true = [rootD [c]] := by
  have h : halfN [a, b, c].length = 2 := half3
  rw [growD, if_neg (by simp), dif_pos (by simp), h, if_pos (by omega)]
  show growD [a, b] 2 true ++ [rootD [c]] = _
  rw [growD, if_pos rfl]
  rfl
theorem verify_abc (a b c : Dg) : verifyD (rootD [a, b, c]) 3 2 c [rootD [a, b]] = true := by
  rw [verifyD_in _ _ _ (by omega)]
  have h : halfN [a, b, c].length = 2 := half3
  have e1 : rootD [a, b, c] = pairD (rootD [a, b]) (leafD c) := by
    rw [rootD_more (by simp), h, ← rootD_one]
    rfl
  have e2 : resultD (Int.toNat 3) (Int.toNat 2) c [rootD [a, b]] = (pairD (rootD [a, b]) (leafD c), true) := by
    show resultD 3 2 c [rootD [a, b]] = _
    rw [resultD, if_neg (by omega), dif_neg (by simp), half3, if_neg (by omega)]
    show (pairD _ (resultD 1 0 c []).1, (resultD 1 0 c []).2) = _
    rw [resultD_one]
    rfl
  rw [e1, e2]
  simp
theorem chk1 : checkL [exA] = 0 := by decide +kernel
theorem chk2 : checkL [exA, exB] = 0 := by decide +kernel
theorem chk3 : checkL [exA, exB, exC] = 0 := by decide +kernel
theorem valC : recB exC = true := by decide +kernel
theorem prove1 : proveE [exA] 0 = ([], 0) := by
  unfold proveE
  rw [if_pos chk1]
  show proofE [recD exA] 0 = _
  unfold proofE
  rw [if_neg (by simp), proofD_few (by simp)]
theorem prove3 : proveE [exA, exB, exC] 2 = ([rootD [recD exA, recD exB]], 0) := by
  unfold proveE
  rw [if_pos chk3]
  show proofE [recD exA, recD exB, recD exC] 2 = _
  unfold proofE
  rw [if_neg (by simp)]
  show (proofD _ 2, 0) = _
  rw [proofD_abc]
theorem ext3 : extE [exA, exB, exC] 2 = ([rootD [recD exC]], 0) := by
  rw [show (2 : Int) = ((2 : Nat) : Int) from rfl, extE_in chk3 (by omega) (by simp)]
  show (growD [recD exA, recD exB, recD exC] 2 true, 0) = _
  rw [growD_abc]
theorem head2 : headD [exA, exB] = rootD [recD exA, recD exB] := by
  unfold headD
  rw [if_pos chk2]
  rfl
theorem holds3 : holdsB (headD [exA, exB, exC]) 3 2 exC [rootD [recD exA, recD exB]] = true := by
  have e : headD [exA, exB, exC] = rootD [recD exA, recD exB, recD exC] := by
    unfold headD
    rw [if_pos chk3]
    rfl
  unfold holdsB
  rw [valC, e, verify_abc]
  rfl

theorem record_any (d : ByteArray) (w : World) :
    Calls Try.prog 31 #[.string d] w fun e w' => e = .returned (rv (exR d)) ∧ Below w.heap.size w w' := by
  go_enter Try.func31, Try.ntmps31
  go_wp2_with fail
  refine bodyPost_ret (v := rv (exR d)) (by simp [results, Try.results31, go_sem]) rfl ⟨rfl, ?_⟩
  exact ba _ _

theorem recS_ex {d : ByteArray} (h : d.size ≤ maxLen) : RecS (exR d) := ⟨by show 3 ≤ _; decide, by show 4 ≤ _; decide, h⟩

set_option maxRecDepth 100000 in
set_option maxHeartbeats 8000000 in
theorem awake_any (w : World) : Calls Try.prog 12 #[] w fun e w' => e = .returned (.bool true) ∧ Below w.heap.size w w' := by
  have CA := lid (fun w => record_any ⟨#[97]⟩ w)
  have CB := lid (fun w => record_any ⟨#[98]⟩ w)
  have CC := lid (fun w => record_any ⟨#[99]⟩ w)
  go_enter Try.func12, Try.ntmps12
  go_wp2_with fail
  (with_reducible refine (CA.out _).mono ?_); rintro e w1 ⟨rfl, hb1⟩
  go_wp2_with fail
  (with_reducible refine (CB.out _).mono ?_); rintro e w2 ⟨rfl, hb2⟩
  go_wp2_with fail
  (with_reducible refine (CC.out _).mono ?_); rintro e w3 ⟨rfl, hb3⟩
  have hw3 := hb1.trans ((hb2.trans (hb3.mono hb2.size)).mono hb1.size)
  go_wp2_with fail
  obtain ⟨W, hW⟩ : ∃ W, (w3.alloc (Obj.cells #[.int .i64 5, .string ⟨#[97, 110, 110]⟩, .string ⟨#[108, 97, 110, 100]⟩, .string ⟨#[97]⟩, .int .i64 5, .string ⟨#[97, 110, 110]⟩, .string ⟨#[108, 97, 110, 100]⟩, .string ⟨#[98]⟩, .int .i64 5, .string ⟨#[97, 110, 110]⟩, .string ⟨#[108, 97, 110, 100]⟩, .string ⟨#[99]⟩] 30)).alloc (Obj.cells #[.slice (some ⟨w3.heap.size, 0, none⟩) 3 3] 24) = W := ⟨_, rfl⟩
  have hbW : Below w3.heap.size w3 W := by rw [← hW]; exact (ba w3 _).trans ((ba _ _).mono (by simp))
  have hc : ∀ j, W.cell? ⟨w3.heap.size, j, none⟩ = (#[.int .i64 5, .string ⟨#[97, 110, 110]⟩, .string ⟨#[108, 97, 110, 100]⟩, .string ⟨#[97]⟩, .int .i64 5, .string ⟨#[97, 110, 110]⟩, .string ⟨#[108, 97, 110, 100]⟩, .string ⟨#[98]⟩, .int .i64 5, .string ⟨#[97, 110, 110]⟩, .string ⟨#[108, 97, 110, 100]⟩, .string ⟨#[99]⟩] : Array Value)[j]? := fun j => by rw [← hW, bc (ba _ _) (by simp)]; exact cell_new_at rfl _ _ _
  have qW : W.cell? ⟨w3.heap.size + 1, 0, none⟩ = some (.slice (some ⟨w3.heap.size, 0, none⟩) 3 3) := by rw [← hW]; simp
  have hz : w3.heap.size + 1 < W.heap.size := by rw [← hW]; simp
  have hSl : Sl W 4 (some ⟨w3.heap.size, 0, none⟩) 3 (rcells [exA, exB, exC]) := ⟨rfl, .inr ⟨_, 0, rfl, by omega, fun j u h => by rw [Nat.zero_add, hc, List.getElem?_toArray]; exact h⟩⟩
  rw [hW]
  clear hW hc
  have sA : RecS exA := recS_ex (by show 1 ≤ _; decide)
  have sB : RecS exB := recS_ex (by show 1 ≤ _; decide)
  have sC : RecS exC := recS_ex (by show 1 ≤ _; decide)
  have A1 : Hid (LedA W (some ⟨w3.heap.size, 0, none⟩) 1 3 [exA]) := lid ⟨rfl, hSl.take (k := 1) (by omega), fun r hr => by simp at hr; rw [hr]; exact sA, by decide⟩
  have A2 : Hid (LedA W (some ⟨w3.heap.size, 0, none⟩) 2 3 [exA, exB]) := lid ⟨rfl, hSl.take (k := 2) (by omega), fun r hr => by simp at hr; rcases hr with hr | hr <;> rw [hr] <;> assumption, by decide⟩
  have A3 : Hid (LedA W (some ⟨w3.heap.size, 0, none⟩) 3 3 [exA, exB, exC]) := lid ⟨rfl, hSl, fun r hr => by simp at hr; rcases hr with hr | hr | hr <;> rw [hr] <;> assumption, by decide⟩
  have SC := lid sC
  clear sA sB sC hSl
  have C1 := Prove_any [exA] 0 1 3 _ W A1.out
  rw [prove1] at C1
  (with_reducible refine (C1).mono ?_); rintro e w4 ⟨a4, n4, c4, rfl, g1, g2, g3, hb4⟩
  obtain rfl : 0 = n4 := g1
  have q4 := (bc hb4 hz 0).trans qW
  have hz4 : w3.heap.size + 1 < w4.heap.size := by have := hb4.size; omega
  clear g2 g3
  go_wp2_with fail
  have C2 := Prove_any [exA, exB, exC] 2 3 3 _ w4 (A3.out.below hb4)
  rw [prove3] at C2
  have HH := lid head2
  have HO := lid holds3
  generalize rootD [recD exA, recD exB] = X at *
  (with_reducible refine (C2).mono ?_); rintro e w5 ⟨a5, n5, c5, rfl, g1, g2, g3, hb5⟩
  obtain rfl : 1 = n5 := g1
  have h5 := hb4.trans (hb5.mono hb4.size)
  have q5 := (bc h5 hz 0).trans qW
  have hz5 : w3.heap.size + 1 < w5.heap.size := by have := hb5.size; omega
  have G2 := lid g2
  have G3 := lid g3
  clear g2 g3 q4
  go_wp2_with fail
  have C3 := Extend_any [exA, exB, exC] 2 3 3 _ w5 (A3.out.below h5)
  rw [ext3] at C3
  (with_reducible refine (C3).mono ?_); rintro e w6 ⟨a6, n6, c6, rfl, g1, g2, g3, hb6⟩
  obtain rfl : 1 = n6 := g1
  clear g2 g3 q5
  have h6 := h5.trans (hb6.mono h5.size)
  have q6 := (bc h6 hz 0).trans qW
  have hz6 : w3.heap.size + 1 < w6.heap.size := by have := hb6.size; omega
  have hz6' : w3.heap.size < w6.heap.size := by omega
  have G6 := lid (G3.out.below hb6)
  obtain ⟨b5, o5, rfl, hlb, hd⟩ := G6.out.resolve_left (by simp)
  have z0 : w6.cell? ⟨b5, o5, none⟩ = some (.int .u64 X.1.toNat) := (hd 0 (by simp)).1
  have z1 : w6.cell? ⟨b5, o5 + 1, none⟩ = some (.int .u64 X.2.toNat) := (hd 0 (by simp)).2
  clear hd
  have hfin := hw3.trans ((hbW.trans (h6.mono hbW.size)).mono hw3.size)
  have hc5 : 1 ≤ c5 := G2.out
  clear hbW
  go_wp2_with fail
  refine wp_region_seq (fun w' => ∃ s : Since w6.heap.size w6, w' = s.world) [(0, true), (1, true), (2, true), (3, true), (4, true), (5, true), (6, true), (7, true), (8, true), (9, true), (10, true), (11, true), (12, true), (13, true), (14, true), (15, true), (16, true), (17, true), (18, true), (19, true), (20, true), (21, true), (22, true), (23, true), (24, true), (25, true), (26, true), (27, true), (28, true), (29, true), (30, true), (31, true), (32, true), (33, false), (34, true), (35, true), (36, true), (37, true), (40, true), (38, false), (39, false), (41, false), (42, true), (43, false)] (by kernel_rfl) (by kernel_rfl) (by intro c d v a w h; cases d <;> exact h) (since (Below.refl _ _).drew) ?_
  repeat (first | (refine seq_skip (by rfl) (by rfl) ?_; simp only [Act.put, List.setIfInBounds_toArray, List.set_cons_succ, List.set_cons_zero]) | (refine seq_float (by rfl) (by rfl) (by rfl) ?_; intro K hK; go_big_quiet_op; go_big_quiet_on))
  refine seq_chain (by rfl) ?_
  intro K hK
  go_wp2_with fail
  have C4 := fun w' (h : Below w6.heap.size w6 w') => Head_any [exA, exB] 2 3 _ w' ((A2.out.below h6).below h)
  rw [HH.out] at C4
  (with_reducible refine (C4 _ (Below.refl _ _).drew).mono ?_); rintro e w7 ⟨rfl, hb7⟩
  have h7 : Below w6.heap.size w6 w7 := (Below.refl _ _).drew.trans hb7
  go_wp2_with fail
  refine hK.out _ _ (since h7) ?_
  clear hK K
  repeat (first | (refine seq_skip (by rfl) (by rfl) ?_; simp only [Act.put, List.setIfInBounds_toArray, List.set_cons_succ, List.set_cons_zero]) | (refine seq_float (by rfl) (by rfl) (by rfl) ?_; intro K hK; go_big_quiet_op; go_big_quiet_on))
  refine seq_chain (by rfl) ?_
  intro K hK
  go_wp2_with fail
  (with_reducible refine (Head_any [exA, exB, exC] 3 3 _ _ ((A3.out.below h6).below h7)).mono ?_); rintro e w8 ⟨rfl, hb8⟩
  have h8 := h7.trans (hb8.mono h7.size)
  go_wp2_with fail
  refine hK.out _ _ (since h8) ?_
  clear hK K
  repeat (first | (refine seq_skip (by rfl) (by rfl) ?_; simp only [Act.put, List.setIfInBounds_toArray, List.set_cons_succ, List.set_cons_zero]) | (refine seq_float (by rfl) (by rfl) (by rfl) ?_; intro K hK; go_big_quiet_op; go_big_quiet_on))
  refine seq_chain (by rfl) ?_
  intro K hK
  go_wp2_with fail
  (with_reducible refine (CC.out _).mono ?_); rintro e w9 ⟨rfl, hb9⟩
  have h9 := h8.trans (hb9.mono h8.size)
  go_wp2_with fail
  refine hK.out _ _ (since h9) ?_
  clear hK K
  repeat (first | (refine seq_skip (by rfl) (by rfl) ?_; simp only [Act.put, List.setIfInBounds_toArray, List.set_cons_succ, List.set_cons_zero]) | (refine seq_float (by rfl) (by rfl) (by rfl) ?_; intro K hK; go_big_quiet_op; go_big_quiet_on))
  refine seq_chain (by rfl) ?_
  intro K hK
  go_wp2_with fail
  have C5 := fun w' (h : Below w6.heap.size w6 w') => Holds_any (headD [exA, exB, exC]) 3 2 exC [X] (some ⟨b5, o5, none⟩) 1 c5 w' SC.out rfl hc5 (by decide) (G6.out.below h)
  rw [HO.out] at C5
  (with_reducible refine (C5 _ h9).mono ?_); rintro e w10 ⟨rfl, hb10⟩
  have h10 := h9.trans (hb10.mono h9.size)
  go_wp2_with fail
  refine hK.out _ _ (since h10) ?_
  clear hK K
  repeat (first | (refine seq_skip (by rfl) (by rfl) ?_; simp only [Act.put, List.setIfInBounds_toArray, List.set_cons_succ, List.set_cons_zero]) | (refine seq_float (by rfl) (by rfl) (by rfl) ?_; intro K hK; go_big_quiet_op; go_big_quiet_on))
  refine seq_chain (by rfl) ?_
  intro K hK
  go_wp2_with fail
  refine hK.out _ _ (since h10) ?_
  clear hK K
  repeat (first | (refine seq_skip (by rfl) (by rfl) ?_; simp only [Act.put, List.setIfInBounds_toArray, List.set_cons_succ, List.set_cons_zero]) | (refine seq_float (by rfl) (by rfl) (by rfl) ?_; intro K hK; go_big_quiet_op; go_big_quiet_on))
  refine seq_nil ?_
  go_wp2_with fail
  go_ret
  exact ⟨rfl, hfin.trans (h10.mono hfin.size)⟩
end Go.Proofs.Ytnfekadnjblciaa
