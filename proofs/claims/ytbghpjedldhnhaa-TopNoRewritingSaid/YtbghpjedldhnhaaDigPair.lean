/-
  digest.Pair and digest.leaf, and the reference's Node, Leaf and Pair.
-/
import Derived.Test.YtbghpjedldhnhaaDigBytes
import Derived.Test.YtbghpjedldhnhaaDigRefOf
import Derived.Test.YtbghpjedldhnhaaRegion
namespace Go.Proofs.Ytbghpjedldhnhaa
open Go.RowKit

set_option maxHeartbeats 1000000 in
theorem leaf_any (x y : UInt64) (w : World) :
    Calls Try.prog 38 #[.agg #[.int .u64 x.toNat, .int .u64 y.toNat]] w fun e w' => e = .returned (.agg #[.int .u64 (ofU (0 :: bytesU x y)).1.toNat, .int .u64 (ofU (0 :: bytesU x y)).2.toNat]) ∧ Below w.heap.size w w' := by
  go_enter Try.func38, Try.ntmps38
  go_wp2_with (at_make; go_must (refine wpList_make_new rfl _ _ 88 rfl (w.heap.size + 2) 5 (.int .u8 0) 1 1 info_u8 Try.underlying88 17 rfl rfl (by omega) (by simp [maxLen]) (by simp) ?_))
  intro w1 hown1 hb1 hz1
  go_wp2_with (at_builtin; go_must (refine wpList_append_new #[.int .u8 0] rfl _ _ 88 rfl (w.heap.size + 2) 5 (.int .u8 0) 1 1 info_u8 Try.underlying88 rfl (by decide) _ 0 _ hown1 rfl rfl rfl (by simp [Value.oneCell']) (by simp [maxLen]) (by omega) (by first | omega | (simp at hz1; omega)) ?_))
  intro v2 w2 hown2 hb2 _
  have hb12 := hb1.trans hb2
  have hz2 := Nat.lt_of_lt_of_le hz1 hb2.size
  obtain ⟨hc2, hf2⟩ := bcell hb12
  clear hown1 hb1 hb2 hz1
  go_wp2_with fail
  have hown2b : w2.ownsRow (w.heap.size + 2) 5 1 v2 1 (bvals [0]) := hown2
  with_reducible refine (appendBytes_any x y w2 (w.heap.size + 2) v2 1 [0] hown2b (by omega) (by omega)).mono ?_
  rintro e w3 ⟨v3, rfl, hown3, hb3⟩
  have hb13 := hb12.trans hb3
  have hz3 := Nat.lt_of_lt_of_le hz2 hb3.size
  obtain ⟨hc3, hf3⟩ := bcell hb13
  have hcv := run_string_of_row (P := Try.prog) hown3 Try.underlying88 Try.underlying5 Try.underlying9
  clear hown2 hown2b hb12 hb3 hz2 hc2 hf2
  go_wp2_with fail
  with_reducible refine (of_any (bstr (0 :: bytesU x y)) _ (by simp [bstr_size, bytesU_length, maxLen])).mono ?_
  rintro e w4 ⟨rfl, hb4⟩
  have hb14 := hb13.trans (hb4.mono (by omega))
  obtain ⟨hc4, hf4⟩ := bcell hb14
  clear hc3 hf3 hcv hown3
  go_wp2_with fail
  refine bodyPost_ret (v := .agg #[.int .u64 (ofU (0 :: bytesU x y)).1.toNat, .int .u64 (ofU (0 :: bytesU x y)).2.toNat]) (by simp [results, Try.results38, go_sem, hc4]) rfl ⟨rfl, ?_⟩
  exact ((((Below.refl _ _).alloc (Nat.le_refl _) _).alloc (by simp) _).trans (hb14.mono (by omega))).setCell (by simp) _ |>.setCell (by simp) _
set_option maxHeartbeats 1000000 in
theorem pair_any (x y x2 y2 : UInt64) (w : World) :
    Calls Try.prog 40 #[.agg #[.int .u64 x.toNat, .int .u64 y.toNat], .agg #[.int .u64 x2.toNat, .int .u64 y2.toNat]] w fun e w' =>
      e = .returned (.agg #[.int .u64 (ofU (1 :: (bytesU x y ++ bytesU x2 y2))).1.toNat, .int .u64 (ofU (1 :: (bytesU x y ++ bytesU x2 y2))).2.toNat]) ∧ Below w.heap.size w w' := by
  go_enter Try.func40, Try.ntmps40
  go_wp2_with (at_make; go_must (refine wpList_make_new rfl _ _ 88 rfl (w.heap.size + 3) 5 (.int .u8 0) 1 1 info_u8 Try.underlying88 33 rfl rfl (by omega) (by simp [maxLen]) (by simp) ?_))
  intro w1 hown1 hb1 hz1
  go_wp2_with (at_builtin; go_must (refine wpList_append_new #[.int .u8 1] rfl _ _ 88 rfl (w.heap.size + 3) 5 (.int .u8 0) 1 1 info_u8 Try.underlying88 rfl (by decide) _ 0 _ hown1 rfl rfl rfl (by simp [Value.oneCell']) (by simp [maxLen]) (by omega) (by first | omega | (simp at hz1; omega)) ?_))
  intro v2 w2 hown2 hb2 _
  have hb12 := hb1.trans hb2
  have hz2 := Nat.lt_of_lt_of_le hz1 hb2.size
  obtain ⟨hc2, hf2⟩ := bcell hb12
  clear hown1 hb1 hb2 hz1
  go_wp2_with fail
  have hown2b : w2.drew.ownsRow (w.heap.size + 3) 5 1 v2 1 (bvals [1]) := hown2
  have hz2d : w.heap.size + 3 ≤ w2.drew.heap.size := by show _ ≤ w2.heap.size; omega
  have hlen : (bstr (1 :: (bytesU x y ++ bytesU x2 y2))).size ≤ maxLen := by simp [bytesU_length, maxLen]
  refine wp_region_seq (fun w' => ∃ s : Since (w.heap.size + 2) w2, w' = s.world) [(0, true), (1, true), (3, true), (2, false), (4, false), (5, false), (6, false), (7, false)] (by kernel_rfl) (by kernel_rfl) (by intro c d v a w h; cases d <;> exact h) (since (Below.refl _ _).drew) ?_
  repeat (refine seq_float (by rfl) (by rfl) (by rfl) ?_; intro K hK; go_big_quiet_op; go_big_quiet_on)
  refine seq_chain (by rfl) ?_
  intro K hK
  go_wp2_with fail
  (with_reducible refine (appendBytes_any x y w2.drew (w.heap.size + 3) v2 1 [1] hown2b hz2d (by omega)).mono ?_); rintro e w3 ⟨v3, rfl, hown3, hb3⟩
  have hz3 := Nat.le_trans hz2d hb3.size
  have hs3 : Below (w.heap.size + 2) w2 w3 := ((Below.refl _ _).drew).trans (hb3.mono (by omega))
  go_wp2_with fail
  refine hK.out _ _ (since hs3) ?_
  clear hK K
  refine seq_chain (by rfl) ?_
  intro K hK
  go_wp2_with fail
  (with_reducible refine (appendBytes_any x2 y2 w3 (w.heap.size + 3) v3 _ _ hown3 hz3 (by omega)).mono ?_); rintro e w4 ⟨v4, rfl, hown4, hb4⟩
  have hz4 := Nat.le_trans hz3 hb4.size
  have hs4 : Below (w.heap.size + 2) w2 w4 := hs3.trans (hb4.mono (by omega))
  have hcv := run_string_of_row (P := Try.prog) hown4 Try.underlying88 Try.underlying5 Try.underlying9
  go_wp2_with fail
  refine hK.out _ _ (since hs4) ?_
  clear hK K
  refine seq_chain (by rfl) ?_
  intro K hK
  go_wp2_with fail
  refine hK.out _ _ (since hs4) ?_
  clear hK K
  refine seq_chain (by rfl) ?_
  intro K hK
  go_wp2_with fail
  (with_reducible refine (of_any (bstr (1 :: (bytesU x y ++ bytesU x2 y2))) w4 hlen).mono ?_); rintro e w5 ⟨rfl, hb5⟩
  have hs5 : Below (w.heap.size + 2) w2 w5 := hs4.trans (hb5.mono (by omega))
  have hb15 := ((hb12.drew.trans hb3).trans hb4).trans (hb5.mono hz4)
  obtain ⟨hc5, hf5⟩ := bcell hb15
  go_wp2_with fail
  refine hK.out _ _ (since hs5) ?_
  clear hK K
  refine seq_chain (by rfl) ?_
  intro K hK
  go_wp2_with fail
  refine hK.out _ _ (since ((hs5.setCell (by simp) _).setCell (by simp) _)) ?_
  clear hK K
  refine seq_nil ?_
  go_wp2_with fail
  refine bodyPost_ret (v := .agg #[.int .u64 (ofU (1 :: (bytesU x y ++ bytesU x2 y2))).1.toNat, .int .u64 (ofU (1 :: (bytesU x y ++ bytesU x2 y2))).2.toNat]) (by simp [results, Try.results40, go_sem, hc5]) rfl ⟨rfl, ?_⟩
  exact (((((Below.refl _ _).alloc (Nat.le_refl _) _).alloc (by simp) _).alloc (by simp; omega) _).trans (hb15.mono (by omega))).setCell (by simp; omega) _ |>.setCell (by simp; omega) _
end Go.Proofs.Ytbghpjedldhnhaa
