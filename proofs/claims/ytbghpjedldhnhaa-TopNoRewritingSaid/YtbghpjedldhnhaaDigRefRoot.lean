/-
  The reference's Leaf, Node, Pair and Root.
-/
import Derived.Test.YtbghpjedldhnhaaDigPair
import Derived.Test.YtbghpjedldhnhaaDigHalf
namespace Go.Proofs.Ytbghpjedldhnhaa
open Go.RowKit

set_option maxHeartbeats 400000 in
theorem refLeaf_any (x y : UInt64) (w : World) :
    Calls Try.prog 29 #[.agg #[.int .u64 x.toNat, .int .u64 y.toNat]] w fun e w' => e = .returned (.string (bstr (0 :: bytesU x y))) ∧ Below w.heap.size w w' := by
  have hl : (bstr (bytesU x y)).size = 16 := by simp [bytesU_length]
  have HL := lid hl
  clear hl
  go_enter Try.func29, Try.ntmps29
  go_wp2_with fail
  (with_reducible refine (refBytes_any x y _).mono ?_); rintro e w1 ⟨rfl, hb1⟩
  have hl := HL.out
  go_wp2_with fail
  go_ret
  exact ⟨ret_string (bstr_append [0] _), ((Below.refl _ _).alloc (Nat.le_refl _) _).trans (hb1.mono (by simp))⟩

set_option maxHeartbeats 400000 in
theorem refNode_any (x y x2 y2 : UInt64) (w : World) :
    Calls Try.prog 25 #[.agg #[.int .u64 x.toNat, .int .u64 y.toNat], .agg #[.int .u64 x2.toNat, .int .u64 y2.toNat]] w fun e w' => e = .returned (.string (bstr (1 :: (bytesU x y ++ bytesU x2 y2)))) ∧ Below w.heap.size w w' := by
  have HL : Hid ((bstr (bytesU x y)).size = 16) := by show _ = _; simp [bytesU_length]
  have HL2 : Hid ((bstr (bytesU x2 y2)).size = 16) := by show _ = _; simp [bytesU_length]
  go_enter Try.func25, Try.ntmps25
  go_wp2_with fail
  have hz0 : w.heap.size + 2 ≤ ((w.alloc (Obj.cells #[Value.int .u64 x.toNat, Value.int .u64 y.toNat] 32)).alloc (Obj.cells #[Value.int .u64 x2.toNat, Value.int .u64 y2.toNat] 32)).drew.heap.size := by show _ ≤ ((w.alloc _).alloc _).heap.size; rw [World.size_alloc, World.size_alloc]; omega
  refine wp_region_seq (fun w' => ∃ s : Since (w.heap.size + 2) ((w.alloc (Obj.cells #[Value.int .u64 x.toNat, Value.int .u64 y.toNat] 32)).alloc (Obj.cells #[Value.int .u64 x2.toNat, Value.int .u64 y2.toNat] 32)), w' = s.world) [(0, true), (3, true), (1, false), (2, true), (4, false), (5, true), (6, false)] (by kernel_rfl) (by kernel_rfl) (by intro c d v a w h; cases d <;> exact h) (since (Below.refl _ _).drew) ?_
  repeat (first | (refine seq_skip (by rfl) (by rfl) ?_; simp only [Act.put, List.setIfInBounds_toArray, List.set_cons_succ, List.set_cons_zero]) | (refine seq_float (by rfl) (by rfl) (by rfl) ?_; intro K hK; go_big_quiet_op; go_big_quiet_on))
  refine seq_chain (by rfl) ?_
  intro K hK
  go_wp2_with fail
  (with_reducible refine (refBytes_any x y _).mono ?_); rintro e w1 ⟨rfl, hb1⟩
  have hs1 : Below (w.heap.size + 2) ((w.alloc (Obj.cells #[Value.int .u64 x.toNat, Value.int .u64 y.toNat] 32)).alloc (Obj.cells #[Value.int .u64 x2.toNat, Value.int .u64 y2.toNat] 32)) w1 := ((Below.refl _ _).drew).trans (hb1.mono hz0)
  have hz1 := Nat.le_trans hz0 hb1.size
  have hl := HL.out
  go_wp2_with fail
  refine hK.out _ _ (since hs1) ?_
  clear hK K
  repeat (first | (refine seq_skip (by rfl) (by rfl) ?_; simp only [Act.put, List.setIfInBounds_toArray, List.set_cons_succ, List.set_cons_zero]) | (refine seq_float (by rfl) (by rfl) (by rfl) ?_; intro K hK; go_big_quiet_op; go_big_quiet_on))
  refine seq_chain (by rfl) ?_
  intro K hK
  go_wp2_with fail
  (with_reducible refine (refBytes_any x2 y2 _).mono ?_); rintro e w2 ⟨rfl, hb2⟩
  have hl2 := HL2.out
  have hs2 := hs1.trans (hb2.mono hz1)
  go_wp2_with fail
  refine hK.out _ _ (since hs2) ?_
  clear hK K
  repeat (first | (refine seq_skip (by rfl) (by rfl) ?_; simp only [Act.put, List.setIfInBounds_toArray, List.set_cons_succ, List.set_cons_zero]) | (refine seq_float (by rfl) (by rfl) (by rfl) ?_; intro K hK; go_big_quiet_op; go_big_quiet_on))
  refine seq_chain (by rfl) ?_
  intro K hK
  go_wp2_with fail
  go_wp2_with fail
  refine hK.out _ _ (since hs2) ?_
  clear hK K
  refine seq_nil ?_
  go_wp2_with fail
  go_ret
  exact ⟨ret_string (by show bstr [1] ++ _ ++ _ = _; rw [bstr_append, bstr_append]; rfl), (((Below.refl _ _).alloc (Nat.le_refl _) _).alloc (by simp) _).trans (hs2.mono (by omega))⟩

end Go.Proofs.Ytbghpjedldhnhaa
