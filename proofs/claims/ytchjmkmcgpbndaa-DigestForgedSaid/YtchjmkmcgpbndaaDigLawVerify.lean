/-
  The law DigestVerify returns true and makes new memory alone.
-/
import Derived.Test.YtchjmkmcgpbndaaDigAwake
import Derived.Test.YtchjmkmcgpbndaaRegion
namespace Go.Proofs.Ytchjmkmcgpbndaa
open Go.RowKit

/-- The cells of a claim. -/
@[simp, reducible] def claimCells (root : Dg) (n i : Int) (d : Dg) (ao : Option Addr) (len cap : Nat) : Array Value :=
  #[.int .u64 root.1.toNat, .int .u64 root.2.toNat, .int .i64 n, .int .i64 i, .int .u64 d.1.toNat, .int .u64 d.2.toNat, .slice ao len cap]

set_option maxHeartbeats 2000000 in
theorem LawVerify_any (root d : Dg) (n i : Int) (p : List Dg) (ao : Option Addr) (len cap : Nat) (w : World) (hp : p.length = len) (hcap : len ≤ cap) (hs : DSl w ao p) :
    Calls Try.prog 5 #[.agg #[.int .u64 root.1.toNat, .int .u64 root.2.toNat, .int .i64 n, .int .i64 i, .int .u64 d.1.toNat, .int .u64 d.2.toNat, .slice ao len cap]] w fun e w' => e = .returned (.bool true) ∧ Below w.heap.size w w' := by
  have HP := lid hp
  have HS := lid hs
  clear hp hs
  by_cases h50 : len ≤ 50
  · go_enter Try.func5, Try.ntmps5
    go_wp2_with fail
    have hb0 := ba w (Obj.cells #[.int .u64 root.1.toNat, .int .u64 root.2.toNat, .int .i64 n, .int .i64 i, .int .u64 d.1.toNat, .int .u64 d.2.toNat, .slice ao len cap] 33)
    have hs0 := HS.out.below hb0
    have k0 : (w.alloc (Obj.cells #[.int .u64 root.1.toNat, .int .u64 root.2.toNat, .int .i64 n, .int .i64 i, .int .u64 d.1.toNat, .int .u64 d.2.toNat, .slice ao len cap] 33)).cell? ⟨w.heap.size, 0, none⟩ = some (.int .u64 root.1.toNat) := by simp
    have k1 : (w.alloc (Obj.cells #[.int .u64 root.1.toNat, .int .u64 root.2.toNat, .int .i64 n, .int .i64 i, .int .u64 d.1.toNat, .int .u64 d.2.toNat, .slice ao len cap] 33)).cell? ⟨w.heap.size, 1, none⟩ = some (.int .u64 root.2.toNat) := by simp
    have k2 : (w.alloc (Obj.cells #[.int .u64 root.1.toNat, .int .u64 root.2.toNat, .int .i64 n, .int .i64 i, .int .u64 d.1.toNat, .int .u64 d.2.toNat, .slice ao len cap] 33)).cell? ⟨w.heap.size, 2, none⟩ = some (.int .i64 n) := by simp
    have k3 : (w.alloc (Obj.cells #[.int .u64 root.1.toNat, .int .u64 root.2.toNat, .int .i64 n, .int .i64 i, .int .u64 d.1.toNat, .int .u64 d.2.toNat, .slice ao len cap] 33)).cell? ⟨w.heap.size, 3, none⟩ = some (.int .i64 i) := by simp
    have k4 : (w.alloc (Obj.cells #[.int .u64 root.1.toNat, .int .u64 root.2.toNat, .int .i64 n, .int .i64 i, .int .u64 d.1.toNat, .int .u64 d.2.toNat, .slice ao len cap] 33)).cell? ⟨w.heap.size, 4, none⟩ = some (.int .u64 d.1.toNat) := by simp
    have k5 : (w.alloc (Obj.cells #[.int .u64 root.1.toNat, .int .u64 root.2.toNat, .int .i64 n, .int .i64 i, .int .u64 d.1.toNat, .int .u64 d.2.toNat, .slice ao len cap] 33)).cell? ⟨w.heap.size, 5, none⟩ = some (.int .u64 d.2.toNat) := by simp
    have k6 : (w.alloc (Obj.cells #[.int .u64 root.1.toNat, .int .u64 root.2.toNat, .int .i64 n, .int .i64 i, .int .u64 d.1.toNat, .int .u64 d.2.toNat, .slice ao len cap] 33)).cell? ⟨w.heap.size, 6, none⟩ = some (.slice ao len cap) := by simp
    have hz0 : w.heap.size < (w.alloc (Obj.cells #[.int .u64 root.1.toNat, .int .u64 root.2.toNat, .int .i64 n, .int .i64 i, .int .u64 d.1.toNat, .int .u64 d.2.toNat, .slice ao len cap] 33)).heap.size := by rw [World.size_alloc]; omega
    generalize w.alloc (Obj.cells #[.int .u64 root.1.toNat, .int .u64 root.2.toNat, .int .i64 n, .int .i64 i, .int .u64 d.1.toNat, .int .u64 d.2.toNat, .slice ao len cap] 33) = w1 at *
    go_wp2_with fail
    refine wp_region_seq (fun w' => ∃ s : Since w1.heap.size w1, w' = s.world) [(0, true), (1, true), (2, true), (3, true), (4, true), (5, true), (6, true), (7, true), (8, true), (9, true), (11, true), (12, true), (13, true), (14, true), (15, true), (16, true), (17, true), (18, true), (19, true), (20, true), (10, false), (21, false), (22, true), (23, true), (24, false), (25, true), (26, false)] (by kernel_rfl) (by kernel_rfl) (by intro c d v a w h; cases d <;> exact h) (since (Below.refl _ _).drew) ?_
    repeat (first | (refine seq_skip (by rfl) (by rfl) ?_; simp only [Act.put, List.setIfInBounds_toArray, List.set_cons_succ, List.set_cons_zero]) | (refine seq_float (by rfl) (by rfl) (by rfl) ?_; intro K hK; go_big_quiet_op; go_big_quiet_on))
    refine seq_chain (by rfl) ?_
    intro K hK
    go_wp2_with fail
    (with_reducible refine (Verify_any root n i d p ao len cap _ HP.out hcap (by omega) (hs0.below ((Below.refl _ _).drew))).mono ?_); rintro e w2 ⟨rfl, hb2⟩
    have hs2 : Below w1.heap.size w1 w2 := (Below.refl _ _).drew.trans hb2
    go_wp2_with fail
    refine hK.out _ _ (since hs2) ?_
    clear hK K
    repeat (first | (refine seq_skip (by rfl) (by rfl) ?_; simp only [Act.put, List.setIfInBounds_toArray, List.set_cons_succ, List.set_cons_zero]) | (refine seq_float (by rfl) (by rfl) (by rfl) ?_; intro K hK; go_big_quiet_op; go_big_quiet_on))
    refine seq_chain (by rfl) ?_
    intro K hK
    go_wp2_with fail
    (with_reducible refine (refVerify_any root n i d p ao len cap _ HP.out hcap (by omega) (hs0.below hs2)).mono ?_); rintro e w3 ⟨rfl, hb3⟩
    have hs3 : Below w1.heap.size w1 w3 := hs2.trans (hb3.mono hs2.size)
    go_wp2_with fail
    refine hK.out _ _ (since hs3) ?_
    clear hK K
    repeat (first | (refine seq_skip (by rfl) (by rfl) ?_; simp only [Act.put, List.setIfInBounds_toArray, List.set_cons_succ, List.set_cons_zero]) | (refine seq_float (by rfl) (by rfl) (by rfl) ?_; intro K hK; go_big_quiet_op; go_big_quiet_on))
    refine seq_chain (by rfl) ?_
    intro K hK
    go_wp2_with fail
    (with_reducible refine (awake_any _).mono ?_); rintro e w4 ⟨rfl, hb4⟩
    have hs4 : Below w1.heap.size w1 w4 := hs3.trans (hb4.mono hs3.size)
    go_wp2_with fail
    refine hK.out _ _ (since hs4) ?_
    clear hK K
    repeat (first | (refine seq_skip (by rfl) (by rfl) ?_; simp only [Act.put, List.setIfInBounds_toArray, List.set_cons_succ, List.set_cons_zero]) | (refine seq_float (by rfl) (by rfl) (by rfl) ?_; intro K hK; go_big_quiet_op; go_big_quiet_on))
    refine seq_chain (by rfl) ?_
    intro K hK
    go_wp2_with fail
    go_wp2_with fail
    refine hK.out _ _ (since hs4) ?_
    clear hK K
    refine seq_nil ?_
    go_wp2_with fail
    go_ret
    exact ⟨rfl, hb0.trans (hs4.mono (by omega))⟩
  · go_enter Try.func5, Try.ntmps5
    go_wp2_with fail
    (with_reducible refine (awake_any _).mono ?_); rintro e w1 ⟨rfl, hb1⟩
    go_wp2_with fail
    go_ret
    exact ⟨rfl, ((Below.refl _ _).alloc (Nat.le_refl _) _).trans (hb1.mono (by simp))⟩
end Go.Proofs.Ytchjmkmcgpbndaa
