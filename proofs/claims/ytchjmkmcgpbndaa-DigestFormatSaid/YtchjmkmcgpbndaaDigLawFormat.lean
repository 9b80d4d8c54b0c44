/-
  The law DigestFormat returns true and makes new memory alone.
-/
import Derived.Test.YtchjmkmcgpbndaaDigAwake
import Derived.Test.YtchjmkmcgpbndaaDigRefParse
import Derived.Test.YtchjmkmcgpbndaaDigRefFormat
namespace Go.Proofs.Ytchjmkmcgpbndaa
open Go.RowKit

set_option maxHeartbeats 2000000 in
theorem LawFormat_any (d : Dg) (s : ByteArray) (w : World) (hs : s.size ≤ maxLen) :
    Calls Try.prog 3 #[dv d, .string s] w fun e w' => e = .returned (.bool true) ∧ Below w.heap.size w w' := by
  have hs' : s.size ≤ 9223372036854775807 := hs
  by_cases h100 : s.size ≤ 100
  · go_enter Try.func3, Try.ntmps3
    go_wp2_with fail
    (with_reducible refine (Parse_any s _ hs).mono ?_); rintro e w1 ⟨rfl, hb1⟩
    generalize hR : parseE s.data.toList = R
    obtain ⟨⟨x, y⟩, er⟩ := R
    have HR := lid hR
    clear hR
    go_wp2_with fail
    (with_reducible refine (refParse_any s _ hs).mono ?_); rintro e w2 ⟨rfl, hb2⟩
    rw [HR.out]
    go_wp2_with fail
    have hz1 := hb1.size
    have hz2 := hb2.size
    rw [World.size_alloc] at hz1 hz2
    have b0 : Below w.heap.size w (w.alloc (Obj.cells #[Value.int .u64 d.1.toNat, Value.int .u64 d.2.toNat] 24)) := ba _ _
    have hA1 := ba w1 (Obj.cells #[Value.int .u64 x.toNat, Value.int .u64 y.toNat] 24)
    have hA2 := ba w2 (Obj.cells #[Value.int .u64 x.toNat, Value.int .u64 y.toNat] 24)
    rw [World.size_alloc] at hb1 hb2
    have c00 : (w2.alloc (Obj.cells #[Value.int .u64 x.toNat, Value.int .u64 y.toNat] 24)).cell? ⟨w.heap.size, 0, none⟩ = some (.int .u64 d.1.toNat) := by rw [bc hA2 (by omega), bc hb2 (by omega), bc hA1 (by omega), bc hb1 (by omega)]; simp
    have c01 : (w2.alloc (Obj.cells #[Value.int .u64 x.toNat, Value.int .u64 y.toNat] 24)).cell? ⟨w.heap.size, 1, none⟩ = some (.int .u64 d.2.toNat) := by rw [bc hA2 (by omega), bc hb2 (by omega), bc hA1 (by omega), bc hb1 (by omega)]; simp
    have c10 : (w2.alloc (Obj.cells #[Value.int .u64 x.toNat, Value.int .u64 y.toNat] 24)).cell? ⟨w1.heap.size, 0, none⟩ = some (.int .u64 x.toNat) := by rw [bc hA2 (by omega), bc hb2 (by omega)]; simp
    have c11 : (w2.alloc (Obj.cells #[Value.int .u64 x.toNat, Value.int .u64 y.toNat] 24)).cell? ⟨w1.heap.size, 1, none⟩ = some (.int .u64 y.toNat) := by rw [bc hA2 (by omega), bc hb2 (by omega)]; simp
    have c20 : (w2.alloc (Obj.cells #[Value.int .u64 x.toNat, Value.int .u64 y.toNat] 24)).cell? ⟨w2.heap.size, 0, none⟩ = some (.int .u64 x.toNat) := by simp
    have c21 : (w2.alloc (Obj.cells #[Value.int .u64 x.toNat, Value.int .u64 y.toNat] 24)).cell? ⟨w2.heap.size, 1, none⟩ = some (.int .u64 y.toNat) := by simp
    have hw3 : Below w.heap.size w (w2.alloc (Obj.cells #[Value.int .u64 x.toNat, Value.int .u64 y.toNat] 24)) := (((b0.trans (hb1.mono (by omega))).trans (hA1.mono (by omega))).trans (hb2.mono (by omega))).trans (hA2.mono (by omega))
    have l0 : w.heap.size < (w2.alloc (Obj.cells #[Value.int .u64 x.toNat, Value.int .u64 y.toNat] 24)).heap.size := by rw [World.size_alloc]; omega
    have l1 : w1.heap.size < (w2.alloc (Obj.cells #[Value.int .u64 x.toNat, Value.int .u64 y.toNat] 24)).heap.size := by rw [World.size_alloc]; omega
    have l2 : w2.heap.size < (w2.alloc (Obj.cells #[Value.int .u64 x.toNat, Value.int .u64 y.toNat] 24)).heap.size := by rw [World.size_alloc]; omega
    clear hb1 hb2 hA1 hA2 b0 hz1 hz2
    generalize w2.alloc (Obj.cells #[Value.int .u64 x.toNat, Value.int .u64 y.toNat] 24) = w3 at *
    refine wp_region_seq (fun w' => ∃ s : Since w3.heap.size w3, w' = s.world) [(0, true), (2, true), (1, false), (3, false), (4, true), (5, true), (6, true), (7, true), (8, true), (9, true), (10, true), (11, true), (12, true), (13, true), (14, true), (15, true), (16, false), (17, true), (18, false)] (by kernel_rfl) (by kernel_rfl) (by intro c d v a w h; cases d <;> exact h) (since (Below.refl _ _).drew) ?_
    repeat (refine seq_float (by rfl) (by rfl) (by rfl) ?_; intro K hK; go_big_quiet_op; go_big_quiet_on)
    refine seq_chain (by rfl) ?_
    intro K hK
    go_wp2_with fail
    (with_reducible refine (Format_any d.1 d.2 _).mono ?_); rintro e w4 ⟨rfl, hb4⟩
    have hs4 : Below w3.heap.size w3 w4 := (Below.refl _ _).drew.trans hb4
    go_wp2_with fail
    refine hK.out _ _ (since hs4) ?_
    clear hK K
    repeat (refine seq_float (by rfl) (by rfl) (by rfl) ?_; intro K hK; go_big_quiet_op; go_big_quiet_on)
    refine seq_chain (by rfl) ?_
    intro K hK
    go_wp2_with fail
    (with_reducible refine (refFormat_any d.1 d.2 _).mono ?_); rintro e w5 ⟨rfl, hb5⟩
    have hs5 : Below w3.heap.size w3 w5 := hs4.trans (hb5.mono hs4.size)
    go_wp2_with fail
    refine hK.out _ _ (since hs5) ?_
    clear hK K
    repeat (refine seq_float (by rfl) (by rfl) (by rfl) ?_; intro K hK; go_big_quiet_op; go_big_quiet_on)
    refine seq_chain (by rfl) ?_
    intro K hK
    go_wp2_with fail
    (with_reducible refine (awake_any _).mono ?_); rintro e w6 ⟨rfl, hb6⟩
    have hs6 : Below w3.heap.size w3 w6 := hs5.trans (hb6.mono hs5.size)
    go_wp2_with fail
    refine hK.out _ _ (since hs6) ?_
    clear hK K
    repeat (refine seq_float (by rfl) (by rfl) (by rfl) ?_; intro K hK; go_big_quiet_op; go_big_quiet_on)
    refine seq_chain (by rfl) ?_
    intro K hK
    go_wp2_with fail
    go_wp2_with fail
    refine hK.out _ _ (since hs6) ?_
    clear hK K
    refine seq_nil ?_
    go_wp2_with fail
    go_ret
    exact ⟨rfl, hw3.trans (hs6.mono (by omega))⟩
  · go_enter Try.func3, Try.ntmps3
    go_wp2_with fail
    (with_reducible refine (awake_any _).mono ?_); rintro e w1 ⟨rfl, hb1⟩
    go_wp2_with fail
    go_ret
    exact ⟨rfl, ((Below.refl _ _).alloc (Nat.le_refl _) _).trans (hb1.mono (by simp))⟩
end Go.Proofs.Ytchjmkmcgpbndaa
