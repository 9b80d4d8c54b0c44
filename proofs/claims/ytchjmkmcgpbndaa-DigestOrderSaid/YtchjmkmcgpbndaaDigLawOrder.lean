/-
  The law DigestOrder returns true and makes new memory alone.
-/
import Derived.Test.YtchjmkmcgpbndaaDigAwake
import Derived.Test.YtchjmkmcgpbndaaDigOrder
import Derived.Test.YtchjmkmcgpbndaaDigFormat
import Derived.Test.YtchjmkmcgpbndaaStrCompare
import Derived.Test.YtchjmkmcgpbndaaRegion
namespace Go.Proofs.Ytchjmkmcgpbndaa
open Go.RowKit

theorem texts_any (a b : Dg) (w : World) : Calls Try.prog 28 #[.string (bstr (hexU a.1 a.2)), .string (bstr (hexU b.1 b.2))] w fun e w' => e = .returned (.int .i64 (cmpD a b)) ∧ w' = w := by
  have h := StrCompare_any (bstr (hexU a.1 a.2)) (bstr (hexU b.1 b.2)) w
  rw [bstr_list, bstr_list, cmp_texts] at h
  exact h
theorem cmpD_dg (a b : Dg) : (cmpD a b == 0) = (((a.1.toNat : Int) == (b.1.toNat : Int)) && ((a.2.toNat : Int) == (b.2.toNat : Int))) := by rw [cmpD_zero, beq_dg]

set_option maxHeartbeats 2000000 in
theorem LawOrder_any (a b : Dg) (w : World) :
    Calls Try.prog 8 #[dv a, dv b] w fun e w' => e = .returned (.bool true) ∧ Below w.heap.size w w' := by
  have C1 := lid (fun w => Compare_any a b w)
  have C2 := lid (fun w => Format_any a.1 a.2 w)
  have C3 := lid (fun w => Format_any b.1 b.2 w)
  have C4 := lid (fun w => texts_any a b w)
  have HC := lid (cmpD_dg a b)
  go_enter Try.func8, Try.ntmps8
  go_wp2_with fail
  have hb0 := (ba w (Obj.cells #[Value.int .u64 a.1.toNat, Value.int .u64 a.2.toNat] 24)).alloc (by simp) (Obj.cells #[Value.int .u64 b.1.toNat, Value.int .u64 b.2.toNat] 24)
  have k0 : ((w.alloc (Obj.cells #[Value.int .u64 a.1.toNat, Value.int .u64 a.2.toNat] 24)).alloc (Obj.cells #[Value.int .u64 b.1.toNat, Value.int .u64 b.2.toNat] 24)).cell? ⟨w.heap.size, 0, none⟩ = some (.int .u64 a.1.toNat) := by simp
  have k1 : ((w.alloc (Obj.cells #[Value.int .u64 a.1.toNat, Value.int .u64 a.2.toNat] 24)).alloc (Obj.cells #[Value.int .u64 b.1.toNat, Value.int .u64 b.2.toNat] 24)).cell? ⟨w.heap.size, 1, none⟩ = some (.int .u64 a.2.toNat) := by simp
  have k2 : ((w.alloc (Obj.cells #[Value.int .u64 a.1.toNat, Value.int .u64 a.2.toNat] 24)).alloc (Obj.cells #[Value.int .u64 b.1.toNat, Value.int .u64 b.2.toNat] 24)).cell? ⟨w.heap.size + 1, 0, none⟩ = some (.int .u64 b.1.toNat) := by simp
  have k3 : ((w.alloc (Obj.cells #[Value.int .u64 a.1.toNat, Value.int .u64 a.2.toNat] 24)).alloc (Obj.cells #[Value.int .u64 b.1.toNat, Value.int .u64 b.2.toNat] 24)).cell? ⟨w.heap.size + 1, 1, none⟩ = some (.int .u64 b.2.toNat) := by simp
  have hz : w.heap.size + 1 < ((w.alloc (Obj.cells #[Value.int .u64 a.1.toNat, Value.int .u64 a.2.toNat] 24)).alloc (Obj.cells #[Value.int .u64 b.1.toNat, Value.int .u64 b.2.toNat] 24)).heap.size := by rw [World.size_alloc, World.size_alloc]; omega
  have hz' : w.heap.size < ((w.alloc (Obj.cells #[Value.int .u64 a.1.toNat, Value.int .u64 a.2.toNat] 24)).alloc (Obj.cells #[Value.int .u64 b.1.toNat, Value.int .u64 b.2.toNat] 24)).heap.size := by rw [World.size_alloc, World.size_alloc]; omega
  generalize (w.alloc (Obj.cells #[Value.int .u64 a.1.toNat, Value.int .u64 a.2.toNat] 24)).alloc (Obj.cells #[Value.int .u64 b.1.toNat, Value.int .u64 b.2.toNat] 24) = w1 at *
  refine wp_region_seq (fun w' => ∃ s : Since w1.heap.size w1, w' = s.world) [(0, true), (1, true), (3, true), (5, true), (2, false), (4, false), (6, false), (7, false), (8, true), (9, true), (10, true), (11, true), (14, true), (15, true), (16, true), (12, false), (13, true), (17, true), (18, true), (19, true), (20, false), (21, true), (22, false)] (by kernel_rfl) (by kernel_rfl) (by intro c d v a w h; cases d <;> exact h) (since (Below.refl _ _).drew) ?_
  repeat (refine seq_float (by rfl) (by rfl) (by rfl) ?_; intro K hK; go_big_quiet_op; go_big_quiet_on)
  refine seq_chain (by rfl) ?_
  intro K hK
  go_wp2_with fail
  (with_reducible refine (C1.out _).mono ?_); rintro e w2 ⟨rfl, hb2⟩
  have hs2 : Below w1.heap.size w1 w2 := (Below.refl _ _).drew.trans hb2
  go_wp2_with fail
  refine hK.out _ _ (since hs2) ?_
  clear hK K
  repeat (refine seq_float (by rfl) (by rfl) (by rfl) ?_; intro K hK; go_big_quiet_op; go_big_quiet_on)
  refine seq_chain (by rfl) ?_
  intro K hK
  go_wp2_with fail
  (with_reducible refine (C2.out _).mono ?_); rintro e w3 ⟨rfl, hb3⟩
  have hs3 : Below w1.heap.size w1 w3 := hs2.trans (hb3.mono hs2.size)
  go_wp2_with fail
  refine hK.out _ _ (since hs3) ?_
  clear hK K
  repeat (refine seq_float (by rfl) (by rfl) (by rfl) ?_; intro K hK; go_big_quiet_op; go_big_quiet_on)
  refine seq_chain (by rfl) ?_
  intro K hK
  go_wp2_with fail
  (with_reducible refine (C3.out _).mono ?_); rintro e w4 ⟨rfl, hb4⟩
  have hs4 : Below w1.heap.size w1 w4 := hs3.trans (hb4.mono hs3.size)
  go_wp2_with fail
  refine hK.out _ _ (since hs4) ?_
  clear hK K
  repeat (refine seq_float (by rfl) (by rfl) (by rfl) ?_; intro K hK; go_big_quiet_op; go_big_quiet_on)
  refine seq_chain (by rfl) ?_
  intro K hK
  go_wp2_with fail
  (with_reducible refine (C4.out _).mono ?_); rintro e w5 ⟨rfl, rfl⟩
  go_wp2_with fail
  refine hK.out _ _ (since hs4) ?_
  clear hK K
  repeat (refine seq_float (by rfl) (by rfl) (by rfl) ?_; intro K hK; go_big_quiet_op; go_big_quiet_on)
  refine seq_chain (by rfl) ?_
  intro K hK
  go_wp2_with fail
  (with_reducible refine (C1.out _).mono ?_); rintro e w6 ⟨rfl, hb6⟩
  have hs6 : Below w1.heap.size w1 w6 := hs4.trans (hb6.mono hs4.size)
  go_wp2_with fail
  refine hK.out _ _ (since hs6) ?_
  clear hK K
  repeat (refine seq_float (by rfl) (by rfl) (by rfl) ?_; intro K hK; go_big_quiet_op; go_big_quiet_on)
  refine seq_chain (by rfl) ?_
  intro K hK
  go_wp2_with fail
  (with_reducible refine (awake_any _).mono ?_); rintro e w8 ⟨rfl, hb8⟩
  have hs8 : Below w1.heap.size w1 w8 := hs6.trans (hb8.mono hs6.size)
  go_wp2_with fail
  refine hK.out _ _ (since hs8) ?_
  clear hK K
  repeat (refine seq_float (by rfl) (by rfl) (by rfl) ?_; intro K hK; go_big_quiet_op; go_big_quiet_on)
  refine seq_chain (by rfl) ?_
  intro K hK
  go_wp2_with fail
  go_wp2_with fail
  refine hK.out _ _ (since hs8) ?_
  clear hK K
  refine seq_nil ?_
  go_wp2_with fail
  go_ret
  exact ⟨rfl, hb0.trans (hs8.mono (by omega))⟩
end Go.Proofs.Ytchjmkmcgpbndaa
