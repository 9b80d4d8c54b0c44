/-
  The law DigestOf returns true and makes new memory alone.
-/
import Derived.Test.YtchjmkmcgpbndaaDigAwake
import Derived.Test.YtchjmkmcgpbndaaDigCompare
import Derived.Test.YtchjmkmcgpbndaaDigRefOf
namespace Go.Proofs.Ytchjmkmcgpbndaa
open Go.RowKit

theorem pairD_of (a b : Dg) : ofU (1 :: (bytesU a.1 a.2 ++ bytesU b.1 b.2)) = pairD a b := rfl

/-- '==' of two equal digests, in a region. -/
theorem quiet_eq_dg {C : World → Prop} {K : Act → Prop} {a : Act} {o : Oper} (q : Dg) (x y : Operand) (h : o.op = .binOp .eql 24 x y 24)
    (hx : a.eval x = dv q) (hy : a.eval y = dv q) (hk : K (a.put o.dst (.bool true))) : o.quiet Try.prog a C K := by
  refine ⟨.bool true, fun w _ => ?_, hk⟩
  unfold Oper.quietAt execOp
  rw [h]
  simp only [hx, hy]
  simp [go_sem]

set_option maxHeartbeats 2000000 in
theorem LawOf_any (s : ByteArray) (a b : Dg) (w : World) (hs : s.size ≤ maxLen) :
    Calls Try.prog 7 #[.string s, dv a, dv b] w fun e w' => e = .returned (.bool true) ∧ Below w.heap.size w w' := by
  have hs' : s.size ≤ 9223372036854775807 := hs
  by_cases h300 : s.size ≤ 300
  · have C1 := fun w => of_any s w hs
    have C2 := fun w => refOf_any s w hs
    have C3 := fun w => Compare_any a b w
    have C4 := fun w => refCompare_any a b w
    have C5 := fun w => pair_any a.1 a.2 b.1 b.2 w
    have C6 := fun w => refPair_any a.1 a.2 b.1 b.2 w
    generalize ofU s.data.toList = o at C1 C2
    generalize cmpD a b = c at C3 C4
    generalize ofU (1 :: (bytesU a.1 a.2 ++ bytesU b.1 b.2)) = q at C5 C6
    replace C1 := lid C1
    replace C2 := lid C2
    replace C3 := lid C3
    replace C4 := lid C4
    replace C5 := lid C5
    replace C6 := lid C6
    go_enter Try.func7, Try.ntmps7
    go_wp2_with fail
    have hb0 := (ba w (Obj.cells #[Value.int .u64 a.1.toNat, Value.int .u64 a.2.toNat] 24)).alloc (by simp) (Obj.cells #[Value.int .u64 b.1.toNat, Value.int .u64 b.2.toNat] 24)
    have k0 : ((w.alloc (Obj.cells #[Value.int .u64 a.1.toNat, Value.int .u64 a.2.toNat] 24)).alloc (Obj.cells #[Value.int .u64 b.1.toNat, Value.int .u64 b.2.toNat] 24)).cell? ⟨w.heap.size, 0, none⟩ = some (.int .u64 a.1.toNat) := by simp
    have k1 : ((w.alloc (Obj.cells #[Value.int .u64 a.1.toNat, Value.int .u64 a.2.toNat] 24)).alloc (Obj.cells #[Value.int .u64 b.1.toNat, Value.int .u64 b.2.toNat] 24)).cell? ⟨w.heap.size, 1, none⟩ = some (.int .u64 a.2.toNat) := by simp
    have k2 : ((w.alloc (Obj.cells #[Value.int .u64 a.1.toNat, Value.int .u64 a.2.toNat] 24)).alloc (Obj.cells #[Value.int .u64 b.1.toNat, Value.int .u64 b.2.toNat] 24)).cell? ⟨w.heap.size + 1, 0, none⟩ = some (.int .u64 b.1.toNat) := by simp
    have k3 : ((w.alloc (Obj.cells #[Value.int .u64 a.1.toNat, Value.int .u64 a.2.toNat] 24)).alloc (Obj.cells #[Value.int .u64 b.1.toNat, Value.int .u64 b.2.toNat] 24)).cell? ⟨w.heap.size + 1, 1, none⟩ = some (.int .u64 b.2.toNat) := by simp
    have hz : w.heap.size + 1 < ((w.alloc (Obj.cells #[Value.int .u64 a.1.toNat, Value.int .u64 a.2.toNat] 24)).alloc (Obj.cells #[Value.int .u64 b.1.toNat, Value.int .u64 b.2.toNat] 24)).heap.size := by rw [World.size_alloc, World.size_alloc]; omega
    have hz' : w.heap.size < ((w.alloc (Obj.cells #[Value.int .u64 a.1.toNat, Value.int .u64 a.2.toNat] 24)).alloc (Obj.cells #[Value.int .u64 b.1.toNat, Value.int .u64 b.2.toNat] 24)).heap.size := by rw [World.size_alloc, World.size_alloc]; omega
    generalize (w.alloc (Obj.cells #[Value.int .u64 a.1.toNat, Value.int .u64 a.2.toNat] 24)).alloc (Obj.cells #[Value.int .u64 b.1.toNat, Value.int .u64 b.2.toNat] 24) = w1 at *
    refine wp_region_seq (fun w' => ∃ s : Since w1.heap.size w1, w' = s.world) [(0, true), (2, true), (1, false), (3, false), (4, true), (5, true), (6, true), (7, true), (9, true), (10, true), (8, false), (11, false), (12, true), (13, true), (14, true), (15, true), (16, true), (18, true), (19, true), (17, false), (20, false), (21, true), (22, true), (23, true), (24, false), (25, true), (26, false)] (by kernel_rfl) (by kernel_rfl) (by intro c d v a w h; cases d <;> exact h) (since (Below.refl _ _).drew) ?_
    repeat (refine seq_float (by rfl) (by rfl) (by rfl) ?_; intro K hK; go_big_quiet_op; go_big_quiet_on)
    refine seq_chain (by rfl) ?_
    intro K hK
    go_wp2_with fail
    (with_reducible refine (C1.out _).mono ?_); rintro e w2 ⟨rfl, hb2⟩
    have hs2 : Below w1.heap.size w1 w2 := (Below.refl _ _).drew.trans hb2
    go_wp2_with fail
    refine hK.out _ _ (since hs2) ?_
    clear hK K
    repeat (refine seq_float (by rfl) (by rfl) (by rfl) ?_; intro K hK; go_big_quiet_op; go_big_quiet_on)
    refine seq_chain (by rfl) ?_
    intro K hK
    go_wp2_with fail
    (with_reducible refine (C2.out _).mono ?_); rintro e w3 ⟨rfl, hb3⟩
    have hs3 : Below w1.heap.size w1 w3 := hs2.trans (hb3.mono hs2.size)
    go_wp2_with fail
    refine hK.out _ _ (since hs3) ?_
    clear hK K
    repeat (refine seq_float (by rfl) (by rfl) (by rfl) ?_; intro K hK; go_big_quiet_op; go_big_quiet_on)
    refine seq_chain (by rfl) ?_
    intro K hK
    go_wp2_with fail
    (with_reducible refine (C3.out _).mono ?_); rintro e w4 ⟨rfl, hb4⟩
    have hs4 : Below w1.heap.size w1 w4 := hs3.trans (hb4.mono hs3.size)
    go_wp2_with fail
    refine hK.out _ _ (since hs4) ?_
    clear hK K
    repeat (refine seq_float (by rfl) (by rfl) (by rfl) ?_; intro K hK; go_big_quiet_op; go_big_quiet_on)
    refine seq_chain (by rfl) ?_
    intro K hK
    go_wp2_with fail
    (with_reducible refine (C4.out _).mono ?_); rintro e w5 ⟨rfl, hb5⟩
    have hs5 : Below w1.heap.size w1 w5 := hs4.trans (hb5.mono hs4.size)
    go_wp2_with fail
    refine hK.out _ _ (since hs5) ?_
    clear hK K
    repeat (refine seq_float (by rfl) (by rfl) (by rfl) ?_; intro K hK; go_big_quiet_op; go_big_quiet_on)
    refine seq_chain (by rfl) ?_
    intro K hK
    go_wp2_with fail
    (with_reducible refine (C5.out _).mono ?_); rintro e w6 ⟨rfl, hb6⟩
    have hs6 : Below w1.heap.size w1 w6 := hs5.trans (hb6.mono hs5.size)
    go_wp2_with fail
    refine hK.out _ _ (since hs6) ?_
    clear hK K
    repeat (refine seq_float (by rfl) (by rfl) (by rfl) ?_; intro K hK; go_big_quiet_op; go_big_quiet_on)
    refine seq_chain (by rfl) ?_
    intro K hK
    go_wp2_with fail
    (with_reducible refine (C6.out _).mono ?_); rintro e w7 ⟨rfl, hb7⟩
    have hs7 : Below w1.heap.size w1 w7 := hs6.trans (hb7.mono hs6.size)
    go_wp2_with fail
    refine hK.out _ _ (since hs7) ?_
    clear hK K
    refine seq_float (by rfl) (by rfl) (by rfl) ?_; intro K hK
    refine quiet_eq_dg q _ _ rfl rfl rfl ?_
    simp only [Act.put, List.setIfInBounds_toArray, List.set_cons_succ, List.set_cons_zero]
    go_big_quiet_on
    repeat (refine seq_float (by rfl) (by rfl) (by rfl) ?_; intro K hK; go_big_quiet_op; go_big_quiet_on)
    refine seq_chain (by rfl) ?_
    intro K hK
    go_wp2_with fail
    (with_reducible refine (awake_any _).mono ?_); rintro e w8 ⟨rfl, hb8⟩
    have hs8 : Below w1.heap.size w1 w8 := hs7.trans (hb8.mono hs7.size)
    go_wp2_with fail
    refine hK.out _ _ (since hs8) ?_
    clear hK K
    repeat (refine seq_float (by rfl) (by rfl) (by rfl) ?_; intro K hK; go_big_quiet_op; go_big_quiet_on)
    refine seq_chain (by rfl) ?_
    intro K hK
    go_wp2_with fail
    go_wp2_with fail
    refine hK.out _ _ (since hs8) ?_
    clear hK K
    refine seq_nil ?_
    go_wp2_with fail
    go_ret
    exact ⟨rfl, hb0.trans (hs8.mono (by omega))⟩
  · go_enter Try.func7, Try.ntmps7
    go_wp2_with fail
    (with_reducible refine (awake_any _).mono ?_); rintro e w1 ⟨rfl, hb1⟩
    go_wp2_with fail
    go_ret
    exact ⟨rfl, (((Below.refl _ _).alloc (Nat.le_refl _) _).alloc (by simp) _).trans (hb1.mono (by simp <;> omega))⟩
end Go.Proofs.Ytchjmkmcgpbndaa
