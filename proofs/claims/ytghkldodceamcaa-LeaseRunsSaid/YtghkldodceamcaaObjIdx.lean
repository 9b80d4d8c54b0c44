/-
  slices.Index and slices.Contains of digests.
-/
import Derived.Test.YtghkldodceamcaaObjSpec
import Derived.Test.YtghkldodceamcaaDigBox
namespace Go.Proofs.Ytghkldodceamcaa
open Go.RowKit

theorem beq_dg3 (a b : Dg) : (((a.1.toNat : Int) == (b.1.toNat : Int)) && ((a.2.toNat : Int) == (b.2.toNat : Int))) = decide (a = b) := by
  rw [Bool.eq_iff_iff]
  simp only [Bool.and_eq_true, beq_iff_eq, decide_eq_true_eq]
  constructor
  · rintro ⟨h1, h2⟩
    exact Prod.ext (UInt64.toNat_inj.1 (by omega)) (UInt64.toNat_inj.1 (by omega))
  · rintro rfl
    exact ⟨rfl, rfl⟩
/-- '==' of two digests, in a region. -/
theorem quiet_eq_dg3 {C : World → Prop} {K : Act → Prop} {a : Act} {o : Oper} (q r : Dg) (v : Bool) (x y : Operand) (h : o.op = .binOp .eql 27 x y 27)
    (hx : a.eval x = dv q) (hy : a.eval y = dv r) (hv : decide (q = r) = v) (hk : K (a.put o.dst (.bool v))) : o.quiet Try.prog a C K := by
  refine ⟨.bool v, fun w _ => ?_, hk⟩
  subst hv
  unfold Oper.quietAt execOp
  rw [h]
  simp only [hx, hy]
  simp [go_sem]
  exact beq_dg3 q r

set_option maxRecDepth 100000 in
set_option maxHeartbeats 4000000 in
theorem Index_any (l : List Dg) (d : Dg) (n cap : Nat) (ao : Option Addr) (w : World) (hn : l.length = n) (hm : n ≤ 1000000) (hs : DSl w ao l) :
    Calls Try.prog 69 #[.slice ao n cap, dv d] w fun e w' => (∃ r : Int, e = .returned (.int .i64 r) ∧ decide (0 ≤ r) = decide (d ∈ l)) ∧ Below w.heap.size w w' := by
  have HN := lid hn
  have hb0 := ba w (Obj.cells #[.int .u64 d.1.toNat, .int .u64 d.2.toNat] 27)
  have D0 := DBox.new w d 27
  obtain ⟨W, hW⟩ : ∃ W, w.alloc (Obj.cells #[.int .u64 d.1.toNat, .int .u64 d.2.toNat] 27) = W := ⟨_, rfl⟩
  rw [hW] at hb0 D0
  have HS := lid (hs.below hb0)
  have HW := lid hW
  obtain ⟨l0, c0, c1⟩ := D0
  have C0 := lid c0
  have C1 := lid c1
  clear hn hs hW c0 c1
  go_enter Try.func69, Try.ntmps69
  go_wp2_with fail
  rw [HW.out]
  clear HW
  go_loopw [5, 8] (fun _ i wr => ∃ (k : Nat), k ≤ n ∧ i = .int .i64 k ∧ Hid (d ∉ l.take k) ∧ Below W.heap.size W wr) (fun _ i _ => n - (intOf i).toNat)
  case atStart => exact ⟨0, Nat.zero_le _, rfl, lid (by simp), Below.refl _ _⟩
  case round =>
    obtain ⟨k, hk, rfl, HM, hb⟩ := hrel
    by_cases hlt : k < n
    · have hkl : k < l.length := by rw [HN.out]; exact hlt
      obtain ⟨b1, o1, rfl, hlb1, hd1⟩ := (HS.out.below hb).resolve_left (by omega)
      obtain ⟨x0, x1⟩ := hd1 k hkl
      have c0 := (bc hb l0 0).trans C0.out
      have c1 := (bc hb l0 1).trans C1.out
      have lr : w.heap.size < wr.heap.size := by have := hb.size; omega
      have HT := lid (List.take_succ_eq_append_getElem hkl)
      have hmem : Hid (l[k] ∈ l) := lid (List.getElem_mem hkl)
      have dk : decide ((k : Int) < (n : Int)) = true := by simp; omega
      clear hd1
      obtain ⟨q, hq⟩ : ∃ q, l[k] = q := ⟨_, rfl⟩
      rw [hq] at x0 x1 HT hmem
      clear hq
      by_cases hdq : d = q
      · have HQ := lid (decide_eq_true hdq)
        have HR : Hid (decide (d ∈ l) = true) := lid (decide_eq_true (by rw [hdq]; exact hmem.out))
        clear hdq
        go_wp2_with fail
        refine wp_region_seq (fun w' => ∃ s : Since wr.heap.size wr, w' = s.world) [(0, true), (1, true), (2, true), (3, true), (4, true), (5, true)] (by kernel_rfl) (by kernel_rfl) (by intro c d v a w h; cases d <;> exact h) (since (Below.refl _ _).drew) ?_
        iterate 5 (first | (refine seq_skip (by rfl) (by rfl) ?_; simp only [Act.put, List.setIfInBounds_toArray, List.set_cons_succ, List.set_cons_zero]) | (refine seq_float (by rfl) (by rfl) (by rfl) ?_; intro K hK; go_big_quiet_op; go_big_quiet_on))
        refine seq_float (by rfl) (by rfl) (by rfl) ?_; intro K hK
        refine quiet_eq_dg3 d q true _ _ rfl rfl rfl HQ.out ?_
        simp only [Act.put, List.setIfInBounds_toArray, List.set_cons_succ, List.set_cons_zero]
        go_big_quiet_on
        refine seq_nil ?_
        go_wp2_with fail
        go_ret
        exact ⟨⟨k, rfl, by rw [HR.out]; simp⟩, hb0.trans ((hb.mono hb0.size).drew)⟩
      · have HQ := lid (decide_eq_false hdq)
        have HT2 : Hid (d ∉ l.take (k + 1)) := lid (by rw [HT.out, List.mem_append]; rintro (h | h); exact HM.out h; exact hdq (List.mem_singleton.1 h))
        clear hdq
        go_wp2_with fail
        refine wp_region_seq (fun w' => ∃ s : Since wr.heap.size wr, w' = s.world) [(0, true), (1, true), (2, true), (3, true), (4, true), (5, true)] (by kernel_rfl) (by kernel_rfl) (by intro c d v a w h; cases d <;> exact h) (since (Below.refl _ _).drew) ?_
        iterate 5 (first | (refine seq_skip (by rfl) (by rfl) ?_; simp only [Act.put, List.setIfInBounds_toArray, List.set_cons_succ, List.set_cons_zero]) | (refine seq_float (by rfl) (by rfl) (by rfl) ?_; intro K hK; go_big_quiet_op; go_big_quiet_on))
        refine seq_float (by rfl) (by rfl) (by rfl) ?_; intro K hK
        refine quiet_eq_dg3 d q false _ _ rfl rfl rfl HQ.out ?_
        simp only [Act.put, List.setIfInBounds_toArray, List.set_cons_succ, List.set_cons_zero]
        go_big_quiet_on
        refine seq_nil ?_
        go_wp2_with fail
        go_roundw
        case rel => exact ⟨k + 1, by omega, by go_num, HT2, hb.drew⟩
        case measure => simp [intOf]; omega
    · obtain rfl : k = n := by omega
      have HR : Hid (decide (d ∈ l) = false) := lid (decide_eq_false (by have := HM.out; rwa [List.take_of_length_le (by rw [HN.out]; exact Nat.le_refl _)] at this))
      go_wp2_with fail
      go_ret
      exact ⟨⟨-1, rfl, by rw [HR.out]; decide⟩, hb0.trans (hb.mono hb0.size)⟩

set_option maxRecDepth 100000 in
theorem Contains_any (l : List Dg) (d : Dg) (n cap : Nat) (ao : Option Addr) (w : World) (hn : l.length = n) (hm : n ≤ 1000000) (hs : DSl w ao l) :
    Calls Try.prog 63 #[.slice ao n cap, dv d] w fun e w' => e = .returned (.bool (decide (d ∈ l))) ∧ Below w.heap.size w w' := by
  have hb0 := ba w (Obj.cells #[.int .u64 d.1.toNat, .int .u64 d.2.toNat] 27)
  have CI := lid (Index_any l d n cap ao _ hn hm (hs.below hb0))
  clear hs
  go_enter Try.func63, Try.ntmps63
  go_wp2_with fail
  (with_reducible refine (CI.out).mono ?_); rintro e w1 ⟨⟨r, rfl, hr⟩, hb1⟩
  have HR := lid hr
  clear hr
  go_wp2_with fail
  go_ret
  exact ⟨ret_bool' HR.out, hb0.trans (hb1.mono hb0.size)⟩
end Go.Proofs.Ytghkldodceamcaa
