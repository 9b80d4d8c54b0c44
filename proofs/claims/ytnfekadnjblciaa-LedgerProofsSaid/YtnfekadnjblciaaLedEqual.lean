/-
  slices.Equal of equal slices of digests.
-/
import Derived.Test.YtnfekadnjblciaaLedExtend
namespace Go.Proofs.Ytnfekadnjblciaa
open Go.RowKit

set_option maxRecDepth 100000 in
set_option maxHeartbeats 8000000 in
theorem Equal_same (l : List Dg) (n n' cap cap' : Nat) (ao ao' : Option Addr) (w : World) (hn : l.length = n) (hn' : l.length = n') (hc : n ≤ cap) (hc' : n' ≤ cap') (hm : n ≤ 1000000) (hs : DSl w ao l) (hs' : DSl w ao' l) :
    Calls Try.prog 23 #[.slice ao n cap, .slice ao' n' cap'] w fun e w' => e = .returned (.bool true) ∧ Below w.heap.size w w' := by
  have HN := lid hn
  have HS := lid hs
  have HS' := lid hs'
  obtain rfl : n = n' := by omega
  clear hn hs hs' hn'
  go_enter Try.func23, Try.ntmps23
  go_wp2_with fail
  go_loopw [5, 13] (fun _ i wr => ∃ (k : Nat), k ≤ n ∧ i = .int .i64 k ∧ Below w.heap.size w wr) (fun _ i _ => n - (intOf i).toNat)
  case atStart => exact ⟨0, Nat.zero_le _, rfl, Below.refl _ _⟩
  case round =>
    obtain ⟨k, hk, rfl, hb⟩ := hrel
    by_cases hlt : k < n
    · have hkl : k < l.length := by rw [HN.out]; exact hlt
      have hl0 : ¬ l.length = 0 := by omega
      obtain ⟨b1, o1, rfl, hlb1, hd1⟩ := (HS.out.below hb).resolve_left hl0
      obtain ⟨b2, o2, rfl, hlb2, hd2⟩ := (HS'.out.below hb).resolve_left hl0
      obtain ⟨x0, x1⟩ := hd1 k hkl
      obtain ⟨y0, y1⟩ := hd2 k hkl
      clear hd1 hd2
      generalize l[k] = D at *
      have hln : l.length ≤ 1000000 := by rw [HN.out]; exact hm
      go_wp2_with fail
      refine wp_region_seq (fun w' => ∃ s : Since wr.heap.size wr, w' = s.world) [(0, true), (1, true), (2, true), (3, true), (4, true), (5, true), (6, true), (7, true), (8, true)] (by kernel_rfl) (by kernel_rfl) (by intro c d v a w h; cases d <;> exact h) (since (Below.refl _ _).drew) ?_
      repeat (first | (refine seq_skip (by rfl) (by rfl) ?_; simp only [Act.put, List.setIfInBounds_toArray, List.set_cons_succ, List.set_cons_zero]) | (refine seq_float (by rfl) (by rfl) (by rfl) ?_; intro K hK; go_big_quiet_op; go_big_quiet_on))
      refine seq_nil ?_
      go_wp2_with fail
      go_roundw
      case rel => exact ⟨k + 1, by omega, by go_num, hb.drew⟩
      case measure => simp [intOf]; omega
    · obtain rfl : k = n := by omega
      go_wp2_with fail
      go_ret
      exact ⟨rfl, hb⟩
end Go.Proofs.Ytnfekadnjblciaa
