/-
  chunk.checkAll, of texts that are not too long: the error of the parameters.
-/
import Derived.Test.YtmebjjoldhcgpaaChkCheck
import Derived.Test.YtmebjjoldhcgpaaRegion
namespace Go.Proofs.Ytmebjjoldhcgpaa
open Go.RowKit

set_option maxHeartbeats 1000000 in
theorem checkAll_any (l m v b : Int) (a n cap : Nat) (w : World) (hn : n ≤ 100) (ha : a < w.heap.size) (hcap : n ≤ cap)
    (ht : ∀ j, j < n → ∃ s, w.cell? ⟨a, j, none⟩ = some (.string s) ∧ s.size ≤ 65536) :
    Calls Try.prog 24 #[.agg #[.int .i64 l, .int .i64 m, .int .i64 v, .int .i64 b], .slice (some ⟨a, 0, none⟩) n cap] w fun e w' => e = .returned (.int .i64 (checkE l m v b)) ∧ Below w.heap.size w w' := by
  have HT := lid ht
  clear ht
  by_cases hbad : checkE l m v b = 0
  · have HB := lid hbad
    go_enter Try.func24, Try.ntmps24
    go_wp2_with fail
    (with_reducible refine (Check_any l m v b _).mono ?_); rintro e w1 ⟨rfl, hb1⟩
    rw [hbad]
    have hw1 : Below w.heap.size w w1 := ((Below.refl _ _).alloc (Nat.le_refl _) _).trans (hb1.mono (by simp))
    clear hb1
    go_wp2_with fail
    go_loopw [7, 15] (fun _ i wr => ∃ k : Nat, k ≤ n ∧ i = .int .i64 k ∧ Below w.heap.size w wr) (fun _ i _ => n - (intOf i).toNat)
    case atStart => exact ⟨0, Nat.zero_le _, rfl, hw1⟩
    case round =>
      obtain ⟨k, hk, rfl, hb⟩ := hrel
      by_cases hlt : k < n
      · obtain ⟨s, hs, hsz⟩ := HT.out k hlt
        have hs' := (bc hb ha k).trans hs
        go_wp2_with fail
        go_roundw
        case rel => exact ⟨k + 1, by omega, by go_num, hb⟩
        case measure => simp [intOf]; omega
      · obtain rfl : k = n := by omega
        go_wp2_with fail
        go_ret
        exact ⟨ret_i64 HB.out.symm, hb⟩
  · have hE : checkE l m v b = 2 := by unfold checkE at hbad ⊢; split <;> simp_all
    have HE := lid hE
    go_enter Try.func24, Try.ntmps24
    go_wp2_with fail
    (with_reducible refine (Check_any l m v b _).mono ?_); rintro e w1 ⟨rfl, hb1⟩
    rw [hE]
    go_wp2_with fail
    go_ret
    exact ⟨ret_i64 HE.out.symm, ((Below.refl _ _).alloc (Nat.le_refl _) _).trans (hb1.mono (by simp))⟩
end Go.Proofs.Ytmebjjoldhcgpaa
