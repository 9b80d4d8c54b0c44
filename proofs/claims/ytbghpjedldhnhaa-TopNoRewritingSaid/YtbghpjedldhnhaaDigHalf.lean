/-
  digest.half and the reference's Left return halfN of a number of at least 2 (and at most 2^40).
-/
import Derived.Test.YtbghpjedldhnhaaRows
import Derived.Test.YtbghpjedldhnhaaKit
import Derived.Test.YtbghpjedldhnhaaDigHash
namespace Go.Proofs.Ytbghpjedldhnhaa
open Go.RowKit



set_option maxHeartbeats 400000 in
theorem half_any (n : Nat) (w : World) (h2 : 2 ≤ n) (hn : n ≤ 1099511627776) :
    Calls Try.prog 39 #[.int .i64 n] w fun e w' => e = .returned (.int .i64 (halfN n)) ∧ w = w' := by
  go_enter Try.func39, Try.ntmps39
  go_wp2
  go_loop [3] (fun c => ∃ k : Nat, c = .int .i64 k ∧ k < n ∧ 1 ≤ k ∧ Hid (∃ j, k = 2 ^ j)) (fun c => n - (intOf c).toNat)
  case atStart => exact ⟨1, rfl, by omega, by omega, lid ⟨0, rfl⟩⟩
  case round =>
    obtain ⟨k, rfl, hk, h1, HJ⟩ := hrel
    by_cases hlt : 2 * k < n
    · go_wp2
      go_round
      case rel =>
        obtain ⟨j, hj⟩ := HJ.out
        exact ⟨k * 2, by go_num, by omega, by omega, lid ⟨j + 1, by rw [Nat.pow_succ, hj]⟩⟩
      case measure => simp [intOf]; omega
    · go_wp2
      go_ret
      obtain ⟨j, hj⟩ := HJ.out
      exact ⟨ret_i64 (by rw [halfN_eq hj hk (by omega)]), rfl⟩
end Go.Proofs.Ytbghpjedldhnhaa
