/-
  isWord of ledger, name of its reference.
-/
import Derived.Test.YtbghpjedldhnhaaLedSpec
namespace Go.Proofs.Ytbghpjedldhnhaa
open Go.RowKit

theorem ret_bool' {a b : Bool} (h : a = b) : Ending.returned (.bool a) = .returned (.bool b) := by rw [h]
set_option maxRecDepth 100000 in
set_option maxHeartbeats 4000000 in
theorem isWord_any (s : ByteArray) (w : World) (hs : s.size ≤ maxLen) :
    Calls Try.prog 47 #[.string s] w fun e w' => e = .returned (.bool (wordB s.data.toList)) ∧ w' = w := by
  have hs' : s.size ≤ 9223372036854775807 := hs
  have hN : s.data.toList.length = s.size := rfl
  by_cases hl : 1 ≤ s.size ∧ s.size ≤ 24
  · obtain ⟨h1, h2⟩ := hl
    have t1 : decide ((s.size : Int) < 1) = false := by simp; omega
    have t2 : decide ((24 : Int) < s.size) = false := by simp; omega
    go_enter Try.func47, Try.ntmps47
    go_wp2_with fail
    go_loop [3, 4, 5, 16] (fun _ _ _ i => ∃ k : Nat, k ≤ s.size ∧ i = .int .i64 k ∧ Hid ((s.data.toList.take k).all wordC = true)) (fun _ _ _ i => s.size - (intOf i).toNat)
    case atStart => exact ⟨0, Nat.zero_le _, rfl, lid rfl⟩
    case round =>
      obtain ⟨k, hk, rfl, HA⟩ := hrel
      by_cases hlt : k < s.size
      · have hlt' : k < s.data.toList.length := hlt
        obtain ⟨c, hc⟩ : ∃ c, s[k]'hlt = c := ⟨_, rfl⟩
        have hcl : s.data.toList[k] = c := by rw [← hc]; rfl
        have HB := lid (fun h => wordB_bad hlt' (k := k) h)
        have HG := lid (fun h => all_succ hlt' HA.out h)
        rw [hcl] at HB HG
        clear hcl
        go_wp2_with fail
        all_goals first
          | (go_round
             case rel => exact ⟨k + 1, by omega, by go_num, lid (HG.out (by unfold wordP; grind))⟩
             case measure => simp [intOf]; omega)
          | (go_ret
             exact ⟨ret_bool' (HB.out (by unfold wordP; grind)).symm, rfl⟩)
      · obtain rfl : k = s.size := by omega
        have HV := lid (wordB_good (l := s.data.toList) ⟨h1, h2⟩ (by have := HA.out; rwa [List.take_of_length_le (by rw [hN]; exact Nat.le_refl _)] at this))
        go_wp2_with fail
        go_ret
        exact ⟨ret_bool' HV.out.symm, rfl⟩
  · have HV := lid (wordB_len (l := s.data.toList) hl)
    by_cases h1 : s.size < 1
    · have t1 : decide ((s.size : Int) < 1) = true := by simp; omega
      have t2 : (s.size : Int) < 1 := by omega
      go_enter Try.func47, Try.ntmps47
      go_wp2_with fail
      go_ret
      exact ⟨ret_bool' HV.out.symm, rfl⟩
    · have t1 : decide ((s.size : Int) < 1) = false := by simp; omega
      have t2 : (24 : Int) < s.size := by omega
      have t3 : (1 : Int) ≤ s.size := by omega
      go_enter Try.func47, Try.ntmps47
      go_wp2_with fail
      go_ret
      exact ⟨ret_bool' HV.out.symm, rfl⟩

end Go.Proofs.Ytbghpjedldhnhaa
