/-
  objectname.Valid and the reference's ValidName.
-/
import Derived.Test.YtphjillihapbfaaGreatDoorLedSpec
import Derived.Test.YtphjillihapbfaaGreatDoorSl
namespace Go.Proofs.YtphjillihapbfaaGreatDoor
open Go.RowKit

theorem ret_bool' {a b : Bool} (h : a = b) : Ending.returned (.bool a) = .returned (.bool b) := by rw [h]
theorem dot1 : (⟨#[46]⟩ : ByteArray).toList = [46] := by rw [ByteArray.toList_eq]
theorem dot2 : (⟨#[46, 46]⟩ : ByteArray).toList = [46, 46] := by rw [ByteArray.toList_eq]
/-- May this be a name? -/
def nameB (s : ByteArray) : Bool := wordB s.data.toList && (!decide (s = ⟨#[46]⟩) && !decide (s = ⟨#[46, 46]⟩))
theorem nameB_word {s : ByteArray} (h : wordB s.data.toList = false) : nameB s = false := by unfold nameB; rw [h]; rfl
theorem nameB_one {s : ByteArray} (h : s = ⟨#[46]⟩) : nameB s = false := by unfold nameB; rw [decide_eq_true h]; simp
theorem nameB_two {s : ByteArray} (h : s = ⟨#[46, 46]⟩) : nameB s = false := by unfold nameB; rw [decide_eq_true h]; simp
theorem nameB_good {s : ByteArray} (h : wordB s.data.toList = true) (h1 : ¬ s = ⟨#[46]⟩) (h2 : ¬ s = ⟨#[46, 46]⟩) : nameB s = true := by unfold nameB; rw [h, decide_eq_false h1, decide_eq_false h2]; rfl

set_option maxRecDepth 100000 in
set_option maxHeartbeats 4000000 in
theorem letter_any (c : UInt8) (w : World) : Calls Tryz.prog 66 #[.int .u8 c.toNat] w fun e w' => e = .returned (.bool (wordC c)) ∧ w' = w := by
  go_enter Tryz.func66, Tryz.ntmps66
  go_wp2_with fail
  all_goals (go_ret; exact ⟨ret_bool' (by unfold wordC wordP; grind), rfl⟩)

set_option maxRecDepth 100000 in
set_option maxHeartbeats 4000000 in
theorem valid_any (s : ByteArray) (w : World) (hs : s.size ≤ maxLen) :
    Calls Tryz.prog 41 #[.string s] w fun e w' => e = .returned (.bool (nameB s)) ∧ w' = w := by
  have hs' : s.size ≤ 9223372036854775807 := hs
  have hN : s.data.toList.length = s.size := rfl
  by_cases h1 : s.size < 1
  · have HV := lid (nameB_word (wordB_len (l := s.data.toList) (by omega)))
    have t1 : decide ((s.size : Int) < 1) = true := by simp; omega
    have t2 : (s.size : Int) < 1 := by omega
    go_enter Tryz.func41, Tryz.ntmps41
    go_wp2_with fail
    go_ret
    exact ⟨ret_bool' HV.out.symm, rfl⟩
  have t1 : decide ((s.size : Int) < 1) = false := by simp; omega
  by_cases h2 : 24 < s.size
  · have HV := lid (nameB_word (wordB_len (l := s.data.toList) (by omega)))
    have t2 : decide ((24 : Int) < s.size) = true := by simp; omega
    have t3 : (24 : Int) < s.size := by omega
    go_enter Tryz.func41, Tryz.ntmps41
    go_wp2_with fail
    go_ret
    exact ⟨ret_bool' HV.out.symm, rfl⟩
  have t2 : decide ((24 : Int) < s.size) = false := by simp; omega
  by_cases e1 : s = ⟨#[46]⟩
  · have HV := lid (nameB_one e1)
    have u1 := str_eq e1
    rw [dot1] at u1
    go_enter Tryz.func41, Tryz.ntmps41
    go_wp2_with fail
    go_ret
    exact ⟨ret_bool' HV.out.symm, rfl⟩
  have u1 := str_ne e1
  rw [dot1] at u1
  by_cases e2 : s = ⟨#[46, 46]⟩
  · have HV := lid (nameB_two e2)
    have u2 := str_eq e2
    rw [dot2] at u2
    go_enter Tryz.func41, Tryz.ntmps41
    go_wp2_with fail
    go_ret
    exact ⟨ret_bool' HV.out.symm, rfl⟩
  have u2 := str_ne e2
  rw [dot2] at u2
  have CL := lid (fun c w => letter_any c w)
  have HG0 := lid (fun h => nameB_good (s := s) h e1 e2)
  go_enter Tryz.func41, Tryz.ntmps41
  go_wp2_with fail
  go_loop [3, 22] (fun _ i => ∃ k : Nat, k ≤ s.size ∧ i = .int .i64 k ∧ Hid ((s.data.toList.take k).all wordC = true)) (fun _ i => s.size - (intOf i).toNat)
  case atStart => exact ⟨0, Nat.zero_le _, rfl, lid rfl⟩
  case round =>
    obtain ⟨k, hk, rfl, HA⟩ := hrel
    by_cases hlt : k < s.size
    · have hlt' : k < s.data.toList.length := hlt
      obtain ⟨c, hc⟩ : ∃ c, s[k]'hlt = c := ⟨_, rfl⟩
      have hcl : s.data.toList[k] = c := by rw [← hc]; rfl
      have HB := lid (fun h => wordB_bad hlt' (k := k) h)
      have HG := lid (fun h => all_succ hlt' HA.out h)
      rw [hcl] at HB HG
      clear hcl
      go_wp2_with fail
      (with_reducible refine (CL.out c _).mono ?_); rintro e w1 ⟨rfl, rfl⟩
      by_cases hw : wordP c.toNat
      · have hwc : wordC c = true := by unfold wordC; exact decide_eq_true hw
        rw [hwc]
        go_wp2_with fail
        go_round
        case rel => exact ⟨k + 1, by omega, by go_num, lid (HG.out hw)⟩
        case measure => simp [intOf]; omega
      · have hwc : wordC c = false := by unfold wordC; exact decide_eq_false hw
        rw [hwc]
        have HV := lid (nameB_word (HB.out hw))
        go_wp2_with fail
        go_ret
        exact ⟨ret_bool' HV.out.symm, rfl⟩
    · obtain rfl : k = s.size := by omega
      have HV := lid (HG0.out (wordB_good (l := s.data.toList) (by omega) (by have := HA.out; rwa [List.take_of_length_le (by rw [hN]; exact Nat.le_refl _)] at this)))
      go_wp2_with fail
      go_ret
      exact ⟨ret_bool' HV.out.symm, rfl⟩

end Go.Proofs.YtphjillihapbfaaGreatDoor
