/-
  strings.LastIndexByte of a slash; the directories of a path, plain.
-/
import Derived.Test.YtefehgdckmajiaaGreatDoorOwnWords
namespace Go.Proofs.YtefehgdckmajiaaGreatDoor
open Go.RowKit

/-- The last slash ahead of place e, or -1. -/
def slashAt (s : List UInt8) : Nat → Int
  | 0 => -1
  | e + 1 => if s.getD e 0 = 47 then e else slashAt s e
theorem slashAt_lt (s : List UInt8) (e : Nat) : slashAt s e < e := by
  induction e with
  | zero => rw [slashAt]; omega
  | succ e ih => rw [slashAt]; split <;> omega
theorem slashAt_ge (s : List UInt8) (e : Nat) : -1 ≤ slashAt s e := by
  induction e with
  | zero => rw [slashAt]; omega
  | succ e ih => rw [slashAt]; split <;> omega
theorem slashAt_take {s : List UInt8} {k e : Nat} (h : e ≤ k) : slashAt (s.take k) e = slashAt s e := by
  induction e with
  | zero => rfl
  | succ e ih =>
    rw [slashAt, slashAt, ih (by omega)]
    have : (s.take k).getD e 0 = s.getD e 0 := by
      rw [List.getD_eq_getElem?_getD, List.getD_eq_getElem?_getD, List.getElem?_take, if_pos (by omega)]
    rw [this]
def ownS : List UInt8 := [79, 87, 78, 69, 82, 83]
/-- The owners files that a path looks at, from the nearest one on: each with the rest of the path. -/
def dirsE (s : List UInt8) : Nat → List (List UInt8 × List UInt8)
  | 0 => [(ownS, s)]
  | e + 1 => if s.getD e 0 = 47 then (s.take (e + 1) ++ ownS, s.drop (e + 1)) :: dirsE s e else dirsE s e
def dirsL (s : List UInt8) : List (List UInt8 × List UInt8) := dirsE s s.length
theorem dirsE_end {s : List UInt8} {e : Nat} (h : slashAt s e < 0) : dirsE s e = [(ownS, s)] := by
  induction e with
  | zero => rfl
  | succ e ih =>
    rw [slashAt] at h
    rw [dirsE]
    split at h
    · omega
    · rename_i h1
      rw [if_neg h1, ih h]
theorem dirsE_next {s : List UInt8} {e j : Nat} (h : slashAt s e = j) : dirsE s e = (s.take (j + 1) ++ ownS, s.drop (j + 1)) :: dirsE s j := by
  induction e with
  | zero => rw [slashAt] at h; omega
  | succ e ih =>
    rw [slashAt] at h
    rw [dirsE]
    split at h
    · rename_i h1
      obtain rfl : e = j := by omega
      rw [if_pos h1]
    · rename_i h1
      rw [if_neg h1, ih h]
set_option maxRecDepth 100000 in
set_option maxHeartbeats 4000000 in
theorem LastIndexByteString_any (s : ByteArray) (w : World) (hs : s.size ≤ 1000000) :
    Calls Tryz.prog 83 #[.string s, .int .u8 47] w fun e w' => e = .returned (.int .i64 (slashAt s.data.toList s.size)) ∧ w' = w := by
  have hs63 : s.size ≤ 9223372036854775807 := by omega
  have hs1 : ((s.size : Nat) : Int) - 1 < 9223372036854775808 := by omega
  go_enter Tryz.func83, Tryz.ntmps83
  go_wp2_with fail
  go_loopw [5] (fun i wr => ∃ k : Nat, k ≤ s.size ∧ i = .int .i64 ((k : Int) - 1) ∧ Hid (slashAt s.data.toList s.size = slashAt s.data.toList k) ∧ Hid (w = wr)) (fun i _ => (intOf i + 1).toNat)
  case atStart => exact ⟨s.size, Nat.le_refl _, by go_num, lid rfl, lid rfl⟩
  case round =>
    obtain ⟨k, hk, rfl, HT, HW⟩ := hrel
    have hW := HW.out
    subst hW
    rcases Nat.eq_zero_or_pos k with rfl | hp
    · have HE : Hid (slashAt s.data.toList s.size = -1) := lid (by rw [HT.out]; rfl)
      go_wp2_with fail
      go_ret
      exact ⟨ret_i64 (by rw [HE.out]), rfl⟩
    · obtain ⟨j, rfl⟩ : ∃ j, k = j + 1 := ⟨k - 1, by omega⟩
      have hj : j < s.size := by omega
      have e0 : ((j + 1 : Nat) : Int) - 1 = j := by omega
      rw [e0]
      have dj : decide ((0 : Int) ≤ (j : Int)) = true := by simp
      have HG : Hid (s.data.toList.getD j 0 = s[j]) := lid (by
        rw [List.getD_eq_getElem?_getD, List.getElem?_eq_getElem (show j < s.data.toList.length from hj)]
        rfl)
      by_cases h47 : s[j] = 47
      · have u : ((s[j].toNat : Int) == 47) = true := by rw [h47]; rfl
        have HE : Hid (slashAt s.data.toList s.size = j) := lid (by rw [HT.out, slashAt, HG.out, if_pos h47])
        go_wp2_with fail
        go_ret
        exact ⟨ret_i64 (by rw [HE.out]), rfl⟩
      · have u : ((s[j].toNat : Int) == 47) = false := by rw [show ((47 : Int)) = ((47 : UInt8).toNat : Int) from rfl, byte_eq, decide_eq_false h47]
        have HE : Hid (slashAt s.data.toList s.size = slashAt s.data.toList j) := lid (by rw [HT.out, slashAt, HG.out, if_neg h47])
        go_wp2_with fail
        go_roundw
        case rel => exact ⟨j, by omega, by go_num, HE, lid trivial⟩
        case measure => first | (simp [intOf]; done) | (simp [intOf]; omega)
set_option maxRecDepth 100000 in
set_option maxHeartbeats 1000000 in
theorem LastIndexByte_any (s : ByteArray) (w : World) (hs : s.size ≤ 1000000) :
    Calls Tryz.prog 63 #[.string s, .int .u8 47] w fun e w' => e = .returned (.int .i64 (slashAt s.data.toList s.size)) ∧ w' = w := by
  have CC := lid (LastIndexByteString_any s w hs)
  go_enter Tryz.func63, Tryz.ntmps63
  go_wp2_with fail
  (with_reducible refine (CC.out).mono ?_); rintro e w1 ⟨rfl, rfl⟩
  go_wp2_with fail
  go_ret
  exact ⟨rfl, rfl⟩
end Go.Proofs.YtefehgdckmajiaaGreatDoor
