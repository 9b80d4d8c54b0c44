/-
  The reference's Parse returns parseE.
-/
import Derived.Test.YtchjmkmcgpbndaaDigParse
namespace Go.Proofs.Ytchjmkmcgpbndaa
open Go.RowKit

set_option maxHeartbeats 400000 in
theorem digit_any (c : UInt8) (w : World) : Calls Try.prog 30 #[.int .u8 c.toNat] w fun e w' => e = .returned (.int .u64 (hexVal c)) ∧ w = w' := by
  have hcb : c.toNat < 256 := UInt8.toNat_lt _
  have hcc : (48 ≤ c.toNat ∧ c.toNat ≤ 57) ∨ (97 ≤ c.toNat ∧ c.toNat ≤ 102) ∨ (c.toNat < 48 ∨ 57 < c.toNat ∧ c.toNat < 97 ∨ 102 < c.toNat) := by omega
  rcases hcc with ⟨c1, c2⟩ | ⟨c1, c2⟩ | hbad
  · have HV := lid (hexVal_num c1 c2)
    go_enter Try.func30, Try.ntmps30
    go_wp2
    go_ret
    exact ⟨ret_u64 (by rw [HV.out]; omega), rfl⟩
  · have HV := lid (hexVal_let c1 c2)
    go_enter Try.func30, Try.ntmps30
    go_wp2
    go_ret
    exact ⟨ret_u64 (by rw [HV.out]; omega), rfl⟩
  · have HV := lid (hexVal_not (c := c) (by omega) (by omega))
    rcases hbad with hbad | ⟨hb1, hb2⟩ | hbad
    all_goals
      go_enter Try.func30, Try.ntmps30
      go_wp2
      go_ret
      exact ⟨ret_u64 (by rw [HV.out]; rfl), rfl⟩

set_option maxHeartbeats 2000000 in
theorem refParse_any (s : ByteArray) (w : World) (hs : s.size ≤ maxLen) :
    Calls Try.prog 12 #[.string s] w fun e w' => e = .returned (.tuple #[dv (parseE s.data.toList).1, .int .i64 (parseE s.data.toList).2]) ∧ Below w.heap.size w w' := by
  unfold maxLen at hs
  by_cases h : s.size = 32
  · have HL := lid (show s.data.toList.length = 32 by simpa using h)
    have h1 : s.size ≤ 32 := by omega
    have h2 : 32 ≤ s.size := by omega
    have h3 : ((s.size : Int) != 32) = false := by simp; omega
    clear h
    go_enter Try.func12, Try.ntmps12
    go_wp2
    go_loopw [5, 6] (fun i _ wr => ∃ (k : Nat) (a b : Nat), k ≤ 32 ∧ i = .int .i64 k ∧ Hid (PInv s k a b) ∧
      wr = (w.alloc (Obj.cells #[Value.int .u64 0, Value.int .u64 0] 24)).alloc (Obj.cells #[Value.int .u64 (a : Int), Value.int .u64 (b : Int)] 24)) (fun i _ _ => 32 - (intOf i).toNat)
    case atStart => exact ⟨0, 0, 0, by omega, rfl, lid ⟨by simp, by simp [valHex], by simp [valHex]⟩, rfl⟩
    case round =>
      obtain ⟨k, a, b, hk, rfl, HR, rfl⟩ := hrel
      by_cases hlt : k < 32
      · have hks : k < s.size := by omega
        have HB := lid (HR.out.bound hlt)
        have hv16 : hexVal s[k] < 16 ∨ hexVal s[k] = 16 := by
          unfold hexVal
          split
          · left; omega
          · split
            · left; omega
            · right; rfl
        go_wp2_with fail
        (with_reducible refine (digit_any s[k] _).mono ?_); rintro e w1 ⟨rfl, rfl⟩
        generalize hv : hexVal s[k] = v at hv16 ⊢
        have HVV := lid hv
        clear hv
        rcases hv16 with hv16 | rfl
        · have h16 : k < 16 ∨ 16 ≤ k := by omega
          rcases h16 with h16 | h16
          · have e1 : k / 16 = 0 := by omega
            have e2 : (k : Int) / 16 = 0 := by omega
            have hw := wrap_nib (a := a) (v := v) (by have := HB.out; omega) (by omega)
            go_wp2_with fail
            go_roundw
            case rel => exact ⟨k + 1, (a * 16 + v), b, by omega, by go_num, lid (by
              rw [← HVV.out]
              exact parse_step_lo HR.out hks h16 (by rw [HVV.out]; omega)), by rw [Int.natCast_add, Int.natCast_mul]; rfl⟩
            case measure => simp [intOf]; omega
          · have e1 : k / 16 = 1 := by omega
            have e2 : (k : Int) / 16 = 1 := by omega
            have hw := wrap_nib (a := b) (v := v) (by have := HB.out; omega) (by omega)
            go_wp2_with fail
            go_roundw
            case rel => exact ⟨k + 1, a, (b * 16 + v), by omega, by go_num, lid (by
              rw [← HVV.out]
              exact parse_step_hi HR.out hks h16 (by rw [HVV.out]; omega)), by rw [Int.natCast_add, Int.natCast_mul]; rfl⟩
            case measure => simp [intOf]; omega
        · have HE := lid (parseE_bad (mem_at hks) HVV.out)
          go_wp2_with fail
          exact bodyPost_ret (v := .tuple #[dv (0, 0), .int .i64 3]) (by simp [results, Try.results12, go_sem]) rfl ⟨by rw [HE.out], ((Below.refl _ _).alloc (Nat.le_refl _) _).alloc (by simp) _⟩
      · obtain rfl : k = 32 := by omega
        have HD := lid (HR.out.done HL.out)
        go_wp2
        exact bodyPost_ret (v := .tuple #[.agg #[.int .u64 (a : Int), .int .u64 (b : Int)], .int .i64 0]) (by simp [results, Try.results12, go_sem]) rfl ⟨by rw [HD.out.1]; simp only [dv]; rw [ofNat_val HD.out.2.1, ofNat_val HD.out.2.2], ((Below.refl _ _).alloc (Nat.le_refl _) _).alloc (by simp) _⟩
  · have HE := lid (parseE_len (l := s.data.toList) (by simpa using h))
    have h3 : ((s.size : Int) != 32) = true := by simp; omega
    clear h
    go_enter Try.func12, Try.ntmps12
    go_wp2
    exact bodyPost_ret (v := .tuple #[dv (0, 0), .int .i64 3]) (by simp [results, Try.results12, go_sem]) rfl ⟨by rw [HE.out], (Below.refl _ _).alloc (Nat.le_refl _) _⟩
end Go.Proofs.Ytchjmkmcgpbndaa
