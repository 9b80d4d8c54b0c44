/-
  digest.Parse and the reference's Parse return parseE.
-/
import Derived.Test.YtchjmkmcgpbndaaDigVerify
namespace Go.Proofs.Ytchjmkmcgpbndaa
open Go.RowKit

/-- What the loop knows behind k digits. -/
def PInv (s : ByteArray) (k a b : Nat) : Prop := (∀ c ∈ s.data.toList.take k, hexVal c < 16) ∧ a = valHex (s.data.toList.take (min k 16)) ∧ b = valHex ((s.data.toList.take k).drop 16)
theorem take_step {s : ByteArray} {k : Nat} (h : k < s.size) : s.data.toList.take (k + 1) = s.data.toList.take k ++ [s[k]] := by
  rw [List.take_succ_eq_append_getElem (by simpa using h)]
  rfl
theorem parse_step_all {s : ByteArray} {k : Nat} (hh : ∀ c ∈ s.data.toList.take k, hexVal c < 16) (hks : k < s.size) (hv : hexVal s[k] < 16) : ∀ c ∈ s.data.toList.take (k + 1), hexVal c < 16 := by
  intro c hc
  rw [take_step hks, List.mem_append] at hc
  rcases hc with hc | hc
  · exact hh c hc
  · rw [List.mem_singleton] at hc
    rw [hc]; exact hv
theorem parse_step_lo {s : ByteArray} {k a b : Nat} (h : PInv s k a b) (hks : k < s.size) (h16 : k < 16) (hv : hexVal s[k] < 16) : PInv s (k + 1) (a * 16 + hexVal s[k]) b := by
  obtain ⟨h1, h2, h3⟩ := h
  refine ⟨parse_step_all h1 hks hv, ?_, ?_⟩
  · rw [show min (k + 1) 16 = k + 1 by omega, take_step hks, valHex_snoc, h2, show min k 16 = k by omega]
  · rw [h3, List.drop_of_length_le (by simp; omega), List.drop_of_length_le (by simp; omega)]
theorem parse_step_hi {s : ByteArray} {k a b : Nat} (h : PInv s k a b) (hks : k < s.size) (h16 : 16 ≤ k) (hv : hexVal s[k] < 16) : PInv s (k + 1) a (b * 16 + hexVal s[k]) := by
  obtain ⟨h1, h2, h3⟩ := h
  refine ⟨parse_step_all h1 hks hv, ?_, ?_⟩
  · rw [h2, show min (k + 1) 16 = min k 16 by omega]
  · have hle : 16 ≤ (s.data.toList.take k).length := by
      have : s.data.toList.length = s.size := by simp
      rw [List.length_take]; omega
    rw [take_step hks, List.drop_append_of_le_length hle, valHex_snoc, h3]
theorem PInv.bound {s : ByteArray} {k a b : Nat} (h : PInv s k a b) (hk : k < 32) : (k < 16 → a < 1152921504606846976) ∧ b < 1152921504606846976 := by
  obtain ⟨h1, rfl, rfl⟩ := h
  constructor
  · intro h16
    rw [show min k 16 = k by omega]
    exact valHex_bound (m := 15) h1 (by rw [List.length_take]; omega)
  · exact valHex_bound (m := 15) (fun c hc => h1 c (List.mem_of_mem_drop hc)) (by rw [List.length_drop, List.length_take]; omega)
theorem PInv.done {s : ByteArray} {a b : Nat} (h : PInv s 32 a b) (hl : s.data.toList.length = 32) : parseE s.data.toList = ((UInt64.ofNat a, UInt64.ofNat b), 0) ∧ a < 18446744073709551616 ∧ b < 18446744073709551616 := by
  obtain ⟨h1, h2, h3⟩ := h
  rw [List.take_of_length_le (by omega)] at h1 h3
  rw [show min 32 16 = 16 from rfl] at h2
  refine ⟨by rw [parseE_ok hl h1, h2, h3], ?_, ?_⟩
  · rw [h2]
    exact valHex_bound (m := 16) (fun c hc => h1 c (List.mem_of_mem_take hc)) (by rw [List.length_take]; omega)
  · rw [h3]
    exact valHex_bound (m := 16) (fun c hc => h1 c (List.mem_of_mem_drop hc)) (by rw [List.length_drop]; omega)
theorem mem_at {s : ByteArray} {k : Nat} (h : k < s.size) : s[k] ∈ s.data.toList := by
  have : s[k] = s.data.toList[k]'(by simpa using h) := rfl
  rw [this]
  exact List.getElem_mem _
theorem ofNat_val {a : Nat} (h : a < 18446744073709551616) : ((UInt64.ofNat a).toNat : Int) = (a : Int) := by
  rw [UInt64.toNat_ofNat_of_lt' (by simpa [UInt64.size] using h)]

set_option maxHeartbeats 2000000 in
theorem Parse_any (s : ByteArray) (w : World) (hs : s.size ≤ maxLen) :
    Calls Try.prog 11 #[.string s] w fun e w' => e = .returned (.tuple #[dv (parseE s.data.toList).1, .int .i64 (parseE s.data.toList).2]) ∧ Below w.heap.size w w' := by
  unfold maxLen at hs
  by_cases h : s.size = 32
  · have HL := lid (show s.data.toList.length = 32 by simpa using h)
    have h1 : s.size ≤ 32 := by omega
    have h2 : 32 ≤ s.size := by omega
    have h3 : ((s.size : Int) != 32) = false := by simp; omega
    clear h
    go_enter Try.func11, Try.ntmps11
    go_wp2
    go_loopw [5, 6, 7, 14] (fun _ _ _ i wr => ∃ (k : Nat) (a b : Nat), k ≤ 32 ∧ i = .int .i64 k ∧ Hid (PInv s k a b) ∧
      wr = (w.alloc (Obj.cells #[Value.int .u64 0, Value.int .u64 0] 24)).alloc (Obj.cells #[Value.int .u64 (a : Int), Value.int .u64 (b : Int)] 24)) (fun _ _ _ i _ => 32 - (intOf i).toNat)
    case atStart => exact ⟨0, 0, 0, by omega, rfl, lid ⟨by simp, by simp [valHex], by simp [valHex]⟩, rfl⟩
    case round =>
      obtain ⟨k, a, b, hk, rfl, HR, rfl⟩ := hrel
      by_cases hlt : k < 32
      · have hks : k < s.size := by omega
        have HB := lid (HR.out.bound hlt)
        have hcb : (s[k]'hks).toNat < 256 := UInt8.toNat_lt _
        have h16 : k < 16 ∨ 16 ≤ k := by omega
        have hcc : (48 ≤ (s[k]'hks).toNat ∧ (s[k]'hks).toNat ≤ 57) ∨ (97 ≤ (s[k]'hks).toNat ∧ (s[k]'hks).toNat ≤ 102) ∨ ((s[k]'hks).toNat < 48 ∨ 57 < (s[k]'hks).toNat ∧ (s[k]'hks).toNat < 97 ∨ 102 < (s[k]'hks).toNat) := by omega
        rcases hcc with ⟨c1, c2⟩ | ⟨c1, c2⟩ | hbad
        · rcases h16 with h16 | h16
          · have e1 : k / 16 = 0 := by omega
            have e2 : (k : Int) / 16 = 0 := by omega
            have hor := or_nib (a := a) (v := ((s[k]'hks).toNat - 48)) (by have := HB.out; omega) (by omega)
            have hv : (((s[k]'hks).toNat : Int) - 48) = ((((s[k]'hks).toNat - 48) : Nat) : Int) := by omega
            have HV : Hid (hexVal s[k] = ((s[k]'hks).toNat - 48)) := lid (hexVal_num c1 c2)
            generalize hq : ((s[k]'hks).toNat - 48) = v at *
            clear hq
            go_wp2
            go_roundw
            case rel => exact ⟨k + 1, (a * 16 + v), b, by omega, by go_num, lid (by
              rw [← HV.out]
              exact parse_step_lo HR.out hks h16 (by rw [HV.out]; omega)), rfl⟩
            case measure => simp [intOf]; omega
          · have e1 : k / 16 = 1 := by omega
            have e2 : (k : Int) / 16 = 1 := by omega
            have hor := or_nib (a := b) (v := ((s[k]'hks).toNat - 48)) (by have := HB.out; omega) (by omega)
            have hv : (((s[k]'hks).toNat : Int) - 48) = ((((s[k]'hks).toNat - 48) : Nat) : Int) := by omega
            have HV : Hid (hexVal s[k] = ((s[k]'hks).toNat - 48)) := lid (hexVal_num c1 c2)
            generalize hq : ((s[k]'hks).toNat - 48) = v at *
            clear hq
            go_wp2
            go_roundw
            case rel => exact ⟨k + 1, a, (b * 16 + v), by omega, by go_num, lid (by
              rw [← HV.out]
              exact parse_step_hi HR.out hks h16 (by rw [HV.out]; omega)), rfl⟩
            case measure => simp [intOf]; omega
        · rcases h16 with h16 | h16
          · have e1 : k / 16 = 0 := by omega
            have e2 : (k : Int) / 16 = 0 := by omega
            have hor := or_nib (a := a) (v := ((s[k]'hks).toNat - 87)) (by have := HB.out; omega) (by omega)
            have hv : (((s[k]'hks).toNat : Int) - 97 + 10) = ((((s[k]'hks).toNat - 87) : Nat) : Int) := by omega
            have HV : Hid (hexVal s[k] = ((s[k]'hks).toNat - 87)) := lid (hexVal_let c1 c2)
            generalize hq : ((s[k]'hks).toNat - 87) = v at *
            clear hq
            go_wp2
            go_roundw
            case rel => exact ⟨k + 1, (a * 16 + v), b, by omega, by go_num, lid (by
              rw [← HV.out]
              exact parse_step_lo HR.out hks h16 (by rw [HV.out]; omega)), rfl⟩
            case measure => simp [intOf]; omega
          · have e1 : k / 16 = 1 := by omega
            have e2 : (k : Int) / 16 = 1 := by omega
            have hor := or_nib (a := b) (v := ((s[k]'hks).toNat - 87)) (by have := HB.out; omega) (by omega)
            have hv : (((s[k]'hks).toNat : Int) - 97 + 10) = ((((s[k]'hks).toNat - 87) : Nat) : Int) := by omega
            have HV : Hid (hexVal s[k] = ((s[k]'hks).toNat - 87)) := lid (hexVal_let c1 c2)
            generalize hq : ((s[k]'hks).toNat - 87) = v at *
            clear hq
            go_wp2
            go_roundw
            case rel => exact ⟨k + 1, a, (b * 16 + v), by omega, by go_num, lid (by
              rw [← HV.out]
              exact parse_step_hi HR.out hks h16 (by rw [HV.out]; omega)), rfl⟩
            case measure => simp [intOf]; omega
        · have HE := lid (parseE_bad (mem_at hks) (hexVal_not (c := s[k]) (by omega) (by omega)))
          rcases hbad with hbad | ⟨hb1, hb2⟩ | hbad
          all_goals
            go_wp2
            exact bodyPost_ret (v := .tuple #[dv (0, 0), .int .i64 3]) (by simp [results, Try.results11, go_sem]) rfl ⟨by rw [HE.out], ((Below.refl _ _).alloc (Nat.le_refl _) _).alloc (by simp) _⟩
      · obtain rfl : k = 32 := by omega
        have HD := lid (HR.out.done HL.out)
        go_wp2
        exact bodyPost_ret (v := .tuple #[.agg #[.int .u64 (a : Int), .int .u64 (b : Int)], .int .i64 0]) (by simp [results, Try.results11, go_sem]) rfl ⟨by rw [HD.out.1]; simp only [dv]; rw [ofNat_val HD.out.2.1, ofNat_val HD.out.2.2], ((Below.refl _ _).alloc (Nat.le_refl _) _).alloc (by simp) _⟩
  · have HE := lid (parseE_len (l := s.data.toList) (by simpa using h))
    have h3 : ((s.size : Int) != 32) = true := by simp; omega
    clear h
    go_enter Try.func11, Try.ntmps11
    go_wp2
    exact bodyPost_ret (v := .tuple #[dv (0, 0), .int .i64 3]) (by simp [results, Try.results11, go_sem]) rfl ⟨by rw [HE.out], (Below.refl _ _).alloc (Nat.le_refl _) _⟩
end Go.Proofs.Ytchjmkmcgpbndaa
