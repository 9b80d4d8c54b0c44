/-
  digest.Format returns hexU.
-/
import Derived.Test.YtchjmkmcgpbndaaDigBytes
namespace Go.Proofs.Ytchjmkmcgpbndaa
open Go.RowKit

set_option maxHeartbeats 1000000 in
theorem Format_any (x y : UInt64) (w : World) :
    Calls Try.prog 13 #[.agg #[.int .u64 x.toNat, .int .u64 y.toNat]] w fun e w' => e = .returned (.string (bstr (hexU x y))) ∧ Below w.heap.size w w' := by
  go_enter Try.func13, Try.ntmps13
  go_wp2_with (at_make; go_must (refine wpList_make_new rfl _ _ 51 rfl (w.heap.size + 1) 5 (.int .u8 0) 1 1 info_u8 Try.underlying51 32 rfl rfl (by omega) (by simp [maxLen]) (by simp) ?_))
  intro w1 hown1 hb1 hz1
  obtain ⟨hc1, hf1⟩ := bcell hb1
  go_wp2
  go_loopw [3, 5, 9] (fun v' _ i wr => ∃ k : Nat, (k = 0 ∧ i = .int .i64 0 ∨ k = 1 ∧ i = .int .i64 1 ∨ k = 2 ∧ i = .int .i64 2) ∧ wr.ownsRow (w.heap.size + 1) 5 1 v' (16 * k) (bvals ((hexU x y).take (16 * k))) ∧ Below (w.heap.size + 1) (w.alloc (Obj.cells #[Value.int .u64 x.toNat, Value.int .u64 y.toNat] 24)) wr ∧ w.heap.size + 1 ≤ wr.heap.size) (fun _ _ i _ => 2 - (intOf i).toNat)
  case atStart => exact ⟨0, .inl ⟨rfl, rfl⟩, hown1, hb1, by omega⟩
  case round =>
    clear hown1
    obtain ⟨k, hk, hown, hb, hz⟩ := hrel
    rcases hk with ⟨rfl, rfl⟩ | ⟨rfl, rfl⟩ | ⟨rfl, rfl⟩
    · have i0 : ∀ w, (Instr.index 24 (.agg #[.int .u64 x.toNat, .int .u64 y.toNat]) (.int .i64 0)).run Try.prog w = .ok (.int .u64 x.toNat) w := fun _ => by kernel_rfl
      go_wp2
      obtain ⟨wo, rfl⟩ : ∃ wo : World, wo = wr := ⟨_, rfl⟩
      go_loopw [3, 6] (fun v' i wr => ∃ j : Nat, j ≤ 16 ∧ i = .int .i64 (60 - 4 * (j : Int)) ∧ wr.ownsRow (w.heap.size + 1) 5 1 v' (16 * 0 + j) (bvals ((hexU x y).take (16 * 0 + j))) ∧ Below (w.heap.size + 1) (w.alloc (Obj.cells #[Value.int .u64 x.toNat, Value.int .u64 y.toNat] 24)) wr ∧ w.heap.size + 1 ≤ wr.heap.size) (fun _ i _ => ((intOf i) + 4).toNat)
      case atStart => exact ⟨0, by omega, rfl, hown, hb, hz⟩
      case round =>
        clear hown hb hz
        obtain ⟨j, hj, rfl, hown, hb, hz⟩ := hrel
        by_cases hlt : j < 16
        · have HT : Hid ((hexU x y).take (16 * 0 + (j + 1)) = (hexU x y).take (16 * 0 + j) ++ [hexDigit (nibAt x y (16 * 0 + j))]) := lid (hexU_take x y (16 * 0 + j) (by omega))
          have HV := lid (nibAt_lo x y hlt)
          have hbits := nib_bits x (60 - 4 * j)
          have hq : x.toNat / 2 ^ (60 - 4 * j) % 16 < 16 := Nat.mod_lt _ (by omega)
          generalize x.toNat / 2 ^ (60 - 4 * j) % 16 = q at *
          go_wp2_with (at_builtin; go_must (refine wpList_append_new #[.int .u8 ((({ data := #[48, 49, 50, 51, 52, 53, 54, 55, 56, 57, 97, 98, 99, 100, 101, 102] } : ByteArray)[q]'hq).toNat : Int)] rfl _ _ 51 rfl (w.heap.size + 1) 5 (.int .u8 0) 1 1 info_u8 Try.underlying51 rfl (by decide) _ (16 * 0 + j) _ hown rfl rfl rfl (by simp [Value.oneCell']) (by simp [maxLen]; omega) (by omega) (by omega) ?_))
          intro v' w' hown' hb' _
          go_wp2_with fail
          go_roundw
          case rel => exact ⟨j + 1, by omega, by go_num, by rw [HT.out, bvals_snoc, HV.out, ← hex_at hq]; first | exact hown' | (simp only [Nat.mul_zero, Nat.zero_add]; exact hown'), hb.trans hb', by have := hb'.size; omega⟩
          case measure => simp [intOf]; omega
        · obtain rfl : j = 16 := by omega
          go_wp2
          go_roundw
          case rel => exact ⟨1, .inr (.inl ⟨rfl, rfl⟩), hown, hb, hz⟩
          case measure => simp [intOf]
    · have i0 : ∀ w, (Instr.index 24 (.agg #[.int .u64 x.toNat, .int .u64 y.toNat]) (.int .i64 1)).run Try.prog w = .ok (.int .u64 y.toNat) w := fun _ => by kernel_rfl
      go_wp2
      obtain ⟨wo, rfl⟩ : ∃ wo : World, wo = wr := ⟨_, rfl⟩
      go_loopw [3, 6] (fun v' i wr => ∃ j : Nat, j ≤ 16 ∧ i = .int .i64 (60 - 4 * (j : Int)) ∧ wr.ownsRow (w.heap.size + 1) 5 1 v' (16 * 1 + j) (bvals ((hexU x y).take (16 * 1 + j))) ∧ Below (w.heap.size + 1) (w.alloc (Obj.cells #[Value.int .u64 x.toNat, Value.int .u64 y.toNat] 24)) wr ∧ w.heap.size + 1 ≤ wr.heap.size) (fun _ i _ => ((intOf i) + 4).toNat)
      case atStart => exact ⟨0, by omega, rfl, hown, hb, hz⟩
      case round =>
        clear hown hb hz
        obtain ⟨j, hj, rfl, hown, hb, hz⟩ := hrel
        by_cases hlt : j < 16
        · have HT : Hid ((hexU x y).take (16 * 1 + (j + 1)) = (hexU x y).take (16 * 1 + j) ++ [hexDigit (nibAt x y (16 * 1 + j))]) := lid (hexU_take x y (16 * 1 + j) (by omega))
          have HV := lid (nibAt_hi x y hlt)
          have hbits := nib_bits y (60 - 4 * j)
          have hq : y.toNat / 2 ^ (60 - 4 * j) % 16 < 16 := Nat.mod_lt _ (by omega)
          generalize y.toNat / 2 ^ (60 - 4 * j) % 16 = q at *
          go_wp2_with (at_builtin; go_must (refine wpList_append_new #[.int .u8 ((({ data := #[48, 49, 50, 51, 52, 53, 54, 55, 56, 57, 97, 98, 99, 100, 101, 102] } : ByteArray)[q]'hq).toNat : Int)] rfl _ _ 51 rfl (w.heap.size + 1) 5 (.int .u8 0) 1 1 info_u8 Try.underlying51 rfl (by decide) _ (16 * 1 + j) _ hown rfl rfl rfl (by simp [Value.oneCell']) (by simp [maxLen]; omega) (by omega) (by omega) ?_))
          intro v' w' hown' hb' _
          go_wp2_with fail
          go_roundw
          case rel => exact ⟨j + 1, by omega, by go_num, by rw [HT.out, bvals_snoc, HV.out, ← hex_at hq]; first | exact hown' | (simp only [Nat.mul_zero, Nat.zero_add]; exact hown'), hb.trans hb', by have := hb'.size; omega⟩
          case measure => simp [intOf]; omega
        · obtain rfl : j = 16 := by omega
          go_wp2
          go_roundw
          case rel => exact ⟨2, .inr (.inr ⟨rfl, rfl⟩), hown, hb, hz⟩
          case measure => simp [intOf]
    · have hcv := run_string_of_row (P := Try.prog) hown Try.underlying51 Try.underlying5 Try.underlying9
      go_wp2
      go_ret
      exact ⟨ret_string (by rw [List.take_of_length_le (by rw [hexU_length]; omega)]), ((Below.refl _ _).alloc (Nat.le_refl _) _).trans (hb.mono (by omega))⟩
end Go.Proofs.Ytchjmkmcgpbndaa
