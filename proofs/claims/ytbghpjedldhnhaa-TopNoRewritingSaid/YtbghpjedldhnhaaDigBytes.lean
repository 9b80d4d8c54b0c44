/-
  The bytes of a digest: the reference's bytes, and digest.appendBytes.
-/
import Derived.Test.YtbghpjedldhnhaaDigOf
import Derived.Test.YtbghpjedldhnhaaKit
namespace Go.Proofs.Ytbghpjedldhnhaa
open Go.RowKit
theorem ret_string {a b : ByteArray} (h : a = b) : Ending.returned (.string a) = .returned (.string b) := by rw [h]
theorem info_u8 : (Try.prog.info? 5).map (fun i => (i.zero, i.size, i.bytes)) = some (some (.int .u8 0), 1, 1) := by kernel_rfl

set_option maxRecDepth 100000 in
set_option maxHeartbeats 1000000 in
theorem refBytes_any (x y : UInt64) (w : World) :
    Calls Try.prog 43 #[.agg #[.int .u64 x.toNat, .int .u64 y.toNat]] w fun e w' => e = .returned (.string (bstr (bytesU x y))) ∧ Below w.heap.size w w' := by
  go_enter Try.func43, Try.ntmps43
  go_wp2
  go_loopw [3, 4] (fun v i wr => ∃ k : Nat, k ≤ 16 ∧ i = .int .i64 k ∧ wr.ownsRow (w.heap.size + 1) 5 1 v k (bvals ((bytesU x y).take k)) ∧ Below (w.heap.size + 1) (w.alloc (Obj.cells #[Value.int .u64 x.toNat, Value.int .u64 y.toNat] 32)) wr ∧ w.heap.size + 1 ≤ wr.heap.size) (fun _ i _ => 16 - (intOf i).toNat)
  case atStart => exact ⟨0, by omega, rfl, ownsRow_empty (World.size_alloc _ _) (Nat.le_refl _), (Below.refl _ _).alloc (by rw [World.size_alloc]; omega) _, by rw [World.size_alloc, World.size_alloc]; omega⟩
  case round =>
    obtain ⟨k, hk, rfl, hown, hb, hz⟩ := hrel
    obtain ⟨z, hz8⟩ : ∃ z : UInt64, z = if k < 8 then x else y := ⟨_, rfl⟩
    have ck : k < 16 → wr.cell? ⟨w.heap.size, k / 8, none⟩ = some (.int .u64 z.toNat) := fun hlt => (hb.cell (p := ⟨w.heap.size, k / 8, none⟩) (by simp)).trans (by
      rcases (show k / 8 = 0 ∧ k < 8 ∨ k / 8 = 1 ∧ ¬ k < 8 by omega) with ⟨h1, h2⟩ | ⟨h1, h2⟩ <;> rw [h1, hz8] <;> simp [h2])
    have HZ := lid hz8
    clear hz8
    by_cases hlt : k < 16
    · have ckk := ck hlt
      have HT := lid (bytesU_take x y k hlt)
      clear ck
      go_wp2_with (at_builtin; go_must (refine wpList_append_new #[.int .u8 (↑z.toNat / 2 ^ (56 - 8 * (k % 8)) % 256)] rfl _ _ 88 rfl (w.heap.size + 1) 5 (.int .u8 0) 1 1 info_u8 Try.underlying88 rfl (by decide) _ k _ hown rfl rfl rfl (by simp [Value.oneCell']) (by simp [maxLen]; omega) (by omega) (by omega) ?_))
      intro v' w' hown' hb' _
      go_wp2_with fail
      go_roundw
      case rel => exact ⟨k + 1, by omega, by go_num, by rw [HT.out, bvals_snoc, ← byteAt_val HZ.out]; exact hown', hb.trans (hb'.mono (by omega)), by have := hb'.size; omega⟩
      case measure => simp [intOf]; omega
    · have hcv := run_string_of_row (P := Try.prog) hown Try.underlying88 Try.underlying5 Try.underlying9
      go_wp2
      go_ret
      exact ⟨ret_string (by rw [List.take_of_length_le (by rw [bytesU_length]; omega)]), ((Below.refl _ _).alloc (Nat.le_refl _) _).trans (hb.mono (by omega))⟩
set_option maxRecDepth 100000 in
set_option maxHeartbeats 1000000 in
theorem appendBytes_any (x y : UInt64) (w : World) (base : Nat) (v : Value) (n : Nat) (l : List UInt8) (hown : w.ownsRow base 5 1 v n (bvals l)) (hbase : base ≤ w.heap.size) (hn : n ≤ 1000) :
    Calls Try.prog 54 #[v, .agg #[.int .u64 x.toNat, .int .u64 y.toNat]] w fun e w' => ∃ v', e = .returned v' ∧ w'.ownsRow base 5 1 v' (n + 16) (bvals (l ++ bytesU x y)) ∧ Below base w w' := by
  go_enter Try.func54, Try.ntmps54
  go_wp2
  go_loopw [0, 6, 9] (fun v' _ i wr => ∃ k : Nat, (k = 0 ∧ i = .int .i64 0 ∨ k = 1 ∧ i = .int .i64 1 ∨ k = 2 ∧ i = .int .i64 2) ∧ wr.ownsRow base 5 1 v' (n + 8 * k) (bvals (l ++ (bytesU x y).take (8 * k))) ∧ Below base w wr ∧ base ≤ wr.heap.size) (fun _ _ i _ => 2 - (intOf i).toNat)
  case atStart => exact ⟨0, .inl ⟨rfl, rfl⟩, by simpa using hown.alloc _, (Below.refl _ _).alloc hbase _, by rw [World.size_alloc]; omega⟩
  case round =>
    clear hown
    obtain ⟨k, hk, hown, hb, hz⟩ := hrel
    rcases hk with ⟨rfl, rfl⟩ | ⟨rfl, rfl⟩ | ⟨rfl, rfl⟩
    · have i0 : ∀ w, (Instr.index 32 (.agg #[.int .u64 x.toNat, .int .u64 y.toNat]) (.int .i64 0)).run Try.prog w = .ok (.int .u64 x.toNat) w := fun _ => by kernel_rfl
      go_wp2
      obtain ⟨wo, rfl⟩ : ∃ wo : World, wo = wr := ⟨_, rfl⟩
      go_loopw [0, 7] (fun v' i wr => ∃ j : Nat, j ≤ 8 ∧ i = .int .i64 (56 - 8 * (j : Int)) ∧ wr.ownsRow base 5 1 v' (n + 8 * 0 + j) (bvals (l ++ (bytesU x y).take (8 * 0 + j))) ∧ Below base w wr ∧ base ≤ wr.heap.size) (fun _ i _ => ((intOf i) + 8).toNat)
      case atStart => exact ⟨0, by omega, rfl, hown, hb, hz⟩
      case round =>
        clear hown hb hz
        obtain ⟨j, hj, rfl, hown, hb, hz⟩ := hrel
        by_cases hlt : j < 8
        · have HT : Hid ((bytesU x y).take (8 * 0 + (j + 1)) = (bytesU x y).take (8 * 0 + j) ++ [byteAt x y (8 * 0 + j)]) := lid (bytesU_take x y (8 * 0 + j) (by omega))
          have HV := lid (byteAt_lo x y hlt)
          go_wp2_with (at_builtin; go_must (refine wpList_append_new #[.int .u8 (↑x.toNat / 2 ^ (56 - 8 * j) % 256)] rfl _ _ 88 rfl base 5 (.int .u8 0) 1 1 info_u8 Try.underlying88 rfl (by decide) _ (n + 8 * 0 + j) _ hown rfl rfl rfl (by simp [Value.oneCell']) (by simp [maxLen]; omega) (by omega) (by omega) ?_))
          intro v' w' hown' hb' _
          go_wp2_with fail
          go_roundw
          case rel => exact ⟨j + 1, by omega, by go_num, by rw [HT.out, ← List.append_assoc, bvals_snoc, ← HV.out]; first | exact hown' | (simp only [Nat.mul_zero, Nat.zero_add, Nat.add_zero]; exact hown'), hb.trans hb', by have := hb'.size; omega⟩
          case measure => simp [intOf]; omega
        · obtain rfl : j = 8 := by omega
          go_wp2
          go_roundw
          case rel => exact ⟨1, .inr (.inl ⟨rfl, rfl⟩), hown, hb, hz⟩
          case measure => simp [intOf]
    · have i0 : ∀ w, (Instr.index 32 (.agg #[.int .u64 x.toNat, .int .u64 y.toNat]) (.int .i64 1)).run Try.prog w = .ok (.int .u64 y.toNat) w := fun _ => by kernel_rfl
      go_wp2
      obtain ⟨wo, rfl⟩ : ∃ wo : World, wo = wr := ⟨_, rfl⟩
      go_loopw [0, 7] (fun v' i wr => ∃ j : Nat, j ≤ 8 ∧ i = .int .i64 (56 - 8 * (j : Int)) ∧ wr.ownsRow base 5 1 v' (n + 8 * 1 + j) (bvals (l ++ (bytesU x y).take (8 * 1 + j))) ∧ Below base w wr ∧ base ≤ wr.heap.size) (fun _ i _ => ((intOf i) + 8).toNat)
      case atStart => exact ⟨0, by omega, rfl, hown, hb, hz⟩
      case round =>
        clear hown hb hz
        obtain ⟨j, hj, rfl, hown, hb, hz⟩ := hrel
        by_cases hlt : j < 8
        · have HT : Hid ((bytesU x y).take (8 * 1 + (j + 1)) = (bytesU x y).take (8 * 1 + j) ++ [byteAt x y (8 * 1 + j)]) := lid (bytesU_take x y (8 * 1 + j) (by omega))
          have HV := lid (byteAt_hi x y hlt)
          go_wp2_with (at_builtin; go_must (refine wpList_append_new #[.int .u8 (↑y.toNat / 2 ^ (56 - 8 * j) % 256)] rfl _ _ 88 rfl base 5 (.int .u8 0) 1 1 info_u8 Try.underlying88 rfl (by decide) _ (n + 8 * 1 + j) _ hown rfl rfl rfl (by simp [Value.oneCell']) (by simp [maxLen]; omega) (by omega) (by omega) ?_))
          intro v' w' hown' hb' _
          go_wp2_with fail
          go_roundw
          case rel => exact ⟨j + 1, by omega, by go_num, by rw [HT.out, ← List.append_assoc, bvals_snoc, ← HV.out]; first | exact hown' | (simp only [Nat.mul_zero, Nat.zero_add, Nat.add_zero]; exact hown'), hb.trans hb', by have := hb'.size; omega⟩
          case measure => simp [intOf]; omega
        · obtain rfl : j = 8 := by omega
          go_wp2
          go_roundw
          case rel => exact ⟨2, .inr (.inr ⟨rfl, rfl⟩), hown, hb, hz⟩
          case measure => simp [intOf]
    · go_wp2
      go_ret
      exact ⟨_, rfl, by rw [List.take_of_length_le (by rw [bytesU_length]; omega)] at hown; exact hown, hb⟩
end Go.Proofs.Ytbghpjedldhnhaa
