/-
  The reference's Format returns hexU.
-/
import Derived.Test.YtchjmkmcgpbndaaDigFormat
import Derived.Test.YtchjmkmcgpbndaaRegion
namespace Go.Proofs.Ytchjmkmcgpbndaa
open Go.RowKit

theorem hex_slice {n : Nat} (h : n < 16) : ({ data := #[48, 49, 50, 51, 52, 53, 54, 55, 56, 57, 97, 98, 99, 100, 101, 102] } : ByteArray).extract n (n + 1) = bstr [hexDigit n] := by
  match n, h with
  | 0, _ => rfl | 1, _ => rfl | 2, _ => rfl | 3, _ => rfl | 4, _ => rfl | 5, _ => rfl | 6, _ => rfl | 7, _ => rfl
  | 8, _ => rfl | 9, _ => rfl | 10, _ => rfl | 11, _ => rfl | 12, _ => rfl | 13, _ => rfl | 14, _ => rfl | 15, _ => rfl
  | n + 16, h => exact absurd h (by omega)

set_option maxHeartbeats 1000000 in
theorem refFormat_any (x y : UInt64) (w : World) :
    Calls Try.prog 14 #[.agg #[.int .u64 x.toNat, .int .u64 y.toNat]] w fun e w' => e = .returned (.string (bstr (hexU x y))) ∧ Below w.heap.size w w' := by
  go_enter Try.func14, Try.ntmps14
  go_wp2_with fail
  (with_reducible refine (refBytes_any x y _).mono ?_); rintro e w1 ⟨rfl, hb1⟩
  have hsz : (bstr (bytesU x y)).size = 16 := by simp [bytesU_length]
  have HA : Hid (∀ k (h : k < 16) (h' : k < (bstr (bytesU x y)).size), (bstr (bytesU x y))[k]'h' = byteAt x y k) := by
    intro k h h'
    show (bytesU x y).toArray[k]'_ = _
    simp [bytesU]
  generalize bstr (bytesU x y) = s at *
  have HZ := lid hsz
  have hs1 : s.size ≤ 16 := by omega
  have hs2 : 16 ≤ s.size := by omega
  clear hsz
  go_wp2
  go_loopw [3, 5] (fun v i wr => ∃ k : Nat, k ≤ 16 ∧ i = .int .i64 k ∧ v = .string (bstr ((hexU x y).take (2 * k))) ∧ Below w.heap.size w wr) (fun _ i _ => 16 - (intOf i).toNat)
  case atStart => exact ⟨0, by omega, rfl, rfl, ((Below.refl _ _).alloc (Nat.le_refl _) _).trans (hb1.mono (by simp))⟩
  case round =>
    obtain ⟨k, hk, rfl, rfl, hb⟩ := hrel
    by_cases hlt : k < 16
    · have hks : k < s.size := by omega
      have HK := lid (HA.out k hlt hks)
      have HT := lid (hexU_take2 x y k hlt)
      have hll : (bstr ((hexU x y).take (2 * k))).size ≤ 32 := by simp; omega
      obtain ⟨q, hsk⟩ : ∃ q : Nat, (s[k]'hks).toNat = q := ⟨_, rfl⟩
      have hqb : q < 256 := by rw [← hsk]; exact UInt8.toNat_lt _
      obtain ⟨q1, hq1⟩ : ∃ q1 : Nat, q1 = q / 16 := ⟨_, rfl⟩
      obtain ⟨q2, hq2⟩ : ∃ q2 : Nat, q2 = q % 16 := ⟨_, rfl⟩
      have e1 : ((q : Int) / 16 % 256) = (q1 : Int) := by omega
      have e1' : (((q1 : Int) + 1) % 256) = (q1 : Int) + 1 := by omega
      have e2 : ((q : Int) % 16) = (q2 : Int) := by omega
      have e2' : (((q2 : Int) + 1) % 256) = (q2 : Int) + 1 := by omega
      have l1 : q1 < 16 := by omega
      have l2 : q2 < 16 := by omega
      have HQ1 := lid hq1
      have HQ2 := lid hq2
      have HSK := lid (hsk.symm.trans (congrArg UInt8.toNat HK.out))
      have s1 : ({ data := #[48, 49, 50, 51, 52, 53, 54, 55, 56, 57, 97, 98, 99, 100, 101, 102] } : ByteArray).extract q1 (q1 + 1) = bstr [hexDigit q1] := hex_slice l1
      have s2 : ({ data := #[48, 49, 50, 51, 52, 53, 54, 55, 56, 57, 97, 98, 99, 100, 101, 102] } : ByteArray).extract q2 (q2 + 1) = bstr [hexDigit q2] := hex_slice l2
      have HE : Hid (bstr ((hexU x y).take (2 * k)) ++ bstr [hexDigit q1] ++ bstr [hexDigit q2] = bstr ((hexU x y).take (2 * (k + 1)))) := by
        show _ = _
        rw [HT.out, bstr_append, bstr_append, ← HSK.out, ← hq1, ← hq2]
        simp
      have z1 : (bstr [hexDigit q1]).size = 1 := rfl
      have z2 : (bstr [hexDigit q2]).size = 1 := rfl
      clear hq1 hq2 hqb HT HK
      generalize bstr ((hexU x y).take (2 * k)) = t at *
      generalize bstr [hexDigit q1] = t1 at *
      generalize bstr [hexDigit q2] = t2 at *
      go_wp2_with fail
      refine wp_region_seq (fun w' => ∃ s : Since wr.heap.size wr, w' = s.world) [(0, true), (1, true), (2, true), (3, true), (4, true), (5, true), (6, true), (7, true), (8, true), (9, true), (10, true), (11, true), (12, true), (13, true), (14, true), (15, true), (16, true), (17, true), (18, true), (19, true), (20, true), (21, true), (22, true), (23, false)] (by kernel_rfl) (by kernel_rfl) (by intro c d v a w h; cases d <;> exact h) (since (Below.refl _ _).drew) ?_
      repeat (refine seq_float (by rfl) (by rfl) (by rfl) ?_; intro K hK; go_big_quiet_op; go_big_quiet_on)
      refine seq_chain (by rfl) ?_
      intro K hK
      go_wp2_with fail
      go_wp2_with fail
      refine hK.out _ _ (since (Below.refl _ _).drew) ?_
      clear hK K
      refine seq_nil ?_
      go_wp2_with fail
      go_roundw
      case rel => exact ⟨k + 1, by omega, by go_num, by rw [← HE.out], hb.drew⟩
      case measure => simp [intOf]; omega
    · obtain rfl : k = 16 := by omega
      have HE := lid (List.take_of_length_le (l := hexU x y) (i := 2 * 16) (by rw [hexU_length]; omega))
      go_wp2_with fail
      go_ret
      exact ⟨ret_string (by rw [HE.out]), hb⟩
end Go.Proofs.Ytchjmkmcgpbndaa
