/-
  chunk.Fresh at any parameters; awake, the examples of the chapter.
-/
import Derived.Test.YtmebjjoldhcgpaaChkFresh
import Derived.Test.YtmebjjoldhcgpaaChkSame
import Derived.Test.YtmebjjoldhcgpaaChkSameD
namespace Go.Proofs.Ytmebjjoldhcgpaa
open Go.RowKit

set_option maxHeartbeats 1000000 in
theorem Fresh_err (s t : ByteArray) (l m v b : Int) (w : World) (hs : s.size ≤ 65536) (ht : t.size ≤ 65536) (hE : ¬ checkE l m v b = 0) :
    Calls Try.prog 16 #[.string s, .string t, .agg (pcells l m v b)] w fun e w' => e = .returned (.tuple #[.int .i64 0, .int .i64 (checkE l m v b)]) ∧ Below w.heap.size w w' := by
  have h2 := checkE_two hE
  have HE := lid h2
  clear hE
  go_enter Try.func16, Try.ntmps16
  go_wp2_with fail
  with_reducible refine (checkAll_any l m v b (w.heap.size + 3) 2 2 _ (by omega) (by simp) (by omega) ?_).mono ?_
  · intro j hj
    rcases (show j = 0 ∨ j = 1 by omega) with rfl | rfl
    · exact ⟨s, by rw [cell_new_at (by simp)]; rfl, hs⟩
    · exact ⟨t, by rw [cell_new_at (by simp)]; rfl, ht⟩
  rintro e w1 ⟨rfl, hb1⟩
  rw [h2]
  go_wp2_with fail
  go_ret2
  exact ⟨by rw [HE.out]; rfl, (((((Below.refl _ _).alloc (Nat.le_refl _) _).alloc (by simp) _).alloc (by simp <;> omega) _).alloc (by simp <;> omega) _).trans (hb1.mono (by simp <;> omega))⟩

theorem Fresh_any (s t : ByteArray) (l m v b : Int) (w : World) (hs : s.size ≤ 65536) (ht : t.size ≤ 65536) :
    Calls Try.prog 16 #[.string s, .string t, .agg (pcells l m v b)] w fun e w' => e = .returned (.tuple #[.int .i64 (freshN (chunksI s l m v b) (chunksI t l m v b) : Nat), .int .i64 (checkE l m v b)]) ∧ Below w.heap.size w w' := by
  by_cases h : checkE l m v b = 0
  · obtain ⟨l, m, v, b, rfl, rfl, rfl, rfl, h1, h2, h3, h4, h5⟩ := checkE_nat h
    rw [chunksI_ok h, chunksI_ok h, h]
    exact Fresh_ok s t l m v b w h1 h2 h3 h4 h5 hs ht
  · have h0 : freshN (chunksI s l m v b) (chunksI t l m v b) = 0 := by rw [chunksI_bad (s := t) h]; rfl
    rw [h0]
    exact Fresh_err s t l m v b w hs ht h

theorem chunks_abc : chunksI ⟨#[97, 98, 99]⟩ 1 3 1 0 = [⟨#[97]⟩, ⟨#[98]⟩, ⟨#[99]⟩] := by
  rw [chunksI, if_pos (by decide)]
  show chunksOf _ 1 3 1 0 = _
  rw [← sub_chunks (by omega) (by omega)]
  kernel_rfl
theorem chunks_abcde : chunksI ⟨#[97, 98, 99, 100, 101]⟩ 2 2 1 16 = [⟨#[97, 98]⟩, ⟨#[99, 100]⟩, ⟨#[101]⟩] := by
  rw [chunksI, if_pos (by decide)]
  show chunksOf _ 2 2 1 16 = _
  rw [← sub_chunks (by omega) (by omega)]
  kernel_rfl

/-- A literal slice. -/
theorem Sl.lit (w : World) (us : Array Value) (t : TypeId) (xs : List Value) (n : Nat) (h : us.toList = xs) (hn : xs.length = n) : Sl (w.alloc (.cells us t)) 1 (some ⟨w.heap.size, 0, none⟩) n xs := by
  subst h
  refine ⟨by omega, .inr ⟨w.heap.size, 0, rfl, by simp, fun j u hu => ?_⟩⟩
  rw [Nat.zero_add, cell_new_at rfl]
  simpa using hu

set_option maxHeartbeats 2000000 in
theorem awake_any (w : World) : Calls Try.prog 9 #[] w fun e w' => e = .returned (.bool true) ∧ Below w.heap.size w w' := by
  have H1 := lid chunks_abc
  have H2 := lid chunks_abcde
  go_enter Try.func9, Try.ntmps9
  go_wp2_with fail
  (with_reducible refine (Split_any ⟨#[97, 98, 99]⟩ 1 3 1 0 _ (by decide)).mono ?_); rintro e w1 ⟨a1, n1, c1, rfl, hn1, hnc1, hcm1, hsl1, hb1⟩
  rw [H1.out] at hn1 hsl1
  obtain rfl : 3 = n1 := hn1
  rw [show checkE 1 3 1 0 = 0 from by decide]
  go_wp2_with fail
  (with_reducible refine (Split_any ⟨#[97, 98, 99, 100, 101]⟩ 2 2 1 16 _ (by decide)).mono ?_); rintro e w2 ⟨a2, n2, c2, rfl, hn2, hnc2, hcm2, hsl2, hb2⟩
  rw [H2.out] at hn2 hsl2
  obtain rfl : 3 = n2 := hn2
  rw [show checkE 2 2 1 16 = 0 from by decide]
  have hb12 := hb1.trans (hb2.mono hb1.size)
  have hsl1 := (hsl1.below hb2).alloc (Obj.cells #[Value.string ⟨#[97]⟩, Value.string ⟨#[98]⟩, Value.string ⟨#[99]⟩] 9)
  have S1 := lid hsl1
  have S2 := lid (hsl2.alloc (Obj.cells #[Value.string ⟨#[97]⟩, Value.string ⟨#[98]⟩, Value.string ⟨#[99]⟩] 9))
  have hz := hb12.size
  clear hb1 hb2 hsl1 hsl2
  go_wp2_with fail
  (with_reducible refine (SameStrings_any [⟨#[97]⟩, ⟨#[98]⟩, ⟨#[99]⟩] [⟨#[97]⟩, ⟨#[98]⟩, ⟨#[99]⟩] 3 3 a1 (some ⟨w2.heap.size, 0, none⟩) c1 3 _ rfl rfl (by omega) S1.out (Sl.lit _ _ _ _ _ rfl rfl)).mono ?_); rintro e w3 ⟨rfl, hb3⟩
  rw [show (decide (([⟨#[97]⟩, ⟨#[98]⟩, ⟨#[99]⟩] : List ByteArray) = [⟨#[97]⟩, ⟨#[98]⟩, ⟨#[99]⟩])) = true from by decide]
  have S3 := lid ((S2.out.below hb3).alloc (Obj.cells #[Value.string ⟨#[97, 98]⟩, Value.string ⟨#[99, 100]⟩, Value.string ⟨#[101]⟩] 9))
  have hb13 : Below w.heap.size w w3 := (hb12.alloc hz _).trans (hb3.mono (by simp <;> omega))
  clear hb3
  go_wp2_with fail
  (with_reducible refine (SameStrings_any [⟨#[97, 98]⟩, ⟨#[99, 100]⟩, ⟨#[101]⟩] [⟨#[97, 98]⟩, ⟨#[99, 100]⟩, ⟨#[101]⟩] 3 3 a2 (some ⟨w3.heap.size, 0, none⟩) c2 3 _ rfl rfl (by omega) S3.out (Sl.lit _ _ _ _ _ rfl rfl)).mono ?_); rintro e w4 ⟨rfl, hb4⟩
  rw [show (decide (([⟨#[97, 98]⟩, ⟨#[99, 100]⟩, ⟨#[101]⟩] : List ByteArray) = [⟨#[97, 98]⟩, ⟨#[99, 100]⟩, ⟨#[101]⟩])) = true from by decide]
  go_wp2_with fail
  go_ret
  exact ⟨rfl, (hb13.alloc hb13.size _).trans (hb4.mono (by have := hb13.size; simp <;> omega))⟩
end Go.Proofs.Ytmebjjoldhcgpaa
