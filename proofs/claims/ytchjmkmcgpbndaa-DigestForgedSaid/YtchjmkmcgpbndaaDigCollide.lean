/-
  collide: two different strings with the same digest.
-/
import Derived.Test.YtchjmkmcgpbndaaDigAwake
import Derived.Test.YtchjmkmcgpbndaaDigOf
import Derived.ChangeKeysEq
namespace Go.Proofs.Ytchjmkmcgpbndaa
open Go.RowKit

set_option maxHeartbeats 1000000 in
theorem collide_any (s t : ByteArray) (w : World) (hs : s.size ≤ maxLen) (ht : t.size ≤ maxLen) (hne : s ≠ t) (he : ofU s.data.toList = ofU t.data.toList) :
    Calls Try.prog 47 #[.string s, .string t] w fun e w' => e = .returned (.bool true) ∧ Below w.heap.size w w' := by
  have C1 := fun w => of_any s w hs
  have C2 := fun w => of_any t w ht
  rw [← he] at C2
  generalize ofU s.data.toList = o at C1 C2
  replace C1 := lid C1
  replace C2 := lid C2
  have hq : (s.toList == t.toList) = false := by
    rw [Bool.eq_false_iff]
    intro h
    have h' : s.toList = t.toList := by simpa using h
    rw [ByteArray.toList_eq, ByteArray.toList_eq] at h'
    exact hne (by rw [← bstr_of s, ← bstr_of t, h'])
  clear hs ht he
  go_enter Try.func47, Try.ntmps47
  go_wp2_with fail
  (with_reducible refine (C1.out _).mono ?_); rintro e w1 ⟨rfl, hb1⟩
  go_wp2_with fail
  (with_reducible refine (C2.out _).mono ?_); rintro e w2 ⟨rfl, hb2⟩
  go_wp2_with fail
  go_ret
  exact ⟨rfl, hb1.trans (hb2.mono hb1.size)⟩
end Go.Proofs.Ytchjmkmcgpbndaa
