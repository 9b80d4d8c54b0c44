/-
  The law ChunkFresh returns true and makes new memory alone.
-/
import Derived.Test.YtmebjjoldhcgpaaChkLawSplit
namespace Go.Proofs.Ytmebjjoldhcgpaa
open Go.RowKit

set_option maxRecDepth 100000 in
set_option maxHeartbeats 4000000 in
theorem LawFresh_any (s t : ByteArray) (l m v b : Int) (w : World) (hs : s.size ≤ maxLen) (ht : t.size ≤ maxLen) :
    Calls Try.prog 6 #[.string s, .string t, .agg (pcells l m v b)] w fun e w' => e = .returned (.bool true) ∧ Below w.heap.size w w' := by
  have hs' : s.size ≤ 9223372036854775807 := hs
  have ht' : t.size ≤ 9223372036854775807 := ht
  have hb0 : Below w.heap.size w (w.alloc (Obj.cells (pcells l m v b) 23)) := ba _ _
  by_cases h2 : s.size ≤ 200
  · have h2a : (s.size : Int) ≤ 200 := by omega
    have h2b : decide ((200 : Int) < s.size) = false := by simp; omega
    by_cases h3 : t.size ≤ 200
    · have h3a : (t.size : Int) ≤ 200 := by omega
      have h3b : decide ((200 : Int) < t.size) = false := by simp; omega
      have h65 : s.size ≤ 65536 := by omega
      have h66 : t.size ≤ 65536 := by omega
      have hP0 := PC.new w l m v b 23
      go_enter Try.func6, Try.ntmps6
      go_wp2_with fail
      (with_reducible refine (Fresh_any s t l m v b _ h65 h66).mono ?_); rintro e w1 ⟨rfl, hb1⟩
      obtain ⟨p0, p1, p2, p3⟩ := hP0.below hb1 (by simp)
      have hw1 := hb0.trans (hb1.mono (by simp))
      have hq1 : w.heap.size < w1.heap.size := by have := hb1.size; rw [World.size_alloc] at this; omega
      generalize hF : freshN (chunksI s l m v b) (chunksI t l m v b) = F at *
      generalize hE : checkE l m v b = E at *
      have HF := lid hF
      have HE := lid hE
      clear hF hE hb1 hP0
      go_wp2_with fail
      (with_reducible refine (refFresh_any s t l m v b _ h65 h66).mono ?_); rintro e w2 ⟨rfl, hb2⟩
      rw [HF.out, HE.out]
      have hw2 := hw1.trans (hb2.mono hw1.size)
      go_wp2_with fail
      (with_reducible refine (awake_any _).mono ?_); rintro e w3 ⟨rfl, hb3⟩
      go_wp2_with fail
      go_ret
      exact ⟨rfl, hw2.trans (hb3.mono hw2.size)⟩
    · have h3a : (200 : Int) < t.size := by omega
      have h3b : decide ((200 : Int) < t.size) = true := by simp; omega
      go_enter Try.func6, Try.ntmps6
      go_wp2_with fail
      (with_reducible refine (awake_any _).mono ?_); rintro e w1 ⟨rfl, hb1⟩
      go_wp2_with fail
      go_ret
      exact ⟨rfl, hb0.trans (hb1.mono (by simp))⟩
  · have h2a : (200 : Int) < s.size := by omega
    have h2b : decide ((200 : Int) < s.size) = true := by simp; omega
    go_enter Try.func6, Try.ntmps6
    go_wp2_with fail
    (with_reducible refine (awake_any _).mono ?_); rintro e w1 ⟨rfl, hb1⟩
    go_wp2_with fail
    go_ret
    exact ⟨rfl, hb0.trans (hb1.mono (by simp))⟩
end Go.Proofs.Ytmebjjoldhcgpaa
