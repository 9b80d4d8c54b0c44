/-
  The law SprtEnds returns true and makes new memory alone.
-/
import Derived.Test.YtmlkegopbdfiaaaSprRefEndsAny
import Derived.Test.YtmlkegopbdfiaaaSprSame
import Derived.Test.YtmlkegopbdfiaaaSprAwake
namespace Go.Proofs.Ytmlkegopbdfiaaa
open Go.RowKit

theorem endsI_length (gn gd bn bd an ad en ed n : Int) : (endsI gn gd bn bd an ad en ed n).length ≤ 1000 := by
  unfold endsI
  split
  · split
    · rename_i h
      have := endsTo_length (decN gn gd bn bd an ad en ed) n.toNat (n.toNat + 1) (by omega)
      omega
    · simp
  · simp

set_option maxRecDepth 100000 in
set_option maxHeartbeats 4000000 in
theorem LawEnds_any (gn gd bn bd an ad en ed n : Int) (w : World) :
    Calls Try.prog 9 #[.agg (tv gn gd bn bd an ad en ed), .int .i64 n] w fun e w' => e = .returned (.bool true) ∧ Below w.heap.size w w' := by
  have hb0 : Below w.heap.size w (w.alloc (Obj.cells (tv gn gd bn bd an ad en ed) 25)) := ba _ _
  have hT0 := TC.new w gn gd bn bd an ad en ed 25
  by_cases hmid : 20 < n ∧ n ≤ 30
  · obtain ⟨h1, h2⟩ := hmid
    go_enter Try.func9, Try.ntmps9
    go_wp2_with fail
    (with_reducible refine (awake_any _).mono ?_); rintro e w3 ⟨rfl, hb3⟩
    go_wp2_with fail
    go_ret
    exact ⟨rfl, hb0.trans (hb3.mono (by simp))⟩
  · have hlen := endsI_length gn gd bn bd an ad en ed n
    generalize hL : endsI gn gd bn bd an ad en ed n = L at hlen
    generalize hX : endsE gn gd bn bd an ad en ed n = X
    have HL := lid hL
    have HX := lid hX
    have HLEN := lid hlen
    have hc : n ≤ 20 ∨ (20 < n ∧ 30 < n) := by omega
    clear hL hX hmid hlen
    rcases hc with h1 | ⟨h1, h2⟩
    all_goals
      go_enter Try.func9, Try.ntmps9
      go_wp2_with fail
      (with_reducible refine (Ends_any gn gd bn bd an ad en ed n _).mono ?_); rintro e w1 ⟨a1, n1, c1, rfl, hl1, hs1, hb1⟩
      rw [HX.out]
      rw [HL.out] at hl1 hs1
      have HL1 := lid hl1
      have HS1 := lid hs1
      have hw1 := hb0.trans (hb1.mono (by simp))
      obtain ⟨t0, t1, t2, t3, t4, t5, t6, t7⟩ := hT0.below hb1 (by simp)
      clear hb1 hT0 hl1 hs1
      go_wp2_with fail
      (with_reducible refine (refEnds_any gn gd bn bd an ad en ed n _).mono ?_); rintro e w2 ⟨a2, n2, c2, rfl, hl2, hs2, hb2⟩
      rw [HX.out]
      rw [HL.out] at hl2 hs2
      have HL2 := lid hl2
      have HS2 := lid hs2
      have HS1' := lid (HS1.out.below hb2)
      have hw2 := hw1.trans (hb2.mono hw1.size)
      clear hb2 hl2 hs2 t0 t1 t2 t3 t4 t5 t6 t7
      go_wp2_with fail
      (with_reducible refine (Same_any L L n1 n2 a1 a2 c1 c2 _ HL1.out HL2.out (by have := HL1.out; have := HLEN.out; omega) HS1'.out HS2.out).mono ?_); rintro e w4 ⟨rfl, hb4⟩
      rw [decide_eq_true rfl]
      have hw4 := hw2.trans (hb4.mono hw2.size)
      clear hb4
      go_wp2_with fail
      (with_reducible refine (awake_any _).mono ?_); rintro e w5 ⟨rfl, hb5⟩
      go_wp2_with fail
      go_ret
      exact ⟨rfl, hw4.trans (hb5.mono hw4.size)⟩
end Go.Proofs.Ytmlkegopbdfiaaa
