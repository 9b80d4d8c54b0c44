/-
  sprt.Ends at any trial and number.
-/
import Derived.Test.YtmlkegopbdfiaaaSprEnds
namespace Go.Proofs.Ytmlkegopbdfiaaa
open Go.RowKit

def endsE (gn gd bn bd an ad en ed n : Int) : Int := if trialE gn gd bn bd an ad en ed = 0 then (if 0 ≤ n ∧ n ≤ 30 then 0 else 2) else 1
def endsI (gn gd bn bd an ad en ed n : Int) : List EndN := if trialE gn gd bn bd an ad en ed = 0 then (if 0 ≤ n ∧ n ≤ 30 then endsTo (decN gn gd bn bd an ad en ed) n.toNat (n.toNat + 1) else []) else []
/-- A result of Ends. -/
def RetE (L : List EndN) (E : Int) (w : World) (e : Ending) (w' : World) : Prop :=
  ∃ ao len cap, e = .returned (.tuple #[.slice ao len cap, .int .i64 E]) ∧ L.length = len ∧ Sl w' 4 ao len (evals L) ∧ Below w.heap.size w w'

set_option maxRecDepth 100000 in
set_option maxHeartbeats 4000000 in
theorem Ends_any (gn gd bn bd an ad en ed n : Int) (w : World) :
    Calls Try.prog 20 #[.agg (tv gn gd bn bd an ad en ed), .int .i64 n] w fun e w' => RetE (endsI gn gd bn bd an ad en ed n) (endsE gn gd bn bd an ad en ed n) w e w' := by
  have hb0 : Below w.heap.size w (w.alloc (Obj.cells (tv gn gd bn bd an ad en ed) 25)) := ba _ _
  rcases trial_01 gn gd bn bd an ad en ed with hE | hE
  · by_cases hn : 0 ≤ n ∧ n ≤ 30
    · have HI : endsI gn gd bn bd an ad en ed n = endsTo (decN gn gd bn bd an ad en ed) n.toNat (n.toNat + 1) := by unfold endsI; rw [if_pos hE, if_pos hn]
      have HX : endsE gn gd bn bd an ad en ed n = 0 := by unfold endsE; rw [if_pos hE, if_pos hn]
      rw [HI, HX]
      obtain ⟨Gn, Gd, Bn, Bd, An, Ad, En, Ed, rfl, rfl, rfl, rfl, rfl, rfl, rfl, rfl, r1, r2, r3, r4, -, -⟩ := trial_ok hE
      obtain ⟨N, rfl⟩ := Int.eq_ofNat_of_zero_le hn.1
      refine (Ends_ok Gn Gd Bn Bd An Ad En Ed N w (by omega) hE r1 r2 r3 r4).mono ?_
      rintro e w' ⟨v', rfl, ⟨B, hown⟩, hb⟩
      obtain ⟨ao, cap, rfl, h1, h2, h3⟩ := Sl.of_own hown
      exact ⟨ao, _, cap, rfl, rfl, h3, hb⟩
    · have HI : Hid (endsI gn gd bn bd an ad en ed n = []) := lid (by unfold endsI; rw [if_pos hE, if_neg hn])
      have HX : Hid (endsE gn gd bn bd an ad en ed n = 2) := lid (by unfold endsE; rw [if_pos hE, if_neg hn])
      have HE := lid hE
      clear hE
      by_cases h0 : n < 0
      · clear hn
        go_enter Try.func20, Try.ntmps20
        go_wp2_with fail
        (with_reducible refine (Check_any gn gd bn bd an ad en ed _).mono ?_); rintro e w1 ⟨rfl, hb1⟩
        rw [HE.out]
        have hw1 := hb0.trans (hb1.mono (by simp))
        go_wp2_with fail
        go_ret2
        rw [HI.out, HX.out]
        exact ⟨none, 0, 0, rfl, rfl, Sl.nil, hw1⟩
      · have h1 : 30 < n := by omega
        have h2 : 0 ≤ n := by omega
        clear hn
        go_enter Try.func20, Try.ntmps20
        go_wp2_with fail
        (with_reducible refine (Check_any gn gd bn bd an ad en ed _).mono ?_); rintro e w1 ⟨rfl, hb1⟩
        rw [HE.out]
        have hw1 := hb0.trans (hb1.mono (by simp))
        go_wp2_with fail
        go_ret2
        rw [HI.out, HX.out]
        exact ⟨none, 0, 0, rfl, rfl, Sl.nil, hw1⟩
  · have HI : Hid (endsI gn gd bn bd an ad en ed n = []) := lid (by unfold endsI; rw [hE]; rfl)
    have HX : Hid (endsE gn gd bn bd an ad en ed n = 1) := lid (by unfold endsE; rw [hE]; rfl)
    have HE := lid hE
    clear hE
    go_enter Try.func20, Try.ntmps20
    go_wp2_with fail
    (with_reducible refine (Check_any gn gd bn bd an ad en ed _).mono ?_); rintro e w1 ⟨rfl, hb1⟩
    rw [HE.out]
    have hw1 := hb0.trans (hb1.mono (by simp))
    go_wp2_with fail
    go_ret2
    rw [HI.out, HX.out]
    exact ⟨none, 0, 0, rfl, rfl, Sl.nil, hw1⟩
end Go.Proofs.Ytmlkegopbdfiaaa
