/-
  A region that draws its order, in a function that is walked for its caller's rounds (Fence.wide).
-/
import Derived.OrdersIn
import Derived.OwnWalkIn
import Derived.RangeFuncCalls
import Derived.TacticsIn
import Derived.Test.YtefehgdckmajiaaGreatDoorGrpA
namespace Go.Proofs.YtefehgdckmajiaaGreatDoor
open Go.RowKit

theorem rows_wideW {n : Nat} {P : Program} {row : String} {args : Array Value} {w : World} {R : Value → World → Prop} (h : Rows P row args w R) : RowsIn Fence.wide n P row args w R :=
  fun c cs _ => let ⟨v, w', hr, hs⟩ := h c cs; ⟨v, w', hr, stepsIn_wide.2 hs⟩
section
variable {P : Program} {ops : Array Oper} {Q : Exit → Act → World → Prop} {n : Nat}
theorem wpOpIn_ofW {i : Nat} {K : Act → World → Prop} {a : Act} {w : World} (hd : noDefer ops = true) (h : wpOp P ops (Ends Q) i K a w) : wpOpIn Fence.wide n P ops Q i K a w := by
  unfold wpOp at h
  unfold wpOpIn
  split
  · rename_i hi
    simpa only [hi] using h
  · rename_i o hi
    simp only [hi] at h
    split
    · rename_i hw
      rw [if_pos hw] at h
      rcases h with h | ⟨_, _, _, h, _⟩
      · unfold Oper.wp at h
        refine ⟨fun _ _ => trivial, ?_⟩
        rw [Oper.semAt_plain Fence.wide _ _ (noDefer_spec hd hi)]
        generalize (execOp a.eval o).run P w = res at *
        cases res with
        | ok x w' =>
          cases x <;> simp only [Oper.upon, Oper.uponIn] at h ⊢
          case value v => exact h
          case skip => exact h
          case defer d => exact h
          case enter f args =>
            refine ⟨fun h => (by cases h), (callsIn_wide.2 (Calls.mono h fun e w'' he => ?_))⟩
            cases e with
            | returned v => exact he
            | panicked c => cases he.1
            | outgrown => obtain ⟨_, _, he, _⟩ := he; cases he
          case row row args => exact ⟨fun h => (by cases h), rows_wideW h⟩
        | halt x w' =>
          cases x <;> simp only [Oper.upon, Oper.uponIn] at h ⊢
          case panic v => cases h.1
      · cases h
    · rename_i hw
      rw [if_neg hw] at h
      exact ⟨fun _ _ => trivial, h⟩

theorem wpAnyIn_ofW {md : Region.Mode} (hd : noDefer ops = true) : ∀ (fuel : Nat) (listed : Array Bool) (a : Act) (w : World), wpAny P md ops (Ends Q) fuel listed a w → wpAnyIn Fence.wide n P md ops Q fuel listed a w
  | 0, _, _, _, h => ⟨h.1, h.2.2⟩
  | fuel + 1, _, _, _, h => ⟨fun e => (h.1 e).2, fun i hi => wpOpIn_mono (fun a' w' h' => wpAnyIn_ofW hd fuel _ a' w' h') (wpOpIn_ofW hd (h.2 i hi))⟩

/-- wp_region_seq in a round. -/
theorem wpIn_region_seqW {id : Nat} {a : Act} {w : World} {l : List Oper} (C : World → Prop) (ord : List (Nat × Bool)) (hm : P.follows .mixedOrders = true)
    (hB : (noDefer l.toArray && (Region.noSelect l.toArray && decide (ord.length = l.length) && (match seqB .any l.toArray ord (Array.replicate l.length false) with | some listed => (Region.ready .any l.toArray listed).isEmpty | none => false))) = true)
    (hC : C w.drew) (h : seqRun P l.toArray C (Ends Q) (fun a w => Ends Q .normal a w) ord a w.drew) : (Code.region id l.toArray true).wpIn Fence.wide n P Q a w := by
  simp only [Bool.and_eq_true, decide_eq_true_eq] at hB
  obtain ⟨hd, ⟨hs, hl⟩, hB⟩ := hB
  split at hB
  · rename_i listed hsq
    refine wpIn_region_any hm (wpAnyIn_ofW hd _ _ _ _ (wpAny_of_held (S := C) _ _ _ _ ?_))
    have := wpAnyH_of_seq (md := .any) (P := P) (fuel := 0) hs (fun c d v a w h => by cases h.1) ord _ listed a w.drew hC hsq (fun a w _ hq => ⟨by simpa using hB, hq⟩) h
    rw [hl] at this
    simpa using this
  · cases hB
end
end Go.Proofs.YtefehgdckmajiaaGreatDoor
