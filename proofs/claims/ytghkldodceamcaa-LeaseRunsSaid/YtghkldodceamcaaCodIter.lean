/-
  The iterator over the bytes of a number, for every loop body; writeInt.
-/
import Derived.Test.YtghkldodceamcaaRangeBox
import Derived.Shelf.Abstract
import Derived.WalkKit
import Derived.OwnWalkIn
import Derived.TacticsInMore
import Derived.LoopNIn
import Derived.LoopIn
import Derived.Test.YtghkldodceamcaaBld
import Derived.Test.YtghkldodceamcaaCodSpec
namespace Go.Proofs.Ytghkldodceamcaa
open Go.RowKit Go.Shelf
attribute [local go_sem] Oper.semAt_some

/-- The number in a box. -/
def numAt (w : World) (bn : Nat) : Nat := match w.cell? ⟨bn, 0, none⟩ with
  | some v => (intOf v).toNat
  | none => 0

set_option maxRecDepth 100000 in
set_option maxHeartbeats 4000000 in
theorem digits_box (F : Fence) (n : Nat) (hF : F.fn 73) (hro : F.round = none) (hn : 1 ≤ n) (bn N0 : Nat) (w : World) (hN0 : N0 ≤ 9223372036854775807) (hbn : w.heap[bn]? = some (.cells #[.int .i64 N0] 3 (0, 0))) :
    SeqBox F n Try.prog 73 #[.pointer (some ⟨bn, 0, none⟩)] (fun (x : UInt8) => #[.int .u8 x.toNat]) bn (fun xs => xs = putN N0) (putN N0).length w := by
  intro l J W hW hJs hY h0
  have hlt := (Array.getElem?_eq_some_iff.1 hbn).1
  have hb0 := (hW.block bn hlt).trans hbn
  refine callsIn_of_wp Try.func73 rfl hF ?_ hro
  simp only [Try.ntmps73, List.size_toArray, List.length_cons, List.length_nil, Nat.reduceAdd, Nat.reduceSub, Array.replicate_succ, Array.replicate_zero, List.push_toArray, List.append_toArray, List.nil_append, List.cons_append]
  gi_wp2
  gi_loopw [3] (fun _ wr => ∃ (m : Nat) (pre : List UInt8), m ≤ N0 ∧ wr.heap[bn]? = some (.cells #[.int .i64 m] 3 (0, 0)) ∧ Hid (pre ++ putN m = putN N0) ∧ J pre wr) (fun _ wr => numAt wr bn)
  case atStart => exact ⟨N0, [], Nat.le_refl _, hb0, lid rfl, h0⟩
  case round =>
    obtain ⟨m, pre, hm, hb, HP, hJ⟩ := hrel
    have hc : wr.cell? ⟨bn, 0, none⟩ = some (.int .i64 m) := by rw [cell_of_row _ _ _ _ _ _ hb]; rfl
    have hf : wr.frozen? ⟨bn, 0, none⟩ = false := frozen_of_row _ _ _ _ _ hb
    have HB := lid hb
    clear hb
    by_cases hlo : m < 128
    · have HX := lid (putN_lo hlo)
      have hlen : pre.length < (putN N0).length := by rw [← HP.out, HX.out]; simp
      obtain ⟨fn, tmps, assign, body, hy, hR⟩ := hY pre (UInt8.ofNat m) wr hJ hlen
      rw [ofNat_lo hlo] at hy
      gi_wp2
      refine hR.mono ?_
      rintro e W' ⟨rfl, hJ', -⟩
      gi_wp2
      refine bodyPost_end (results_none rfl _ _ _) rfl ⟨⟨_, rfl⟩, pre ++ [UInt8.ofNat m], ?_, hJ'⟩
      rw [← HP.out, HX.out]
    · have HX := lid (putN_hi hlo)
      have hlen : pre.length < (putN N0).length := by rw [← HP.out, HX.out]; simp
      obtain ⟨fn, tmps, assign, body, hy, hR⟩ := hY pre (UInt8.ofNat (m % 128 + 128)) wr hJ hlen
      rw [ofNat_hi] at hy
      have hhi : (128 : Int) ≤ m := by omega
      have hmd : ((m % 128 + 128 : Nat) : Int) = (m : Int) % 128 + 128 := by omega
      rw [hmd] at hy
      clear hmd
      gi_wp2
      refine hR.mono ?_
      rintro e W' ⟨rfl, hJ', hk'⟩
      have hb' := hk'.trans HB.out
      have hc' : W'.cell? ⟨bn, 0, none⟩ = some (.int .i64 m) := by rw [cell_of_row _ _ _ _ _ _ hb']; rfl
      have hf' : W'.frozen? ⟨bn, 0, none⟩ = false := frozen_of_row _ _ _ _ _ hb'
      have HB' := lid hb'
      have HK := lid hk'
      clear hb' hk'
      gi_wp2
      go_roundw
      case rel =>
        refine ⟨m / 128, pre ++ [UInt8.ofNat (m % 128 + 128)], by omega, ?_, lid (by rw [List.append_assoc]; have := HP.out; rw [HX.out] at this; exact this), hJs _ _ _ hJ'⟩
        exact heap_setCell_same _ _ _ _ _ _ HB'.out
      case measure =>
        unfold numAt
        rw [World.cell?_setCell_same' _ _ _ (by rw [hc']; rfl), hc]
        simp [intOf]
        omega
end Go.Proofs.Ytghkldodceamcaa
