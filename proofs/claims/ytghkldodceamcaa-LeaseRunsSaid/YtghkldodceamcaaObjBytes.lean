/-
  The bytes of a digest, a number and a text: the reference's Bytes, number and text.
-/
import Derived.Test.YtghkldodceamcaaObjOnly
import Derived.Test.YtghkldodceamcaaDigBytes
import Derived.Test.YtghkldodceamcaaCodRef
namespace Go.Proofs.Ytghkldodceamcaa
open Go.RowKit

/-- Sixteen bytes. -/
def mk16 (f : Nat → UInt8) : List UInt8 := (List.range 16).map f
theorem mk16_set {f g : Nat → UInt8} {p : Nat} (hp : p < 16) {c : Int} (h1 : c = (g p).toNat) (h2 : ∀ q, q < 16 → q ≠ p → g q = f q) : (bvals (mk16 f)).set p (.int .u8 c) = bvals (mk16 g) := by
  apply List.ext_getElem?
  intro j
  rw [List.getElem?_set]
  unfold bvals mk16
  simp only [List.length_map, List.length_range, List.getElem?_map]
  by_cases hj : j < 16
  · rw [List.getElem?_range hj]
    by_cases e : p = j
    · subst e
      simp [hp, h1]
    · simp [e, h2 j hj (Ne.symm e)]
  · rw [List.getElem?_eq_none (by simpa using hj)]
    by_cases e : p = j
    · omega
    · simp [e]
theorem mk16_bytes (x y : UInt64) {f : Nat → UInt8} (h : ∀ p, p < 16 → f p = byteAt x y p) : mk16 f = bytesU x y := by
  unfold mk16 bytesU
  exact List.map_congr_left fun p hp => h p (List.mem_range.1 hp)
theorem make16 (base : Nat) (w : World) (hb : base ≤ w.heap.size) :
    ∃ w1, (Instr.makeSlice 88 (.int .i64 16) (.int .i64 16)).run Try.prog w = .ok (.slice (some ⟨w.heap.size, 0, none⟩) 16 16) w1 ∧ w1.ownsRow base 5 1 (.slice (some ⟨w.heap.size, 0, none⟩) 16 16) 16 (bvals (mk16 fun _ => 0)) ∧ w.grownBy w1 none := by
  obtain ⟨i, hi⟩ : ∃ i, Try.prog.info? 5 = some i := by
    cases h : Try.prog.info? 5 with
    | none => have := info_u8; rw [h] at this; cases this
    | some i => exact ⟨i, rfl⟩
  have h := info_u8
  rw [hi] at h
  simp only [Option.map_some, Option.some.injEq, Prod.mk.injEq] at h
  obtain ⟨w1, h1, h2, h3⟩ := run_makeSlice_full w base 88 5 i (.int .u8 0) 1 Try.underlying88 hi h.1 h.2.1 .i64 .i64 16 (by omega) (by rw [h.2.2]; omega) (by simp [maxLen]) hb
  refine ⟨w1, h1, ?_, h3⟩
  rw [show (Value.int .u8 0).cells = #[.int .u8 0] from rfl, toList_madeCells_one] at h2
  exact h2
/-- The bytes that are set after i digits and j rounds of the inner loop. -/
def setB (x y : UInt64) (i j p : Nat) : UInt8 := if p < 8 * i ∨ (8 * i + 8 - j ≤ p ∧ p < 8 * i + 8) then byteAt x y p else 0
theorem setB_step (x y : UInt64) {i j : Nat} (hi : i < 2) (hj : j < 8) {c : Int} (hc : c = (byteAt x y (8 * i + (7 - j))).toNat) : (bvals (mk16 (setB x y i j))).set (8 * i + (7 - j)) (.int .u8 c) = bvals (mk16 (setB x y i (j + 1))) := by
  refine mk16_set (by omega) ?_ fun q _ hq => ?_
  · rw [hc]; unfold setB; rw [if_pos (by omega)]
  · unfold setB
    by_cases h : q < 8 * i ∨ (8 * i + 8 - j ≤ q ∧ q < 8 * i + 8)
    · rw [if_pos h, if_pos (by omega)]
    · rw [if_neg h, if_neg (by omega)]
theorem setB_turn (x y : UInt64) (i : Nat) : mk16 (setB x y i 8) = mk16 (setB x y (i + 1) 0) := by
  unfold mk16
  refine List.map_congr_left fun p hp => ?_
  unfold setB
  by_cases h : p < 8 * i ∨ (8 * i + 8 - 8 ≤ p ∧ p < 8 * i + 8)
  · rw [if_pos h, if_pos (by omega)]
  · rw [if_neg h, if_neg (by omega)]
theorem setB_full (x y : UInt64) : mk16 (setB x y 2 0) = bytesU x y := mk16_bytes x y fun p hp => by unfold setB; rw [if_pos (by omega)]
theorem setB_none (x y : UInt64) : mk16 (setB x y 0 0) = mk16 fun _ => 0 := List.map_congr_left fun p hp => by unfold setB; rw [if_neg (by omega)]
theorem byteAt_up0 (x y : UInt64) {j : Nat} (h : j < 8) : ((x.toNat : Int) / 256 ^ j % 256) = ((byteAt x y (8 * 0 + (7 - j))).toNat : Int) := by
  rw [← byteAt_lo x y (show 7 - j < 8 by omega), show 56 - 8 * (7 - j) = 8 * j by omega, Int.pow_mul]
  rfl
theorem byteAt_up1 (x y : UInt64) {j : Nat} (h : j < 8) : ((y.toNat : Int) / 256 ^ j % 256) = ((byteAt x y (8 * 1 + (7 - j))).toNat : Int) := by
  rw [← byteAt_hi x y (show 7 - j < 8 by omega), show 56 - 8 * (7 - j) = 8 * j by omega, Int.pow_mul]
  rfl

end Go.Proofs.Ytghkldodceamcaa
