/-
  The bytes of a digest, a number and a text: the reference's Bytes, number and text.
-/
import Derived.Test.YtmkdcnkbhnegnaaObjOnly
import Derived.Test.YtmkdcnkbhnegnaaDigBytes
import Derived.Test.YtmkdcnkbhnegnaaCodRef
namespace Go.Proofs.Ytmkdcnkbhnegnaa
open Go.RowKit

/-- Sixteen bytes. -/
def mk16 (f : Nat → UInt8) : List UInt8 := (List.range 16).map f
theorem mk16_set {f g : Nat → UInt8} {p : Nat} (hp : p < 16) {c : Int} (h1 : c = (g p).toNat) (h2 : ∀ q, q < 16 → q ≠ p → g q = f q) : (bvals (mk16 f)).set p (.int .u8 c) = bvals (mk16 g) := by
  apply List.ext_getElem?
  intro j
  rw [List.getElem?_set]
  unfold bvals mk16
  simp only [List.length_map, List.length_range, List.getElem?_map]
  by_cases hj : j < 16
  · rw [List.getElem?_range hj]
    by_cases e : p = j
    · subst e
      simp [hp, h1]
    · simp [e, h2 j hj (Ne.symm e)]
  · rw [List.getElem?_eq_none (by simpa using hj)]
    by_cases e : p = j
    · omega
    · simp [e]
theorem mk16_bytes (x y : UInt64) {f : Nat → UInt8} (h : ∀ p, p < 16 → f p = byteAt x y p) : mk16 f = bytesU x y := by
  unfold mk16 bytesU
  exact List.map_congr_left fun p hp => h p (List.mem_range.1 hp)
theorem make16 (base : Nat) (w : World) (hb : base ≤ w.heap.size) :
    ∃ w1, (Instr.makeSlice 47 (.int .i64 16) (.int .i64 16)).run Try.prog w = .ok (.slice (some ⟨w.heap.size, 0, none⟩) 16 16) w1 ∧ w1.ownsRow base 5 1 (.slice (some ⟨w.heap.size, 0, none⟩) 16 16) 16 (bvals (mk16 fun _ => 0)) ∧ w.grownBy w1 none := by
  obtain ⟨i, hi⟩ : ∃ i, Try.prog.info? 5 = some i := by
    cases h : Try.prog.info? 5 with
    | none => have := info_u8; rw [h] at this; cases this
    | some i => exact ⟨i, rfl⟩
  have h := info_u8
  rw [hi] at h
  simp only [Option.map_some, Option.some.injEq, Prod.mk.injEq] at h
  obtain ⟨w1, h1, h2, h3⟩ := run_makeSlice_full w base 47 5 i (.int .u8 0) 1 Try.underlying47 hi h.1 h.2.1 .i64 .i64 16 (by omega) (by rw [h.2.2]; omega) (by simp [maxLen]) hb
  refine ⟨w1, h1, ?_, h3⟩
  rw [show (Value.int .u8 0).cells = #[.int .u8 0] from rfl, toList_madeCells_one] at h2
  exact h2
/-- The bytes that are set after i digits and j rounds of the inner loop. -/
def setB (x y : UInt64) (i j p : Nat) : UInt8 := if p < 8 * i ∨ (8 * i + 8 - j ≤ p ∧ p < 8 * i + 8) then byteAt x y p else 0
theorem setB_step (x y : UInt64) {i j : Nat} (hi : i < 2) (hj : j < 8) {c : Int} (hc : c = (byteAt x y (8 * i + (7 - j))).toNat) : (bvals (mk16 (setB x y i j))).set (8 * i + (7 - j)) (.int .u8 c) = bvals (mk16 (setB x y i (j + 1))) := by
  refine mk16_set (by omega) ?_ fun q _ hq => ?_
  · rw [hc]; unfold setB; rw [if_pos (by omega)]
  · unfold setB
    by_cases h : q < 8 * i ∨ (8 * i + 8 - j ≤ q ∧ q < 8 * i + 8)
    · rw [if_pos h, if_pos (by omega)]
    · rw [if_neg h, if_neg (by omega)]
theorem setB_turn (x y : UInt64) (i : Nat) : mk16 (setB x y i 8) = mk16 (setB x y (i + 1) 0) := by
  unfold mk16
  refine List.map_congr_left fun p hp => ?_
  unfold setB
  by_cases h : p < 8 * i ∨ (8 * i + 8 - 8 ≤ p ∧ p < 8 * i + 8)
  · rw [if_pos h, if_pos (by omega)]
  · rw [if_neg h, if_neg (by omega)]
theorem setB_full (x y : UInt64) : mk16 (setB x y 2 0) = bytesU x y := mk16_bytes x y fun p hp => by unfold setB; rw [if_pos (by omega)]
theorem setB_none (x y : UInt64) : mk16 (setB x y 0 0) = mk16 fun _ => 0 := List.map_congr_left fun p hp => by unfold setB; rw [if_neg (by omega)]
theorem byteAt_up0 (x y : UInt64) {j : Nat} (h : j < 8) : ((x.toNat : Int) / 256 ^ j % 256) = ((byteAt x y (8 * 0 + (7 - j))).toNat : Int) := by
  rw [← byteAt_lo x y (show 7 - j < 8 by omega), show 56 - 8 * (7 - j) = 8 * j by omega, Int.pow_mul]
  rfl
theorem byteAt_up1 (x y : UInt64) {j : Nat} (h : j < 8) : ((y.toNat : Int) / 256 ^ j % 256) = ((byteAt x y (8 * 1 + (7 - j))).toNat : Int) := by
  rw [← byteAt_hi x y (show 7 - j < 8 by omega), show 56 - 8 * (7 - j) = 8 * j by omega, Int.pow_mul]
  rfl

set_option maxRecDepth 100000 in
set_option maxHeartbeats 4000000 in
theorem Bytes_any (x y : UInt64) (w : World) :
    Calls Try.prog 49 #[.agg #[.int .u64 x.toNat, .int .u64 y.toNat]] w fun e w' => e = .returned (.string (bstr (bytesU x y))) ∧ Below w.heap.size w w' := by
  obtain ⟨w1, hm, hown1, hg1⟩ := make16 (w.heap.size + 1) (w.alloc (Obj.cells #[Value.int .u64 x.toNat, Value.int .u64 y.toNat] 25)) (by simp)
  rw [← setB_none x y] at hown1
  have hb1 : Below (w.heap.size + 1) (w.alloc (Obj.cells #[Value.int .u64 x.toNat, Value.int .u64 y.toNat] 25)) w1 := Below.grown (Below.refl _ _) hg1 (by simp) (fun k hk => by cases hk)
  have hz1 : w.heap.size + 1 ≤ w1.heap.size := by have := hb1.size; simpa using this
  rw [World.size_alloc] at hm hown1
  go_enter Try.func49, Try.ntmps49
  go_wp2
  clear hm hg1
  go_loopw [4, 5, 6] (fun i _ _ wr => ∃ k : Nat, (k = 0 ∧ i = .int .i64 0 ∨ k = 1 ∧ i = .int .i64 1 ∨ k = 2 ∧ i = .int .i64 2) ∧ wr.ownsRow (w.heap.size + 1) 5 1 (.slice (some ⟨w.heap.size + 1, 0, none⟩) 16 16) 16 (bvals (mk16 (setB x y k 0))) ∧ Below (w.heap.size + 1) (w.alloc (Obj.cells #[Value.int .u64 x.toNat, Value.int .u64 y.toNat] 25)) wr ∧ w.heap.size + 1 ≤ wr.heap.size) (fun i _ _ _ => (2 - (intOf i)).toNat)
  case atStart => exact ⟨0, .inl ⟨rfl, rfl⟩, hown1, hb1, hz1⟩
  case round =>
    clear hown1 hb1 hz1
    obtain ⟨k, hk, hown, hb, hz⟩ := hrel
    rcases hk with ⟨rfl, rfl⟩ | ⟨rfl, rfl⟩ | ⟨rfl, rfl⟩
    · have c0 : wr.cell? ⟨w.heap.size, 0, none⟩ = some (.int .u64 x.toNat) := (hb.cell (p := ⟨w.heap.size, 0, none⟩) (by simp)).trans (by simp)
      go_wp2
      obtain ⟨wo, rfl⟩ : ∃ wo : World, wo = wr := ⟨_, rfl⟩
      go_loopw [5, 6] (fun n i wr => ∃ j : Nat, j ≤ 8 ∧ i = .int .i64 (7 - (j : Int)) ∧ n = .int .u64 (((x.toNat / 256 ^ j : Nat)) : Int) ∧ wr.ownsRow (w.heap.size + 1) 5 1 (.slice (some ⟨w.heap.size + 1, 0, none⟩) 16 16) 16 (bvals (mk16 (setB x y 0 j))) ∧ Below (w.heap.size + 1) (w.alloc (Obj.cells #[Value.int .u64 x.toNat, Value.int .u64 y.toNat] 25)) wr ∧ w.heap.size + 1 ≤ wr.heap.size) (fun _ i _ => (intOf i + 1).toNat)
      case atStart => exact ⟨0, by omega, rfl, by simp, hown, hb, hz⟩
      case round =>
        clear hown hb hz c0
        obtain ⟨j, hj, rfl, rfl, hown, hb, hz⟩ := hrel
        by_cases hlt : j < 8
        · have HV := lid (byteAt_up0 x y hlt)
          have hq : x.toNat / 256 ^ j < 18446744073709551616 := Nat.lt_of_le_of_lt (Nat.div_le_self _ _) (u64_lt x)
          have HD : Hid (((x.toNat / 256 ^ j : Nat) : Int) / 256 = ((x.toNat / 256 ^ (j + 1) : Nat) : Int)) := lid (by rw [Nat.pow_succ, ← Nat.div_div_eq_div_mul]; simp)
          have HE : Hid (((x.toNat / 256 ^ j : Nat) : Int) = (x.toNat : Int) / 256 ^ j) := lid (by simp)
          obtain ⟨q, hqq⟩ : ∃ q : Nat, x.toNat / 256 ^ j = q := ⟨_, rfl⟩
          rw [hqq] at hq HD HE ⊢
          clear hqq
          obtain ⟨st, sg⟩ := hown.stored (7 - j) (.int .u8 ((q : Int) % 256))
          have fz : wr.frozen? ⟨w.heap.size + 1, 7 - j, none⟩ = false := hown.frozenAt _
          obtain ⟨u, ca⟩ : ∃ u, wr.cell? ⟨w.heap.size + 1, 7 - j, none⟩ = some u := by
            have := hown.cellAt (7 - j) (by omega)
            rw [this]
            exact ⟨_, List.getElem?_eq_getElem (by rw [bvals_length]; unfold mk16; simp; omega)⟩
          have HST := lid st
          clear st sg hown
          go_wp2_with fail
          go_roundw
          case rel => exact ⟨j + 1, by omega, by go_num, by rw [HD.out], by have h := HST.out; have e := setB_step x y (i := 0) (by omega) hlt (c := (q : Int) % 256) (by rw [HE.out]; exact HV.out); simp only [Nat.mul_zero, Nat.zero_add] at e; rw [e] at h; exact h, hb.setCell (p := ⟨w.heap.size + 1, _, none⟩) (Nat.le_refl _) _, by simpa using hz⟩
          case measure => simp [intOf]; omega
        · obtain rfl : j = 8 := by omega
          go_wp2
          go_roundw
          case rel => exact ⟨1, .inr (.inl ⟨rfl, rfl⟩), by rw [← setB_turn]; exact hown, hb, hz⟩
          case measure => simp [intOf]
    · have c0 : wr.cell? ⟨w.heap.size, 1, none⟩ = some (.int .u64 y.toNat) := (hb.cell (p := ⟨w.heap.size, 1, none⟩) (by simp)).trans (by simp)
      go_wp2
      obtain ⟨wo, rfl⟩ : ∃ wo : World, wo = wr := ⟨_, rfl⟩
      go_loopw [5, 6] (fun n i wr => ∃ j : Nat, j ≤ 8 ∧ i = .int .i64 (7 - (j : Int)) ∧ n = .int .u64 (((y.toNat / 256 ^ j : Nat)) : Int) ∧ wr.ownsRow (w.heap.size + 1) 5 1 (.slice (some ⟨w.heap.size + 1, 0, none⟩) 16 16) 16 (bvals (mk16 (setB x y 1 j))) ∧ Below (w.heap.size + 1) (w.alloc (Obj.cells #[Value.int .u64 x.toNat, Value.int .u64 y.toNat] 25)) wr ∧ w.heap.size + 1 ≤ wr.heap.size) (fun _ i _ => (intOf i + 1).toNat)
      case atStart => exact ⟨0, by omega, rfl, by simp, hown, hb, hz⟩
      case round =>
        clear hown hb hz c0
        obtain ⟨j, hj, rfl, rfl, hown, hb, hz⟩ := hrel
        by_cases hlt : j < 8
        · have HV := lid (byteAt_up1 x y hlt)
          have hq : y.toNat / 256 ^ j < 18446744073709551616 := Nat.lt_of_le_of_lt (Nat.div_le_self _ _) (u64_lt y)
          have HD : Hid (((y.toNat / 256 ^ j : Nat) : Int) / 256 = ((y.toNat / 256 ^ (j + 1) : Nat) : Int)) := lid (by rw [Nat.pow_succ, ← Nat.div_div_eq_div_mul]; simp)
          have HE : Hid (((y.toNat / 256 ^ j : Nat) : Int) = (y.toNat : Int) / 256 ^ j) := lid (by simp)
          obtain ⟨q, hqq⟩ : ∃ q : Nat, y.toNat / 256 ^ j = q := ⟨_, rfl⟩
          rw [hqq] at hq HD HE ⊢
          clear hqq
          obtain ⟨st, sg⟩ := hown.stored (8 + (7 - j)) (.int .u8 ((q : Int) % 256))
          have fz : wr.frozen? ⟨w.heap.size + 1, 8 + (7 - j), none⟩ = false := hown.frozenAt _
          obtain ⟨u, ca⟩ : ∃ u, wr.cell? ⟨w.heap.size + 1, 8 + (7 - j), none⟩ = some u := by
            have := hown.cellAt (8 + (7 - j)) (by omega)
            rw [this]
            exact ⟨_, List.getElem?_eq_getElem (by rw [bvals_length]; unfold mk16; simp; omega)⟩
          have HST := lid st
          clear st sg hown
          go_wp2_with fail
          go_roundw
          case rel => exact ⟨j + 1, by omega, by go_num, by rw [HD.out], by have h := HST.out; have e := setB_step x y (i := 1) (by omega) hlt (c := (q : Int) % 256) (by rw [HE.out]; exact HV.out); simp only [Nat.mul_one] at e; rw [e] at h; exact h, hb.setCell (p := ⟨w.heap.size + 1, _, none⟩) (Nat.le_refl _) _, by simpa using hz⟩
          case measure => simp [intOf]; omega
        · obtain rfl : j = 8 := by omega
          go_wp2
          go_roundw
          case rel => exact ⟨2, .inr (.inr ⟨rfl, rfl⟩), by rw [← setB_turn]; exact hown, hb, hz⟩
          case measure => simp [intOf]
    · have hcv := run_string_of_row (P := Try.prog) hown Try.underlying47 Try.underlying5 Try.underlying9
      go_wp2
      go_ret
      exact ⟨ret_string (by rw [setB_full]), ((Below.refl _ _).alloc (Nat.le_refl _) _).trans (hb.mono (by omega))⟩

set_option maxRecDepth 100000 in
theorem refNumber_any (n : Int) (w : World) : Calls Try.prog 47 #[.int .i64 n] w fun e w' => e = .returned (.string (bstr (putI n))) ∧ Below w.heap.size w w' := by
  go_enter Try.func47, Try.ntmps47
  go_wp2_with fail
  (with_reducible refine (refPutInt_any n _).mono ?_); rintro e w1 ⟨rfl, hb1⟩
  go_wp2_with fail
  go_ret
  exact ⟨rfl, hb1⟩
set_option maxRecDepth 100000 in
theorem refText_any (s : ByteArray) (w : World) (hs : s.size ≤ maxLen) : Calls Try.prog 48 #[.string s] w fun e w' => e = .returned (.string (bstr (putX s.data.toList))) ∧ Below w.heap.size w w' := by
  go_enter Try.func48, Try.ntmps48
  go_wp2_with fail
  (with_reducible refine (refPutText_any s _ hs).mono ?_); rintro e w1 ⟨rfl, hb1⟩
  go_wp2_with fail
  go_ret
  exact ⟨rfl, hb1⟩
end Go.Proofs.Ytmkdcnkbhnegnaa
