/-
  DigSpec DigEq DigOf Kit DigBytes DigRefOf.
-/
import Derived.WalkKit
import Derived.Laws.BitsAllLaws
import Derived.Test.YtphjillihapbfaaGreatDoorRows
import Derived.ChangeKeysEq
import Derived.WalkSpells
import Derived.WalkLawsBesides
import Derived.Laws.BytesArg
import Derived.ShutString
namespace Go.Proofs.YtphjillihapbfaaGreatDoor

/-- One step of the first hash. -/
def stepA (h b : UInt64) : UInt64 := (h ^^^ b) * 1099511628211
/-- One step of the second hash. -/
def stepB (h b : UInt64) : UInt64 := (h * 1099511628211) ^^^ b
def byteU (c : UInt8) : UInt64 := UInt64.ofNat c.toNat
/-- A hash of bytes. -/
def hashU (f : UInt64 → UInt64 → UInt64) (l : List UInt8) : UInt64 := l.foldl (fun h c => f h (byteU c)) 14695981039346656037
/-- The digest of bytes. -/
def ofU (l : List UInt8) : UInt64 × UInt64 :=
  let d := (hashU stepA l, hashU stepB l)
  if d = (0, 0) then (0, 1) else d

theorem hashU_snoc (f : UInt64 → UInt64 → UInt64) (l : List UInt8) (c : UInt8) : hashU f (l ++ [c]) = f (hashU f l) (byteU c) := by simp [hashU]

theorem u64_lt (x : UInt64) : x.toNat < 18446744073709551616 := x.toNat_lt

theorem xor_u (x y : UInt64) : bits .xor .u64 (x.toNat : Int) (y.toNat : Int) = ((x ^^^ y).toNat : Int) := by
  rw [u64_xor_nat _ _ (u64_lt x) (u64_lt y)]; simp
theorem mul_u (x y : UInt64) : IntKind.u64.wrap ((x.toNat : Int) * (y.toNat : Int)) = ((x * y).toNat : Int) := by
  rw [IntKind.wrap_u64, UInt64.toNat_mul]; simp [Int.natCast_mul]

theorem stepA_val (h b : UInt64) : IntKind.u64.wrap (bits .xor .u64 (h.toNat : Int) (b.toNat : Int) * 1099511628211) = ((stepA h b).toNat : Int) := by
  rw [xor_u, stepA, ← mul_u]; rfl
theorem stepB_val (h b : UInt64) : bits .xor .u64 (IntKind.u64.wrap ((h.toNat : Int) * 1099511628211)) (b.toNat : Int) = ((stepB h b).toNat : Int) := by
  rw [stepB, ← xor_u, ← mul_u]; rfl

theorem ofU_zero {l : List UInt8} (h : (((hashU stepA l).toNat : Int) == 0) = true ∧ (((hashU stepB l).toNat : Int) == 0) = true) :
    ((hashU stepA l).toNat : Int) = (ofU l).1.toNat ∧ (1 : Int) = (ofU l).2.toNat := by
  have h1 : hashU stepA l = 0 := UInt64.toNat_inj.1 (by have := h.1; simp at this; simpa using this)
  have h2 : hashU stepB l = 0 := UInt64.toNat_inj.1 (by have := h.2; simp at this; simpa using this)
  have : ofU l = (0, 1) := by unfold ofU; rw [h1, h2]; rfl
  rw [this, h1]
  exact ⟨rfl, rfl⟩
theorem ofU_other {l : List UInt8} (h : (((hashU stepA l).toNat : Int) == 0) = false ∨ (((hashU stepB l).toNat : Int) == 0) = false) : ofU l = (hashU stepA l, hashU stepB l) := by
  unfold ofU
  rw [if_neg]
  intro e
  have h1 : hashU stepA l = 0 := congrArg Prod.fst e
  have h2 : hashU stepB l = 0 := congrArg Prod.snd e
  rw [h1, h2] at h
  simp at h

/-- Byte k of the sixteen bytes of two numbers. -/
def byteAt (x y : UInt64) (k : Nat) : UInt8 := UInt8.ofNat ((if k < 8 then x else y).toNat / 2 ^ (56 - 8 * (k % 8)))
/-- The bytes of a digest. -/
def bytesU (x y : UInt64) : List UInt8 := (List.range 16).map (byteAt x y)
theorem bytesU_length (x y : UInt64) : (bytesU x y).length = 16 := by simp [bytesU]
theorem bytesU_take (x y : UInt64) (k : Nat) (h : k < 16) : (bytesU x y).take (k + 1) = (bytesU x y).take k ++ [byteAt x y k] := by
  rw [List.take_succ_eq_append_getElem (by simpa [bytesU] using h)]
  simp [bytesU]

theorem byteAt_val {x y z : UInt64} {k : Nat} (h : z = if k < 8 then x else y) : ((z.toNat : Int) / 2 ^ (56 - 8 * (k % 8)) % 256) = ((byteAt x y k).toNat : Int) := by
  unfold byteAt
  rw [← h]
  simp

theorem byteAt_lo (x y : UInt64) {j : Nat} (h : j < 8) : ((x.toNat : Int) / 2 ^ (56 - 8 * j) % 256) = ((byteAt x y (8 * 0 + j)).toNat : Int) := by
  unfold byteAt
  rw [if_pos (by omega), show (8 * 0 + j) % 8 = j by omega]
  simp
theorem byteAt_hi (x y : UInt64) {j : Nat} (h : j < 8) : ((y.toNat : Int) / 2 ^ (56 - 8 * j) % 256) = ((byteAt x y (8 * 1 + j)).toNat : Int) := by
  unfold byteAt
  rw [if_neg (by omega), show (8 * 1 + j) % 8 = j by omega]
  simp

/-- A hexadecimal digit. -/
def hexDigit (n : Nat) : UInt8 := if n < 10 then UInt8.ofNat (48 + n) else UInt8.ofNat (87 + n)
/-- Digit k of the thirty-two of two numbers, as a number. -/
def nibAt (x y : UInt64) (k : Nat) : Nat := (if k < 16 then x else y).toNat / 2 ^ (60 - 4 * (k % 16)) % 16
/-- A digest as text. -/
def hexU (x y : UInt64) : List UInt8 := (List.range 32).map fun k => hexDigit (nibAt x y k)
theorem hexU_length (x y : UInt64) : (hexU x y).length = 32 := by simp [hexU]
theorem hexU_take (x y : UInt64) (k : Nat) (h : k < 32) : (hexU x y).take (k + 1) = (hexU x y).take k ++ [hexDigit (nibAt x y k)] := by
  rw [List.take_succ_eq_append_getElem (by simpa [hexU] using h)]
  simp [hexU]
theorem nibAt_lo (x y : UInt64) {j : Nat} (h : j < 16) : nibAt x y (16 * 0 + j) = x.toNat / 2 ^ (60 - 4 * j) % 16 := by
  unfold nibAt
  rw [if_pos (by omega), show (16 * 0 + j) % 16 = j by omega]
theorem nibAt_hi (x y : UInt64) {j : Nat} (h : j < 16) : nibAt x y (16 * 1 + j) = y.toNat / 2 ^ (60 - 4 * j) % 16 := by
  unfold nibAt
  rw [if_neg (by omega), show (16 * 1 + j) % 16 = j by omega]

theorem nib_bits (z : UInt64) (k : Nat) : bits .and .u64 ((z.toNat : Int) / 2 ^ k) 15 = ((z.toNat / 2 ^ k % 16 : Nat) : Int) := by
  have h1 : z.toNat / 2 ^ k < 18446744073709551616 := Nat.lt_of_le_of_lt (Nat.div_le_self _ _) (u64_lt z)
  rw [show ((z.toNat : Int) / 2 ^ k) = ((z.toNat / 2 ^ k : Nat) : Int) by simp, show (15 : Int) = ((15 : Nat) : Int) from rfl, u64_and_nat _ _ h1 (by omega), nat_mask4]
theorem hex_at {n : Nat} (h : n < 16) : ((({ data := #[48, 49, 50, 51, 52, 53, 54, 55, 56, 57, 97, 98, 99, 100, 101, 102] } : ByteArray)[n]'h).toNat : Int) = ((hexDigit n).toNat : Int) := by
  match n, h with
  | 0, _ => rfl | 1, _ => rfl | 2, _ => rfl | 3, _ => rfl | 4, _ => rfl | 5, _ => rfl | 6, _ => rfl | 7, _ => rfl
  | 8, _ => rfl | 9, _ => rfl | 10, _ => rfl | 11, _ => rfl | 12, _ => rfl | 13, _ => rfl | 14, _ => rfl | 15, _ => rfl
  | n + 16, h => exact absurd h (by omega)

theorem hexU_take2 (x y : UInt64) (k : Nat) (h : k < 16) : (hexU x y).take (2 * (k + 1)) = (hexU x y).take (2 * k) ++ [hexDigit ((byteAt x y k).toNat / 16), hexDigit ((byteAt x y k).toNat % 16)] := by
  have e1 : nibAt x y (2 * k) = (byteAt x y k).toNat / 16 := by
    unfold nibAt byteAt
    rcases Nat.lt_or_ge k 8 with h8 | h8
    · rw [if_pos (by omega), if_pos h8, show 60 - 4 * (2 * k % 16) = (56 - 8 * (k % 8)) + 4 by omega, Nat.pow_add]
      generalize 2 ^ (56 - 8 * (k % 8)) = m
      rw [← Nat.div_div_eq_div_mul]
      simp
      omega
    · rw [if_neg (by omega), if_neg (by omega), show 60 - 4 * (2 * k % 16) = (56 - 8 * (k % 8)) + 4 by omega, Nat.pow_add]
      generalize 2 ^ (56 - 8 * (k % 8)) = m
      rw [← Nat.div_div_eq_div_mul]
      simp
      omega
  have e2 : nibAt x y (2 * k + 1) = (byteAt x y k).toNat % 16 := by
    unfold nibAt byteAt
    rcases Nat.lt_or_ge k 8 with h8 | h8
    · rw [if_pos (by omega), if_pos h8, show 60 - 4 * ((2 * k + 1) % 16) = (56 - 8 * (k % 8)) by omega]
      simp
    · rw [if_neg (by omega), if_neg (by omega), show 60 - 4 * ((2 * k + 1) % 16) = (56 - 8 * (k % 8)) by omega]
      simp
  rw [show 2 * (k + 1) = 2 * k + 1 + 1 by omega, hexU_take x y (2 * k + 1) (by omega), hexU_take x y (2 * k) (by omega), e1, e2]
  simp

/-- The value of a hexadecimal digit, or 16. -/
def hexVal (c : UInt8) : Nat := if 48 ≤ c.toNat ∧ c.toNat ≤ 57 then c.toNat - 48 else if 97 ≤ c.toNat ∧ c.toNat ≤ 102 then c.toNat - 87 else 16
theorem hexVal_num {c : UInt8} (h1 : 48 ≤ c.toNat) (h2 : c.toNat ≤ 57) : hexVal c = c.toNat - 48 := by unfold hexVal; rw [if_pos ⟨h1, h2⟩]
theorem hexVal_let {c : UInt8} (h1 : 97 ≤ c.toNat) (h2 : c.toNat ≤ 102) : hexVal c = c.toNat - 87 := by unfold hexVal; rw [if_neg (by omega), if_pos ⟨h1, h2⟩]
theorem hexVal_not {c : UInt8} (h1 : ¬ (48 ≤ c.toNat ∧ c.toNat ≤ 57)) (h2 : ¬ (97 ≤ c.toNat ∧ c.toNat ≤ 102)) : hexVal c = 16 := by unfold hexVal; rw [if_neg h1, if_neg h2]
/-- The number that digits write. -/
def valHex (l : List UInt8) : Nat := l.foldl (fun a c => a * 16 + hexVal c) 0
theorem valHex_snoc (l : List UInt8) (c : UInt8) : valHex (l ++ [c]) = valHex l * 16 + hexVal c := by simp [valHex]
theorem valHex_lt (l : List UInt8) (h : ∀ c ∈ l, hexVal c < 16) : valHex l < 16 ^ l.length := by
  have : ∀ (l : List UInt8) (a n : Nat), (∀ c ∈ l, hexVal c < 16) → a < 16 ^ n → l.foldl (fun a c => a * 16 + hexVal c) a < 16 ^ (n + l.length) := by
    intro l
    induction l with
    | nil => intro a n _ h; simpa using h
    | cons c l ih =>
      intro a n hh ha
      have hc := hh c (by simp)
      have := ih (a * 16 + hexVal c) (n + 1) (fun d hd => hh d (by simp [hd])) (by rw [Nat.pow_succ]; omega)
      rw [List.foldl_cons, List.length_cons, show n + (l.length + 1) = n + 1 + l.length by omega]
      exact this
  have h0 := this l 0 0 h (by simp)
  rw [Nat.zero_add] at h0
  exact h0
/-- The digest of a text, and an error. -/
def parseE (l : List UInt8) : (UInt64 × UInt64) × Int :=
  if l.length = 32 ∧ ∀ c ∈ l, hexVal c < 16 then ((UInt64.ofNat (valHex (l.take 16)), UInt64.ofNat (valHex (l.drop 16))), 0) else ((0, 0), 3)
theorem parseE_len {l : List UInt8} (h : ¬ l.length = 32) : parseE l = ((0, 0), 3) := by unfold parseE; rw [if_neg (fun hh => h hh.1)]
theorem parseE_bad {l : List UInt8} {c : UInt8} (hc : c ∈ l) (h : hexVal c = 16) : parseE l = ((0, 0), 3) := by unfold parseE; rw [if_neg (fun hh => by have := hh.2 c hc; omega)]
theorem parseE_ok {l : List UInt8} (h : l.length = 32) (hh : ∀ c ∈ l, hexVal c < 16) : parseE l = ((UInt64.ofNat (valHex (l.take 16)), UInt64.ofNat (valHex (l.drop 16))), 0) := by unfold parseE; rw [if_pos ⟨h, hh⟩]
theorem or_nib {a v : Nat} (ha : a < 1152921504606846976) (hv : v < 16) : bits .or .u64 (IntKind.u64.wrap ((a : Int) * 16)) (v : Int) = ((a * 16 + v : Nat) : Int) := by
  rw [IntKind.wrap_u64, show ((a : Int) * 16 % 18446744073709551616) = ((a * 16 : Nat) : Int) by omega, u64_or_nat _ _ (by omega) (by omega), nat_join 4 (a * 16) v (by omega) (by omega)]
theorem valHex_bound {l : List UInt8} {m : Nat} (hh : ∀ c ∈ l, hexVal c < 16) (hk : l.length ≤ m) : valHex l < 16 ^ m :=
  Nat.lt_of_lt_of_le (valHex_lt _ hh) (Nat.pow_le_pow_right (by omega) hk)

theorem wrap_nib {a v : Nat} (ha : a < 1152921504606846976) (hv : v < 16) : IntKind.u64.wrap (IntKind.u64.wrap ((a : Int) * 16) + (v : Int)) = ((a * 16 + v : Nat) : Int) := by
  rw [IntKind.wrap_u64, IntKind.wrap_u64]
  omega

end Go.Proofs.YtphjillihapbfaaGreatDoor

namespace Go.Proofs.YtphjillihapbfaaGreatDoor
theorem info_u64 : ∃ i, Tryz.prog.info? 29 = some i := by
  have h : (Tryz.prog.info? 29).map (fun i => i.size) = some 1 := by kernel_rfl
  cases hi : Tryz.prog.info? 29 with
  | none => rw [hi] at h; cases h
  | some i => exact ⟨i, rfl⟩
theorem cells_u64 : Tryz.prog.cellsOf 29 = 1 := by kernel_rfl
theorem plain_u64 : Tryz.prog.plainKey 29 = true := by kernel_rfl

@[go_sem] theorem run_eq_digest (d : Nat) (w : World) (a b c e : Int) :
    (Op.equalIn (d + 2) 31 (.agg #[.int .u64 a, .int .u64 b]) (.agg #[.int .u64 c, .int .u64 e])).run Tryz.prog w = .ok (a == c && b == e) w := by
  obtain ⟨i, hi⟩ := info_u64
  rw [run_equalIn_array (w := w) (d + 1) _ _ Tryz.underlying31 hi, cells_u64]
  simp only [show List.range 2 = [0, 1] from rfl, Op.eqItems, Sem.run_bind, run_part_plain plain_u64 (w := w) (v := .int .u64 a) (off := 0 * 1) (xs := #[.int .u64 a, .int .u64 b]) rfl,
    run_part_plain plain_u64 (w := w) (v := .int .u64 c) (off := 0 * 1) (xs := #[.int .u64 c, .int .u64 e]) rfl, Result.andThen_ok, run_equalIn_int _ _ _ _ _ _ _ Tryz.underlying29]
  cases a == c
  · simp
  · simp only [Bool.not_true, Bool.false_eq_true, if_false, Sem.run_bind, run_part_plain plain_u64 (w := w) (v := .int .u64 b) (off := 1 * 1) (xs := #[.int .u64 a, .int .u64 b]) rfl,
      run_part_plain plain_u64 (w := w) (v := .int .u64 e) (off := 1 * 1) (xs := #[.int .u64 c, .int .u64 e]) rfl, Result.andThen_ok, run_equalIn_int _ _ _ _ _ _ _ Tryz.underlying29]
    cases b == e <;> simp
theorem eq_digest_10000 (w : World) (a b c e : Int) :
    (Op.equalIn 10000 31 (.agg #[.int .u64 a, .int .u64 b]) (.agg #[.int .u64 c, .int .u64 e])).run Tryz.prog w = .ok (a == c && b == e) w := run_eq_digest 9998 w a b c e
attribute [go_sem] eq_digest_10000
end Go.Proofs.YtphjillihapbfaaGreatDoor

namespace Go.Proofs.YtphjillihapbfaaGreatDoor
open Go.RowKit

theorem ret_u64 {a b : Int} (h : a = b) : Ending.returned (.int .u64 a) = .returned (.int .u64 b) := by rw [h]

set_option maxHeartbeats 400000 in
theorem of1_any (h b : UInt64) (w : World) :
    Calls Tryz.prog 82 #[.int .u64 h.toNat, .int .u64 b.toNat] w fun e w' => e = .returned (.int .u64 (stepA h b).toNat) ∧ w = w' := by
  go_enter Tryz.func82, Tryz.ntmps82
  go_wp2
  go_ret
  exact ⟨ret_u64 (stepA_val h b), rfl⟩

set_option maxHeartbeats 400000 in
theorem of2_any (h b : UInt64) (w : World) :
    Calls Tryz.prog 83 #[.int .u64 h.toNat, .int .u64 b.toNat] w fun e w' => e = .returned (.int .u64 (stepB h b).toNat) ∧ w = w' := by
  go_enter Tryz.func83, Tryz.ntmps83
  go_wp2
  go_ret
  exact ⟨ret_u64 (stepB_val h b), rfl⟩

set_option maxHeartbeats 400000 in
theorem hash1_any (s : ByteArray) (w : World) (hs : s.size ≤ maxLen) :
    Calls Tryz.prog 81 #[.string s, .func (.func 82) #[] #[]] w fun e w' => e = .returned (.int .u64 (hashU stepA s.data.toList).toNat) ∧ w = w' := by
  unfold maxLen at hs
  go_enter Tryz.func81, Tryz.ntmps81
  go_wp2
  go_loop [5, 9] (fun h i => ∃ k : Nat, k ≤ s.size ∧ i = .int .i64 k ∧ h = .int .u64 (hashU stepA (s.data.toList.take k)).toNat) (fun _ i => s.size - (intOf i).toNat)
  case atStart => exact ⟨0, Nat.zero_le _, rfl, rfl⟩
  case round =>
    obtain ⟨k, hk, rfl, rfl⟩ := hrel
    by_cases hlt : k < s.size
    · have HS : Hid (hashU stepA (s.data.toList.take (k + 1)) = stepA (hashU stepA (s.data.toList.take k)) (byteU s[k])) := by rw [List.take_succ_eq_append_getElem (by simpa using hlt), hashU_snoc]; rfl
      go_wp2_with (go_at_call 82; refine (of1_any (hashU stepA (s.data.toList.take k)) (byteU s[k]) _).mono ?_; rintro e w' ⟨rfl, rfl⟩)
      go_round
      case rel => exact ⟨k + 1, by omega, by go_num, by rw [HS.out]⟩
      case measure => simp [intOf]; omega
    · go_wp2
      go_ret
      exact ⟨ret_u64 (by rw [List.take_of_length_le (by simp; omega)]), rfl⟩

set_option maxHeartbeats 400000 in
theorem hash2_any (s : ByteArray) (w : World) (hs : s.size ≤ maxLen) :
    Calls Tryz.prog 81 #[.string s, .func (.func 83) #[] #[]] w fun e w' => e = .returned (.int .u64 (hashU stepB s.data.toList).toNat) ∧ w = w' := by
  unfold maxLen at hs
  go_enter Tryz.func81, Tryz.ntmps81
  go_wp2
  go_loop [5, 9] (fun h i => ∃ k : Nat, k ≤ s.size ∧ i = .int .i64 k ∧ h = .int .u64 (hashU stepB (s.data.toList.take k)).toNat) (fun _ i => s.size - (intOf i).toNat)
  case atStart => exact ⟨0, Nat.zero_le _, rfl, rfl⟩
  case round =>
    obtain ⟨k, hk, rfl, rfl⟩ := hrel
    by_cases hlt : k < s.size
    · have HS : Hid (hashU stepB (s.data.toList.take (k + 1)) = stepB (hashU stepB (s.data.toList.take k)) (byteU s[k])) := by rw [List.take_succ_eq_append_getElem (by simpa using hlt), hashU_snoc]; rfl
      go_wp2_with (go_at_call 83; refine (of2_any (hashU stepB (s.data.toList.take k)) (byteU s[k]) _).mono ?_; rintro e w' ⟨rfl, rfl⟩)
      go_round
      case rel => exact ⟨k + 1, by omega, by go_num, by rw [HS.out]⟩
      case measure => simp [intOf]; omega
    · go_wp2
      go_ret
      exact ⟨ret_u64 (by rw [List.take_of_length_le (by simp; omega)]), rfl⟩

set_option maxHeartbeats 400000 in
theorem of_any (s : ByteArray) (w : World) (hs : s.size ≤ maxLen) :
    Calls Tryz.prog 47 #[.string s] w fun e w' => e = .returned (.agg #[.int .u64 (ofU s.data.toList).1.toNat, .int .u64 (ofU s.data.toList).2.toNat]) ∧ Below w.heap.size w w' := by
  go_enter Tryz.func47, Tryz.ntmps47
  go_wp2_with fail
  refine (hash1_any s _ hs).mono ?_; rintro e w' ⟨rfl, rfl⟩
  go_wp2_with fail
  refine (hash2_any s _ hs).mono ?_; rintro e w' ⟨rfl, rfl⟩
  go_wp2_with fail
  · have E := ofU_zero (l := s.data.toList) (by assumption)
    exact bodyPost_ret (v := .agg #[.int .u64 (hashU stepA s.data.toList).toNat, .int .u64 1]) (by simp [results, Tryz.results47, go_sem]) rfl ⟨by rw [← E.1, ← E.2], ((Below.refl _ _).alloc (Nat.le_refl _) _).alloc (by simp) _⟩
  · have E := ofU_other (l := s.data.toList) (by assumption)
    exact bodyPost_ret (v := .agg #[.int .u64 (hashU stepA s.data.toList).toNat, .int .u64 (hashU stepB s.data.toList).toNat]) (by simp [results, Tryz.results47, go_sem]) rfl ⟨by rw [E], ((Below.refl _ _).alloc (Nat.le_refl _) _).alloc (by simp) _⟩

end Go.Proofs.YtphjillihapbfaaGreatDoor

namespace Go.Proofs.YtphjillihapbfaaGreatDoor
open Go.RowKit

theorem lid {p : Prop} (h : p) : Hid p := h

theorem ret_i64 {a b : Int} (h : a = b) : Ending.returned (.int .i64 a) = .returned (.int .i64 b) := by rw [h]
/-- What was owned is owned by whatever base is smaller. -/
theorem ownsRow_base {w : World} {base base' : Nat} {e : TypeId} {size : Nat} {v : Value} {n : Nat} {xs : List Value} (h : w.ownsRow base e size v n xs) (hb : base' ≤ base) : w.ownsRow base' e size v n xs := by
  obtain ⟨h1, h2⟩ := h
  refine ⟨h1, h2.imp id ?_⟩
  rintro ⟨g, cap, cur, e1, e2, e3⟩
  exact ⟨g, cap, cur, e1, by omega, e3⟩

theorem ownsRow_row {w : World} {base : Nat} {e : TypeId} {size : Nat} {v : Value} {n : Nat} {xs : List Value} (h : w.ownsRow base e size v n xs) : ∀ k, v.ownBlock = some k → base ≤ k :=
  fun k hk => (h.lt k hk).1

/-- What is owned stays owned where all blocks that stand stay. -/
theorem ownsRow_below {w w' : World} {base : Nat} {e : TypeId} {size : Nat} {v : Value} {n : Nat} {xs : List Value} (h : w.ownsRow base e size v n xs) (hb : Below w.heap.size w w') : w'.ownsRow base e size v n xs := by
  obtain ⟨h1, h2⟩ := h
  refine ⟨h1, h2.imp id ?_⟩
  rintro ⟨g, cap, cur, e1, e2, e3, e4⟩
  refine ⟨g, cap, cur, e1, e2, ?_, e4⟩
  have hg : g < w.heap.size := by
    rcases Nat.lt_or_ge g w.heap.size with h | h
    · exact h
    · simp [Array.getElem?_eq_none h] at e3
  rw [hb.block g hg]
  exact e3

/-- '[]T{}': a new empty block. -/
theorem ownsRow_empty {w : World} {e : TypeId} {size : Nat} {base g : Nat} (hg : w.heap.size = g) (hb : base ≤ g) : (w.alloc (.cells #[] e)).ownsRow base e size (.slice (some ⟨g, 0, none⟩) 0 0) 0 [] := by
  subst hg
  have := World.ownsRow_lit (base := base) (e := e) (size := size) w #[] 0 hb (by simp [maxLen]) (by simp)
  exact this

/-- 'append(out, x)', x of as many cells as its type, just laid in a block of its own. -/
theorem wpList_append_new {P : Program} {ops : Array Oper} {rest : List Oper} {o : Oper} {a : Act} {Q : Exit → Act → World → Prop} {w : World} (us : Array Value) (hgd : o.guard = none) (s x : Operand) (t : TypeId)
    (ho : o.op = .call { callee := .builtin .append, args := #[s, x], argTypes := #[t, t] })
    (base : Nat) (e : TypeId) (z : Value) (size bytes : Nat) (hinfo : (P.info? e).map (fun i => (i.zero, i.size, i.bytes)) = some (some z, size, bytes)) (ht : P.underlying t = some (.slice e)) (hzs : z.cells.size = size) (hsz : 0 < size)
    (v : Value) (n : Nat) (xs : List Value) (hown : w.ownsRow base e size v n xs) (hs : a.eval s = v)
    (hx : a.eval x = .slice (some ⟨w.heap.size, 0, none⟩) 1 1) (hl : us.size = size) (h1 : ∀ u ∈ us.toList, u.oneCell' = true)
    (h63 : n + 1 ≤ maxLen) (hbytes : (n + 1) * bytes ≤ 140737488355328) (hbase : base ≤ w.heap.size)
    (h : ∀ v' w', w'.ownsRow base e size v' (n + 1) (xs ++ us.toList) → Below base w w' → (¬ v' = .slice none 0 0) → wpList P ops Q rest (a.put o.dst v') w') : wpList P ops Q (o :: rest) a (w.alloc (.cells us e)) := by
  obtain ⟨i, hi, hz0, hz1, hz2⟩ := info_parts hinfo
  refine wpList_append_own _ hgd s x t ho base e i z size bytes ht hi hz0 hz1 hz2 hzs hsz v n xs hs (hown.alloc _) ⟨w.heap.size, 0, none⟩ 1 1 us.toList hx (by simp [hl]) ?_ h1 h63 hbytes (by simp; omega) ?_
  · intro j u hu
    rw [Addr.add_lit]
    simp only [World.cell?, Nat.zero_add]
    rw [heap_alloc_new]
    simpa using hu
  · intro v' w' hown' hg hn
    refine h v' w' hown' ?_ (fun e => by have := (hn.1 e).2; omega)
    exact ((Below.refl _ _).alloc hbase _).grown hg (by simp; omega) (fun k hk => ownsRow_row hown k hk)

/-- 'make([]T, 0, n)'. -/
theorem wpList_make_new {P : Program} {ops : Array Oper} {rest : List Oper} {o : Oper} {a : Act} {Q : Exit → Act → World → Prop} {w : World} (hgd : o.guard = none) (l c : Operand) (t : TypeId)
    (ho : o.op = Op.makeSlice t l c) (base : Nat) (e : TypeId) (z : Value) (size bytes : Nat) (hinfo : (P.info? e).map (fun i => (i.zero, i.size, i.bytes)) = some (some z, size, bytes)) (ht : P.underlying t = some (.slice e))
    (n : Nat) (hl : a.eval l = .int .i64 0) (hc : a.eval c = .int .i64 (n : Int)) (hby : bytes * n ≤ 281474976710656) (h63 : n ≤ maxLen) (hbase : base ≤ w.heap.size)
    (h : ∀ w', w'.ownsRow base e size (.slice (some ⟨w.heap.size, 0, none⟩) 0 n) 0 [] → Below base w w' → w.heap.size < w'.heap.size → wpList P ops Q rest (a.put o.dst (.slice (some ⟨w.heap.size, 0, none⟩) 0 n)) w') : wpList P ops Q (o :: rest) a w := by
  obtain ⟨i, hi, hz0, hz1, hz2⟩ := info_parts hinfo
  refine wpList_make_own w hgd l c t ho base e i z size ht hi hz0 hz1 _ _ _ n hl hc rfl (by rw [hz2]; exact hby) h63 hbase ?_
  intro w' hown hg
  have hw : w.heap.size < w'.heap.size := (hown.lt w.heap.size rfl).2
  exact h w' hown ((Below.refl _ _).grown hg hbase (fun k hk => by cases hk)) hw

/-- What is below the number B reads as before. -/
theorem bcell {B : Nat} {W w1 : World} (hb : Below B W w1) : (∀ b o, b < B → w1.cell? ⟨b, o, none⟩ = W.cell? ⟨b, o, none⟩) ∧ (∀ b o, b < B → w1.frozen? ⟨b, o, none⟩ = W.frozen? ⟨b, o, none⟩) :=
  ⟨fun b o h => hb.cell (p := ⟨b, o, none⟩) h, fun b o h => hb.frozen (p := ⟨b, o, none⟩) h⟩

/-- Bytes as values. -/
def bvals (l : List UInt8) : List Value := l.map fun c => Value.int .u8 (c.toNat : Int)
/-- Bytes as a string. -/
def bstr (l : List UInt8) : ByteArray := ⟨l.toArray⟩
@[simp] theorem bstr_size (l : List UInt8) : (bstr l).size = l.length := rfl
@[simp] theorem bstr_list (l : List UInt8) : (bstr l).data.toList = l := rfl
theorem bstr_of (s : ByteArray) : bstr s.data.toList = s := rfl
theorem bstr_append (a b : List UInt8) : bstr a ++ bstr b = bstr (a ++ b) := by
  unfold bstr
  rw [ByteArray.mk_append_mk]
theorem bvals_snoc (l : List UInt8) (c : UInt8) : bvals (l ++ [c]) = bvals l ++ [.int .u8 c.toNat] := by simp [bvals]
theorem bvals_append (l m : List UInt8) : bvals (l ++ m) = bvals l ++ bvals m := by simp [bvals]
theorem bvals_length (l : List UInt8) : (bvals l).length = l.length := by simp [bvals]

theorem strOfNums_bytes (l : List UInt8) : strOfNums (l.map fun c => (c.toNat : Int)) = bstr l := by
  unfold strOfNums bstr
  simp [List.map_map, Function.comp_def]

theorem run_string_of_row {P : Program} {w : World} {base : Nat} {e src dst : TypeId} {v : Value} {n : Nat} {l : List UInt8} (h : w.ownsRow base e 1 v n (bvals l)) (hs : P.underlying src = some (.slice e)) (he : P.underlying e = some (.int .u8))
    (hd : P.underlying dst = some .string) : (convert src dst v).run P w = .ok (.string (bstr l)) w := by
  have hl := h.1
  rw [bvals_length] at hl
  rcases h.2 with ⟨rfl, rfl⟩ | ⟨g, cap, cur, rfl, hg, hc, hn, hm, hsz, htk⟩
  · have : l = [] := List.eq_nil_of_length_eq_zero (by simpa using hl)
    subst this
    rw [run_convert_bytes_nil w src e hs he 0 0 dst hd]
    rfl
  · rw [run_convert_bytes_arg w src e hs he g 0 n cap (l.map fun c => (c.toNat : Int)) (by simp; omega) ?_ dst hd, strOfNums_bytes]
    intro i hi
    have := h.cellAt i (by omega)
    rw [Nat.zero_add, this]
    simp [bvals, List.getD, show i < l.length by omega]

end Go.Proofs.YtphjillihapbfaaGreatDoor

namespace Go.Proofs.YtphjillihapbfaaGreatDoor
open Go.RowKit
theorem ret_string {a b : ByteArray} (h : a = b) : Ending.returned (.string a) = .returned (.string b) := by rw [h]
theorem info_u8 : (Tryz.prog.info? 5).map (fun i => (i.zero, i.size, i.bytes)) = some (some (.int .u8 0), 1, 1) := by kernel_rfl

end Go.Proofs.YtphjillihapbfaaGreatDoor

namespace Go.Proofs.YtphjillihapbfaaGreatDoor
open Go.RowKit
end Go.Proofs.YtphjillihapbfaaGreatDoor
