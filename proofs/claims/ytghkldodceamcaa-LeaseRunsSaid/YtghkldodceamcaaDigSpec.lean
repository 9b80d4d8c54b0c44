/-
  Plain functions for digests: hashes of strings as pairs of 64-bit numbers, and small facts on 64-bit arithmetic. No program in sight.
-/
import Derived.WalkKit
import Derived.Laws.BitsAllLaws
namespace Go.Proofs.Ytghkldodceamcaa

/-- One step of the first hash. -/
def stepA (h b : UInt64) : UInt64 := (h ^^^ b) * 1099511628211
/-- One step of the second hash. -/
def stepB (h b : UInt64) : UInt64 := (h * 1099511628211) ^^^ b
def byteU (c : UInt8) : UInt64 := UInt64.ofNat c.toNat
/-- A hash of bytes. -/
def hashU (f : UInt64 → UInt64 → UInt64) (l : List UInt8) : UInt64 := l.foldl (fun h c => f h (byteU c)) 14695981039346656037
/-- The digest of bytes. -/
def ofU (l : List UInt8) : UInt64 × UInt64 :=
  let d := (hashU stepA l, hashU stepB l)
  if d = (0, 0) then (0, 1) else d

theorem hashU_snoc (f : UInt64 → UInt64 → UInt64) (l : List UInt8) (c : UInt8) : hashU f (l ++ [c]) = f (hashU f l) (byteU c) := by simp [hashU]

theorem u64_lt (x : UInt64) : x.toNat < 18446744073709551616 := x.toNat_lt

theorem xor_u (x y : UInt64) : bits .xor .u64 (x.toNat : Int) (y.toNat : Int) = ((x ^^^ y).toNat : Int) := by
  rw [u64_xor_nat _ _ (u64_lt x) (u64_lt y)]; simp
theorem mul_u (x y : UInt64) : IntKind.u64.wrap ((x.toNat : Int) * (y.toNat : Int)) = ((x * y).toNat : Int) := by
  rw [IntKind.wrap_u64, UInt64.toNat_mul]; simp [Int.natCast_mul]

theorem stepA_val (h b : UInt64) : IntKind.u64.wrap (bits .xor .u64 (h.toNat : Int) (b.toNat : Int) * 1099511628211) = ((stepA h b).toNat : Int) := by
  rw [xor_u, stepA, ← mul_u]; rfl
theorem stepB_val (h b : UInt64) : bits .xor .u64 (IntKind.u64.wrap ((h.toNat : Int) * 1099511628211)) (b.toNat : Int) = ((stepB h b).toNat : Int) := by
  rw [stepB, ← xor_u, ← mul_u]; rfl

theorem ofU_zero {l : List UInt8} (h : (((hashU stepA l).toNat : Int) == 0) = true ∧ (((hashU stepB l).toNat : Int) == 0) = true) :
    ((hashU stepA l).toNat : Int) = (ofU l).1.toNat ∧ (1 : Int) = (ofU l).2.toNat := by
  have h1 : hashU stepA l = 0 := UInt64.toNat_inj.1 (by have := h.1; simp at this; simpa using this)
  have h2 : hashU stepB l = 0 := UInt64.toNat_inj.1 (by have := h.2; simp at this; simpa using this)
  have : ofU l = (0, 1) := by unfold ofU; rw [h1, h2]; rfl
  rw [this, h1]
  exact ⟨rfl, rfl⟩
theorem ofU_other {l : List UInt8} (h : (((hashU stepA l).toNat : Int) == 0) = false ∨ (((hashU stepB l).toNat : Int) == 0) = false) : ofU l = (hashU stepA l, hashU stepB l) := by
  unfold ofU
  rw [if_neg]
  intro e
  have h1 : hashU stepA l = 0 := congrArg Prod.fst e
  have h2 : hashU stepB l = 0 := congrArg Prod.snd e
  rw [h1, h2] at h
  simp at h

/-- Byte k of the sixteen bytes of two numbers. -/
def byteAt (x y : UInt64) (k : Nat) : UInt8 := UInt8.ofNat ((if k < 8 then x else y).toNat / 2 ^ (56 - 8 * (k % 8)))
/-- The bytes of a digest. -/
def bytesU (x y : UInt64) : List UInt8 := (List.range 16).map (byteAt x y)
theorem bytesU_length (x y : UInt64) : (bytesU x y).length = 16 := by simp [bytesU]
theorem bytesU_take (x y : UInt64) (k : Nat) (h : k < 16) : (bytesU x y).take (k + 1) = (bytesU x y).take k ++ [byteAt x y k] := by
  rw [List.take_succ_eq_append_getElem (by simpa [bytesU] using h)]
  simp [bytesU]

theorem byteAt_val {x y z : UInt64} {k : Nat} (h : z = if k < 8 then x else y) : ((z.toNat : Int) / 2 ^ (56 - 8 * (k % 8)) % 256) = ((byteAt x y k).toNat : Int) := by
  unfold byteAt
  rw [← h]
  simp

theorem byteAt_lo (x y : UInt64) {j : Nat} (h : j < 8) : ((x.toNat : Int) / 2 ^ (56 - 8 * j) % 256) = ((byteAt x y (8 * 0 + j)).toNat : Int) := by
  unfold byteAt
  rw [if_pos (by omega), show (8 * 0 + j) % 8 = j by omega]
  simp
theorem byteAt_hi (x y : UInt64) {j : Nat} (h : j < 8) : ((y.toNat : Int) / 2 ^ (56 - 8 * j) % 256) = ((byteAt x y (8 * 1 + j)).toNat : Int) := by
  unfold byteAt
  rw [if_neg (by omega), show (8 * 1 + j) % 8 = j by omega]
  simp

/-- A hexadecimal digit. -/
def hexDigit (n : Nat) : UInt8 := if n < 10 then UInt8.ofNat (48 + n) else UInt8.ofNat (87 + n)
/-- Digit k of the thirty-two of two numbers, as a number. -/
def nibAt (x y : UInt64) (k : Nat) : Nat := (if k < 16 then x else y).toNat / 2 ^ (60 - 4 * (k % 16)) % 16
/-- A digest as text. -/
def hexU (x y : UInt64) : List UInt8 := (List.range 32).map fun k => hexDigit (nibAt x y k)
theorem hexU_length (x y : UInt64) : (hexU x y).length = 32 := by simp [hexU]
theorem hexU_take (x y : UInt64) (k : Nat) (h : k < 32) : (hexU x y).take (k + 1) = (hexU x y).take k ++ [hexDigit (nibAt x y k)] := by
  rw [List.take_succ_eq_append_getElem (by simpa [hexU] using h)]
  simp [hexU]
theorem nibAt_lo (x y : UInt64) {j : Nat} (h : j < 16) : nibAt x y (16 * 0 + j) = x.toNat / 2 ^ (60 - 4 * j) % 16 := by
  unfold nibAt
  rw [if_pos (by omega), show (16 * 0 + j) % 16 = j by omega]
theorem nibAt_hi (x y : UInt64) {j : Nat} (h : j < 16) : nibAt x y (16 * 1 + j) = y.toNat / 2 ^ (60 - 4 * j) % 16 := by
  unfold nibAt
  rw [if_neg (by omega), show (16 * 1 + j) % 16 = j by omega]

theorem nib_bits (z : UInt64) (k : Nat) : bits .and .u64 ((z.toNat : Int) / 2 ^ k) 15 = ((z.toNat / 2 ^ k % 16 : Nat) : Int) := by
  have h1 : z.toNat / 2 ^ k < 18446744073709551616 := Nat.lt_of_le_of_lt (Nat.div_le_self _ _) (u64_lt z)
  rw [show ((z.toNat : Int) / 2 ^ k) = ((z.toNat / 2 ^ k : Nat) : Int) by simp, show (15 : Int) = ((15 : Nat) : Int) from rfl, u64_and_nat _ _ h1 (by omega), nat_mask4]
theorem hex_at {n : Nat} (h : n < 16) : ((({ data := #[48, 49, 50, 51, 52, 53, 54, 55, 56, 57, 97, 98, 99, 100, 101, 102] } : ByteArray)[n]'h).toNat : Int) = ((hexDigit n).toNat : Int) := by
  match n, h with
  | 0, _ => rfl | 1, _ => rfl | 2, _ => rfl | 3, _ => rfl | 4, _ => rfl | 5, _ => rfl | 6, _ => rfl | 7, _ => rfl
  | 8, _ => rfl | 9, _ => rfl | 10, _ => rfl | 11, _ => rfl | 12, _ => rfl | 13, _ => rfl | 14, _ => rfl | 15, _ => rfl
  | n + 16, h => exact absurd h (by omega)

theorem hexU_take2 (x y : UInt64) (k : Nat) (h : k < 16) : (hexU x y).take (2 * (k + 1)) = (hexU x y).take (2 * k) ++ [hexDigit ((byteAt x y k).toNat / 16), hexDigit ((byteAt x y k).toNat % 16)] := by
  have e1 : nibAt x y (2 * k) = (byteAt x y k).toNat / 16 := by
    unfold nibAt byteAt
    rcases Nat.lt_or_ge k 8 with h8 | h8
    · rw [if_pos (by omega), if_pos h8, show 60 - 4 * (2 * k % 16) = (56 - 8 * (k % 8)) + 4 by omega, Nat.pow_add]
      generalize 2 ^ (56 - 8 * (k % 8)) = m
      rw [← Nat.div_div_eq_div_mul]
      simp
      omega
    · rw [if_neg (by omega), if_neg (by omega), show 60 - 4 * (2 * k % 16) = (56 - 8 * (k % 8)) + 4 by omega, Nat.pow_add]
      generalize 2 ^ (56 - 8 * (k % 8)) = m
      rw [← Nat.div_div_eq_div_mul]
      simp
      omega
  have e2 : nibAt x y (2 * k + 1) = (byteAt x y k).toNat % 16 := by
    unfold nibAt byteAt
    rcases Nat.lt_or_ge k 8 with h8 | h8
    · rw [if_pos (by omega), if_pos h8, show 60 - 4 * ((2 * k + 1) % 16) = (56 - 8 * (k % 8)) by omega]
      simp
    · rw [if_neg (by omega), if_neg (by omega), show 60 - 4 * ((2 * k + 1) % 16) = (56 - 8 * (k % 8)) by omega]
      simp
  rw [show 2 * (k + 1) = 2 * k + 1 + 1 by omega, hexU_take x y (2 * k + 1) (by omega), hexU_take x y (2 * k) (by omega), e1, e2]
  simp

/-- The value of a hexadecimal digit, or 16. -/
def hexVal (c : UInt8) : Nat := if 48 ≤ c.toNat ∧ c.toNat ≤ 57 then c.toNat - 48 else if 97 ≤ c.toNat ∧ c.toNat ≤ 102 then c.toNat - 87 else 16
theorem hexVal_num {c : UInt8} (h1 : 48 ≤ c.toNat) (h2 : c.toNat ≤ 57) : hexVal c = c.toNat - 48 := by unfold hexVal; rw [if_pos ⟨h1, h2⟩]
theorem hexVal_let {c : UInt8} (h1 : 97 ≤ c.toNat) (h2 : c.toNat ≤ 102) : hexVal c = c.toNat - 87 := by unfold hexVal; rw [if_neg (by omega), if_pos ⟨h1, h2⟩]
theorem hexVal_not {c : UInt8} (h1 : ¬ (48 ≤ c.toNat ∧ c.toNat ≤ 57)) (h2 : ¬ (97 ≤ c.toNat ∧ c.toNat ≤ 102)) : hexVal c = 16 := by unfold hexVal; rw [if_neg h1, if_neg h2]
/-- The number that digits write. -/
def valHex (l : List UInt8) : Nat := l.foldl (fun a c => a * 16 + hexVal c) 0
theorem valHex_snoc (l : List UInt8) (c : UInt8) : valHex (l ++ [c]) = valHex l * 16 + hexVal c := by simp [valHex]
theorem valHex_lt (l : List UInt8) (h : ∀ c ∈ l, hexVal c < 16) : valHex l < 16 ^ l.length := by
  have : ∀ (l : List UInt8) (a n : Nat), (∀ c ∈ l, hexVal c < 16) → a < 16 ^ n → l.foldl (fun a c => a * 16 + hexVal c) a < 16 ^ (n + l.length) := by
    intro l
    induction l with
    | nil => intro a n _ h; simpa using h
    | cons c l ih =>
      intro a n hh ha
      have hc := hh c (by simp)
      have := ih (a * 16 + hexVal c) (n + 1) (fun d hd => hh d (by simp [hd])) (by rw [Nat.pow_succ]; omega)
      rw [List.foldl_cons, List.length_cons, show n + (l.length + 1) = n + 1 + l.length by omega]
      exact this
  have h0 := this l 0 0 h (by simp)
  rw [Nat.zero_add] at h0
  exact h0
/-- The digest of a text, and an error. -/
def parseE (l : List UInt8) : (UInt64 × UInt64) × Int :=
  if l.length = 32 ∧ ∀ c ∈ l, hexVal c < 16 then ((UInt64.ofNat (valHex (l.take 16)), UInt64.ofNat (valHex (l.drop 16))), 0) else ((0, 0), 3)
theorem parseE_len {l : List UInt8} (h : ¬ l.length = 32) : parseE l = ((0, 0), 3) := by unfold parseE; rw [if_neg (fun hh => h hh.1)]
theorem parseE_bad {l : List UInt8} {c : UInt8} (hc : c ∈ l) (h : hexVal c = 16) : parseE l = ((0, 0), 3) := by unfold parseE; rw [if_neg (fun hh => by have := hh.2 c hc; omega)]
theorem parseE_ok {l : List UInt8} (h : l.length = 32) (hh : ∀ c ∈ l, hexVal c < 16) : parseE l = ((UInt64.ofNat (valHex (l.take 16)), UInt64.ofNat (valHex (l.drop 16))), 0) := by unfold parseE; rw [if_pos ⟨h, hh⟩]
theorem or_nib {a v : Nat} (ha : a < 1152921504606846976) (hv : v < 16) : bits .or .u64 (IntKind.u64.wrap ((a : Int) * 16)) (v : Int) = ((a * 16 + v : Nat) : Int) := by
  rw [IntKind.wrap_u64, show ((a : Int) * 16 % 18446744073709551616) = ((a * 16 : Nat) : Int) by omega, u64_or_nat _ _ (by omega) (by omega), nat_join 4 (a * 16) v (by omega) (by omega)]
theorem valHex_bound {l : List UInt8} {m : Nat} (hh : ∀ c ∈ l, hexVal c < 16) (hk : l.length ≤ m) : valHex l < 16 ^ m :=
  Nat.lt_of_lt_of_le (valHex_lt _ hh) (Nat.pow_le_pow_right (by omega) hk)

theorem wrap_nib {a v : Nat} (ha : a < 1152921504606846976) (hv : v < 16) : IntKind.u64.wrap (IntKind.u64.wrap ((a : Int) * 16) + (v : Int)) = ((a * 16 + v : Nat) : Int) := by
  rw [IntKind.wrap_u64, IntKind.wrap_u64]
  omega

end Go.Proofs.Ytghkldodceamcaa
