/-
  Plain law: parsing inverts formatting, and only texts of digests can be parsed.
-/
import Derived.Test.YtchjmkmcgpbndaaDigSpec
namespace Go.Proofs.Ytchjmkmcgpbndaa

theorem hexVal_hexDigit {n : Nat} (h : n < 16) : hexVal (hexDigit n) = n := by
  match n, h with
  | 0, _ => rfl | 1, _ => rfl | 2, _ => rfl | 3, _ => rfl | 4, _ => rfl | 5, _ => rfl | 6, _ => rfl | 7, _ => rfl
  | 8, _ => rfl | 9, _ => rfl | 10, _ => rfl | 11, _ => rfl | 12, _ => rfl | 13, _ => rfl | 14, _ => rfl | 15, _ => rfl
  | n + 16, h => exact absurd h (by omega)
theorem hexDigit_hexVal {c : UInt8} (h : hexVal c < 16) : hexDigit (hexVal c) = c := by
  unfold hexVal at h ⊢
  split at h
  · rename_i h1
    rw [if_pos h1]
    unfold hexDigit
    rw [if_pos (by omega), show 48 + (c.toNat - 48) = c.toNat by omega]
    simp
  · rename_i h1
    rw [if_neg h1]
    split at h
    · rename_i h2
      rw [if_pos h2]
      unfold hexDigit
      rw [if_neg (by omega), show 87 + (c.toNat - 87) = c.toNat by omega]
      simp
    · omega
theorem nibAt_lt (x y : UInt64) (k : Nat) : nibAt x y k < 16 := Nat.mod_lt _ (by omega)
theorem hexU_get (x y : UInt64) (k : Nat) (h : k < 32) : (hexU x y)[k]'(by rw [hexU_length]; exact h) = hexDigit (nibAt x y k) := by simp [hexU]
theorem hexU_all (x y : UInt64) : ∀ c ∈ hexU x y, hexVal c < 16 := by
  intro c hc
  simp only [hexU, List.mem_map] at hc
  obtain ⟨k, _, rfl⟩ := hc
  rw [hexVal_hexDigit (nibAt_lt x y k)]
  exact nibAt_lt x y k

theorem valHex_append (a b : List UInt8) : valHex (a ++ b) = valHex a * 16 ^ b.length + valHex b := by
  have : ∀ (b : List UInt8) (n : Nat), b.foldl (fun a c => a * 16 + hexVal c) n = n * 16 ^ b.length + valHex b := by
    intro b
    induction b with
    | nil => intro n; simp [valHex]
    | cons c b ih =>
      intro n
      have h1 : valHex (c :: b) = (0 * 16 + hexVal c) * 16 ^ b.length + valHex b := ih _
      rw [List.foldl_cons, ih, h1, List.length_cons, Nat.pow_succ, Nat.add_mul, Nat.zero_mul, Nat.zero_add, Nat.mul_assoc, Nat.mul_comm 16, Nat.add_assoc]
  rw [valHex, List.foldl_append, this]
  rfl
theorem valHex_div (a b : List UInt8) (hb : ∀ c ∈ b, hexVal c < 16) : valHex (a ++ b) / 16 ^ b.length = valHex a := by
  rw [valHex_append, Nat.mul_comm, Nat.mul_add_div (Nat.pow_pos (by omega)), Nat.div_eq_of_lt (valHex_lt b hb), Nat.add_zero]
/-- Digit k of the number that sixteen digits write. -/
theorem valHex_nib {m : List UInt8} (hl : m.length = 16) (hm : ∀ c ∈ m, hexVal c < 16) {k : Nat} (hk : k < 16) : valHex m / 2 ^ (60 - 4 * k) % 16 = hexVal (m[k]'(by omega)) := by
  have h1 : m = (m.take k ++ [m[k]'(by omega)]) ++ m.drop (k + 1) := by
    rw [← List.take_succ_eq_append_getElem (by omega), List.take_append_drop]
  have h2 : (m.drop (k + 1)).length = 15 - k := by rw [List.length_drop]; omega
  have h3 : (2 : Nat) ^ (60 - 4 * k) = 16 ^ (m.drop (k + 1)).length := by
    rw [h2, show (16 : Nat) = 2 ^ 4 from rfl, ← Nat.pow_mul]
    congr 1
    omega
  rw [h3]
  have h4 := valHex_div (m.take k ++ [m[k]'(by omega)]) (m.drop (k + 1)) (fun c hc => hm c (List.mem_of_mem_drop hc))
  rw [← h1] at h4
  rw [h4, valHex_snoc]
  have := hm (m[k]'(by omega)) (List.getElem_mem _)
  omega
theorem valHex_lt64 {m : List UInt8} (hl : m.length = 16) (hm : ∀ c ∈ m, hexVal c < 16) : valHex m < 18446744073709551616 := by
  have := valHex_bound (m := 16) hm (by omega)
  exact this

/-- A number is told by its digits. -/
theorem u64_of_nibs {a b : Nat} (ha : a < 18446744073709551616) (hb : b < 18446744073709551616) (h : ∀ k < 16, a / 2 ^ (60 - 4 * k) % 16 = b / 2 ^ (60 - 4 * k) % 16) : a = b := by
  have key : ∀ k, k ≤ 16 → a / 2 ^ (64 - 4 * k) = b / 2 ^ (64 - 4 * k) := by
    intro k
    induction k with
    | zero => intro _; rw [Nat.div_eq_of_lt (by simpa using ha), Nat.div_eq_of_lt (by simpa using hb)]
    | succ k ih =>
      intro hk
      have h1 := ih (by omega)
      have h2 := h k (by omega)
      rw [show 64 - 4 * (k + 1) = 60 - 4 * k by omega]
      rw [show 64 - 4 * k = (60 - 4 * k) + 4 by omega, Nat.pow_add, ← Nat.div_div_eq_div_mul, ← Nat.div_div_eq_div_mul] at h1
      omega
  have := key 16 (Nat.le_refl _)
  simpa using this

theorem parseE_hexU (x y : UInt64) : parseE (hexU x y) = ((x, y), 0) := by
  rw [parseE_ok (hexU_length x y) (hexU_all x y)]
  have hall := hexU_all x y
  have e1 : valHex ((hexU x y).take 16) = x.toNat := by
    have hl : ((hexU x y).take 16).length = 16 := by rw [List.length_take, hexU_length]; omega
    have hm : ∀ c ∈ (hexU x y).take 16, hexVal c < 16 := fun c hc => hall c (List.mem_of_mem_take hc)
    refine u64_of_nibs (valHex_lt64 hl hm) (u64_lt x) (fun k hk => ?_)
    rw [valHex_nib hl hm hk, List.getElem_take, hexU_get x y k (by omega), hexVal_hexDigit (nibAt_lt x y k)]
    unfold nibAt
    rw [if_pos hk, Nat.mod_eq_of_lt hk]
  have e2 : valHex ((hexU x y).drop 16) = y.toNat := by
    have hl : ((hexU x y).drop 16).length = 16 := by rw [List.length_drop, hexU_length]
    have hm : ∀ c ∈ (hexU x y).drop 16, hexVal c < 16 := fun c hc => hall c (List.mem_of_mem_drop hc)
    refine u64_of_nibs (valHex_lt64 hl hm) (u64_lt y) (fun k hk => ?_)
    rw [valHex_nib hl hm hk, List.getElem_drop, hexU_get x y (16 + k) (by omega), hexVal_hexDigit (nibAt_lt x y _)]
    unfold nibAt
    rw [if_neg (by omega), show (16 + k) % 16 = k by omega]
  rw [e1, e2]
  simp

theorem hexU_parseE {l : List UInt8} {x y : UInt64} (h : parseE l = ((x, y), 0)) : hexU x y = l := by
  unfold parseE at h
  split at h
  · rename_i hh
    obtain ⟨hl, hm⟩ := hh
    simp only [Prod.mk.injEq] at h
    obtain ⟨⟨h1, h2⟩, _⟩ := h
    have l1 : (l.take 16).length = 16 := by rw [List.length_take]; omega
    have l2 : (l.drop 16).length = 16 := by rw [List.length_drop]; omega
    have m1 : ∀ c ∈ l.take 16, hexVal c < 16 := fun c hc => hm c (List.mem_of_mem_take hc)
    have m2 : ∀ c ∈ l.drop 16, hexVal c < 16 := fun c hc => hm c (List.mem_of_mem_drop hc)
    have x1 : x.toNat = valHex (l.take 16) := by rw [← h1, UInt64.toNat_ofNat_of_lt' (by simpa [UInt64.size] using valHex_lt64 l1 m1)]
    have y1 : y.toNat = valHex (l.drop 16) := by rw [← h2, UInt64.toNat_ofNat_of_lt' (by simpa [UInt64.size] using valHex_lt64 l2 m2)]
    apply List.ext_getElem (by rw [hexU_length, hl])
    intro k hk hk'
    rw [hexU_get x y k (by omega)]
    have hck := hm l[k] (List.getElem_mem _)
    rw [← hexDigit_hexVal hck]
    congr 1
    unfold nibAt
    rcases Nat.lt_or_ge k 16 with h16 | h16
    · rw [if_pos h16, Nat.mod_eq_of_lt h16, x1, valHex_nib l1 m1 h16, List.getElem_take]
    · rw [if_neg (by omega), show k % 16 = k - 16 by omega, y1, valHex_nib l2 m2 (by omega), List.getElem_drop]
      congr 2
      omega
  · simp at h
theorem parseE_err (l : List UInt8) : (parseE l).2 = 0 ∨ parseE l = ((0, 0), 3) := by
  unfold parseE
  split
  · exact .inl rfl
  · exact .inr rfl
end Go.Proofs.Ytchjmkmcgpbndaa
