/-
  Plain law: the order of two digests is the order of their texts.
-/
import Derived.Test.YtchjmkmcgpbndaaDigText
import Derived.Test.YtchjmkmcgpbndaaDigCompare
import Derived.Lib.Bytealg
namespace Go.Proofs.Ytchjmkmcgpbndaa
open Go.Lib (compareBytes)

theorem hexDigit_lt {m n : Nat} (hm : m < 16) (hn : n < 16) : (hexDigit m < hexDigit n) ↔ m < n := by
  have h : ∀ m : Fin 16, ∀ n : Fin 16, (hexDigit m.1 < hexDigit n.1) ↔ m.1 < n.1 := by decide
  exact h ⟨m, hm⟩ ⟨n, hn⟩
theorem hexChar_lt {c d : UInt8} (hc : hexVal c < 16) (hd : hexVal d < 16) : c < d ↔ hexVal c < hexVal d := by
  have := hexDigit_lt hc hd
  rwa [hexDigit_hexVal hc, hexDigit_hexVal hd] at this

theorem cmp_val : ∀ (l m : List UInt8), l.length = m.length → (∀ c ∈ l, hexVal c < 16) → (∀ c ∈ m, hexVal c < 16) → compareBytes l m = cmpI (valHex l) (valHex m)
  | [], [], _, _, _ => by simp [compareBytes, cmpI, valHex]
  | [], _ :: _, h, _, _ => by simp at h
  | _ :: _, [], h, _, _ => by simp at h
  | c :: l, d :: m, h, hl, hm => by
    have hlen : l.length = m.length := by simpa using h
    have ih := cmp_val l m hlen (fun x hx => hl x (by simp [hx])) (fun x hx => hm x (by simp [hx]))
    have hc := hl c (by simp)
    have hd := hm d (by simp)
    have e1 : valHex (c :: l) = hexVal c * 16 ^ l.length + valHex l := by
      have := valHex_append [c] l
      simpa [valHex] using this
    have e2 : valHex (d :: m) = hexVal d * 16 ^ l.length + valHex m := by
      have := valHex_append [d] m
      rw [hlen]
      simpa [valHex] using this
    have b1 : valHex l < 16 ^ l.length := valHex_lt l (fun x hx => hl x (by simp [hx]))
    have b2 : valHex m < 16 ^ l.length := by rw [hlen]; exact valHex_lt m (fun x hx => hm x (by simp [hx]))
    have k1 := hexChar_lt hc hd
    have k2 := hexChar_lt hd hc
    rw [compareBytes, e1, e2]
    generalize 16 ^ l.length = B at *
    rcases Nat.lt_trichotomy (hexVal c) (hexVal d) with hlt | heq | hgt
    · rw [if_pos (k1.2 hlt)]
      have : (hexVal c + 1) * B ≤ hexVal d * B := Nat.mul_le_mul_right _ hlt
      rw [Nat.add_mul, Nat.one_mul] at this
      unfold cmpI
      rw [if_pos (by omega)]
    · rw [if_neg (by rw [k1]; omega), if_neg (by rw [k2]; omega), ih, heq]
      unfold cmpI
      simp only [Int.natCast_add]
      congr 1
      · simp
      · congr 1
        simp
    · rw [if_neg (by rw [k1]; omega), if_pos (k2.2 hgt)]
      have : (hexVal d + 1) * B ≤ hexVal c * B := Nat.mul_le_mul_right _ hgt
      rw [Nat.add_mul, Nat.one_mul] at this
      unfold cmpI
      rw [if_neg (by omega), if_pos (by omega)]

theorem cmp_append : ∀ (a b c d : List UInt8), a.length = b.length → compareBytes (a ++ c) (b ++ d) = or2 (compareBytes a b) (compareBytes c d)
  | [], [], c, d, _ => by simp [compareBytes, or2]
  | [], _ :: _, _, _, h => by simp at h
  | _ :: _, [], _, _, h => by simp at h
  | x :: a, y :: b, c, d, h => by
    have ih := cmp_append a b c d (by simpa using h)
    simp only [List.cons_append, compareBytes]
    by_cases h1 : x < y
    · simp [h1, or2]
    · by_cases h2 : y < x
      · simp [h1, h2, or2]
      · simp [h1, h2, ih]

theorem hexU_vals (x y : UInt64) : valHex ((hexU x y).take 16) = x.toNat ∧ valHex ((hexU x y).drop 16) = y.toNat := by
  have h := parseE_hexU x y
  rw [parseE_ok (hexU_length x y) (hexU_all x y)] at h
  simp only [Prod.mk.injEq, and_true] at h
  have b1 : valHex ((hexU x y).take 16) < 16 ^ 16 := valHex_bound (fun c hc => hexU_all x y c (List.mem_of_mem_take hc)) (by rw [List.length_take]; omega)
  have b2 : valHex ((hexU x y).drop 16) < 16 ^ 16 := valHex_bound (fun c hc => hexU_all x y c (List.mem_of_mem_drop hc)) (by simp [hexU_length])
  refine ⟨?_, ?_⟩
  · have := congrArg UInt64.toNat h.1
    rwa [UInt64.toNat_ofNat_of_lt' (by simpa [UInt64.size] using b1)] at this
  · have := congrArg UInt64.toNat h.2
    rwa [UInt64.toNat_ofNat_of_lt' (by simpa [UInt64.size] using b2)] at this

theorem cmp_texts (a b : Dg) : compareBytes (hexU a.1 a.2) (hexU b.1 b.2) = cmpD a b := by
  obtain ⟨a1, a2⟩ := hexU_vals a.1 a.2
  obtain ⟨b1, b2⟩ := hexU_vals b.1 b.2
  have e1 := (List.take_append_drop 16 (hexU a.1 a.2)).symm
  have e2 := (List.take_append_drop 16 (hexU b.1 b.2)).symm
  rw [e1, e2, cmp_append _ _ _ _ (by simp [hexU_length]),
    cmp_val _ _ (by simp [hexU_length]) (fun c hc => hexU_all _ _ c (List.mem_of_mem_take hc)) (fun c hc => hexU_all _ _ c (List.mem_of_mem_take hc)),
    cmp_val _ _ (by simp [hexU_length]) (fun c hc => hexU_all _ _ c (List.mem_of_mem_drop hc)) (fun c hc => hexU_all _ _ c (List.mem_of_mem_drop hc)), a1, a2, b1, b2]
  rfl

theorem cmpI_zero (x y : Int) : cmpI x y = 0 ↔ x = y := by
  unfold cmpI
  split
  · constructor <;> omega
  · split <;> constructor <;> omega
theorem cmpD_zero (a b : Dg) : ((cmpD a b == 0) = decide (a = b)) := by
  rw [Bool.eq_iff_iff]
  simp only [beq_iff_eq, decide_eq_true_eq, cmpD, or2]
  have h1 := cmpI_zero a.1.toNat b.1.toNat
  have h2 := cmpI_zero a.2.toNat b.2.toNat
  have k1 : ((a.1.toNat : Int) = b.1.toNat) ↔ a.1 = b.1 := ⟨fun h => UInt64.toNat_inj.1 (Int.ofNat_inj.1 h), fun h => by rw [h]⟩
  have k2 : ((a.2.toNat : Int) = b.2.toNat) ↔ a.2 = b.2 := ⟨fun h => UInt64.toNat_inj.1 (Int.ofNat_inj.1 h), fun h => by rw [h]⟩
  rw [Prod.ext_iff, ← k1, ← k2, ← h1, ← h2]
  by_cases h : cmpI (a.1.toNat : Int) b.1.toNat = 0
  · simp [h]
  · simp [h]
end Go.Proofs.Ytchjmkmcgpbndaa
