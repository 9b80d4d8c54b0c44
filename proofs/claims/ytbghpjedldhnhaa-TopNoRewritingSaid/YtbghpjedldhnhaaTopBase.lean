/-
  What both tops use: appending, paths, the ledger that records make, the example.
-/
import Derived.Test.YtbghpjedldhnhaaDigSpec
import Derived.Test.YtbghpjedldhnhaaDigHash
import Derived.Test.YtbghpjedldhnhaaKit
import Derived.Test.YtbghpjedldhnhaaLedOwn
import Derived.Test.YtbghpjedldhnhaaLedSpec
import Derived.Test.YtbghpjedldhnhaaLedGrow
import Derived.Test.YtbghpjedldhnhaaLedRec
import Derived.Test.YtbghpjedldhnhaaDigRefRoot
import Derived.Test.YtbghpjedldhnhaaDigBox
import Derived.Test.YtbghpjedldhnhaaMix
import Derived.Test.YtbghpjedldhnhaaSl
import Derived.Laws.OwnMore
import Derived.Laws.AppendOwnNone
import Derived.Test.YtbghpjedldhnhaaLedCheck
import Derived.Test.YtbghpjedldhnhaaLedHead
import Derived.Test.YtbghpjedldhnhaaBox
import Derived.Test.YtbghpjedldhnhaaLedGrowOwn
import Derived.Test.YtbghpjedldhnhaaLedHead2
import Derived.Test.YtbghpjedldhnhaaLedGreat
namespace Go.Proofs.Ytbghpjedldhnhaa

theorem hexVal_hexDigit {n : Nat} (h : n < 16) : hexVal (hexDigit n) = n := by
  match n, h with
  | 0, _ => rfl | 1, _ => rfl | 2, _ => rfl | 3, _ => rfl | 4, _ => rfl | 5, _ => rfl | 6, _ => rfl | 7, _ => rfl
  | 8, _ => rfl | 9, _ => rfl | 10, _ => rfl | 11, _ => rfl | 12, _ => rfl | 13, _ => rfl | 14, _ => rfl | 15, _ => rfl
  | n + 16, h => exact absurd h (by omega)
theorem hexDigit_hexVal {c : UInt8} (h : hexVal c < 16) : hexDigit (hexVal c) = c := by
  unfold hexVal at h ⊢
  split at h
  · rename_i h1
    rw [if_pos h1]
    unfold hexDigit
    rw [if_pos (by omega), show 48 + (c.toNat - 48) = c.toNat by omega]
    simp
  · rename_i h1
    rw [if_neg h1]
    split at h
    · rename_i h2
      rw [if_pos h2]
      unfold hexDigit
      rw [if_neg (by omega), show 87 + (c.toNat - 87) = c.toNat by omega]
      simp
    · omega
theorem nibAt_lt (x y : UInt64) (k : Nat) : nibAt x y k < 16 := Nat.mod_lt _ (by omega)
theorem hexU_get (x y : UInt64) (k : Nat) (h : k < 32) : (hexU x y)[k]'(by rw [hexU_length]; exact h) = hexDigit (nibAt x y k) := by simp [hexU]
theorem hexU_all (x y : UInt64) : ∀ c ∈ hexU x y, hexVal c < 16 := by
  intro c hc
  simp only [hexU, List.mem_map] at hc
  obtain ⟨k, _, rfl⟩ := hc
  rw [hexVal_hexDigit (nibAt_lt x y k)]
  exact nibAt_lt x y k

theorem valHex_append (a b : List UInt8) : valHex (a ++ b) = valHex a * 16 ^ b.length + valHex b := by
  have : ∀ (b : List UInt8) (n : Nat), b.foldl (fun a c => a * 16 + hexVal c) n = n * 16 ^ b.length + valHex b := by
    intro b
    induction b with
    | nil => intro n; simp [valHex]
    | cons c b ih =>
      intro n
      have h1 : valHex (c :: b) = (0 * 16 + hexVal c) * 16 ^ b.length + valHex b := ih _
      rw [List.foldl_cons, ih, h1, List.length_cons, Nat.pow_succ, Nat.add_mul, Nat.zero_mul, Nat.zero_add, Nat.mul_assoc, Nat.mul_comm 16, Nat.add_assoc]
  rw [valHex, List.foldl_append, this]
  rfl
theorem valHex_div (a b : List UInt8) (hb : ∀ c ∈ b, hexVal c < 16) : valHex (a ++ b) / 16 ^ b.length = valHex a := by
  rw [valHex_append, Nat.mul_comm, Nat.mul_add_div (Nat.pow_pos (by omega)), Nat.div_eq_of_lt (valHex_lt b hb), Nat.add_zero]
/-- Digit k of the number that sixteen digits write. -/
theorem valHex_nib {m : List UInt8} (hl : m.length = 16) (hm : ∀ c ∈ m, hexVal c < 16) {k : Nat} (hk : k < 16) : valHex m / 2 ^ (60 - 4 * k) % 16 = hexVal (m[k]'(by omega)) := by
  have h1 : m = (m.take k ++ [m[k]'(by omega)]) ++ m.drop (k + 1) := by
    rw [← List.take_succ_eq_append_getElem (by omega), List.take_append_drop]
  have h2 : (m.drop (k + 1)).length = 15 - k := by rw [List.length_drop]; omega
  have h3 : (2 : Nat) ^ (60 - 4 * k) = 16 ^ (m.drop (k + 1)).length := by
    rw [h2, show (16 : Nat) = 2 ^ 4 from rfl, ← Nat.pow_mul]
    congr 1
    omega
  rw [h3]
  have h4 := valHex_div (m.take k ++ [m[k]'(by omega)]) (m.drop (k + 1)) (fun c hc => hm c (List.mem_of_mem_drop hc))
  rw [← h1] at h4
  rw [h4, valHex_snoc]
  have := hm (m[k]'(by omega)) (List.getElem_mem _)
  omega
theorem valHex_lt64 {m : List UInt8} (hl : m.length = 16) (hm : ∀ c ∈ m, hexVal c < 16) : valHex m < 18446744073709551616 := by
  have := valHex_bound (m := 16) hm (by omega)
  exact this

/-- A number is told by its digits. -/
theorem u64_of_nibs {a b : Nat} (ha : a < 18446744073709551616) (hb : b < 18446744073709551616) (h : ∀ k < 16, a / 2 ^ (60 - 4 * k) % 16 = b / 2 ^ (60 - 4 * k) % 16) : a = b := by
  have key : ∀ k, k ≤ 16 → a / 2 ^ (64 - 4 * k) = b / 2 ^ (64 - 4 * k) := by
    intro k
    induction k with
    | zero => intro _; rw [Nat.div_eq_of_lt (by simpa using ha), Nat.div_eq_of_lt (by simpa using hb)]
    | succ k ih =>
      intro hk
      have h1 := ih (by omega)
      have h2 := h k (by omega)
      rw [show 64 - 4 * (k + 1) = 60 - 4 * k by omega]
      rw [show 64 - 4 * k = (60 - 4 * k) + 4 by omega, Nat.pow_add, ← Nat.div_div_eq_div_mul, ← Nat.div_div_eq_div_mul] at h1
      omega
  have := key 16 (Nat.le_refl _)
  simpa using this

theorem parseE_hexU (x y : UInt64) : parseE (hexU x y) = ((x, y), 0) := by
  rw [parseE_ok (hexU_length x y) (hexU_all x y)]
  have hall := hexU_all x y
  have e1 : valHex ((hexU x y).take 16) = x.toNat := by
    have hl : ((hexU x y).take 16).length = 16 := by rw [List.length_take, hexU_length]; omega
    have hm : ∀ c ∈ (hexU x y).take 16, hexVal c < 16 := fun c hc => hall c (List.mem_of_mem_take hc)
    refine u64_of_nibs (valHex_lt64 hl hm) (u64_lt x) (fun k hk => ?_)
    rw [valHex_nib hl hm hk, List.getElem_take, hexU_get x y k (by omega), hexVal_hexDigit (nibAt_lt x y k)]
    unfold nibAt
    rw [if_pos hk, Nat.mod_eq_of_lt hk]
  have e2 : valHex ((hexU x y).drop 16) = y.toNat := by
    have hl : ((hexU x y).drop 16).length = 16 := by rw [List.length_drop, hexU_length]
    have hm : ∀ c ∈ (hexU x y).drop 16, hexVal c < 16 := fun c hc => hall c (List.mem_of_mem_drop hc)
    refine u64_of_nibs (valHex_lt64 hl hm) (u64_lt y) (fun k hk => ?_)
    rw [valHex_nib hl hm hk, List.getElem_drop, hexU_get x y (16 + k) (by omega), hexVal_hexDigit (nibAt_lt x y _)]
    unfold nibAt
    rw [if_neg (by omega), show (16 + k) % 16 = k by omega]
  rw [e1, e2]
  simp

theorem hexU_parseE {l : List UInt8} {x y : UInt64} (h : parseE l = ((x, y), 0)) : hexU x y = l := by
  unfold parseE at h
  split at h
  · rename_i hh
    obtain ⟨hl, hm⟩ := hh
    simp only [Prod.mk.injEq] at h
    obtain ⟨⟨h1, h2⟩, _⟩ := h
    have l1 : (l.take 16).length = 16 := by rw [List.length_take]; omega
    have l2 : (l.drop 16).length = 16 := by rw [List.length_drop]; omega
    have m1 : ∀ c ∈ l.take 16, hexVal c < 16 := fun c hc => hm c (List.mem_of_mem_take hc)
    have m2 : ∀ c ∈ l.drop 16, hexVal c < 16 := fun c hc => hm c (List.mem_of_mem_drop hc)
    have x1 : x.toNat = valHex (l.take 16) := by rw [← h1, UInt64.toNat_ofNat_of_lt' (by simpa [UInt64.size] using valHex_lt64 l1 m1)]
    have y1 : y.toNat = valHex (l.drop 16) := by rw [← h2, UInt64.toNat_ofNat_of_lt' (by simpa [UInt64.size] using valHex_lt64 l2 m2)]
    apply List.ext_getElem (by rw [hexU_length, hl])
    intro k hk hk'
    rw [hexU_get x y k (by omega)]
    have hck := hm l[k] (List.getElem_mem _)
    rw [← hexDigit_hexVal hck]
    congr 1
    unfold nibAt
    rcases Nat.lt_or_ge k 16 with h16 | h16
    · rw [if_pos h16, Nat.mod_eq_of_lt h16, x1, valHex_nib l1 m1 h16, List.getElem_take]
    · rw [if_neg (by omega), show k % 16 = k - 16 by omega, y1, valHex_nib l2 m2 (by omega), List.getElem_drop]
      congr 2
      omega
  · simp at h
theorem parseE_err (l : List UInt8) : (parseE l).2 = 0 ∨ parseE l = ((0, 0), 3) := by
  unfold parseE
  split
  · exact .inl rfl
  · exact .inr rfl
end Go.Proofs.Ytbghpjedldhnhaa

namespace Go.Proofs.Ytbghpjedldhnhaa

def hexOf (l : List UInt8) : List UInt8 := l.flatMap fun c => [hexDigit (c.toNat / 16), hexDigit (c.toNat % 16)]
theorem hexU_hexOf_take (x y : UInt64) (k : Nat) (h : k ≤ 16) : (hexU x y).take (2 * k) = hexOf ((bytesU x y).take k) := by
  induction k with
  | zero => simp [hexOf]
  | succ k ih =>
    rw [hexU_take2 x y k (by omega), ih (by omega), bytesU_take x y k (by omega)]
    simp [hexOf]
theorem hexU_hexOf (x y : UInt64) : hexU x y = hexOf (bytesU x y) := by
  have h := hexU_hexOf_take x y 16 (Nat.le_refl _)
  rwa [List.take_of_length_le (by simp [hexU_length]), List.take_of_length_le (by simp [bytesU_length])] at h
theorem hexU_inj {a b : Dg} (h : hexU a.1 a.2 = hexU b.1 b.2) : a = b := by
  have h1 := parseE_hexU a.1 a.2
  rw [h, parseE_hexU] at h1
  simp only [Prod.mk.injEq, and_true] at h1
  exact Prod.ext h1.1.symm h1.2.symm
theorem bytesU_inj {a b : Dg} (h : bytesU a.1 a.2 = bytesU b.1 b.2) : a = b := hexU_inj (by rw [hexU_hexOf, hexU_hexOf, h])
theorem nodes_inj {a b c d : Dg} (h : bytesU a.1 a.2 ++ bytesU b.1 b.2 = bytesU c.1 c.2 ++ bytesU d.1 d.2) : a = c ∧ b = d := by
  have := List.append_inj h (by simp [bytesU_length])
  exact ⟨bytesU_inj this.1, bytesU_inj this.2⟩
theorem bstr_inj {a b : List UInt8} (h : bstr a = bstr b) : a = b := by
  have := congrArg (fun s : ByteArray => s.data.toList) h
  simpa using this

/-- Of a right proof: where no digest is left, one element is left. -/
theorem result_nil_one {n i : Nat} {d : Dg} (h : (resultD n i d []).2 = true) : n = 1 := by
  by_cases h1 : n = 1
  · exact h1
  · rw [resultD_nil h1] at h; simp at h
theorem result_one_nil {i : Nat} {d : Dg} {p : List Dg} (h : (resultD 1 i d p).2 = true) : p = [] := by
  rw [resultD_one] at h
  exact List.eq_nil_of_length_eq_zero (by simpa using h)
end Go.Proofs.Ytbghpjedldhnhaa

namespace Go.Proofs.Ytbghpjedldhnhaa
open Go.RowKit

def leafS (d : Dg) : List UInt8 := 0 :: bytesU d.1 d.2
def nodeS (a b : Dg) : List UInt8 := 1 :: (bytesU a.1 a.2 ++ bytesU b.1 b.2)
theorem leafS_inj {a b : Dg} (h : leafS a = leafS b) : a = b := bytesU_inj (List.cons.inj h).2
theorem nodeS_inj {a b c d : Dg} (h : nodeS a b = nodeS c d) : a = c ∧ b = d := nodes_inj (List.cons.inj h).2
/-- The strings that are hashed from a text up to the root of n. -/
def pathB (n i : Nat) (tx : List UInt8) (p : List Dg) : List (List UInt8) :=
  if n < 2 then [tx, leafS (ofU tx)]
  else if _h : p.length = 0 then [tx, leafS (ofU tx)]
  else if i < halfN n then pathB (halfN n) i tx p.dropLast ++ [nodeS (ofU ((pathB (halfN n) i tx p.dropLast).getLastD [])) (p.getLastD (0, 0))]
  else pathB (n - halfN n) (i - halfN n) tx p.dropLast ++ [nodeS (p.getLastD (0, 0)) (ofU ((pathB (n - halfN n) (i - halfN n) tx p.dropLast).getLastD []))]
termination_by p.length
decreasing_by all_goals (simp; omega)
theorem pathB_one {n : Nat} (h : n < 2) (i : Nat) (tx : List UInt8) (p : List Dg) : pathB n i tx p = [tx, leafS (ofU tx)] := by rw [pathB, if_pos h]
theorem pathB_nil (n i : Nat) (tx : List UInt8) : pathB n i tx [] = [tx, leafS (ofU tx)] := by
  rw [pathB]
  split
  · rfl
  · rw [dif_pos (show ([] : List Dg).length = 0 from rfl)]
theorem pathB_lo {n i : Nat} (h : 2 ≤ n) (hi : i < halfN n) (tx : List UInt8) (q : List Dg) (e : Dg) : pathB n i tx (q ++ [e]) = pathB (halfN n) i tx q ++ [nodeS (ofU ((pathB (halfN n) i tx q).getLastD [])) e] := by
  rw [pathB, if_neg (by omega), dif_neg (by simp), if_pos hi]
  simp
theorem pathB_hi {n i : Nat} (h : 2 ≤ n) (hi : ¬ i < halfN n) (tx : List UInt8) (q : List Dg) (e : Dg) : pathB n i tx (q ++ [e]) = pathB (n - halfN n) (i - halfN n) tx q ++ [nodeS e (ofU ((pathB (n - halfN n) (i - halfN n) tx q).getLastD []))] := by
  rw [pathB, if_neg (by omega), dif_neg (by simp), if_neg hi]
  simp
theorem pathB_len (m : Nat) : ∀ (p : List Dg) (n i : Nat) (tx : List UInt8), p.length ≤ m → 2 ≤ (pathB n i tx p).length ∧ (pathB n i tx p).length ≤ p.length + 2 := by
  induction m with
  | zero =>
    intro p n i tx h
    obtain rfl := List.eq_nil_of_length_eq_zero (by omega : p.length = 0)
    rw [pathB_nil]
    simp
  | succ m ih =>
    intro p n i tx h
    by_cases hn : n < 2
    · rw [pathB_one hn]; simp
    rcases List.eq_nil_or_concat p with rfl | ⟨q, e, hqe⟩
    · rw [pathB_nil]; simp
    · rw [List.concat_eq_append] at hqe
      subst hqe
      have hq : q.length ≤ m := by simp at h; omega
      by_cases hi : i < halfN n
      · rw [pathB_lo (by omega) hi]
        have := ih q (halfN n) i tx hq
        simp
        omega
      · rw [pathB_hi (by omega) hi]
        have := ih q (n - halfN n) (i - halfN n) tx hq
        simp
        omega
/-- The last string's digest is what the proof results in. -/
theorem pathB_last (m : Nat) : ∀ (p : List Dg) (n i : Nat) (tx : List UInt8), p.length ≤ m → 1 ≤ n → (resultD n i (ofU tx) p).2 = true → ofU ((pathB n i tx p).getLastD []) = (resultD n i (ofU tx) p).1 := by
  induction m with
  | zero =>
    intro p n i tx h h1 hok
    obtain rfl := List.eq_nil_of_length_eq_zero (by omega : p.length = 0)
    obtain rfl := result_nil_one hok
    rw [pathB_nil, resultD_one]
    rfl
  | succ m ih =>
    intro p n i tx h h1 hok
    by_cases hn : n = 1
    · subst hn
      rw [pathB_one (by omega), resultD_one]
      rfl
    rcases List.eq_nil_or_concat p with rfl | ⟨q, e, hqe⟩
    · exact absurd (result_nil_one hok) hn
    · rw [List.concat_eq_append] at hqe
      subst hqe
      have hq : q.length ≤ m := by simp at h; omega
      have hk0 := halfN_pos n
      have hk1 := halfN_lt (n := n) (by omega)
      by_cases hi : i < halfN n
      · rw [resultD_lo hn hi] at hok ⊢
        rw [pathB_lo (by omega) hi, List.getLastD_concat, ih q _ _ _ hq (by omega) hok]
        rfl
      · rw [resultD_hi hn hi] at hok ⊢
        rw [pathB_hi (by omega) hi, List.getLastD_concat, ih q _ _ _ hq (by omega) hok]
        rfl
/-- Two rows of strings have, at one place, two different ones with the same digest. -/
def Clash (A B : List (List UInt8)) : Prop := ∃ (k : Nat) (a b : List UInt8), A[k]? = some a ∧ B[k]? = some b ∧ a ≠ b ∧ ofU a = ofU b
theorem Clash.more {A B : List (List UInt8)} (h : Clash A B) (x y : List UInt8) : Clash (A ++ [x]) (B ++ [y]) := by
  obtain ⟨k, a, b, h1, h2, h3, h4⟩ := h
  have l1 := (List.getElem?_eq_some_iff.1 h1).1
  have l2 := (List.getElem?_eq_some_iff.1 h2).1
  exact ⟨k, a, b, by rw [List.getElem?_append_left l1]; exact h1, by rw [List.getElem?_append_left l2]; exact h2, h3, h4⟩
theorem Clash.last {A B : List (List UInt8)} (hl : A.length = B.length) {x y : List UInt8} (h : x ≠ y) (he : ofU x = ofU y) : Clash (A ++ [x]) (B ++ [y]) :=
  ⟨A.length, x, y, by simp, by rw [hl]; simp, h, he⟩
theorem path_same (m : Nat) : ∀ (p q : List Dg) (n i : Nat) (tx ty : List UInt8), p.length ≤ m → 1 ≤ n → (resultD n i (ofU tx) p).2 = true → (resultD n i (ofU ty) q).2 = true → (pathB n i tx p).length = (pathB n i ty q).length := by
  induction m with
  | zero =>
    intro p q n i tx ty h h1 hok hok'
    obtain rfl := List.eq_nil_of_length_eq_zero (by omega : p.length = 0)
    obtain rfl := result_nil_one hok
    obtain rfl := result_one_nil hok'
    rw [pathB_nil, pathB_nil]
    rfl
  | succ m ih =>
    intro p q n i tx ty h h1 hok hok'
    by_cases hn : n = 1
    · subst hn
      rw [pathB_one (by omega), pathB_one (by omega)]
      rfl
    rcases List.eq_nil_or_concat p with rfl | ⟨p, e, hqe⟩
    · exact absurd (result_nil_one hok) hn
    rcases List.eq_nil_or_concat q with rfl | ⟨q, f, hqf⟩
    · exact absurd (result_nil_one hok') hn
    rw [List.concat_eq_append] at hqe hqf
    subst hqe hqf
    have hp : p.length ≤ m := by simp at h; omega
    have hk0 := halfN_pos n
    have hk1 := halfN_lt (n := n) (by omega)
    by_cases hi : i < halfN n
    · rw [resultD_lo hn hi] at hok hok'
      rw [pathB_lo (by omega) hi, pathB_lo (by omega) hi, List.length_append, List.length_append, ih p q _ _ tx ty hp (by omega) hok hok']
      rfl
    · rw [resultD_hi hn hi] at hok hok'
      rw [pathB_hi (by omega) hi, pathB_hi (by omega) hi, List.length_append, List.length_append, ih p q _ _ tx ty hp (by omega) hok hok']
      rfl
theorem clash (m : Nat) : ∀ (p q : List Dg) (n i : Nat) (tx ty : List UInt8), p.length ≤ m → 1 ≤ n → (resultD n i (ofU tx) p).2 = true → (resultD n i (ofU ty) q).2 = true → (resultD n i (ofU tx) p).1 = (resultD n i (ofU ty) q).1 → tx ≠ ty → Clash (pathB n i tx p) (pathB n i ty q) := by
  have base : ∀ (i : Nat) (tx ty : List UInt8), (resultD 1 i (ofU tx) []).1 = (resultD 1 i (ofU ty) []).1 → tx ≠ ty → Clash (pathB 1 i tx []) (pathB 1 i ty []) := by
    intro i tx ty h hne
    rw [pathB_nil, pathB_nil]
    rw [resultD_one, resultD_one] at h
    by_cases hd : ofU tx = ofU ty
    · exact ⟨0, tx, ty, rfl, rfl, hne, hd⟩
    · exact ⟨1, _, _, rfl, rfl, fun e => hd (leafS_inj e), h⟩
  induction m with
  | zero =>
    intro p q n i tx ty h h1 hok hok' he hne
    obtain rfl := List.eq_nil_of_length_eq_zero (by omega : p.length = 0)
    obtain rfl := result_nil_one hok
    obtain rfl := result_one_nil hok'
    exact base i tx ty he hne
  | succ m ih =>
    intro p q n i tx ty h h1 hok hok' he hne
    by_cases hn : n = 1
    · subst hn
      obtain rfl := result_one_nil hok
      obtain rfl := result_one_nil hok'
      exact base i tx ty he hne
    rcases List.eq_nil_or_concat p with rfl | ⟨p, e, hqe⟩
    · exact absurd (result_nil_one hok) hn
    rcases List.eq_nil_or_concat q with rfl | ⟨q, f, hqf⟩
    · exact absurd (result_nil_one hok') hn
    rw [List.concat_eq_append] at hqe hqf
    subst hqe hqf
    have hp : p.length ≤ m := by simp at h; omega
    have hk0 := halfN_pos n
    have hk1 := halfN_lt (n := n) (by omega)
    by_cases hi : i < halfN n
    · rw [resultD_lo hn hi] at hok hok' he
      rw [resultD_lo hn hi] at he
      have L1 := pathB_last p.length p (halfN n) i tx (Nat.le_refl _) (by omega) hok
      have L2 := pathB_last q.length q (halfN n) i ty (Nat.le_refl _) (by omega) hok'
      have L3 := path_same p.length p q (halfN n) i tx ty (Nat.le_refl _) (by omega) hok hok'
      rw [pathB_lo (by omega) hi, pathB_lo (by omega) hi, L1, L2]
      by_cases hs : nodeS (resultD (halfN n) i (ofU tx) p).1 e = nodeS (resultD (halfN n) i (ofU ty) q).1 f
      · exact (ih p q (halfN n) i tx ty hp (by omega) hok hok' (nodeS_inj hs).1 hne).more _ _
      · exact Clash.last L3 hs he
    · rw [resultD_hi hn hi] at hok hok' he
      rw [resultD_hi hn hi] at he
      have L1 := pathB_last p.length p (n - halfN n) (i - halfN n) tx (Nat.le_refl _) (by omega) hok
      have L2 := pathB_last q.length q (n - halfN n) (i - halfN n) ty (Nat.le_refl _) (by omega) hok'
      have L3 := path_same p.length p q (n - halfN n) (i - halfN n) tx ty (Nat.le_refl _) (by omega) hok hok'
      rw [pathB_hi (by omega) hi, pathB_hi (by omega) hi, L1, L2]
      by_cases hs : nodeS e (resultD (n - halfN n) (i - halfN n) (ofU tx) p).1 = nodeS f (resultD (n - halfN n) (i - halfN n) (ofU ty) q).1
      · exact (ih p q (n - halfN n) (i - halfN n) tx ty hp (by omega) hok hok' (nodeS_inj hs).2 hne).more _ _
      · exact Clash.last L3 hs he

/-- The bytes of a number end where they end. -/
theorem putN_app (a : Nat) : ∀ (b : Nat) (s t : List UInt8), putN a ++ s = putN b ++ t → a = b ∧ s = t := by
  induction a using Nat.strongRecOn with
  | _ a ih =>
  intro b s t h
  by_cases ha : a < 128
  · rw [putN_lo ha] at h
    by_cases hb : b < 128
    · rw [putN_lo hb] at h
      obtain ⟨h1, h2⟩ := List.cons.inj h
      have := congrArg UInt8.toNat h1
      rw [ofNat_lo ha, ofNat_lo hb] at this
      exact ⟨this, h2⟩
    · rw [putN_hi hb] at h
      obtain ⟨h1, h2⟩ := List.cons.inj h
      have := congrArg UInt8.toNat h1
      rw [ofNat_lo ha, ofNat_hi] at this
      omega
  · rw [putN_hi ha] at h
    by_cases hb : b < 128
    · rw [putN_lo hb] at h
      obtain ⟨h1, h2⟩ := List.cons.inj h
      have := congrArg UInt8.toNat h1
      rw [ofNat_lo hb, ofNat_hi] at this
      omega
    · rw [putN_hi hb] at h
      obtain ⟨h1, h2⟩ := List.cons.inj h
      have := congrArg UInt8.toNat h1
      rw [ofNat_hi, ofNat_hi] at this
      obtain ⟨h3, h4⟩ := ih (a / 128) (by omega) (b / 128) s t h2
      exact ⟨by omega, h4⟩
theorem putT_app {l m s t : List UInt8} (h : putT l ++ s = putT m ++ t) : l = m ∧ s = t := by
  unfold putT at h
  rw [List.append_assoc, List.append_assoc] at h
  obtain ⟨h1, h2⟩ := putN_app _ _ _ _ h
  exact List.append_inj h2 h1
theorem bytes_ext {a b : ByteArray} (h : a.data.toList = b.data.toList) : a = b := by
  cases a
  cases b
  congr
  simpa using h
/-- Two valid records with the same text are one. -/
theorem recL_inj {r q : Rec} (hr : recB r = true) (hq : recB q = true) (h : recL r = recL q) : r = q := by
  obtain ⟨t, a, b, d⟩ := r
  obtain ⟨t', a', b', d'⟩ := q
  have wl : ∀ l : List UInt8, wordB l = true → l.length ≤ 65536 := fun l hl => by
    unfold wordB at hl
    simp only [Bool.and_eq_true, decide_eq_true_eq] at hl
    omega
  unfold recB at hr hq
  simp only [Bool.and_eq_true, decide_eq_true_eq] at hr hq
  obtain ⟨⟨r1, r2⟩, r3, r4, r5⟩ := hr
  obtain ⟨⟨q1, q2⟩, q3, q4, q5⟩ := hq
  have pI : ∀ n : Int, 0 ≤ n → n ≤ 1099511627776 → putI n = putN n.toNat := fun n h1 h2 => by unfold putI; rw [if_pos (by unfold putB; simp; omega)]
  have pX : ∀ l : List UInt8, l.length ≤ 65536 → putX l = putT l := fun l hl => by unfold putX; rw [if_pos hl]
  have e : putN t.toNat ++ (putT a.data.toList ++ (putT b.data.toList ++ (putT d.data.toList ++ []))) = putN t'.toNat ++ (putT a'.data.toList ++ (putT b'.data.toList ++ (putT d'.data.toList ++ []))) := by
    have := h
    unfold recL at this
    simp only at this
    rw [pI t r1 r2, pI t' q1 q2, pX _ (wl _ r3), pX _ (wl _ r4), pX d.data.toList (by simpa using r5), pX _ (wl _ q3), pX _ (wl _ q4), pX d'.data.toList (by simpa using q5)] at this
    simpa using this
  obtain ⟨e1, e⟩ := putN_app _ _ _ _ e
  obtain ⟨e2, e⟩ := putT_app e
  obtain ⟨e3, e⟩ := putT_app e
  obtain ⟨e4, e⟩ := putT_app e
  obtain rfl : t = t' := by omega
  rw [bytes_ext e2, bytes_ext e3, bytes_ext e4]
/-- Where a proof holds for another record than the ledger's, two different strings with the same digest are hashed. -/
theorem holds_clash {l : List Rec} (hc : checkL l = 0) {i : Nat} (hi : i < l.length) {r : Rec} {p : List Dg} (h : holdsB (headD l) l.length i r p = true) (hne : r ≠ l[i]) : (proveE l i).2 = 0 ∧ (pathB l.length i (recL r) p).length = (pathB l.length i (recL (l[i])) (proveE l i).1).length ∧ Clash (pathB l.length i (recL r) p) (pathB l.length i (recL (l[i])) (proveE l i).1) := by
  have hl := check_len hc
  have ⟨hp, ho⟩ := own_holds hc i hi
  have h2 : (proveE l i).2 = 0 := by rw [hp]
  have hnd : ¬ (((i : Nat) : Int) < 0 ∨ ((l.length : Nat) : Int) ≤ ((i : Nat) : Int) ∨ (10000 : Int) < ((l.length : Nat) : Int)) := by omega
  unfold holdsB at h ho
  rw [Bool.and_eq_true] at h ho
  obtain ⟨hr, hv⟩ := h
  obtain ⟨hq, hw⟩ := ho
  rw [verifyD_in _ _ _ (by omega)] at hv hw
  rw [Int.toNat_natCast, Int.toNat_natCast, Bool.and_eq_true] at hv hw
  obtain ⟨v1, v2⟩ := hv
  obtain ⟨w1, w2⟩ := hw
  have v2' := of_decide_eq_true v2
  have w2' := of_decide_eq_true w2
  have hx : recL r ≠ recL (l[i]) := fun e => hne (recL_inj hr hq e)
  exact ⟨h2, path_same p.length p _ l.length i _ _ (Nat.le_refl _) (by omega) v1 w1, clash p.length p _ l.length i _ _ (Nat.le_refl _) (by omega) v1 w1 (by rw [show (resultD l.length i (ofU (recL r)) p).1 = _ from v2', show (resultD l.length i (ofU (recL (l[i]))) (proveE l i).1).1 = _ from w2']) hx⟩
end Go.Proofs.Ytbghpjedldhnhaa

namespace Go.Proofs.Ytbghpjedldhnhaa
open Go.RowKit

def bcells (L : List (List UInt8)) : List Value := L.map fun l => .string (bstr l)
theorem bcells_append (A B : List (List UInt8)) : bcells (A ++ B) = bcells A ++ bcells B := by simp [bcells]
theorem bcells_at {L : List (List UInt8)} {k : Nat} {a : List UInt8} (h : L[k]? = some a) : (bcells L)[k]? = some (.string (bstr a)) := by simp [bcells, h]
theorem info_txt : (Try.prog.info? 9).map (fun i => (i.zero, i.size, i.bytes)) = some (some (.string ⟨#[]⟩), 1, 16) := by kernel_rfl
theorem of_b (l : List UInt8) (w : World) (hl : (bstr l).size ≤ maxLen) : Calls Try.prog 26 #[.string (bstr l)] w fun e w' => e = .returned (dv (ofU l)) ∧ Below w.heap.size w w' := by
  have h := refOf_any (bstr l) w hl
  rw [show (bstr l).data.toList = l by simp] at h
  exact h
theorem leaf_b (d : Dg) (w : World) : Calls Try.prog 29 #[dv d] w fun e w' => e = .returned (.string (bstr (leafS d))) ∧ Below w.heap.size w w' := refLeaf_any d.1 d.2 w
theorem node_b (a b : Dg) (w : World) : Calls Try.prog 25 #[dv a, dv b] w fun e w' => e = .returned (.string (bstr (nodeS a b))) ∧ Below w.heap.size w w' := refNode_any a.1 a.2 b.1 b.2 w
/-- The texts of a path are short. -/
theorem pathB_size (tx : List UInt8) (ht : (bstr tx).size ≤ maxLen) (m : Nat) : ∀ (p : List Dg) (n i : Nat), p.length ≤ m → ∀ x ∈ pathB n i tx p, (bstr x).size ≤ maxLen := by
  have hn : ∀ a b : Dg, (bstr (nodeS a b)).size ≤ maxLen := fun a b => by simp [nodeS, bytesU_length, maxLen]
  have hf : ∀ x ∈ [tx, leafS (ofU tx)], (bstr x).size ≤ maxLen := by
    intro x hx
    rcases List.mem_cons.1 hx with rfl | hx
    · exact ht
    · rw [List.mem_singleton.1 hx]
      simp [leafS, bytesU_length, maxLen]
  induction m with
  | zero =>
    intro p n i h
    obtain rfl := List.eq_nil_of_length_eq_zero (by omega : p.length = 0)
    rw [pathB_nil]
    exact hf
  | succ m ih =>
    intro p n i h
    by_cases h2 : n < 2
    · rw [pathB_one h2]
      exact hf
    rcases List.eq_nil_or_concat p with rfl | ⟨q, e, hqe⟩
    · rw [pathB_nil]
      exact hf
    · rw [List.concat_eq_append] at hqe
      subst hqe
      have hq : q.length ≤ m := by simp at h; omega
      intro x hx
      by_cases hi : i < halfN n
      · rw [pathB_lo (by omega) hi] at hx
        rcases List.mem_append.1 hx with hx | hx
        · exact ih q _ _ hq x hx
        · rw [List.mem_singleton.1 hx]
          exact hn _ _
      · rw [pathB_hi (by omega) hi] at hx
        rcases List.mem_append.1 hx with hx | hx
        · exact ih q _ _ hq x hx
        · rw [List.mem_singleton.1 hx]
          exact hn _ _

/-- What is known while two reads and a call come up in any order. -/
def RT (i j k : Nat) (X Y Z : Value) (W : World) (s : Nat → Bool) (vs : List Value) (w : World) : Prop :=
  ∃ x y z, vs = [x, y, z] ∧ Below W.heap.size W w ∧ (s i = true → x = X) ∧ (s j = true → y = Y) ∧ (s k = true → z = Z)
section
variable {i j k : Nat} {X Y Z : Value} {W w w' : World} {s : Nat → Bool} {x y z : Value}
theorem RT.start (i j k : Nat) (X Y Z : Value) (W : World) (s : Nat → Bool) (h0 : s i = false) (h1 : s j = false) (h2 : s k = false) : RT i j k X Y Z W s [undef, undef, undef] W.drew :=
  ⟨_, _, _, rfl, (Below.refl _ _).drew, fun h => (by rw [h0] at h; cases h), fun h => (by rw [h1] at h; cases h), fun h => (by rw [h2] at h; cases h)⟩
theorem RT.one (h : RT i j k X Y Z W s [x, y, z] w) (hj : j ≠ i) (hk : k ≠ i) : RT i j k X Y Z W (upd s i) [X, y, z] w := by
  obtain ⟨_, _, _, e, h0, h1, h2, h3⟩ := h
  cases e
  exact ⟨_, _, _, rfl, h0, fun _ => rfl, fun h => h2 (by rwa [upd_ne _ hj] at h), fun h => h3 (by rwa [upd_ne _ hk] at h)⟩
theorem RT.two (h : RT i j k X Y Z W s [x, y, z] w) (hi : i ≠ j) (hk : k ≠ j) (hb : Below w.heap.size w w') : RT i j k X Y Z W (upd s j) [x, Y, z] w' := by
  obtain ⟨_, _, _, e, h0, h1, h2, h3⟩ := h
  cases e
  exact ⟨_, _, _, rfl, h0.trans (hb.mono h0.size), fun h => h1 (by rwa [upd_ne _ hi] at h), fun _ => rfl, fun h => h3 (by rwa [upd_ne _ hk] at h)⟩
theorem RT.three (h : RT i j k X Y Z W s [x, y, z] w) (hi : i ≠ k) (hj : j ≠ k) : RT i j k X Y Z W (upd s k) [x, y, Z] w := by
  obtain ⟨_, _, _, e, h0, h1, h2, h3⟩ := h
  cases e
  exact ⟨_, _, _, rfl, h0, fun h => h1 (by rwa [upd_ne _ hi] at h), fun h => h2 (by rwa [upd_ne _ hj] at h), fun _ => rfl⟩
end

end Go.Proofs.Ytbghpjedldhnhaa

namespace Go.Proofs.Ytbghpjedldhnhaa
open Go.RowKit

theorem info_rec : (Try.prog.info? 36).map (fun i => (i.zero, i.size, i.bytes)) = some (some (.agg #[.int .i64 0, .string ⟨#[]⟩, .string ⟨#[]⟩, .string ⟨#[]⟩]), 4, 56) := by kernel_rfl
theorem rcells_one (l : List Rec) : ∀ u ∈ rcells l, u.oneCell' = true := by
  intro u hu
  simp only [rcells, List.mem_flatMap] at hu
  obtain ⟨r, _, hu⟩ := hu
  simp only [List.mem_cons, List.not_mem_nil, or_false] at hu
  rcases hu with rfl | rfl | rfl | rfl <;> rfl

/-- 'append(out, xs..)', xs what a slice value reads as. -/
theorem wpList_append_slg {P : Program} {ops : Array Oper} {rest : List Oper} {o : Oper} {a : Act} {Q : Exit → Act → World → Prop} {w : World} (hgd : o.guard = none) (s x : Operand) (t : TypeId)
    (ho : o.op = .call { callee := .builtin .append, args := #[s, x], argTypes := #[t, t] })
    (base : Nat) (e : TypeId) (z : Value) (size bytes : Nat) (hinfo : (P.info? e).map (fun i => (i.zero, i.size, i.bytes)) = some (some z, size, bytes)) (ht : P.underlying t = some (.slice e)) (hzs : z.cells.size = size) (hsz : 0 < size)
    (v : Value) (n : Nat) (xs : List Value) (hown : w.ownsRow base e size v n xs) (hs : a.eval s = v)
    (ao : Option Addr) (m c : Nat) (us : List Value) (hx : a.eval x = .slice ao m c) (hsl : Sl w size ao m us) (hz : ao = none → c = 0) (h1 : ∀ u ∈ us, u.oneCell' = true)
    (h63 : n + m ≤ maxLen) (hbytes : (n + m) * bytes ≤ 140737488355328) (hbase : base ≤ w.heap.size)
    (h : ∀ v' w', w'.ownsRow base e size v' (n + m) (xs ++ us) → Below base w w' → w.grownBy w' v.ownBlock → wpList P ops Q rest (a.put o.dst v') w') : wpList P ops Q (o :: rest) a w := by
  obtain ⟨i, hi, hz0, hz1, hz2⟩ := info_parts hinfo
  cases ao with
  | none =>
    obtain rfl := hz rfl
    obtain rfl : m = 0 := by
      rcases hsl.2 with h0 | ⟨b, o, e', _⟩
      · exact h0
      · cases e'
    obtain rfl : us = [] := List.eq_nil_of_length_eq_zero (by rw [hsl.1]; simp)
    refine wpList_append_own_none hgd s x t ho base e i size ht hi v n xs hs hown hx ?_
    exact h v w (by simpa using hown) (Below.refl _ _) ⟨rfl, rfl, rfl, Nat.le_refl _, fun _ _ _ => rfl⟩
  | some ad =>
    refine wpList_append_own _ hgd s x t ho base e i z size bytes ht hi hz0 hz1 hz2 hzs hsz v n xs hs hown ad m c us hx hsl.1 ?_ h1 h63 hbytes hbase ?_
    · intro j u hu
      rcases hsl.2 with h0 | ⟨b, o', e', hlt, hc⟩
      · have := hsl.1
        rw [h0, Nat.zero_mul] at this
        rw [List.eq_nil_of_length_eq_zero this] at hu
        simp at hu
      · cases e'
        rw [Addr.add_lit]
        exact hc j u hu
    · intro v' w' hown' hg hn
      exact h v' w' hown' ((Below.refl _ _).grown hg hbase (fun k hk => ownsRow_row hown k hk)) hg

theorem wpList_append_sl {P : Program} {ops : Array Oper} {rest : List Oper} {o : Oper} {a : Act} {Q : Exit → Act → World → Prop} {w : World} (hgd : o.guard = none) (s x : Operand) (t : TypeId)
    (ho : o.op = .call { callee := .builtin .append, args := #[s, x], argTypes := #[t, t] })
    (base : Nat) (e : TypeId) (z : Value) (size bytes : Nat) (hinfo : (P.info? e).map (fun i => (i.zero, i.size, i.bytes)) = some (some z, size, bytes)) (ht : P.underlying t = some (.slice e)) (hzs : z.cells.size = size) (hsz : 0 < size)
    (v : Value) (n : Nat) (xs : List Value) (hown : w.ownsRow base e size v n xs) (hs : a.eval s = v)
    (ao : Option Addr) (m c : Nat) (us : List Value) (hx : a.eval x = .slice ao m c) (hsl : Sl w size ao m us) (hz : ao = none → c = 0) (h1 : ∀ u ∈ us, u.oneCell' = true)
    (h63 : n + m ≤ maxLen) (hbytes : (n + m) * bytes ≤ 140737488355328) (hbase : base ≤ w.heap.size)
    (h : ∀ v' w', w'.ownsRow base e size v' (n + m) (xs ++ us) → Below base w w' → wpList P ops Q rest (a.put o.dst v') w') : wpList P ops Q (o :: rest) a w := by
  exact wpList_append_slg hgd s x t ho base e z size bytes hinfo ht hzs hsz v n xs hown hs ao m c us hx hsl hz h1 h63 hbytes hbase fun v' w' p q _ => h v' w' p q

theorem run_eql_slice_nil' {P : Program} (w : World) (t e : TypeId) (a : Option Addr) (n c n' c' : Nat) (h : P.underlying t = some (.slice e)) :
    (binOp .eql t (.slice a n c) (.slice none n' c')).run P w = .ok (.bool a.isNone) w := by
  simp only [binOp]
  simp [Op.equal, Op.maxDepth, Lib.run_equalIn_slice_nil w 9999 t e a n c n' c' h]

set_option maxRecDepth 100000 in
set_option maxHeartbeats 4000000 in
theorem Clone_any (l : List Rec) (n cap : Nat) (ao : Option Addr) (w : World) (h : LedA w ao n cap l) (hz : ao = none → cap = 0) (hn : n ≤ 10000) :
    Calls Try.prog 36 #[.slice ao n cap] w fun e w' => ∃ v', e = .returned v' ∧ w'.ownsRow w.heap.size 36 4 v' n (rcells l) ∧ Below w.heap.size w w' := by
  cases ao with
  | none =>
    obtain rfl := hz rfl
    obtain rfl : n = 0 := by
      rcases h.sl.2 with h0 | ⟨b, o, e', _⟩
      · exact h0
      · cases e'
    obtain rfl : l = [] := List.eq_nil_of_length_eq_zero h.len
    clear h hz hn
    go_enter Try.func36, Try.ntmps36
    go_wp2_with fail
    rw [run_eql_slice_nil' _ _ _ _ _ _ _ _ Try.underlying22]
    go_wp2_with fail
    go_ret
    exact ⟨_, rfl, World.ownsRow_nil _ _ _ _, Below.refl _ _⟩
  | some a =>
    have HA := lid h
    clear h hz
    go_enter Try.func36, Try.ntmps36
    go_wp2_with fail
    rw [run_eql_slice_nil' _ _ _ _ _ _ _ _ Try.underlying22]
    go_wp2_with (at_builtin; go_must (refine wpList_append_sl rfl _ _ 22 rfl w.heap.size 36 (.agg #[.int .i64 0, .string ⟨#[]⟩, .string ⟨#[]⟩, .string ⟨#[]⟩]) 4 56 info_rec Try.underlying22 rfl (by decide) _ 0 [] (World.ownsRow_lit w #[] 0 (Nat.le_refl _) (by simp [maxLen]) rfl) rfl (some a) n cap (rcells l) rfl (HA.out.below (ba _ _)).sl (by intro h; cases h) (rcells_one l) (by simp [maxLen]; omega) (by omega) (by simp) ?_))
    intro v5 w5 hown5 hb5
    go_wp2_with fail
    go_ret
    refine ⟨_, rfl, ?_, (ba _ _).trans hb5⟩
    simpa using hown5

/-- Is the record older than the ledger's last? -/
def lateB (l : List Rec) (r : Rec) : Bool := match l.getLast? with | some q => decide (r.1 < q.1) | none => false
/-- The ledger with a record more. -/
def appE (l : List Rec) (r : Rec) : List Rec × Int :=
  if checkL l = 0 then (if recB r = true then (if lateB l r = true then ([], 10) else if l.length = 10000 then ([], 19) else (l ++ [r], 0)) else ([], 1)) else ([], checkL l)
theorem appE_bad {l : List Rec} {r : Rec} (h : ¬ checkL l = 0) : appE l r = ([], checkL l) := by unfold appE; rw [if_neg h]
theorem appE_rec {l : List Rec} {r : Rec} (h : checkL l = 0) (hr : recB r = false) : appE l r = ([], 1) := by unfold appE; rw [if_pos h, if_neg (by simp [hr])]
theorem appE_late {l : List Rec} {r : Rec} (h : checkL l = 0) (hr : recB r = true) (hl : lateB l r = true) : appE l r = ([], 10) := by unfold appE; rw [if_pos h, if_pos hr, if_pos hl]
theorem appE_full {l : List Rec} {r : Rec} (h : checkL l = 0) (hr : recB r = true) (hl : lateB l r = false) (hf : l.length = 10000) : appE l r = ([], 19) := by unfold appE; rw [if_pos h, if_pos hr, if_neg (by simp [hl]), if_pos hf]
theorem appE_good {l : List Rec} {r : Rec} (h : checkL l = 0) (hr : recB r = true) (hl : lateB l r = false) (hf : ¬ l.length = 10000) : appE l r = (l ++ [r], 0) := by unfold appE; rw [if_pos h, if_pos hr, if_neg (by simp [hl]), if_neg hf]
theorem lateB_nil {l : List Rec} (r : Rec) (h : l.length = 0) : lateB l r = false := by
  obtain rfl := List.eq_nil_of_length_eq_zero h
  rfl
theorem lateB_some {l : List Rec} (r : Rec) {m : Nat} (h : l.length = m + 1) (hm : m < l.length) : lateB l r = decide (r.1 < (l[m]).1) := by
  unfold lateB
  rw [List.getLast?_eq_getElem?, h, Nat.add_sub_cancel, List.getElem?_eq_getElem hm]

/-- A ledger and an errno that come back. -/
def LedR (x : List Rec × Int) (w : World) (e : Ending) (w' : World) : Prop :=
  ∃ ao' n' cap', e = .returned (.tuple #[.agg #[.slice ao' n' cap'], .int .i64 x.2]) ∧ n' ≤ cap' ∧ LedA w' ao' n' cap' x.1 ∧ Below w.heap.size w w'
theorem LedR.empty {w w' : World} {c : Int} {x : List Rec × Int} (hx : x = ([], c)) (hb : Below w.heap.size w w') : LedR x w (.returned (.tuple #[.agg #[.slice none 0 0], .int .i64 c])) w' := by
  subst hx
  exact ⟨none, 0, 0, rfl, Nat.le_refl _, ⟨rfl, Sl.nil, (by intro r hr; cases hr), by simp [maxLen]⟩, hb⟩
/-- The same; the records lie in new memory. -/
def LedR2 (x : List Rec × Int) (w : World) (e : Ending) (w' : World) : Prop :=
  ∃ ao' n' cap', e = .returned (.tuple #[.agg #[.slice ao' n' cap'], .int .i64 x.2]) ∧ n' ≤ cap' ∧ LedA w' ao' n' cap' x.1 ∧ Below w.heap.size w w' ∧ ∀ q, ao' = some q → w.heap.size ≤ q.block
theorem LedR2.empty {w w' : World} {c : Int} {x : List Rec × Int} (hx : x = ([], c)) (hb : Below w.heap.size w w') : LedR2 x w (.returned (.tuple #[.agg #[.slice none 0 0], .int .i64 c])) w' := by
  subst hx
  exact ⟨none, 0, 0, rfl, Nat.le_refl _, ⟨rfl, Sl.nil, (by intro r hr; cases hr), by simp [maxLen]⟩, hb, fun q h => by cases h⟩
/-- The results as read. -/
theorem res_led {fn : Func} (hf : fn.results = #[.cell 4 26, .tmp 5]) (t : Array Value) (w : World) (k : Nat) (ao : Option Addr) (n cap : Nat) (c : Int) (h4 : t.getD 4 undef = .pointer (some ⟨k, 0, none⟩)) (h5 : t.getD 5 undef = .int .i64 c)
    (e0 : w.cell? ⟨k, 0, none⟩ = some (.slice ao n cap)) : (results fn t).run Try.prog w = .ok (.tuple #[.agg #[.slice ao n cap], .int .i64 c]) w := by
  rw [Array.getD_eq_getD_getElem?] at h4 h5
  unfold results
  rw [hf]
  simp [go_sem, h4, h5, e0, asAddr]

/-- What is known while the records are cloned and the new one is laid, in any order. -/
def RA (i j B0 : Nat) (W : World) (n : Nat) (xs : List Value) (us : Array Value) (s : Nat → Bool) (vs : List Value) (w : World) : Prop :=
  ∃ x y, vs = [x, y] ∧ Below B0 W w ∧ (s i = true → w.ownsRow B0 36 4 x n xs) ∧ (s j = true → ∃ k, y = .slice (some ⟨k, 0, none⟩) 1 1 ∧ B0 ≤ k ∧ w.heap[k]? = some (.cells us 36 (0, 0)))
section
variable {i j B0 : Nat} {W w w' : World} {n : Nat} {xs : List Value} {us : Array Value} {s : Nat → Bool} {x y : Value}
theorem RA.start (i j B0 : Nat) (W : World) (n : Nat) (xs : List Value) (us : Array Value) (s : Nat → Bool) (hi : s i = false) (hj : s j = false) : RA i j B0 W n xs us s [undef, undef] W.drew :=
  ⟨_, _, rfl, (Below.refl _ _).drew, fun h => (by rw [hi] at h; cases h), fun h => (by rw [hj] at h; cases h)⟩
theorem RA.clone (h : RA i j B0 W n xs us s [x, y] w) (hij : j ≠ i) (hB : B0 ≤ w.heap.size) {v' : Value} (hown : w'.ownsRow w.heap.size 36 4 v' n xs) (hb : Below w.heap.size w w') : RA i j B0 W n xs us (upd s i) [v', y] w' := by
  obtain ⟨_, _, e, h0, h1, h2⟩ := h
  cases e
  refine ⟨_, _, rfl, h0.trans (hb.mono hB), fun _ => ownsRow_base hown hB, fun hs => ?_⟩
  obtain ⟨k, e, hk, hc⟩ := h2 (by rwa [upd_ne _ hij] at hs)
  exact ⟨k, e, hk, (hb.block k (Array.getElem?_eq_some_iff.1 hc).1).trans hc⟩
theorem RA.lay (h : RA i j B0 W n xs us s [x, y] w) (hij : i ≠ j) (hB : B0 ≤ w.heap.size) : RA i j B0 W n xs us (upd s j) [x, .slice (some ⟨w.heap.size, 0, none⟩) 1 1] (w.alloc (.cells us 36)) := by
  obtain ⟨_, _, e, h0, h1, h2⟩ := h
  cases e
  refine ⟨_, _, rfl, h0.trans ((ba _ _).mono hB), fun hs => ownsRow_below (h1 (by rwa [upd_ne _ hij] at hs)) (ba _ _), fun _ => ⟨_, rfl, hB, heap_alloc_new w _⟩⟩
end
/-- The same for the reference: the empty slice, its copy, the new record. -/
def RB (B0 : Nat) (W : World) (n : Nat) (xs : List Value) (us : Array Value) (s : Nat → Bool) (vs : List Value) (w : World) : Prop :=
  ∃ x y z, vs = [x, y, z] ∧ Below B0 W w ∧ (s 0 = true → s 3 = false → ∃ k, x = .slice (some ⟨k, 0, none⟩) 0 0 ∧ B0 ≤ k ∧ w.heap[k]? = some (.cells #[] 36 (0, 0))) ∧ (s 3 = true → w.ownsRow B0 36 4 y n xs) ∧ (s 5 = true → ∃ k, z = .slice (some ⟨k, 0, none⟩) 1 1 ∧ B0 ≤ k ∧ w.heap[k]? = some (.cells us 36 (0, 0)))
section
variable {B0 : Nat} {W w w' : World} {n : Nat} {xs : List Value} {us : Array Value} {s : Nat → Bool} {x y z : Value}
theorem RB.start (B0 : Nat) (W : World) (n : Nat) (xs : List Value) (us : Array Value) (s : Nat → Bool) (h0 : s 0 = false) (h3 : s 3 = false) (h5 : s 5 = false) : RB B0 W n xs us s [undef, undef, undef] W.drew :=
  ⟨_, _, _, rfl, (Below.refl _ _).drew, fun h => (by rw [h0] at h; cases h), fun h => (by rw [h3] at h; cases h), fun h => (by rw [h5] at h; cases h)⟩
theorem RB.empty (h : RB B0 W n xs us s [x, y, z] w) (hB : B0 ≤ w.heap.size) : RB B0 W n xs us (upd s 0) [.slice (some ⟨w.heap.size, 0, none⟩) 0 0, y, z] (w.alloc (.cells #[] 36)) := by
  obtain ⟨_, _, _, e, h0, h1, h2, h3⟩ := h
  cases e
  refine ⟨_, _, _, rfl, h0.trans ((ba _ _).mono hB), fun _ _ => ⟨_, rfl, hB, heap_alloc_new w _⟩, fun hs => ownsRow_below (h2 (by rwa [upd_ne _ (by decide)] at hs)) (ba _ _), fun hs => ?_⟩
  obtain ⟨k, e, hk, hc⟩ := h3 (by rwa [upd_ne _ (by decide)] at hs)
  exact ⟨k, e, hk, ((ba w _).block k (Array.getElem?_eq_some_iff.1 hc).1).trans hc⟩
theorem RB.copy {k : Nat} (h : RB B0 W n xs us s [.slice (some ⟨k, 0, none⟩) 0 0, y, z] w) (hu : us.size = 4) (hk : w.heap[k]? = some (.cells #[] 36 (0, 0))) {v' : Value} (hown : w'.ownsRow B0 36 4 v' n xs) (hg : w.grownBy w' (some k)) (hb : Below B0 w w') : RB B0 W n xs us (upd s 3) [.slice (some ⟨k, 0, none⟩) 0 0, v', z] w' := by
  obtain ⟨_, _, _, e, h0, h1, h2, h3⟩ := h
  cases e
  refine ⟨_, _, _, rfl, h0.trans hb, fun _ hs => (by rw [upd_same] at hs; cases hs), fun _ => hown, fun hs => ?_⟩
  obtain ⟨q, e, hq, hc⟩ := h3 (by rwa [upd_ne _ (by decide)] at hs)
  refine ⟨q, e, hq, (hg.block q (Array.getElem?_eq_some_iff.1 hc).1 (fun e2 => ?_)).trans hc⟩
  cases e2
  rw [hk] at hc
  cases hc
  simp at hu
theorem RB.lay (h : RB B0 W n xs us s [x, y, z] w) (hB : B0 ≤ w.heap.size) : RB B0 W n xs us (upd s 5) [x, y, .slice (some ⟨w.heap.size, 0, none⟩) 1 1] (w.alloc (.cells us 36)) := by
  obtain ⟨_, _, _, e, h0, h1, h2, h3⟩ := h
  cases e
  refine ⟨_, _, _, rfl, h0.trans ((ba _ _).mono hB), fun hs ht => ?_, fun hs => ownsRow_below (h2 (by rwa [upd_ne _ (by decide)] at hs)) (ba _ _), fun _ => ⟨_, rfl, hB, heap_alloc_new w _⟩⟩
  obtain ⟨k, e, hk, hc⟩ := h1 (by rwa [upd_ne _ (by decide)] at hs) (by rwa [upd_ne _ (by decide)] at ht)
  exact ⟨k, e, hk, ((ba w _).block k (Array.getElem?_eq_some_iff.1 hc).1).trans hc⟩
theorem own_empty {k : Nat} (h : w.heap[k]? = some (.cells #[] 36 (0, 0))) (hk : B0 ≤ k) : w.ownsRow B0 36 4 (.slice (some ⟨k, 0, none⟩) 0 0) 0 [] :=
  ⟨rfl, .inr ⟨k, 0, #[], rfl, hk, h, Nat.le_refl _, by simp [maxLen], rfl, rfl⟩⟩
end
theorem sl_one {w : World} {k : Nat} {us : Array Value} {t : TypeId} (h : w.heap[k]? = some (.cells us t (0, 0))) (hu : us.size = 4) : Sl w 4 (some ⟨k, 0, none⟩) 1 us.toList := by
  refine ⟨by simpa using hu, .inr ⟨k, 0, rfl, (Array.getElem?_eq_some_iff.1 h).1, fun j u hu => ?_⟩⟩
  rw [Nat.zero_add, cell_of_row _ _ _ _ _ _ h]
  simpa using hu
theorem led_set {w : World} {base X : Nat} {n cap cap' : Nat} {ao : Option Addr} {l : List Rec} {u : Value} (h : w.ownsRow base 36 4 (.slice ao n cap) n (rcells l)) (hA : LedA w ao n cap' l) (hX : X < base) : LedA (w.setCell ⟨X, 0, none⟩ u) ao n cap' l := by
  refine ⟨hA.len, ⟨hA.sl.1, ?_⟩, hA.sizes, hA.max⟩
  rcases h.2 with ⟨e, h0⟩ | ⟨g, c, cur, e, hg, hb, _⟩
  · exact .inl h0
  · rcases hA.sl.2 with h0 | ⟨b, o, e1, hlt, hc⟩
    · exact .inl h0
    · refine .inr ⟨b, o, e1, by rw [World.size_setCell]; exact hlt, fun j u hu => ?_⟩
      have : b = g := by rw [e1] at e; cases e; rfl
      rw [World.cell?_setCell_other _ _ _ _ (by intro e2; have := congrArg Addr.block e2; simp at this; omega)]
      exact hc j u hu
theorem led_grown {w : World} {base : Nat} {v : Value} {n : Nat} {l : List Rec} (h : w.ownsRow base 36 4 v n (rcells l)) (hl : l.length = n) (hr : ∀ r ∈ l, RecS r) : ∃ ao cap, v = .slice ao n cap ∧ n ≤ cap ∧ LedA w ao n cap l := by
  obtain ⟨ao, cap, e, h1, h2, h3⟩ := Sl.of_own h
  exact ⟨ao, cap, e, h1, ⟨hl, h3, hr, Nat.le_trans h1 h2⟩⟩

set_option maxRecDepth 100000 in
set_option maxHeartbeats 16000000 in
theorem Append_own (l : List Rec) (r : Rec) (n cap : Nat) (ao : Option Addr) (w : World) (h : LedA w ao n cap l) (hz : ao = none → cap = 0) (hr : RecS r) :
    Calls Try.prog 18 #[.agg #[.slice ao n cap], rv r] w fun e w' => LedR2 (appE l r) w e w' := by
  obtain ⟨t, a, b, d⟩ := r
  have HN := lid h.len
  have hnm : n ≤ 9223372036854775807 := h.max
  have HZ := lid hz
  have HRS := lid hr
  obtain ⟨W, hW⟩ : ∃ W, ((w.alloc (Obj.cells #[.slice ao n cap] 26)).alloc (Obj.cells #[.int .i64 t, .string a, .string b, .string d] 36)).alloc (Obj.cells #[.slice none 0 0] 26) = W := ⟨_, rfl⟩
  have hw0 : Below w.heap.size w W := by rw [← hW]; exact (((Below.refl _ _).alloc (Nat.le_refl _) _).alloc (by simp) _).alloc (by simp <;> omega) _
  have q0 : W.cell? ⟨w.heap.size, 0, none⟩ = some (.slice ao n cap) := by rw [← hW, cell_old_at (by simp <;> omega), cell_old_at (by simp), cell_new_at rfl]; rfl
  have r0 : W.cell? ⟨w.heap.size + 1, 0, none⟩ = some (.int .i64 t) := by rw [← hW, cell_old_at (by simp), cell_new_at (by simp)]; rfl
  have r1 : W.cell? ⟨w.heap.size + 1, 1, none⟩ = some (.string a) := by rw [← hW, cell_old_at (by simp), cell_new_at (by simp)]; rfl
  have r2 : W.cell? ⟨w.heap.size + 1, 2, none⟩ = some (.string b) := by rw [← hW, cell_old_at (by simp), cell_new_at (by simp)]; rfl
  have r3 : W.cell? ⟨w.heap.size + 1, 3, none⟩ = some (.string d) := by rw [← hW, cell_old_at (by simp), cell_new_at (by simp)]; rfl
  have B0 : Boxed W (w.heap.size + 2) 26 (.slice none 0 0) := by
    rw [← hW]
    have := Boxed.new ((w.alloc (Obj.cells #[.slice ao n cap] 26)).alloc (Obj.cells #[.int .i64 t, .string a, .string b, .string d] 36)) 26 (.slice none 0 0)
    rw [World.size_alloc, World.size_alloc] at this
    exact this
  have hsz : w.heap.size + 3 = W.heap.size := by rw [← hW, World.size_alloc, World.size_alloc, World.size_alloc]
  have HW := lid hW
  have HA := lid (h.below hw0)
  clear hW h hz hr
  have m0 : w.heap.size < W.heap.size := by omega
  have m1 : w.heap.size + 1 < W.heap.size := by omega
  have m2 : w.heap.size + 2 < W.heap.size := by omega
  have CC := lid (fun w' (hb : Below W.heap.size W w') => Check_any l n cap ao w' HA.out.len (HA.out.below hb).sl HA.out.sizes HA.out.max)
  go_enter Try.func18, Try.ntmps18
  go_wp2_with fail
  rw [HW.out]
  clear HW
  (with_reducible refine (CC.out _ (Below.refl _ _)).mono ?_); rintro e w2 ⟨rfl, hb2⟩
  have hw2 := hw0.trans (hb2.mono hw0.size)
  have B2 := lid (Boxed.below B0 hb2 m2)
  replace q0 := (bc hb2 m0 0).trans q0
  replace r0 := (bc hb2 m1 0).trans r0
  replace r1 := (bc hb2 m1 1).trans r1
  replace r2 := (bc hb2 m1 2).trans r2
  replace r3 := (bc hb2 m1 3).trans r3
  replace m0 : w.heap.size < w2.heap.size := by have := hb2.size; omega
  replace m1 : w.heap.size + 1 < w2.heap.size := by have := hb2.size; omega
  replace m2 : w.heap.size + 2 < w2.heap.size := by have := hb2.size; omega
  replace HA := lid (HA.out.below hb2)
  clear CC hb2 hw0 B0 hsz
  by_cases hc : checkL l = 0
  · have HC := lid hc
    rw [hc]
    clear hc
    go_wp2_with fail
    (with_reducible refine (validRecord_any (t, a, b, d) _ HRS.out).mono ?_); rintro e w3 ⟨rfl, hb3⟩
    have hw3 := hw2.trans (hb3.mono hw2.size)
    have BX := lid (Boxed.below B2.out hb3 m2)
    replace q0 := (bc hb3 m0 0).trans q0
    replace r0 := (bc hb3 m1 0).trans r0
    replace r1 := (bc hb3 m1 1).trans r1
    replace r2 := (bc hb3 m1 2).trans r2
    replace r3 := (bc hb3 m1 3).trans r3
    have k0 : w.heap.size < w3.heap.size := by have := hb3.size; omega
    have k1 : w.heap.size + 1 < w3.heap.size := by have := hb3.size; omega
    have k2 : w.heap.size + 2 < w3.heap.size := by have := hb3.size; omega
    replace HA := lid (HA.out.below hb3)
    clear m0 m1 m2 B2 hb3 hw2
    cases hB : recB (t, a, b, d) with
    | false =>
      have HV := lid (appE_rec HC.out hB)
      clear hB
      have B3 : Boxed w3 (w.heap.size + 2) 26 (.slice none 0 0) := BX.out
      have y0 := B3.cell
      have f0 := B3.frozen
      clear q0 r0 r1 r2 r3
      go_wp2_with fail
      refine bodyPost_ret (v := .tuple #[.agg #[.slice none 0 0], .int .i64 1]) (res_led Try.results18 _ _ (w.heap.size + 2) _ _ _ _ rfl rfl ((B3.set _).cell)) rfl (LedR2.empty HV.out ?_)
      exact hw3.setCell (p := ⟨w.heap.size + 2, 0, none⟩) (by show w.heap.size ≤ w.heap.size + 2; omega) _
    | true =>
      have HB := lid hB
      clear hB
      cases n with
      | zero =>
        have HLT := lid (lateB_nil (t, a, b, d) HN.out)
        have HV := lid (appE_good HC.out HB.out HLT.out (by rw [HN.out]; decide))
        go_wp2_with fail
        refine wp_region_seq (fun w' => ∃ s : Since w3.heap.size w3, w' = s.world) [(0, true), (1, true), (2, true), (3, true), (4, true), (5, true), (6, true), (7, true), (8, true), (9, true), (10, true), (11, true), (12, true), (13, true), (14, false)] (by kernel_rfl) (by kernel_rfl) (by intro c d v a w h; cases d <;> exact h) (since (Below.refl _ _).drew) ?_
        repeat (first | (refine seq_skip (by rfl) (by rfl) ?_; simp only [Act.put, List.setIfInBounds_toArray, List.set_cons_succ, List.set_cons_zero]) | (refine seq_float (by rfl) (by rfl) (by rfl) ?_; intro K hK; go_big_quiet_op; go_big_quiet_on))
        refine seq_chain (by rfl) ?_
        intro K hK
        go_wp2_with fail
        refine hK.out _ _ (since (Below.refl _ _).drew) ?_
        clear hK K
        repeat (first | (refine seq_skip (by rfl) (by rfl) ?_; simp only [Act.put, List.setIfInBounds_toArray, List.set_cons_succ, List.set_cons_zero]) | (refine seq_float (by rfl) (by rfl) (by rfl) ?_; intro K hK; go_big_quiet_op; go_big_quiet_on))
        refine seq_nil ?_
        obtain ⟨W4, hW4⟩ : ∃ W4, w3.drew = W4 := ⟨_, rfl⟩
        have hw4 : Below w.heap.size w W4 := by rw [← hW4]; exact hw3.drew
        have BX := lid (show Boxed W4 (w.heap.size + 2) 26 (.slice none 0 0) by rw [← hW4]; exact BX.out)
        replace q0 : W4.cell? ⟨w.heap.size, 0, none⟩ = some (.slice ao 0 cap) := by rw [← hW4]; exact q0
        replace r0 : W4.cell? ⟨w.heap.size + 1, 0, none⟩ = some (.int .i64 t) := by rw [← hW4]; exact r0
        replace r1 : W4.cell? ⟨w.heap.size + 1, 1, none⟩ = some (.string a) := by rw [← hW4]; exact r1
        replace r2 : W4.cell? ⟨w.heap.size + 1, 2, none⟩ = some (.string b) := by rw [← hW4]; exact r2
        replace r3 : W4.cell? ⟨w.heap.size + 1, 3, none⟩ = some (.string d) := by rw [← hW4]; exact r3
        replace k0 : w.heap.size < W4.heap.size := by rw [← hW4]; exact k0
        replace k1 : w.heap.size + 1 < W4.heap.size := by rw [← hW4]; exact k1
        replace k2 : w.heap.size + 2 < W4.heap.size := by rw [← hW4]; exact k2
        replace HA : Hid (LedA W4 ao 0 cap l) := lid (by rw [← hW4]; exact HA.out.below (Below.refl _ _).drew)
        rw [hW4]
        clear hW4 hw3
        have hn10 : 0 ≤ 10000 := by have := check_len HC.out; rw [HN.out] at this; exact this
        go_wp2_with fail
        have c0 := SinceX.cell (B := W4.heap.size) (X := w.heap.size + 2) (W := W4) w.heap.size 0 k0 (by omega) q0
        have d0 := SinceX.cell (B := W4.heap.size) (X := w.heap.size + 2) (W := W4) (w.heap.size + 1) 0 k1 (by omega) r0
        have d1 := SinceX.cell (B := W4.heap.size) (X := w.heap.size + 2) (W := W4) (w.heap.size + 1) 1 k1 (by omega) r1
        have d2 := SinceX.cell (B := W4.heap.size) (X := w.heap.size + 2) (W := W4) (w.heap.size + 1) 2 k1 (by omega) r2
        have d3 := SinceX.cell (B := W4.heap.size) (X := w.heap.size + 2) (W := W4) (w.heap.size + 1) 3 k1 (by omega) r3
        clear q0 r0 r1 r2 r3
        have CL := lid (fun w1 (hb : Below W4.heap.size W4 w1) => Clone_any l 0 cap ao w1 (HA.out.below hb) HZ.out hn10)
        refine wp_region_mix (fun w' => ∃ s : SinceX W4.heap.size (w.heap.size + 2) W4, w' = s.world) [(0, true), (1, true), (3, true)] [(2, []), (4, [])] [(5, false), (6, true), (7, false), (8, false)] (by kernel_rfl) (by kernel_rfl) (by intro c d v a w h; cases d <;> exact h) (sincex (KeptX.refl _ _ _).drew) ?_
        repeat (first | (refine seq_skip (by rfl) (by rfl) ?_; simp only [Act.put, List.setIfInBounds_toArray, List.set_cons_succ, List.set_cons_zero]) | (refine seq_float (by rfl) (by rfl) (by rfl) ?_; intro K hK; go_big_quiet_op; go_big_quiet_on))
        refine seq_nil (mix_go [44, 46] [undef, undef] (RA 2 4 W4.heap.size W4 0 (rcells l) #[.int .i64 t, .string a, .string b, .string d]) rfl (by simp only [putAll, Act.put, List.setIfInBounds_toArray, List.set_cons_succ, List.set_cons_zero]) (fun s h => RA.start _ _ _ _ _ _ _ s (h (2, []) (by simp)) (h (4, []) (by simp))) ⟨?_, ?_, trivial⟩ ?_)
        · intro s vs w1 _ _ _ _ hR
          have hR' := lid hR
          obtain ⟨x, y, rfl, hB1, hx, hy⟩ := hR
          simp only [putAll, Act.put, List.setIfInBounds_toArray, List.set_cons_succ, List.set_cons_zero]
          refine mix_op (by rfl) ?_
          intro K hK
          go_wp2_with fail
          (with_reducible refine (CL.out _ hB1).mono ?_); rintro e w2 ⟨v', rfl, hown, hb2⟩
          go_wp2_with fail
          exact hK.out _ _ ⟨sincex ((KeptX.refl _ _ _).below (hB1.trans (hb2.mono hB1.size))), [v', y], rfl, by simp only [putAll, Act.put, List.setIfInBounds_toArray, List.set_cons_succ, List.set_cons_zero], hR'.out.clone (by decide) hB1.size hown hb2⟩
        · intro s vs w1 _ _ _ _ hR
          have hR' := lid hR
          obtain ⟨x, y, rfl, hB1, hx, hy⟩ := hR
          simp only [putAll, Act.put, List.setIfInBounds_toArray, List.set_cons_succ, List.set_cons_zero]
          refine mix_op (by rfl) ?_
          intro K hK
          go_wp2_with fail
          exact hK.out _ _ ⟨sincex ((KeptX.refl _ _ _).below (hB1.trans ((ba _ _).mono hB1.size))), [x, .slice (some ⟨w1.heap.size, 0, none⟩) 1 1], rfl, by simp only [putAll, Act.put, List.setIfInBounds_toArray, List.set_cons_succ, List.set_cons_zero], hR'.out.lay (by decide) hB1.size⟩
        · intro s vs w1 _ hall _ hR
          have hR' := lid hR
          obtain ⟨x, y, rfl, hB1, hx, hy⟩ := hR
          replace hx := hx (hall (2, []) (by simp))
          replace hy := hy (hall (4, []) (by simp))
          clear hR'
          have hR := hB1
          obtain ⟨k, rfl, hk, hkc⟩ := hy
          simp only [putAll, Act.put, List.setIfInBounds_toArray, List.set_cons_succ, List.set_cons_zero]
          clear hall hR
          refine seq_chain (by rfl) ?_
          intro K hK
          go_wp2_with (at_builtin; go_must (refine wpList_append_sl rfl _ _ 22 rfl W4.heap.size 36 (.agg #[.int .i64 0, .string ⟨#[]⟩, .string ⟨#[]⟩, .string ⟨#[]⟩]) 4 56 info_rec Try.underlying22 rfl (by decide) _ _ _ hx rfl _ 1 1 #[.int .i64 t, .string a, .string b, .string d].toList rfl (sl_one hkc rfl) (by intro h; cases h) (by simp [Value.oneCell']) (by simp only [maxLen]; omega) (by omega) hB1.size ?_))
          intro v5 w5 hown5 hb5
          have hB5 := hB1.trans hb5
          have hown5' : w5.ownsRow W4.heap.size 36 4 v5 (0 + 1) (rcells (l ++ [(t, a, b, d)])) := by rw [rcells_append]; exact hown5
          clear hown5
          obtain ⟨ao5, cap5, rfl, hc5, hA5⟩ := led_grown (l := l ++ [(t, a, b, d)]) hown5' (by simp [HN.out]) (by intro r hr; rcases List.mem_append.1 hr with h | h; exact HA.out.sizes r h; rw [List.mem_singleton.1 h]; exact HRS.out)
          go_wp2_with fail
          refine hK.out _ _ (sincex ((KeptX.refl _ _ _).below hB5)) ?_
          clear hK K
          repeat (first | (refine seq_skip (by rfl) (by rfl) ?_; simp only [Act.put, List.setIfInBounds_toArray, List.set_cons_succ, List.set_cons_zero]) | (refine seq_float (by rfl) (by rfl) (by rfl) ?_; intro K hK; go_big_quiet_op; go_big_quiet_on))
          have B5 : Boxed w5 (w.heap.size + 2) 26 (.slice none 0 0) := Boxed.below BX.out hB5 k2
          have y0 := B5.cell
          have f0 := B5.frozen
          refine seq_chain (by rfl) ?_
          intro K hK
          go_wp2_with fail
          obtain ⟨W6, hW6⟩ : ∃ W6, w5.setCell ⟨w.heap.size + 2, 0, none⟩ (.slice ao5 (0 + 1) cap5) = W6 := ⟨_, rfl⟩
          have B6 : Boxed W6 (w.heap.size + 2) 26 (.slice ao5 (0 + 1) cap5) := by rw [← hW6]; exact B5.set _
          have hX6 : KeptX W4.heap.size (w.heap.size + 2) W4 W6 := by rw [← hW6]; exact ((KeptX.refl _ _ _).below hB5).setCell (p := ⟨w.heap.size + 2, 0, none⟩) (.inl rfl) _
          have hw6 : Below w.heap.size w W6 := by rw [← hW6]; exact (hw4.trans (hB5.mono hw4.size)).setCell (p := ⟨w.heap.size + 2, 0, none⟩) (by show w.heap.size ≤ w.heap.size + 2; omega) _
          have hA6 : LedA W6 ao5 (0 + 1) cap5 (l ++ [(t, a, b, d)]) := by
            rw [← hW6]
            exact led_set hown5' hA5 k2
          rw [hW6]
          clear hW6 y0 f0 B5 hB5 hB1
          refine hK.out _ _ (sincex hX6) ?_
          clear hK K
          repeat (first | (refine seq_skip (by rfl) (by rfl) ?_; simp only [Act.put, List.setIfInBounds_toArray, List.set_cons_succ, List.set_cons_zero]) | (refine seq_float (by rfl) (by rfl) (by rfl) ?_; intro K hK; go_big_quiet_op; go_big_quiet_on))
          refine seq_chain (by rfl) ?_
          intro K hK
          go_wp2_with fail
          refine hK.out _ _ (sincex hX6) ?_
          clear hK K
          repeat (first | (refine seq_skip (by rfl) (by rfl) ?_; simp only [Act.put, List.setIfInBounds_toArray, List.set_cons_succ, List.set_cons_zero]) | (refine seq_float (by rfl) (by rfl) (by rfl) ?_; intro K hK; go_big_quiet_op; go_big_quiet_on))
          refine seq_nil ?_
          go_wp2_with fail
          refine bodyPost_ret (v := .tuple #[.agg #[.slice ao5 (0 + 1) cap5], .int .i64 0]) (res_led Try.results18 _ _ (w.heap.size + 2) _ _ _ _ rfl rfl B6.cell) rfl ⟨ao5, 0 + 1, cap5, by rw [HV.out], hc5, by rw [HV.out]; exact hA6, hw6, fun q e => Nat.le_trans hw4.size (ownsRow_row hown5' q.block (by rw [e]; rfl))⟩
      | succ m =>
        have hml : m < l.length := by rw [HN.out]; omega
        obtain ⟨b1, o1, rfl, hlb, hcell⟩ := HA.out.sl.at_ (k := m) (by omega)
        have x0 := hcell (m * 4 + 0) _ (rcells_at hml).1
        rw [Nat.add_zero] at x0
        have HL0 := lid (lateB_some (t, a, b, d) HN.out hml)
        obtain ⟨pt, hpt⟩ : ∃ pt, (l[m]).1 = pt := ⟨_, rfl⟩
        rw [hpt] at x0 HL0
        clear hcell hpt
        have e0 : ((m + 1 : Nat) : Int) = (m : Int) + 1 := by omega
        have hpos : decide ((0 : Int) < (m : Int) + 1) = true := decide_eq_true (by omega)
        have wj : IntKind.i64.wrap (m : Int) = m := IntWalk.i64_in _ (by omega)
        have hjn1 : (m : Int) < (m : Int) + 1 := by omega
        have hjl : decide (m < m + 1) = true := by simp
        by_cases hlp : t < pt
        · have hd : decide (t < pt) = true := by simpa using hlp
          have HV := lid (appE_late HC.out HB.out (by rw [HL0.out]; exact hd))
          go_wp2_with fail
          refine wp_region_seq (fun w' => ∃ s : Since w3.heap.size w3, w' = s.world) [(0, true), (1, true), (2, true), (3, true), (4, true), (5, true), (6, true), (7, true), (8, true), (9, true), (10, true), (11, true), (12, true), (13, true), (14, false)] (by kernel_rfl) (by kernel_rfl) (by intro c d v a w h; cases d <;> exact h) (since (Below.refl _ _).drew) ?_
          repeat (first | (refine seq_skip (by rfl) (by rfl) ?_; simp only [Act.put, List.setIfInBounds_toArray, List.set_cons_succ, List.set_cons_zero]) | (refine seq_float (by rfl) (by rfl) (by rfl) ?_; intro K hK; go_big_quiet_op; go_big_quiet_on))
          refine seq_chain (by rfl) ?_
          intro K hK
          go_wp2_with fail
          refine hK.out _ _ (since (Below.refl _ _).drew) ?_
          clear hK K
          repeat (first | (refine seq_skip (by rfl) (by rfl) ?_; simp only [Act.put, List.setIfInBounds_toArray, List.set_cons_succ, List.set_cons_zero]) | (refine seq_float (by rfl) (by rfl) (by rfl) ?_; intro K hK; go_big_quiet_op; go_big_quiet_on))
          refine seq_nil ?_
          have B3 : Boxed w3 (w.heap.size + 2) 26 (.slice none 0 0) := BX.out
          have y0 := B3.cell
          have f0 := B3.frozen
          clear q0 r0 r1 r2 r3
          go_wp2_with fail
          refine bodyPost_ret (v := .tuple #[.agg #[.slice none 0 0], .int .i64 10]) (res_led Try.results18 _ _ (w.heap.size + 2) _ _ _ _ rfl rfl ((B3.set _).cell)) rfl (LedR2.empty HV.out ?_)
          exact hw3.drew.setCell (p := ⟨w.heap.size + 2, 0, none⟩) (by show w.heap.size ≤ w.heap.size + 2; omega) _
        · have hd : decide (t < pt) = false := by simpa using hlp
          have HLT : Hid (lateB l (t, a, b, d) = false) := lid (by rw [HL0.out]; exact hd)
          go_wp2_with fail
          refine wp_region_seq (fun w' => ∃ s : Since w3.heap.size w3, w' = s.world) [(0, true), (1, true), (2, true), (3, true), (4, true), (5, true), (6, true), (7, true), (8, true), (9, true), (10, true), (11, true), (12, true), (13, true), (14, false)] (by kernel_rfl) (by kernel_rfl) (by intro c d v a w h; cases d <;> exact h) (since (Below.refl _ _).drew) ?_
          repeat (first | (refine seq_skip (by rfl) (by rfl) ?_; simp only [Act.put, List.setIfInBounds_toArray, List.set_cons_succ, List.set_cons_zero]) | (refine seq_float (by rfl) (by rfl) (by rfl) ?_; intro K hK; go_big_quiet_op; go_big_quiet_on))
          refine seq_chain (by rfl) ?_
          intro K hK
          go_wp2_with fail
          refine hK.out _ _ (since (Below.refl _ _).drew) ?_
          clear hK K
          repeat (first | (refine seq_skip (by rfl) (by rfl) ?_; simp only [Act.put, List.setIfInBounds_toArray, List.set_cons_succ, List.set_cons_zero]) | (refine seq_float (by rfl) (by rfl) (by rfl) ?_; intro K hK; go_big_quiet_op; go_big_quiet_on))
          refine seq_nil ?_
          obtain ⟨W4, hW4⟩ : ∃ W4, w3.drew = W4 := ⟨_, rfl⟩
          have hw4 : Below w.heap.size w W4 := by rw [← hW4]; exact hw3.drew
          have BX := lid (show Boxed W4 (w.heap.size + 2) 26 (.slice none 0 0) by rw [← hW4]; exact BX.out)
          replace q0 : W4.cell? ⟨w.heap.size, 0, none⟩ = some (.slice (some ⟨b1, o1, none⟩) (m + 1) cap) := by rw [← hW4]; exact q0
          replace r0 : W4.cell? ⟨w.heap.size + 1, 0, none⟩ = some (.int .i64 t) := by rw [← hW4]; exact r0
          replace r1 : W4.cell? ⟨w.heap.size + 1, 1, none⟩ = some (.string a) := by rw [← hW4]; exact r1
          replace r2 : W4.cell? ⟨w.heap.size + 1, 2, none⟩ = some (.string b) := by rw [← hW4]; exact r2
          replace r3 : W4.cell? ⟨w.heap.size + 1, 3, none⟩ = some (.string d) := by rw [← hW4]; exact r3
          replace k0 : w.heap.size < W4.heap.size := by rw [← hW4]; exact k0
          replace k1 : w.heap.size + 1 < W4.heap.size := by rw [← hW4]; exact k1
          replace k2 : w.heap.size + 2 < W4.heap.size := by rw [← hW4]; exact k2
          replace HA : Hid (LedA W4 (some ⟨b1, o1, none⟩) (m + 1) cap l) := lid (by rw [← hW4]; exact HA.out.below (Below.refl _ _).drew)
          rw [hW4]
          clear hW4 hw3
          by_cases hf : (m + 1) = 10000
          · have HV := lid (appE_full HC.out HB.out HLT.out (by rw [HN.out]; exact hf))
            have df : ((m : Int) + 1 == 10000) = true := by simp; omega
            clear hf
            have B4 : Boxed W4 (w.heap.size + 2) 26 (.slice none 0 0) := BX.out
            have y0 := B4.cell
            have f0 := B4.frozen
            clear q0 r0 r1 r2 r3
            go_wp2_with fail
            refine bodyPost_ret (v := .tuple #[.agg #[.slice none 0 0], .int .i64 19]) (res_led Try.results18 _ _ (w.heap.size + 2) _ _ _ _ rfl rfl ((B4.set _).cell)) rfl (LedR2.empty HV.out ?_)
            exact hw4.setCell (p := ⟨w.heap.size + 2, 0, none⟩) (by show w.heap.size ≤ w.heap.size + 2; omega) _
          · have HV := lid (appE_good HC.out HB.out HLT.out (by rw [HN.out]; exact hf))
            have df : ((m : Int) + 1 == 10000) = false := by simp; omega
            have hn10 : (m + 1) ≤ 10000 := by have := check_len HC.out; rw [HN.out] at this; exact this
            clear hf
            go_wp2_with fail
            have c0 := SinceX.cell (B := W4.heap.size) (X := w.heap.size + 2) (W := W4) w.heap.size 0 k0 (by omega) q0
            have d0 := SinceX.cell (B := W4.heap.size) (X := w.heap.size + 2) (W := W4) (w.heap.size + 1) 0 k1 (by omega) r0
            have d1 := SinceX.cell (B := W4.heap.size) (X := w.heap.size + 2) (W := W4) (w.heap.size + 1) 1 k1 (by omega) r1
            have d2 := SinceX.cell (B := W4.heap.size) (X := w.heap.size + 2) (W := W4) (w.heap.size + 1) 2 k1 (by omega) r2
            have d3 := SinceX.cell (B := W4.heap.size) (X := w.heap.size + 2) (W := W4) (w.heap.size + 1) 3 k1 (by omega) r3
            clear q0 r0 r1 r2 r3
            have CL := lid (fun w1 (hb : Below W4.heap.size W4 w1) => Clone_any l (m + 1) cap (some ⟨b1, o1, none⟩) w1 (HA.out.below hb) HZ.out hn10)
            refine wp_region_mix (fun w' => ∃ s : SinceX W4.heap.size (w.heap.size + 2) W4, w' = s.world) [(0, true), (1, true), (3, true)] [(2, []), (4, [])] [(5, false), (6, true), (7, false), (8, false)] (by kernel_rfl) (by kernel_rfl) (by intro c d v a w h; cases d <;> exact h) (sincex (KeptX.refl _ _ _).drew) ?_
            repeat (first | (refine seq_skip (by rfl) (by rfl) ?_; simp only [Act.put, List.setIfInBounds_toArray, List.set_cons_succ, List.set_cons_zero]) | (refine seq_float (by rfl) (by rfl) (by rfl) ?_; intro K hK; go_big_quiet_op; go_big_quiet_on))
            refine seq_nil (mix_go [44, 46] [undef, undef] (RA 2 4 W4.heap.size W4 (m + 1) (rcells l) #[.int .i64 t, .string a, .string b, .string d]) rfl (by simp only [putAll, Act.put, List.setIfInBounds_toArray, List.set_cons_succ, List.set_cons_zero]) (fun s h => RA.start _ _ _ _ _ _ _ s (h (2, []) (by simp)) (h (4, []) (by simp))) ⟨?_, ?_, trivial⟩ ?_)
            · intro s vs w1 _ _ _ _ hR
              have hR' := lid hR
              obtain ⟨x, y, rfl, hB1, hx, hy⟩ := hR
              simp only [putAll, Act.put, List.setIfInBounds_toArray, List.set_cons_succ, List.set_cons_zero]
              refine mix_op (by rfl) ?_
              intro K hK
              go_wp2_with fail
              (with_reducible refine (CL.out _ hB1).mono ?_); rintro e w2 ⟨v', rfl, hown, hb2⟩
              go_wp2_with fail
              exact hK.out _ _ ⟨sincex ((KeptX.refl _ _ _).below (hB1.trans (hb2.mono hB1.size))), [v', y], rfl, by simp only [putAll, Act.put, List.setIfInBounds_toArray, List.set_cons_succ, List.set_cons_zero], hR'.out.clone (by decide) hB1.size hown hb2⟩
            · intro s vs w1 _ _ _ _ hR
              have hR' := lid hR
              obtain ⟨x, y, rfl, hB1, hx, hy⟩ := hR
              simp only [putAll, Act.put, List.setIfInBounds_toArray, List.set_cons_succ, List.set_cons_zero]
              refine mix_op (by rfl) ?_
              intro K hK
              go_wp2_with fail
              exact hK.out _ _ ⟨sincex ((KeptX.refl _ _ _).below (hB1.trans ((ba _ _).mono hB1.size))), [x, .slice (some ⟨w1.heap.size, 0, none⟩) 1 1], rfl, by simp only [putAll, Act.put, List.setIfInBounds_toArray, List.set_cons_succ, List.set_cons_zero], hR'.out.lay (by decide) hB1.size⟩
            · intro s vs w1 _ hall _ hR
              have hR' := lid hR
              obtain ⟨x, y, rfl, hB1, hx, hy⟩ := hR
              replace hx := hx (hall (2, []) (by simp))
              replace hy := hy (hall (4, []) (by simp))
              clear hR'
              have hR := hB1
              obtain ⟨k, rfl, hk, hkc⟩ := hy
              simp only [putAll, Act.put, List.setIfInBounds_toArray, List.set_cons_succ, List.set_cons_zero]
              clear hall hR
              refine seq_chain (by rfl) ?_
              intro K hK
              go_wp2_with (at_builtin; go_must (refine wpList_append_sl rfl _ _ 22 rfl W4.heap.size 36 (.agg #[.int .i64 0, .string ⟨#[]⟩, .string ⟨#[]⟩, .string ⟨#[]⟩]) 4 56 info_rec Try.underlying22 rfl (by decide) _ _ _ hx rfl _ 1 1 #[.int .i64 t, .string a, .string b, .string d].toList rfl (sl_one hkc rfl) (by intro h; cases h) (by simp [Value.oneCell']) (by simp only [maxLen]; omega) (by omega) hB1.size ?_))
              intro v5 w5 hown5 hb5
              have hB5 := hB1.trans hb5
              have hown5' : w5.ownsRow W4.heap.size 36 4 v5 ((m + 1) + 1) (rcells (l ++ [(t, a, b, d)])) := by rw [rcells_append]; exact hown5
              clear hown5
              obtain ⟨ao5, cap5, rfl, hc5, hA5⟩ := led_grown (l := l ++ [(t, a, b, d)]) hown5' (by simp [HN.out]) (by intro r hr; rcases List.mem_append.1 hr with h | h; exact HA.out.sizes r h; rw [List.mem_singleton.1 h]; exact HRS.out)
              go_wp2_with fail
              refine hK.out _ _ (sincex ((KeptX.refl _ _ _).below hB5)) ?_
              clear hK K
              repeat (first | (refine seq_skip (by rfl) (by rfl) ?_; simp only [Act.put, List.setIfInBounds_toArray, List.set_cons_succ, List.set_cons_zero]) | (refine seq_float (by rfl) (by rfl) (by rfl) ?_; intro K hK; go_big_quiet_op; go_big_quiet_on))
              have B5 : Boxed w5 (w.heap.size + 2) 26 (.slice none 0 0) := Boxed.below BX.out hB5 k2
              have y0 := B5.cell
              have f0 := B5.frozen
              refine seq_chain (by rfl) ?_
              intro K hK
              go_wp2_with fail
              obtain ⟨W6, hW6⟩ : ∃ W6, w5.setCell ⟨w.heap.size + 2, 0, none⟩ (.slice ao5 ((m + 1) + 1) cap5) = W6 := ⟨_, rfl⟩
              have B6 : Boxed W6 (w.heap.size + 2) 26 (.slice ao5 ((m + 1) + 1) cap5) := by rw [← hW6]; exact B5.set _
              have hX6 : KeptX W4.heap.size (w.heap.size + 2) W4 W6 := by rw [← hW6]; exact ((KeptX.refl _ _ _).below hB5).setCell (p := ⟨w.heap.size + 2, 0, none⟩) (.inl rfl) _
              have hw6 : Below w.heap.size w W6 := by rw [← hW6]; exact (hw4.trans (hB5.mono hw4.size)).setCell (p := ⟨w.heap.size + 2, 0, none⟩) (by show w.heap.size ≤ w.heap.size + 2; omega) _
              have hA6 : LedA W6 ao5 ((m + 1) + 1) cap5 (l ++ [(t, a, b, d)]) := by
                rw [← hW6]
                exact led_set hown5' hA5 k2
              rw [hW6]
              clear hW6 y0 f0 B5 hB5 hB1
              refine hK.out _ _ (sincex hX6) ?_
              clear hK K
              repeat (first | (refine seq_skip (by rfl) (by rfl) ?_; simp only [Act.put, List.setIfInBounds_toArray, List.set_cons_succ, List.set_cons_zero]) | (refine seq_float (by rfl) (by rfl) (by rfl) ?_; intro K hK; go_big_quiet_op; go_big_quiet_on))
              refine seq_chain (by rfl) ?_
              intro K hK
              go_wp2_with fail
              refine hK.out _ _ (sincex hX6) ?_
              clear hK K
              repeat (first | (refine seq_skip (by rfl) (by rfl) ?_; simp only [Act.put, List.setIfInBounds_toArray, List.set_cons_succ, List.set_cons_zero]) | (refine seq_float (by rfl) (by rfl) (by rfl) ?_; intro K hK; go_big_quiet_op; go_big_quiet_on))
              refine seq_nil ?_
              go_wp2_with fail
              refine bodyPost_ret (v := .tuple #[.agg #[.slice ao5 ((m + 1) + 1) cap5], .int .i64 0]) (res_led Try.results18 _ _ (w.heap.size + 2) _ _ _ _ rfl rfl B6.cell) rfl ⟨ao5, (m + 1) + 1, cap5, by rw [HV.out], hc5, by rw [HV.out]; exact hA6, hw6, fun q e => Nat.le_trans hw4.size (ownsRow_row hown5' q.block (by rw [e]; rfl))⟩
  · have HV := lid (appE_bad (r := (t, a, b, d)) hc)
    have hc' : (checkL l != 0) = true := by simpa using hc
    have B3 : Boxed w2 (w.heap.size + 2) 26 (.slice none 0 0) := B2.out
    generalize checkL l = C at *
    clear hc
    have y0 := B3.cell
    have f0 := B3.frozen
    clear q0 r0 r1 r2 r3
    go_wp2_with fail
    refine bodyPost_ret (v := .tuple #[.agg #[.slice none 0 0], .int .i64 C]) (res_led Try.results18 _ _ (w.heap.size + 2) _ _ _ _ rfl rfl ((B3.set _).cell)) rfl (LedR2.empty HV.out ?_)
    exact hw2.setCell (p := ⟨w.heap.size + 2, 0, none⟩) (by show w.heap.size ≤ w.heap.size + 2; omega) _

theorem Append_any (l : List Rec) (r : Rec) (n cap : Nat) (ao : Option Addr) (w : World) (h : LedA w ao n cap l) (hz : ao = none → cap = 0) (hr : RecS r) :
    Calls Try.prog 18 #[.agg #[.slice ao n cap], rv r] w fun e w' => LedR (appE l r) w e w' :=
  (Append_own l r n cap ao w h hz hr).mono fun _ _ ⟨a, n', c, h1, h2, h3, h4, _⟩ => ⟨a, n', c, h1, h2, h3, h4⟩

end Go.Proofs.Ytbghpjedldhnhaa

namespace Go.Proofs.Ytbghpjedldhnhaa
open Go.RowKit

theorem chkGo_app (r : Rec) (hr : recB r = true) (l : List Rec) : ∀ (p : Option Int), chkGo p l = 0 → (match l.getLast? with | some q => ¬ r.1 < q.1 | none => (match p with | some v => ¬ r.1 < v | none => True)) → chkGo p (l ++ [r]) = 0 := by
  induction l with
  | nil =>
    intro p _ hp
    cases p with
    | none => simp [chkGo, hr]
    | some v => simp only [List.getLast?_nil] at hp; simp [chkGo, hr]; omega
  | cons a l ih =>
    intro p h hp
    have hl : ∀ q, chkGo (some q) l = 0 → q = a.1 → chkGo (some a.1) (l ++ [r]) = 0 := by
      rintro q h rfl
      refine ih _ h ?_
      rw [List.getLast?_cons] at hp
      cases e : l.getLast? with
      | none => rw [e] at hp; simpa using hp
      | some x => rw [e] at hp; simpa using hp
    rw [List.cons_append]
    cases p with
    | none =>
      simp only [chkGo] at h ⊢
      split at h
      · rename_i hb
        rw [if_pos hb]
        exact hl _ h rfl
      · cases h
    | some v =>
      simp only [chkGo] at h ⊢
      split at h
      · rename_i hb
        rw [if_pos hb]
        split at h
        · cases h
        · rename_i ht
          rw [if_neg ht]
          exact hl _ h rfl
      · cases h
theorem appE_cases (l : List Rec) (r : Rec) : (∃ c, c ≠ 0 ∧ appE l r = ([], c)) ∨ (checkL l = 0 ∧ appE l r = (l ++ [r], 0) ∧ checkL (l ++ [r]) = 0) := by
  by_cases hc : checkL l = 0
  · cases hr : recB r with
    | false => exact .inl ⟨1, by decide, appE_rec hc hr⟩
    | true =>
      cases hl : lateB l r with
      | true => exact .inl ⟨10, by decide, appE_late hc hr hl⟩
      | false =>
        by_cases hf : l.length = 10000
        · exact .inl ⟨19, by decide, appE_full hc hr hl hf⟩
        · refine .inr ⟨hc, appE_good hc hr hl hf, ?_⟩
          have hn := check_len hc
          unfold checkL at hc ⊢
          rw [if_pos hn] at hc
          rw [if_pos (by simp; omega)]
          refine chkGo_app r hr l _ hc ?_
          unfold lateB at hl
          cases e : l.getLast? with
          | none => trivial
          | some q => rw [e] at hl; simpa using hl
  · exact .inl ⟨_, hc, appE_bad hc⟩
end Go.Proofs.Ytbghpjedldhnhaa

namespace Go.Proofs.Ytbghpjedldhnhaa
open Go.RowKit

def stepL (out : List Rec) (r : Rec) : List Rec := if (appE out r).2 = 0 then (appE out r).1 else out
def buildG (out : List Rec) : List Rec → List Rec
  | [] => out
  | r :: l => buildG (stepL out r) l
theorem stepL_bad {out : List Rec} {r : Rec} {c : Int} (h : c ≠ 0) (e : appE out r = ([], c)) : stepL out r = out := by unfold stepL; rw [e, if_neg h]
theorem stepL_good {out : List Rec} {r : Rec} (e : appE out r = (out ++ [r], 0)) : stepL out r = out ++ [r] := by unfold stepL; rw [e, if_pos rfl]
theorem stepL_ok {out : List Rec} (h : checkL out = 0) (r : Rec) : checkL (stepL out r) = 0 ∧ (stepL out r).length ≤ out.length + 1 := by
  rcases appE_cases out r with ⟨c, hc, e⟩ | ⟨_, e, hk⟩
  · rw [stepL_bad hc e]
    exact ⟨h, by omega⟩
  · rw [stepL_good e]
    exact ⟨hk, by simp⟩
theorem buildG_ok (l : List Rec) : ∀ out, checkL out = 0 → checkL (buildG out l) = 0 ∧ (buildG out l).length ≤ out.length + l.length := by
  induction l with
  | nil => intro out h; exact ⟨h, by simp [buildG]⟩
  | cons r l ih =>
    intro out h
    have := ih _ (stepL_ok h r).1
    have h2 := (stepL_ok h r).2
    simp only [buildG, List.length_cons]
    exact ⟨this.1, by omega⟩
def buildL (l : List Rec) : List Rec := buildG [] l
theorem checkL_nil : checkL [] = 0 := by simp [checkL, chkGo]
theorem buildL_ok (l : List Rec) : checkL (buildL l) = 0 ∧ (buildL l).length ≤ l.length := by
  have := buildG_ok l [] checkL_nil
  simpa [buildL] using this
theorem LedA.pos {w : World} {ao : Option Addr} {n cap : Nat} {l : List Rec} (h : LedA w ao n cap l) (hn : 0 < n) : ao = none → cap = 0 := by
  intro e
  exfalso
  subst e
  rcases h.sl.2 with h0 | ⟨b, o, e, _⟩
  · omega
  · cases e
theorem led_other {w : World} {X n cap : Nat} {ao : Option Addr} {l : List Rec} {u : Value} (h : LedA w ao n cap l) (hX : ∀ q, ao = some q → X ≠ q.block) : LedA (w.setCell ⟨X, 0, none⟩ u) ao n cap l := by
  refine ⟨h.len, ⟨h.sl.1, ?_⟩, h.sizes, h.max⟩
  rcases h.sl.2 with h0 | ⟨b, o, e1, hlt, hc⟩
  · exact .inl h0
  · refine .inr ⟨b, o, e1, by rw [World.size_setCell]; exact hlt, fun j u hu => ?_⟩
    rw [World.cell?_setCell_other _ _ _ _ (by intro e2; exact hX _ e1 (congrArg Addr.block e2))]
    exact hc j u hu

/-- The example. -/
abbrev exT : Rec := (1, ⟨#[97, 110, 110]⟩, ⟨#[108, 97, 110, 100]⟩, ⟨#[49]⟩)
theorem ext_chk1 : checkL [exT] = 0 := by decide +kernel
theorem ext_chk2 : checkL [exT, exT] = 0 := by decide +kernel
theorem ext_rec : recB exT = true := by decide +kernel
theorem ext_late : lateB [exT] exT = false := by decide +kernel
theorem ext_app1 : appE [] exT = ([exT], 0) := appE_good checkL_nil ext_rec rfl (by decide)
theorem ext_app2 : appE [exT] exT = ([exT, exT], 0) := appE_good ext_chk1 ext_rec ext_late (by decide)
theorem half2 : halfN 2 = 1 := (halfN_eq (j := 0) rfl (by omega) (by omega)).symm
theorem ext_ext : extE [exT, exT] 1 = ([rootD [recD exT]], 0) := by
  rw [show (1 : Int) = ((1 : Nat) : Int) from rfl, extE_in ext_chk2 (by omega) (by simp)]
  show (growD [recD exT, recD exT] 1 true, 0) = _
  have h : halfN [recD exT, recD exT].length = 1 := half2
  rw [growD, if_neg (by simp), dif_pos (by simp), h, if_pos (by omega)]
  show (growD [recD exT] 1 true ++ [rootD [recD exT]], 0) = _
  rw [growD, if_pos rfl]
  rfl
theorem ext_grown : extendsB fstL (headD [exT]) 1 (headD [exT, exT]) 2 [rootD [recD exT]] = true := by
  have := (own_extends ext_chk2 1 (by decide)).2
  rw [show ((1 : Nat) : Int) = 1 from rfl, ext_ext] at this
  exact this
theorem ext_s : RecS exT := ⟨by show 3 ≤ _; decide, by show 4 ≤ _; decide, by show 1 ≤ _; decide⟩
end Go.Proofs.Ytbghpjedldhnhaa

namespace Go.Proofs.Ytbghpjedldhnhaa
open Go.RowKit

theorem res_led1 {fn : Func} (hf : fn.results = #[.cell 2 26]) (t : Array Value) (w : World) (k : Nat) (ao : Option Addr) (n cap : Nat) (h2 : t.getD 2 undef = .pointer (some ⟨k, 0, none⟩))
    (e0 : w.cell? ⟨k, 0, none⟩ = some (.slice ao n cap)) : (results fn t).run Try.prog w = .ok (.agg #[.slice ao n cap]) w := by
  rw [Array.getD_eq_getD_getElem?] at h2
  unfold results
  rw [hf]
  simp [go_sem, h2, e0, asAddr]

set_option maxRecDepth 100000 in
set_option maxHeartbeats 8000000 in
theorem Build_any (l : List Rec) (n cap : Nat) (ao : Option Addr) (w : World) (h : LedA w ao n cap l) (hn : n ≤ 10) :
    Calls Try.prog 7 #[.slice ao n cap] w fun e w' => ∃ ao' n' cap', e = .returned (.agg #[.slice ao' n' cap']) ∧ n' ≤ cap' ∧ LedA w' ao' n' cap' (buildL l) ∧ Below w.heap.size w w' := by
  have HN := lid h.len
  have HA := lid h
  obtain ⟨W, hW⟩ : ∃ W, (w.alloc (Obj.cells #[.slice none 0 0] 26)).alloc (Obj.cells #[.slice none 0 0] 26) = W := ⟨_, rfl⟩
  have hw0 : Below w.heap.size w W := by rw [← hW]; exact ((Below.refl _ _).alloc (Nat.le_refl _) _).alloc (by simp) _
  have B0 : Boxed W w.heap.size 26 (.slice none 0 0) := by rw [← hW]; exact (Boxed.new w _ _).alloc _
  have B1 : Boxed W (w.heap.size + 1) 26 (.slice none 0 0) := by
    rw [← hW]
    have := Boxed.new (w.alloc (Obj.cells #[.slice none 0 0] 26)) 26 (.slice none 0 0)
    rw [World.size_alloc] at this
    exact this
  have HW := lid hW
  clear hW h
  go_enter Try.func7, Try.ntmps7
  go_wp2_with fail
  rw [HW.out]
  clear HW
  go_loopw [5, 6, 7, 10] (fun _ _ _ i wr => ∃ (k : Nat) (ao2 : Option Addr) (n2 cap2 : Nat) (out : List Rec), k ≤ n ∧ i = .int .i64 k ∧ n2 ≤ cap2 ∧ Hid (buildL l = buildG out (l.drop k)) ∧ Hid (checkL out = 0) ∧ Hid (Boxed wr w.heap.size 26 (.slice none 0 0)) ∧ Hid (Boxed wr (w.heap.size + 1) 26 (.slice ao2 n2 cap2)) ∧ Hid (LedA wr ao2 n2 cap2 out) ∧ Hid (ao2 = none → cap2 = 0) ∧ Hid (∀ q, ao2 = some q → w.heap.size + 2 ≤ q.block) ∧ Below w.heap.size w wr) (fun _ _ _ i _ => n - (intOf i).toNat)
  case atStart => exact ⟨0, none, 0, 0, [], Nat.zero_le _, rfl, Nat.le_refl _, lid rfl, lid checkL_nil, lid B0, lid B1, lid ⟨rfl, Sl.nil, (fun r hr => by cases hr), by simp [maxLen]⟩, lid (fun _ => rfl), lid (fun q e => by cases e), hw0⟩
  case round =>
    obtain ⟨k, ao2, n2, cap2, out, hk, rfl, hnc, HG, HC, HB0, HB1, HL, HZ, HO, hb⟩ := hrel
    have b1 := HB1.out.cell
    have l0 := HB0.out.lt
    have l1 := HB1.out.lt
    by_cases hlt : k < n
    · have hkl : k < l.length := by rw [HN.out]; exact hlt
      obtain ⟨bs, os, rfl, hlb, hcell⟩ := (HA.out.below hb).sl.at_ hlt
      have x0 := hcell (k * 4 + 0) _ (rcells_at hkl).1
      have x1 := hcell (k * 4 + 1) _ (rcells_at hkl).2.1
      have x2 := hcell (k * 4 + 2) _ (rcells_at hkl).2.2.1
      have x3 := hcell (k * 4 + 3) _ (rcells_at hkl).2.2.2
      rw [← Nat.add_assoc] at x1 x2 x3
      rw [Nat.add_zero] at x0
      have HRS := lid (HA.out.sizes _ (List.getElem_mem hkl))
      have HD := lid (List.drop_eq_getElem_cons hkl)
      obtain ⟨r, hrk⟩ : ∃ r, l[k] = r := ⟨_, rfl⟩
      rw [hrk] at x0 x1 x2 x3 HRS HD
      clear hcell hrk
      obtain ⟨t, a, b, d⟩ := r
      simp only at x0 x1 x2 x3
      have b1' := (cell_old_at l1 (Obj.cells #[.int .i64 t, .string a, .string b, .string d] 36) 0).trans b1
      go_wp2_with fail
      obtain ⟨W1, hW1⟩ : ∃ W1, wr.alloc (Obj.cells #[.int .i64 t, .string a, .string b, .string d] 36) = W1 := ⟨_, rfl⟩
      have hb1 : Below wr.heap.size wr W1 := by rw [← hW1]; exact ba _ _
      rw [hW1]
      clear hW1 x0 x1 x2 x3 b1 b1'
      have CA := lid (Append_own out (t, a, b, d) n2 cap2 ao2 W1 (HL.out.below hb1) HZ.out HRS.out)
      have HX := lid (appE_cases out (t, a, b, d))
      have HST := lid (show buildL l = buildG (stepL out (t, a, b, d)) (l.drop (k + 1)) by rw [HG.out, HD.out]; rfl)
      generalize hXE : appE out (t, a, b, d) = X at *
      (with_reducible refine (CA.out).mono ?_); rintro e w3 ⟨a3, n3, c3, rfl, hc3, hA3, hb3, ho3⟩
      have hb13 : Below wr.heap.size wr w3 := hb1.trans (hb3.mono hb1.size)
      obtain ⟨W3, hW3⟩ : ∃ W3, w3.alloc (Obj.cells #[.slice a3 n3 c3] 26) = W3 := ⟨_, rfl⟩
      have hb4 : Below wr.heap.size wr W3 := by rw [← hW3]; exact hb13.trans ((ba _ _).mono hb13.size)
      have HB0' := lid (Boxed.below HB0.out hb4 l0)
      have HB1' := lid (Boxed.below HB1.out hb4 l1)
      have hw3 := hb.trans (hb4.mono hb.size)
      have HA3 := lid (show LedA W3 a3 n3 c3 X.1 by rw [← hW3]; exact hA3.below (ba _ _))
      have HO3 := lid ho3
      have hsz : W1.heap.size ≤ w3.heap.size := hb3.size
      have hsz1 : wr.heap.size ≤ W1.heap.size := hb1.size
      have HW3 := lid hW3
      clear hW3 hA3 ho3 hb3
      rcases HX.out with ⟨c, hc, rfl⟩ | ⟨hc0, rfl, hck⟩
      · have hc' : (c == 0) = false := by simpa using hc
        have HS := lid (stepL_bad hc hXE)
        clear hc hXE
        go_wp2_with fail
        rw [HW3.out]
        go_roundw
        case rel => exact ⟨k + 1, ao2, n2, cap2, out, by omega, by go_num, hnc, lid (by rw [HST.out, HS.out]), HC, HB0', HB1', lid (HL.out.below hb4), HZ, HO, hw3⟩
        case measure => simp [intOf]; omega
      · have HS := lid (stepL_good hXE)
        have HCK := lid hck
        clear hXE hc0 hck
        have y1 := HB1'.out.cell
        have f1 := HB1'.out.frozen
        rw [← HW3.out] at y1 f1
        go_wp2_with fail
        rw [HW3.out]
        go_roundw
        case rel =>
          have hne : ∀ q, a3 = some q → w.heap.size + 2 ≤ q.block := fun q e => by have := HO3.out q e; omega
          refine ⟨k + 1, a3, n3, c3, out ++ [(t, a, b, d)], by omega, by go_num, hc3, lid (by rw [HST.out, HS.out]), HCK, lid ?_, lid (HB1'.out.set _), lid (led_other HA3.out (fun q e => by have := hne q e; omega)), lid (HA3.out.pos (by have := HA3.out.len; simp at this; omega)), lid hne, hw3.setCell (p := ⟨w.heap.size + 1, 0, none⟩) (by show w.heap.size ≤ w.heap.size + 1; omega) _⟩
          exact (Below.heap_setCell _ _ _ _ (by show w.heap.size ≠ w.heap.size + 1; omega)).trans HB0'.out
        case measure => simp [intOf]; omega
    · obtain rfl : k = n := by omega
      have b0 := HB0.out.cell
      have f0 := HB0.out.frozen
      have HV : Hid (buildL l = out) := lid (by rw [HG.out, List.drop_eq_nil_of_le (by rw [HN.out]; exact Nat.le_refl _)]; rfl)
      go_wp2_with fail
      refine bodyPost_ret (v := .agg #[.slice ao2 n2 cap2]) (res_led1 Try.results7 _ _ w.heap.size _ _ _ rfl ((HB0.out.set _).cell)) rfl ⟨ao2, n2, cap2, rfl, hnc, ?_, ?_⟩
      · rw [HV.out]
        exact led_other HL.out (fun q e => by have := HO.out q e; omega)
      · exact hb.setCell (p := ⟨w.heap.size, 0, none⟩) (Nat.le_refl _) _
end Go.Proofs.Ytbghpjedldhnhaa

namespace Go.Proofs.Ytbghpjedldhnhaa
open Go.RowKit

set_option maxRecDepth 100000 in
set_option maxHeartbeats 8000000 in
theorem topAwake_any (w : World) : Calls Try.prog 6 #[] w fun e w' => e = .returned (.bool true) ∧ Below w.heap.size w w' := by
  have CA := lid (fun (w : World) => Append_own [] exT 0 0 none w ⟨rfl, Sl.nil, (fun r hr => by cases hr), by simp [maxLen]⟩ (fun _ => rfl) ext_s)
  rw [ext_app1] at CA
  have hb0 := ba w (Obj.cells #[.int .i64 1, .string ⟨#[97, 110, 110]⟩, .string ⟨#[108, 97, 110, 100]⟩, .string ⟨#[49]⟩] 36)
  go_enter Try.func6, Try.ntmps6
  go_wp2_with fail
  obtain ⟨W0, hW0⟩ : ∃ W0, w.alloc (Obj.cells #[.int .i64 1, .string ⟨#[97, 110, 110]⟩, .string ⟨#[108, 97, 110, 100]⟩, .string ⟨#[49]⟩] 36) = W0 := ⟨_, rfl⟩
  have r0 : W0.cell? ⟨w.heap.size, 0, none⟩ = some (.int .i64 1) := by rw [← hW0]; simp
  have r1 : W0.cell? ⟨w.heap.size, 1, none⟩ = some (.string ⟨#[97, 110, 110]⟩) := by rw [← hW0]; simp
  have r2 : W0.cell? ⟨w.heap.size, 2, none⟩ = some (.string ⟨#[108, 97, 110, 100]⟩) := by rw [← hW0]; simp
  have r3 : W0.cell? ⟨w.heap.size, 3, none⟩ = some (.string ⟨#[49]⟩) := by rw [← hW0]; simp
  have l0 : w.heap.size < W0.heap.size := by rw [← hW0]; simp
  rw [hW0] at hb0 ⊢
  clear hW0
  (with_reducible refine (CA.out W0).mono ?_); rintro e w1 ⟨a1, n1, c1, rfl, hc1, hA1, hb1, -⟩
  obtain rfl : 1 = n1 := hA1.len
  have k0 : w.heap.size < w1.heap.size := by have := hb1.size; omega
  have s0 := (cell_old_at k0 (Obj.cells #[.slice a1 1 c1] 26) 0).trans ((bc hb1 l0 0).trans r0)
  have s1 := (cell_old_at k0 (Obj.cells #[.slice a1 1 c1] 26) 1).trans ((bc hb1 l0 1).trans r1)
  have s2 := (cell_old_at k0 (Obj.cells #[.slice a1 1 c1] 26) 2).trans ((bc hb1 l0 2).trans r2)
  have s3 := (cell_old_at k0 (Obj.cells #[.slice a1 1 c1] 26) 3).trans ((bc hb1 l0 3).trans r3)
  clear r0 r1 r2 r3
  go_wp2_with fail
  obtain ⟨W1, hW1⟩ : ∃ W1, w1.alloc (Obj.cells #[.slice a1 1 c1] 26) = W1 := ⟨_, rfl⟩
  have b1 : W1.cell? ⟨w1.heap.size, 0, none⟩ = some (.slice a1 1 c1) := by rw [← hW1]; exact cell_new_at rfl _ _ _
  have k1 : w1.heap.size < W1.heap.size := by rw [← hW1]; simp
  have hA1' := lid (show LedA W1 a1 1 c1 [exT] by rw [← hW1]; exact hA1.below (ba _ _))
  have hw1 : Below w.heap.size w W1 := by rw [← hW1]; exact hb0.trans ((hb1.trans ((ba _ _).mono hb1.size)).mono hb0.size)
  rw [hW1] at s0 s1 s2 s3 ⊢
  clear hW1 hA1 hb1
  have CB := lid (Append_own [exT] exT 1 c1 a1 W1 hA1'.out (hA1'.out.pos (by omega)) ext_s)
  rw [ext_app2] at CB
  (with_reducible refine (CB.out).mono ?_); rintro e w2 ⟨a2, n2, c2, rfl, hc2, hA2, hb2, -⟩
  obtain rfl : 2 = n2 := hA2.len
  have k2 : w1.heap.size < w2.heap.size := by have := hb2.size; omega
  have b2 := (cell_old_at k2 (Obj.cells #[.slice a2 2 c2] 26) 0).trans ((bc hb2 k1 0).trans b1)
  clear s0 s1 s2 s3 b1
  go_wp2_with fail
  obtain ⟨W2, hW2⟩ : ∃ W2, w2.alloc (Obj.cells #[.slice a2 2 c2] 26) = W2 := ⟨_, rfl⟩
  have d2 : W2.cell? ⟨w2.heap.size, 0, none⟩ = some (.slice a2 2 c2) := by rw [← hW2]; exact cell_new_at rfl _ _ _
  have m2 : w2.heap.size < W2.heap.size := by rw [← hW2]; simp
  have HL1 := lid (show LedA W2 a1 1 c1 [exT] by rw [← hW2]; exact (hA1'.out.below hb2).below (ba _ _))
  have HL2 := lid (show LedA W2 a2 2 c2 [exT, exT] by rw [← hW2]; exact hA2.below (ba _ _))
  have hw2 : Below w.heap.size w W2 := by rw [← hW2]; exact hw1.trans ((hb2.trans ((ba _ _).mono hb2.size)).mono hw1.size)
  rw [hW2] at b2 ⊢
  clear hW2 hA2 hb2 hA1'
  have CX := lid (Extend_any [exT, exT] 1 2 c2 a2 W2 HL2.out)
  rw [ext_ext] at CX
  (with_reducible refine (CX.out).mono ?_); rintro e w3 ⟨a3, n3, c3, rfl, g1, g2, g3, hb3⟩
  obtain rfl : 1 = n3 := g1
  have q2 := (bc hb3 (by omega) 0).trans b2
  have q3 := (bc hb3 m2 0).trans d2
  have m1 : w1.heap.size < w3.heap.size := by have := hb3.size; omega
  have m3 : w2.heap.size < w3.heap.size := by have := hb3.size; omega
  have hw3 := hw2.trans (hb3.mono hw2.size)
  have CH := lid (fun w' (h : Below w3.heap.size w3 w') => Head_any [exT] 1 c1 a1 w' ((HL1.out.below hb3).below h))
  have CI := lid (fun w' (h : Below w3.heap.size w3 w') => Head_any [exT, exT] 2 c2 a2 w' ((HL2.out.below hb3).below h))
  have CE := fun w' (h : Below w3.heap.size w3 w') => Extends_any (headD [exT]) (headD [exT, exT]) 1 2 [rootD [recD exT]] a3 1 c3 w' rfl g2 (by omega) (g3.below h)
  rw [ext_grown] at CE
  have CE' := lid CE
  clear CE b2 d2 g3
  generalize headD [exT] = D1 at *
  generalize headD [exT, exT] = D2 at *
  go_wp2_with fail
  refine wp_region_seq (fun w' => ∃ s : Since w3.heap.size w3, w' = s.world) [(0, true), (1, true), (2, true), (3, true), (4, true), (5, true), (6, true), (7, true), (8, true), (9, true), (10, true), (11, true), (12, true), (13, true), (14, true), (15, true), (16, true), (17, true), (18, true), (19, true), (20, true), (21, true), (22, true), (24, true), (26, true), (23, false), (25, false), (27, false), (28, true), (29, false)] (by kernel_rfl) (by kernel_rfl) (by intro c d v a w h; cases d <;> exact h) (since (Below.refl _ _).drew) ?_
  repeat (first | (refine seq_skip (by rfl) (by rfl) ?_; simp only [Act.put, List.setIfInBounds_toArray, List.set_cons_succ, List.set_cons_zero]) | (refine seq_float (by rfl) (by rfl) (by rfl) ?_; intro K hK; go_big_quiet_op; go_big_quiet_on))
  refine seq_chain (by rfl) ?_
  intro K hK
  go_wp2_with fail
  (with_reducible refine (CH.out _ (Below.refl _ _).drew).mono ?_); rintro e w7 ⟨rfl, hb7⟩
  have h7 : Below w3.heap.size w3 w7 := (Below.refl _ _).drew.trans hb7
  go_wp2_with fail
  refine hK.out _ _ (since h7) ?_
  clear hK K
  repeat (first | (refine seq_skip (by rfl) (by rfl) ?_; simp only [Act.put, List.setIfInBounds_toArray, List.set_cons_succ, List.set_cons_zero]) | (refine seq_float (by rfl) (by rfl) (by rfl) ?_; intro K hK; go_big_quiet_op; go_big_quiet_on))
  refine seq_chain (by rfl) ?_
  intro K hK
  go_wp2_with fail
  (with_reducible refine (CI.out _ h7).mono ?_); rintro e w8 ⟨rfl, hb8⟩
  have h8 := h7.trans (hb8.mono h7.size)
  go_wp2_with fail
  refine hK.out _ _ (since h8) ?_
  clear hK K
  repeat (first | (refine seq_skip (by rfl) (by rfl) ?_; simp only [Act.put, List.setIfInBounds_toArray, List.set_cons_succ, List.set_cons_zero]) | (refine seq_float (by rfl) (by rfl) (by rfl) ?_; intro K hK; go_big_quiet_op; go_big_quiet_on))
  refine seq_chain (by rfl) ?_
  intro K hK
  go_wp2_with fail
  (with_reducible refine (CE'.out _ h8).mono ?_); rintro e w9 ⟨rfl, hb9⟩
  have h9 := h8.trans (hb9.mono h8.size)
  go_wp2_with fail
  refine hK.out _ _ (since h9) ?_
  clear hK K
  repeat (first | (refine seq_skip (by rfl) (by rfl) ?_; simp only [Act.put, List.setIfInBounds_toArray, List.set_cons_succ, List.set_cons_zero]) | (refine seq_float (by rfl) (by rfl) (by rfl) ?_; intro K hK; go_big_quiet_op; go_big_quiet_on))
  refine seq_chain (by rfl) ?_
  intro K hK
  go_wp2_with fail
  refine hK.out _ _ (since h9) ?_
  clear hK K
  repeat (first | (refine seq_skip (by rfl) (by rfl) ?_; simp only [Act.put, List.setIfInBounds_toArray, List.set_cons_succ, List.set_cons_zero]) | (refine seq_float (by rfl) (by rfl) (by rfl) ?_; intro K hK; go_big_quiet_op; go_big_quiet_on))
  refine seq_nil ?_
  go_wp2_with fail
  go_ret
  exact ⟨rfl, hw3.trans (h9.mono hw3.size)⟩
end Go.Proofs.Ytbghpjedldhnhaa
