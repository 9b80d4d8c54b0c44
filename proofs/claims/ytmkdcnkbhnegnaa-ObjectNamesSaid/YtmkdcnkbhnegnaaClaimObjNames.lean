/-
  ObjectNames: the claim, with the plain part of decoding and the walk.
-/
import Derived.Test.YtmkdcnkbhnegnaaCodPut
import Derived.Test.YtmkdcnkbhnegnaaSl
import Derived.Test.YtmkdcnkbhnegnaaObjTop
import Derived.Test.YtmkdcnkbhnegnaaObjGreat
import Derived.Test.YtmkdcnkbhnegnaaDgSl
import Derived.Test.YtmkdcnkbhnegnaaObjLawCheck
import Derived.Test.YtmkdcnkbhnegnaaLawObj
namespace Go.Proofs.Ytmkdcnkbhnegnaa

/-- Reads a number: at most so many bytes are left, i were read, n is what they say. -/
def getGo : Nat → Nat → Nat → List UInt8 → Nat × Nat × Int
  | 0, _, _, _ => (0, 0, 13)
  | _ + 1, _, _, [] => (0, 0, 12)
  | f + 1, i, n, c :: l =>
    if c.toNat < 128 then (if c.toNat = 0 ∧ 0 < i ∨ 1099511627776 < n + c.toNat * 128 ^ i then (0, 0, 13) else (n + c.toNat * 128 ^ i, i + 1, 0))
    else getGo f (i + 1) (n + (c.toNat - 128) * 128 ^ i) l
def getI (l : List UInt8) : Nat × Nat × Int := getGo 6 0 0 l
def getX (l : List UInt8) : List UInt8 × Nat × Int :=
  if (getI l).2.2 = 0 then (if 65536 < (getI l).1 then ([], 0, 13) else if l.length - (getI l).2.1 < (getI l).1 then ([], 0, 12) else ((l.drop (getI l).2.1).take (getI l).1, (getI l).2.1 + (getI l).1, 0)) else ([], 0, (getI l).2.2)

theorem getGo_ok : ∀ {f i n m k : Nat} {l : List UInt8}, getGo f i n l = (m, k, 0) → ∃ x t, l = putN x ++ t ∧ m = n + x * 128 ^ i ∧ k = i + (putN x).length ∧ (0 < i → 0 < x) ∧ m ≤ 1099511627776
  | 0, _, _, _, _, _, h => by simp [getGo] at h
  | _ + 1, _, _, _, _, [], h => by simp [getGo] at h
  | f + 1, i, n, m, k, c :: l, h => by
    unfold getGo at h
    have hc := c.toNat_lt
    split at h
    · rename_i h1
      split at h
      · simp at h
      · rename_i h2
        simp only [Prod.mk.injEq] at h
        obtain ⟨rfl, rfl, _⟩ := h
        refine ⟨c.toNat, l, ?_, rfl, ?_, ?_, ?_⟩
        · rw [putN_lo h1]; simp
        · rw [putN_lo h1]; rfl
        · omega
        · omega
    · rename_i h1
      obtain ⟨x, t, rfl, rfl, rfl, h3, h4⟩ := getGo_ok h
      have h5 := h3 (by omega)
      refine ⟨(c.toNat - 128) + 128 * x, t, ?_, ?_, ?_, ?_, h4⟩
      · rw [putN_hi (n := (c.toNat - 128) + 128 * x) (by omega), show ((c.toNat - 128) + 128 * x) / 128 = x by omega, show ((c.toNat - 128) + 128 * x) % 128 + 128 = c.toNat by omega]
        simp
      · rw [Nat.pow_succ, Nat.add_mul, Nat.add_assoc, Nat.mul_comm 128 x, Nat.mul_assoc, Nat.mul_comm 128]
      · rw [putN_hi (n := (c.toNat - 128) + 128 * x) (by omega), List.length_cons, show ((c.toNat - 128) + 128 * x) / 128 = x by omega]
        omega
      · omega
theorem getGo_put : ∀ {f i n x : Nat} {t : List UInt8}, (putN x).length ≤ f → (0 < i → 0 < x) → n + x * 128 ^ i ≤ 1099511627776 → getGo f i n (putN x ++ t) = (n + x * 128 ^ i, i + (putN x).length, 0)
  | 0, _, _, x, _, h, _, _ => by
    have := putN_ne x
    exact absurd (List.eq_nil_of_length_eq_zero (by omega)) this
  | f + 1, i, n, x, t, h, h1, h2 => by
    by_cases hx : x < 128
    · rw [putN_lo hx]
      have e : (UInt8.ofNat x).toNat = x := ofNat_lo hx
      rw [List.singleton_append]
      unfold getGo
      rw [e, if_pos hx, if_neg (by omega)]
      rfl
    · rw [putN_hi hx] at h ⊢
      rw [List.cons_append]
      unfold getGo
      rw [ofNat_hi, if_neg (by omega), Nat.add_sub_cancel]
      have h3 : n + x % 128 * 128 ^ i + x / 128 * 128 ^ (i + 1) = n + x * 128 ^ i := by
        rw [Nat.pow_succ, Nat.add_assoc, Nat.mul_comm (128 ^ i), ← Nat.mul_assoc, ← Nat.add_mul, show x % 128 + x / 128 * 128 = x by omega]
      rw [getGo_put (by simpa using h) (fun _ => by omega) (by omega), h3, List.length_cons]
      congr 2
      omega
theorem getI_ok {l : List UInt8} {n k : Nat} (h : getI l = (n, k, 0)) : l = putN n ++ l.drop k ∧ k = (putN n).length ∧ n ≤ 1099511627776 := by
  obtain ⟨x, t, rfl, rfl, rfl, _, h4⟩ := getGo_ok h
  have e : 0 + x * 128 ^ 0 = x := by simp
  rw [e] at h4 ⊢
  refine ⟨?_, by omega, h4⟩
  rw [Nat.zero_add, List.drop_left]
theorem getI_put {n : Nat} {t : List UInt8} (h : n ≤ 1099511627776) : getI (putN n ++ t) = (n, (putN n).length, 0) := by
  unfold getI
  rw [getGo_put (putN_six h) (fun h => by omega) (by omega)]
  simp
theorem getGo_err : ∀ {f i n : Nat} {l : List UInt8}, (getGo f i n l).2.2 ≠ 0 → (getGo f i n l).1 = 0 ∧ (getGo f i n l).2.1 = 0
  | 0, _, _, _, _ => ⟨rfl, rfl⟩
  | _ + 1, _, _, [], _ => ⟨rfl, rfl⟩
  | f + 1, i, n, c :: l, h => by
    unfold getGo at h ⊢
    split at h
    · rename_i h1
      rw [if_pos h1]
      split at h
      · rename_i h2; rw [if_pos h2]; exact ⟨rfl, rfl⟩
      · simp at h
    · rename_i h1
      rw [if_neg h1]
      exact getGo_err h
theorem getI_err {l : List UInt8} (h : (getI l).2.2 ≠ 0) : (getI l).1 = 0 ∧ (getI l).2.1 = 0 := getGo_err h
theorem getI_le (l : List UInt8) : (getI l).2.1 ≤ l.length ∧ (getI l).1 ≤ 1099511627776 := by
  by_cases h : (getI l).2.2 = 0
  · obtain ⟨h1, h2, h3⟩ := getI_ok (l := l) (n := (getI l).1) (k := (getI l).2.1) (by rw [← h])
    refine ⟨?_, h3⟩
    have := congrArg List.length h1
    rw [List.length_append, ← h2] at this
    omega
  · obtain ⟨h1, h2⟩ := getI_err h
    omega
theorem getX_ok {l t : List UInt8} {k : Nat} (h : getX l = (t, k, 0)) : l = putT t ++ l.drop k ∧ t.length ≤ 65536 ∧ k = (putT t).length := by
  unfold getX at h
  split at h
  · rename_i h0
    obtain ⟨h1, h2, h3⟩ := getI_ok (l := l) (n := (getI l).1) (k := (getI l).2.1) (by rw [← h0])
    split at h
    · simp at h
    · rename_i h4
      split at h
      · simp at h
      · rename_i h5
        simp only [Prod.mk.injEq] at h
        obtain ⟨rfl, rfl, _⟩ := h
        have hl := (getI_le l).1
        have h6 : ((l.drop (getI l).2.1).take (getI l).1).length = (getI l).1 := by rw [List.length_take, List.length_drop]; omega
        unfold putT
        rw [h6, List.length_append, h6]
        refine ⟨?_, by omega, by omega⟩
        rw [List.append_assoc, ← List.drop_drop, List.take_append_drop]
        exact h1
  · rename_i h0
    simp only [Prod.mk.injEq] at h
    exact absurd h.2.2 h0
theorem getX_put {t s : List UInt8} (h : t.length ≤ 65536) : getX (putT t ++ s) = (t, (putT t).length, 0) := by
  have e : getI (putT t ++ s) = (t.length, (putN t.length).length, 0) := by
    unfold putT
    rw [List.append_assoc]
    exact getI_put (by omega)
  unfold getX
  rw [e]
  simp only [if_true]
  rw [if_neg (by omega), if_neg (by unfold putT; simp)]
  unfold putT
  rw [List.append_assoc, List.drop_left, List.take_left, List.length_append]
theorem getX_le (l : List UInt8) : (getX l).2.1 ≤ l.length ∧ (getX l).1.length ≤ l.length ∧ (getX l).1.length ≤ 65536 := by
  have hl := (getI_le l).1
  unfold getX
  split
  · split
    · simp
    · split
      · simp
      · simp only [List.length_take, List.length_drop]; omega
  · simp
theorem getX_err {l : List UInt8} (h : (getX l).2.2 ≠ 0) : (getX l).1 = [] ∧ (getX l).2.1 = 0 := by
  unfold getX at h ⊢
  split at h
  · rename_i h0
    rw [if_pos h0]
    split at h
    · rename_i h1; rw [if_pos h1]; exact ⟨rfl, rfl⟩
    · rename_i h1
      rw [if_neg h1]
      split at h
      · rename_i h2; rw [if_pos h2]; exact ⟨rfl, rfl⟩
      · exact absurd rfl h
  · rename_i h0; rw [if_neg h0]; exact ⟨rfl, rfl⟩
end Go.Proofs.Ytmkdcnkbhnegnaa

namespace Go.Proofs.Ytmkdcnkbhnegnaa
open Go.RowKit

theorem getGo_end {f i n : Nat} (h : 0 < f) : getGo f i n [] = (0, 0, 12) := by
  cases f with
  | zero => omega
  | succ f => rfl
theorem getGo_lo {f i n : Nat} {c : UInt8} {l : List UInt8} (h : 0 < f) (hc : c.toNat < 128) : getGo f i n (c :: l) = if c.toNat = 0 ∧ 0 < i ∨ 1099511627776 < n + c.toNat * 128 ^ i then (0, 0, 13) else (n + c.toNat * 128 ^ i, i + 1, 0) := by
  cases f with
  | zero => omega
  | succ f => rw [getGo, if_pos hc]
theorem getGo_hi {f i n : Nat} {c : UInt8} {l : List UInt8} (hc : ¬ c.toNat < 128) : getGo (f + 1) i n (c :: l) = getGo f (i + 1) (n + (c.toNat - 128) * 128 ^ i) l := by
  rw [getGo, if_neg hc]
abbrev gv (r : Nat × Nat × Int) : Value := .tuple #[.int .i64 r.1, .int .i64 r.2.1, .int .i64 r.2.2]
theorem ret_gv' {a b c : Int} {r : Nat × Nat × Int} {x y : Nat} (h : r = (x, y, c)) (h1 : a = x) (h2 : b = y) : Ending.returned (.tuple #[.int .i64 a, .int .i64 b, .int .i64 c]) = .returned (gv r) := by rw [h, h1, h2]

set_option maxRecDepth 100000 in
set_option maxHeartbeats 4000000 in
theorem GetInt_any (s : ByteArray) (w : World) (hs : s.size ≤ maxLen) :
    Calls Try.prog 54 #[.string s] w fun e w' => e = .returned (gv (getI s.data.toList)) ∧ w' = w := by
  have hs' : s.size ≤ 9223372036854775807 := hs
  have hN : s.data.toList.length = s.size := rfl
  go_enter Try.func54, Try.ntmps54
  go_wp2_with fail
  go_loop [5, 6, 9] (fun nv uv i => ∃ (k n : Nat), (k = 0 ∧ uv = .int .i64 1 ∧ i = .int .i64 0 ∨ k = 1 ∧ uv = .int .i64 128 ∧ i = .int .i64 1 ∨ k = 2 ∧ uv = .int .i64 16384 ∧ i = .int .i64 2 ∨ k = 3 ∧ uv = .int .i64 2097152 ∧ i = .int .i64 3 ∨ k = 4 ∧ uv = .int .i64 268435456 ∧ i = .int .i64 4 ∨ k = 5 ∧ uv = .int .i64 34359738368 ∧ i = .int .i64 5 ∨ k = 6 ∧ uv = .int .i64 4398046511104 ∧ i = .int .i64 6) ∧ nv = .int .i64 n ∧ n < 128 ^ k ∧ k ≤ s.size ∧ Hid (getI s.data.toList = getGo (6 - k) k n (s.data.toList.drop k))) (fun _ _ i => 6 - (intOf i).toNat)
  case atStart => exact ⟨0, 0, .inl ⟨rfl, rfl, rfl⟩, rfl, by omega, Nat.zero_le _, lid rfl⟩
  case round =>
    obtain ⟨k, n, hk, rfl, hn, hks, HG⟩ := hrel
    rcases hk with ⟨rfl, rfl, rfl⟩ | ⟨rfl, rfl, rfl⟩ | ⟨rfl, rfl, rfl⟩ | ⟨rfl, rfl, rfl⟩ | ⟨rfl, rfl, rfl⟩ | ⟨rfl, rfl, rfl⟩ | ⟨rfl, rfl, rfl⟩
    · by_cases hlt : s = ByteArray.empty
      case pos =>
        have HV := lid (show getI s.data.toList = (0, 0, 12) by subst hlt; rfl)
        go_wp2_with fail
        go_ret3
        exact ⟨ret_gv' (x := 0) (y := 0) rfl rfl rfl, rfl⟩
      have hlt' : 0 < s.size := by
        rcases Nat.eq_zero_or_pos s.size with h | h
        · exact absurd (ByteArray.size_eq_zero_iff.1 h) hlt
        · exact h
      have hlt2 : ¬ ByteArray.empty = s := fun e => hlt e.symm
      obtain ⟨c, hc⟩ : ∃ c, s[0]'hlt' = c := ⟨_, rfl⟩
      have hcl : s.data.toList[0]'hlt' = c := by rw [← hc]; rfl
      have HD := lid (List.drop_eq_getElem_cons (l := s.data.toList) (i := 0) hlt')
      rw [hcl] at HD
      have hc8 := c.toNat_lt
      clear hcl
      by_cases h1 : c.toNat < 128
      · have HV := lid (show getI s.data.toList = if c.toNat = 0 ∧ 0 < 0 ∨ 1099511627776 < n + c.toNat * 1 then (0, 0, 13) else (n + c.toNat * 1, 0 + 1, 0) by rw [HG.out, HD.out]; exact getGo_lo (by omega) h1)
        have d1 : decide ((128 : Int) ≤ c.toNat) = false := by simp; omega

        go_wp2_with fail
        all_goals
          go_ret3
          refine ⟨?_, rfl⟩
          first
            | exact ret_gv' (HV.out.trans (if_pos (by omega))) rfl rfl
            | exact ret_gv' (HV.out.trans (if_neg (by omega))) (by omega) (by omega)
      · have HV := lid (show getI s.data.toList = getGo (6 - 1) 1 (n + (c.toNat - 128) * 1) (s.data.toList.drop 1) by rw [HG.out, HD.out]; exact getGo_hi h1)
        have d1 : decide ((128 : Int) ≤ c.toNat) = true := by simp; omega
        go_wp2_with fail
        go_round
        case rel => exact ⟨1, n + (c.toNat - 128) * 1, .inr (.inl ⟨rfl, rfl, rfl⟩), by go_num, by omega, by omega, HV⟩
        case measure => simp [intOf]
    · by_cases hlt : 1 < s.size
      case neg =>
        have HV := lid (show getI s.data.toList = (0, 0, 12) by rw [HG.out, List.drop_eq_nil_of_le (by rw [hN]; omega)]; rfl)
        have d0 : decide ((s.size : Int) ≤ 1) = true := by simp; omega
        go_wp2_with fail
        go_ret3
        exact ⟨ret_gv' HV.out rfl rfl, rfl⟩
      have d0 : decide ((s.size : Int) ≤ 1) = false := by simp; omega
      have hlt' := hlt
      obtain ⟨c, hc⟩ : ∃ c, s[1]'hlt' = c := ⟨_, rfl⟩
      have hcl : s.data.toList[1]'hlt' = c := by rw [← hc]; rfl
      have HD := lid (List.drop_eq_getElem_cons (l := s.data.toList) (i := 1) hlt')
      rw [hcl] at HD
      have hc8 := c.toNat_lt
      clear hcl
      by_cases h1 : c.toNat < 128
      · have HV := lid (show getI s.data.toList = if c.toNat = 0 ∧ 0 < 1 ∨ 1099511627776 < n + c.toNat * 128 then (0, 0, 13) else (n + c.toNat * 128, 1 + 1, 0) by rw [HG.out, HD.out]; exact getGo_lo (by omega) h1)
        have d1 : decide ((128 : Int) ≤ c.toNat) = false := by simp; omega

        go_wp2_with fail
        all_goals
          go_ret3
          refine ⟨?_, rfl⟩
          first
            | exact ret_gv' (HV.out.trans (if_pos (by omega))) rfl rfl
            | exact ret_gv' (HV.out.trans (if_neg (by omega))) (by omega) (by omega)
      · have HV := lid (show getI s.data.toList = getGo (6 - 2) 2 (n + (c.toNat - 128) * 128) (s.data.toList.drop 2) by rw [HG.out, HD.out]; exact getGo_hi h1)
        have d1 : decide ((128 : Int) ≤ c.toNat) = true := by simp; omega
        go_wp2_with fail
        go_round
        case rel => exact ⟨2, n + (c.toNat - 128) * 128, .inr (.inr (.inl ⟨rfl, rfl, rfl⟩)), by go_num, by omega, by omega, HV⟩
        case measure => simp [intOf]
    · by_cases hlt : 2 < s.size
      case neg =>
        have HV := lid (show getI s.data.toList = (0, 0, 12) by rw [HG.out, List.drop_eq_nil_of_le (by rw [hN]; omega)]; rfl)
        have d0 : decide ((s.size : Int) ≤ 2) = true := by simp; omega
        go_wp2_with fail
        go_ret3
        exact ⟨ret_gv' HV.out rfl rfl, rfl⟩
      have d0 : decide ((s.size : Int) ≤ 2) = false := by simp; omega
      have hlt' := hlt
      obtain ⟨c, hc⟩ : ∃ c, s[2]'hlt' = c := ⟨_, rfl⟩
      have hcl : s.data.toList[2]'hlt' = c := by rw [← hc]; rfl
      have HD := lid (List.drop_eq_getElem_cons (l := s.data.toList) (i := 2) hlt')
      rw [hcl] at HD
      have hc8 := c.toNat_lt
      clear hcl
      by_cases h1 : c.toNat < 128
      · have HV := lid (show getI s.data.toList = if c.toNat = 0 ∧ 0 < 2 ∨ 1099511627776 < n + c.toNat * 16384 then (0, 0, 13) else (n + c.toNat * 16384, 2 + 1, 0) by rw [HG.out, HD.out]; exact getGo_lo (by omega) h1)
        have d1 : decide ((128 : Int) ≤ c.toNat) = false := by simp; omega

        go_wp2_with fail
        all_goals
          go_ret3
          refine ⟨?_, rfl⟩
          first
            | exact ret_gv' (HV.out.trans (if_pos (by omega))) rfl rfl
            | exact ret_gv' (HV.out.trans (if_neg (by omega))) (by omega) (by omega)
      · have HV := lid (show getI s.data.toList = getGo (6 - 3) 3 (n + (c.toNat - 128) * 16384) (s.data.toList.drop 3) by rw [HG.out, HD.out]; exact getGo_hi h1)
        have d1 : decide ((128 : Int) ≤ c.toNat) = true := by simp; omega
        go_wp2_with fail
        go_round
        case rel => exact ⟨3, n + (c.toNat - 128) * 16384, .inr (.inr (.inr (.inl ⟨rfl, rfl, rfl⟩))), by go_num, by omega, by omega, HV⟩
        case measure => simp [intOf]
    · by_cases hlt : 3 < s.size
      case neg =>
        have HV := lid (show getI s.data.toList = (0, 0, 12) by rw [HG.out, List.drop_eq_nil_of_le (by rw [hN]; omega)]; rfl)
        have d0 : decide ((s.size : Int) ≤ 3) = true := by simp; omega
        go_wp2_with fail
        go_ret3
        exact ⟨ret_gv' HV.out rfl rfl, rfl⟩
      have d0 : decide ((s.size : Int) ≤ 3) = false := by simp; omega
      have hlt' := hlt
      obtain ⟨c, hc⟩ : ∃ c, s[3]'hlt' = c := ⟨_, rfl⟩
      have hcl : s.data.toList[3]'hlt' = c := by rw [← hc]; rfl
      have HD := lid (List.drop_eq_getElem_cons (l := s.data.toList) (i := 3) hlt')
      rw [hcl] at HD
      have hc8 := c.toNat_lt
      clear hcl
      by_cases h1 : c.toNat < 128
      · have HV := lid (show getI s.data.toList = if c.toNat = 0 ∧ 0 < 3 ∨ 1099511627776 < n + c.toNat * 2097152 then (0, 0, 13) else (n + c.toNat * 2097152, 3 + 1, 0) by rw [HG.out, HD.out]; exact getGo_lo (by omega) h1)
        have d1 : decide ((128 : Int) ≤ c.toNat) = false := by simp; omega

        go_wp2_with fail
        all_goals
          go_ret3
          refine ⟨?_, rfl⟩
          first
            | exact ret_gv' (HV.out.trans (if_pos (by omega))) rfl rfl
            | exact ret_gv' (HV.out.trans (if_neg (by omega))) (by omega) (by omega)
      · have HV := lid (show getI s.data.toList = getGo (6 - 4) 4 (n + (c.toNat - 128) * 2097152) (s.data.toList.drop 4) by rw [HG.out, HD.out]; exact getGo_hi h1)
        have d1 : decide ((128 : Int) ≤ c.toNat) = true := by simp; omega
        go_wp2_with fail
        go_round
        case rel => exact ⟨4, n + (c.toNat - 128) * 2097152, .inr (.inr (.inr (.inr (.inl ⟨rfl, rfl, rfl⟩)))), by go_num, by omega, by omega, HV⟩
        case measure => simp [intOf]
    · by_cases hlt : 4 < s.size
      case neg =>
        have HV := lid (show getI s.data.toList = (0, 0, 12) by rw [HG.out, List.drop_eq_nil_of_le (by rw [hN]; omega)]; rfl)
        have d0 : decide ((s.size : Int) ≤ 4) = true := by simp; omega
        go_wp2_with fail
        go_ret3
        exact ⟨ret_gv' HV.out rfl rfl, rfl⟩
      have d0 : decide ((s.size : Int) ≤ 4) = false := by simp; omega
      have hlt' := hlt
      obtain ⟨c, hc⟩ : ∃ c, s[4]'hlt' = c := ⟨_, rfl⟩
      have hcl : s.data.toList[4]'hlt' = c := by rw [← hc]; rfl
      have HD := lid (List.drop_eq_getElem_cons (l := s.data.toList) (i := 4) hlt')
      rw [hcl] at HD
      have hc8 := c.toNat_lt
      clear hcl
      by_cases h1 : c.toNat < 128
      · have HV := lid (show getI s.data.toList = if c.toNat = 0 ∧ 0 < 4 ∨ 1099511627776 < n + c.toNat * 268435456 then (0, 0, 13) else (n + c.toNat * 268435456, 4 + 1, 0) by rw [HG.out, HD.out]; exact getGo_lo (by omega) h1)
        have d1 : decide ((128 : Int) ≤ c.toNat) = false := by simp; omega

        go_wp2_with fail
        all_goals
          go_ret3
          refine ⟨?_, rfl⟩
          first
            | exact ret_gv' (HV.out.trans (if_pos (by omega))) rfl rfl
            | exact ret_gv' (HV.out.trans (if_neg (by omega))) (by omega) (by omega)
      · have HV := lid (show getI s.data.toList = getGo (6 - 5) 5 (n + (c.toNat - 128) * 268435456) (s.data.toList.drop 5) by rw [HG.out, HD.out]; exact getGo_hi h1)
        have d1 : decide ((128 : Int) ≤ c.toNat) = true := by simp; omega
        go_wp2_with fail
        go_round
        case rel => exact ⟨5, n + (c.toNat - 128) * 268435456, .inr (.inr (.inr (.inr (.inr (.inl ⟨rfl, rfl, rfl⟩))))), by go_num, by omega, by omega, HV⟩
        case measure => simp [intOf]
    · by_cases hlt : 5 < s.size
      case neg =>
        have HV := lid (show getI s.data.toList = (0, 0, 12) by rw [HG.out, List.drop_eq_nil_of_le (by rw [hN]; omega)]; rfl)
        have d0 : decide ((s.size : Int) ≤ 5) = true := by simp; omega
        go_wp2_with fail
        go_ret3
        exact ⟨ret_gv' HV.out rfl rfl, rfl⟩
      have d0 : decide ((s.size : Int) ≤ 5) = false := by simp; omega
      have hlt' := hlt
      obtain ⟨c, hc⟩ : ∃ c, s[5]'hlt' = c := ⟨_, rfl⟩
      have hcl : s.data.toList[5]'hlt' = c := by rw [← hc]; rfl
      have HD := lid (List.drop_eq_getElem_cons (l := s.data.toList) (i := 5) hlt')
      rw [hcl] at HD
      have hc8 := c.toNat_lt
      clear hcl
      by_cases h1 : c.toNat < 128
      · have HV := lid (show getI s.data.toList = if c.toNat = 0 ∧ 0 < 5 ∨ 1099511627776 < n + c.toNat * 34359738368 then (0, 0, 13) else (n + c.toNat * 34359738368, 5 + 1, 0) by rw [HG.out, HD.out]; exact getGo_lo (by omega) h1)
        have d1 : decide ((128 : Int) ≤ c.toNat) = false := by simp; omega

        go_wp2_with fail
        all_goals
          go_ret3
          refine ⟨?_, rfl⟩
          first
            | exact ret_gv' (HV.out.trans (if_pos (by omega))) rfl rfl
            | exact ret_gv' (HV.out.trans (if_neg (by omega))) (by omega) (by omega)
      · have HV := lid (show getI s.data.toList = getGo (6 - 6) 6 (n + (c.toNat - 128) * 34359738368) (s.data.toList.drop 6) by rw [HG.out, HD.out]; exact getGo_hi h1)
        have d1 : decide ((128 : Int) ≤ c.toNat) = true := by simp; omega
        go_wp2_with fail
        go_round
        case rel => exact ⟨6, n + (c.toNat - 128) * 34359738368, .inr (.inr (.inr (.inr (.inr (.inr ⟨rfl, rfl, rfl⟩))))), by go_num, by omega, by omega, HV⟩
        case measure => simp [intOf]
    · go_wp2_with fail
      go_ret3
      exact ⟨ret_gv' (by rw [HG.out]; rfl) rfl rfl, rfl⟩
set_option maxRecDepth 100000 in
set_option maxHeartbeats 4000000 in
theorem refGetInt_any (s : ByteArray) (w : World) (hs : s.size ≤ maxLen) :
    Calls Try.prog 56 #[.string s] w fun e w' => e = .returned (gv (getI s.data.toList)) ∧ w' = w := by
  have hs' : s.size ≤ 9223372036854775807 := hs
  have hN : s.data.toList.length = s.size := rfl
  go_enter Try.func56, Try.ntmps56
  go_wp2_with fail
  go_loop [5, 6, 7] (fun nv uv i => ∃ (k n : Nat), (k = 0 ∧ uv = .int .i64 1 ∧ i = .int .i64 0 ∨ k = 1 ∧ uv = .int .i64 128 ∧ i = .int .i64 1 ∨ k = 2 ∧ uv = .int .i64 16384 ∧ i = .int .i64 2 ∨ k = 3 ∧ uv = .int .i64 2097152 ∧ i = .int .i64 3 ∨ k = 4 ∧ uv = .int .i64 268435456 ∧ i = .int .i64 4 ∨ k = 5 ∧ uv = .int .i64 34359738368 ∧ i = .int .i64 5 ∨ k = 6 ∧ uv = .int .i64 4398046511104 ∧ i = .int .i64 6) ∧ nv = .int .i64 n ∧ n < 128 ^ k ∧ k ≤ s.size ∧ Hid (getI s.data.toList = getGo (6 - k) k n (s.data.toList.drop k))) (fun _ _ i => 6 - (intOf i).toNat)
  case atStart => exact ⟨0, 0, .inl ⟨rfl, rfl, rfl⟩, rfl, by omega, Nat.zero_le _, lid rfl⟩
  case round =>
    obtain ⟨k, n, hk, rfl, hn, hks, HG⟩ := hrel
    rcases hk with ⟨rfl, rfl, rfl⟩ | ⟨rfl, rfl, rfl⟩ | ⟨rfl, rfl, rfl⟩ | ⟨rfl, rfl, rfl⟩ | ⟨rfl, rfl, rfl⟩ | ⟨rfl, rfl, rfl⟩ | ⟨rfl, rfl, rfl⟩
    · by_cases hlt : s = ByteArray.empty
      case pos =>
        have HV := lid (show getI s.data.toList = (0, 0, 12) by subst hlt; rfl)
        go_wp2_with fail
        go_ret3
        exact ⟨ret_gv' (x := 0) (y := 0) rfl rfl rfl, rfl⟩
      have hlt' : 0 < s.size := by
        rcases Nat.eq_zero_or_pos s.size with h | h
        · exact absurd (ByteArray.size_eq_zero_iff.1 h) hlt
        · exact h
      have hlt2 : ¬ ByteArray.empty = s := fun e => hlt e.symm
      obtain ⟨c, hc⟩ : ∃ c, s[0]'hlt' = c := ⟨_, rfl⟩
      have hcl : s.data.toList[0]'hlt' = c := by rw [← hc]; rfl
      have HD := lid (List.drop_eq_getElem_cons (l := s.data.toList) (i := 0) hlt')
      rw [hcl] at HD
      have hc8 := c.toNat_lt
      clear hcl
      by_cases h1 : c.toNat < 128
      · have HV := lid (show getI s.data.toList = if c.toNat = 0 ∧ 0 < 0 ∨ 1099511627776 < n + c.toNat * 1 then (0, 0, 13) else (n + c.toNat * 1, 0 + 1, 0) by rw [HG.out, HD.out]; exact getGo_lo (by omega) h1)
        have d1 : decide ((c.toNat : Int) < 128) = true := by simp; omega
        have d2 : c.toNat % 128 = c.toNat := by omega
        have d3 : ((c.toNat : Int) % 128) = c.toNat := by omega
        have d4 : ((c.toNat : Int) == 0) = decide (c.toNat = 0) := by rw [Bool.eq_iff_iff]; simp
        cases h0 : decide (c.toNat = 0) <;> rw [h0] at d4 <;> simp only [decide_eq_true_eq, decide_eq_false_iff_not] at h0
        all_goals go_wp2_with fail
        all_goals
          go_ret3
          refine ⟨?_, rfl⟩
          first
            | exact ret_gv' (HV.out.trans (if_pos (by omega))) rfl rfl
            | exact ret_gv' (HV.out.trans (if_neg (by omega))) (by omega) (by omega)
      · have HV := lid (show getI s.data.toList = getGo (6 - 1) 1 (n + (c.toNat - 128) * 1) (s.data.toList.drop 1) by rw [HG.out, HD.out]; exact getGo_hi h1)
        have d1 : decide ((c.toNat : Int) < 128) = false := by simp; omega
        have d3 : ((c.toNat : Int) % 128) = ((c.toNat - 128 : Nat) : Int) := by omega
        go_wp2_with fail
        go_round
        case rel => exact ⟨1, n + (c.toNat - 128) * 1, .inr (.inl ⟨rfl, rfl, rfl⟩), by go_num, by omega, by omega, HV⟩
        case measure => simp [intOf]
    · by_cases hlt : 1 < s.size
      case neg =>
        have HV := lid (show getI s.data.toList = (0, 0, 12) by rw [HG.out, List.drop_eq_nil_of_le (by rw [hN]; omega)]; rfl)
        have d0 : ((1 : Int) == s.size) = true := by simp; omega
        go_wp2_with fail
        go_ret3
        exact ⟨ret_gv' HV.out rfl rfl, rfl⟩
      have d0 : ((1 : Int) == s.size) = false := by simp; omega
      have hlt' := hlt
      obtain ⟨c, hc⟩ : ∃ c, s[1]'hlt' = c := ⟨_, rfl⟩
      have hcl : s.data.toList[1]'hlt' = c := by rw [← hc]; rfl
      have HD := lid (List.drop_eq_getElem_cons (l := s.data.toList) (i := 1) hlt')
      rw [hcl] at HD
      have hc8 := c.toNat_lt
      clear hcl
      by_cases h1 : c.toNat < 128
      · have HV := lid (show getI s.data.toList = if c.toNat = 0 ∧ 0 < 1 ∨ 1099511627776 < n + c.toNat * 128 then (0, 0, 13) else (n + c.toNat * 128, 1 + 1, 0) by rw [HG.out, HD.out]; exact getGo_lo (by omega) h1)
        have d1 : decide ((c.toNat : Int) < 128) = true := by simp; omega
        have d2 : c.toNat % 128 = c.toNat := by omega
        have d3 : ((c.toNat : Int) % 128) = c.toNat := by omega
        have d4 : ((c.toNat : Int) == 0) = decide (c.toNat = 0) := by rw [Bool.eq_iff_iff]; simp
        cases h0 : decide (c.toNat = 0) <;> rw [h0] at d4 <;> simp only [decide_eq_true_eq, decide_eq_false_iff_not] at h0
        all_goals go_wp2_with fail
        all_goals
          go_ret3
          refine ⟨?_, rfl⟩
          first
            | exact ret_gv' (HV.out.trans (if_pos (by omega))) rfl rfl
            | exact ret_gv' (HV.out.trans (if_neg (by omega))) (by omega) (by omega)
      · have HV := lid (show getI s.data.toList = getGo (6 - 2) 2 (n + (c.toNat - 128) * 128) (s.data.toList.drop 2) by rw [HG.out, HD.out]; exact getGo_hi h1)
        have d1 : decide ((c.toNat : Int) < 128) = false := by simp; omega
        have d3 : ((c.toNat : Int) % 128) = ((c.toNat - 128 : Nat) : Int) := by omega
        go_wp2_with fail
        go_round
        case rel => exact ⟨2, n + (c.toNat - 128) * 128, .inr (.inr (.inl ⟨rfl, rfl, rfl⟩)), by go_num, by omega, by omega, HV⟩
        case measure => simp [intOf]
    · by_cases hlt : 2 < s.size
      case neg =>
        have HV := lid (show getI s.data.toList = (0, 0, 12) by rw [HG.out, List.drop_eq_nil_of_le (by rw [hN]; omega)]; rfl)
        have d0 : ((2 : Int) == s.size) = true := by simp; omega
        go_wp2_with fail
        go_ret3
        exact ⟨ret_gv' HV.out rfl rfl, rfl⟩
      have d0 : ((2 : Int) == s.size) = false := by simp; omega
      have hlt' := hlt
      obtain ⟨c, hc⟩ : ∃ c, s[2]'hlt' = c := ⟨_, rfl⟩
      have hcl : s.data.toList[2]'hlt' = c := by rw [← hc]; rfl
      have HD := lid (List.drop_eq_getElem_cons (l := s.data.toList) (i := 2) hlt')
      rw [hcl] at HD
      have hc8 := c.toNat_lt
      clear hcl
      by_cases h1 : c.toNat < 128
      · have HV := lid (show getI s.data.toList = if c.toNat = 0 ∧ 0 < 2 ∨ 1099511627776 < n + c.toNat * 16384 then (0, 0, 13) else (n + c.toNat * 16384, 2 + 1, 0) by rw [HG.out, HD.out]; exact getGo_lo (by omega) h1)
        have d1 : decide ((c.toNat : Int) < 128) = true := by simp; omega
        have d2 : c.toNat % 128 = c.toNat := by omega
        have d3 : ((c.toNat : Int) % 128) = c.toNat := by omega
        have d4 : ((c.toNat : Int) == 0) = decide (c.toNat = 0) := by rw [Bool.eq_iff_iff]; simp
        cases h0 : decide (c.toNat = 0) <;> rw [h0] at d4 <;> simp only [decide_eq_true_eq, decide_eq_false_iff_not] at h0
        all_goals go_wp2_with fail
        all_goals
          go_ret3
          refine ⟨?_, rfl⟩
          first
            | exact ret_gv' (HV.out.trans (if_pos (by omega))) rfl rfl
            | exact ret_gv' (HV.out.trans (if_neg (by omega))) (by omega) (by omega)
      · have HV := lid (show getI s.data.toList = getGo (6 - 3) 3 (n + (c.toNat - 128) * 16384) (s.data.toList.drop 3) by rw [HG.out, HD.out]; exact getGo_hi h1)
        have d1 : decide ((c.toNat : Int) < 128) = false := by simp; omega
        have d3 : ((c.toNat : Int) % 128) = ((c.toNat - 128 : Nat) : Int) := by omega
        go_wp2_with fail
        go_round
        case rel => exact ⟨3, n + (c.toNat - 128) * 16384, .inr (.inr (.inr (.inl ⟨rfl, rfl, rfl⟩))), by go_num, by omega, by omega, HV⟩
        case measure => simp [intOf]
    · by_cases hlt : 3 < s.size
      case neg =>
        have HV := lid (show getI s.data.toList = (0, 0, 12) by rw [HG.out, List.drop_eq_nil_of_le (by rw [hN]; omega)]; rfl)
        have d0 : ((3 : Int) == s.size) = true := by simp; omega
        go_wp2_with fail
        go_ret3
        exact ⟨ret_gv' HV.out rfl rfl, rfl⟩
      have d0 : ((3 : Int) == s.size) = false := by simp; omega
      have hlt' := hlt
      obtain ⟨c, hc⟩ : ∃ c, s[3]'hlt' = c := ⟨_, rfl⟩
      have hcl : s.data.toList[3]'hlt' = c := by rw [← hc]; rfl
      have HD := lid (List.drop_eq_getElem_cons (l := s.data.toList) (i := 3) hlt')
      rw [hcl] at HD
      have hc8 := c.toNat_lt
      clear hcl
      by_cases h1 : c.toNat < 128
      · have HV := lid (show getI s.data.toList = if c.toNat = 0 ∧ 0 < 3 ∨ 1099511627776 < n + c.toNat * 2097152 then (0, 0, 13) else (n + c.toNat * 2097152, 3 + 1, 0) by rw [HG.out, HD.out]; exact getGo_lo (by omega) h1)
        have d1 : decide ((c.toNat : Int) < 128) = true := by simp; omega
        have d2 : c.toNat % 128 = c.toNat := by omega
        have d3 : ((c.toNat : Int) % 128) = c.toNat := by omega
        have d4 : ((c.toNat : Int) == 0) = decide (c.toNat = 0) := by rw [Bool.eq_iff_iff]; simp
        cases h0 : decide (c.toNat = 0) <;> rw [h0] at d4 <;> simp only [decide_eq_true_eq, decide_eq_false_iff_not] at h0
        all_goals go_wp2_with fail
        all_goals
          go_ret3
          refine ⟨?_, rfl⟩
          first
            | exact ret_gv' (HV.out.trans (if_pos (by omega))) rfl rfl
            | exact ret_gv' (HV.out.trans (if_neg (by omega))) (by omega) (by omega)
      · have HV := lid (show getI s.data.toList = getGo (6 - 4) 4 (n + (c.toNat - 128) * 2097152) (s.data.toList.drop 4) by rw [HG.out, HD.out]; exact getGo_hi h1)
        have d1 : decide ((c.toNat : Int) < 128) = false := by simp; omega
        have d3 : ((c.toNat : Int) % 128) = ((c.toNat - 128 : Nat) : Int) := by omega
        go_wp2_with fail
        go_round
        case rel => exact ⟨4, n + (c.toNat - 128) * 2097152, .inr (.inr (.inr (.inr (.inl ⟨rfl, rfl, rfl⟩)))), by go_num, by omega, by omega, HV⟩
        case measure => simp [intOf]
    · by_cases hlt : 4 < s.size
      case neg =>
        have HV := lid (show getI s.data.toList = (0, 0, 12) by rw [HG.out, List.drop_eq_nil_of_le (by rw [hN]; omega)]; rfl)
        have d0 : ((4 : Int) == s.size) = true := by simp; omega
        go_wp2_with fail
        go_ret3
        exact ⟨ret_gv' HV.out rfl rfl, rfl⟩
      have d0 : ((4 : Int) == s.size) = false := by simp; omega
      have hlt' := hlt
      obtain ⟨c, hc⟩ : ∃ c, s[4]'hlt' = c := ⟨_, rfl⟩
      have hcl : s.data.toList[4]'hlt' = c := by rw [← hc]; rfl
      have HD := lid (List.drop_eq_getElem_cons (l := s.data.toList) (i := 4) hlt')
      rw [hcl] at HD
      have hc8 := c.toNat_lt
      clear hcl
      by_cases h1 : c.toNat < 128
      · have HV := lid (show getI s.data.toList = if c.toNat = 0 ∧ 0 < 4 ∨ 1099511627776 < n + c.toNat * 268435456 then (0, 0, 13) else (n + c.toNat * 268435456, 4 + 1, 0) by rw [HG.out, HD.out]; exact getGo_lo (by omega) h1)
        have d1 : decide ((c.toNat : Int) < 128) = true := by simp; omega
        have d2 : c.toNat % 128 = c.toNat := by omega
        have d3 : ((c.toNat : Int) % 128) = c.toNat := by omega
        have d4 : ((c.toNat : Int) == 0) = decide (c.toNat = 0) := by rw [Bool.eq_iff_iff]; simp
        cases h0 : decide (c.toNat = 0) <;> rw [h0] at d4 <;> simp only [decide_eq_true_eq, decide_eq_false_iff_not] at h0
        all_goals go_wp2_with fail
        all_goals
          go_ret3
          refine ⟨?_, rfl⟩
          first
            | exact ret_gv' (HV.out.trans (if_pos (by omega))) rfl rfl
            | exact ret_gv' (HV.out.trans (if_neg (by omega))) (by omega) (by omega)
      · have HV := lid (show getI s.data.toList = getGo (6 - 5) 5 (n + (c.toNat - 128) * 268435456) (s.data.toList.drop 5) by rw [HG.out, HD.out]; exact getGo_hi h1)
        have d1 : decide ((c.toNat : Int) < 128) = false := by simp; omega
        have d3 : ((c.toNat : Int) % 128) = ((c.toNat - 128 : Nat) : Int) := by omega
        go_wp2_with fail
        go_round
        case rel => exact ⟨5, n + (c.toNat - 128) * 268435456, .inr (.inr (.inr (.inr (.inr (.inl ⟨rfl, rfl, rfl⟩))))), by go_num, by omega, by omega, HV⟩
        case measure => simp [intOf]
    · by_cases hlt : 5 < s.size
      case neg =>
        have HV := lid (show getI s.data.toList = (0, 0, 12) by rw [HG.out, List.drop_eq_nil_of_le (by rw [hN]; omega)]; rfl)
        have d0 : ((5 : Int) == s.size) = true := by simp; omega
        go_wp2_with fail
        go_ret3
        exact ⟨ret_gv' HV.out rfl rfl, rfl⟩
      have d0 : ((5 : Int) == s.size) = false := by simp; omega
      have hlt' := hlt
      obtain ⟨c, hc⟩ : ∃ c, s[5]'hlt' = c := ⟨_, rfl⟩
      have hcl : s.data.toList[5]'hlt' = c := by rw [← hc]; rfl
      have HD := lid (List.drop_eq_getElem_cons (l := s.data.toList) (i := 5) hlt')
      rw [hcl] at HD
      have hc8 := c.toNat_lt
      clear hcl
      by_cases h1 : c.toNat < 128
      · have HV := lid (show getI s.data.toList = if c.toNat = 0 ∧ 0 < 5 ∨ 1099511627776 < n + c.toNat * 34359738368 then (0, 0, 13) else (n + c.toNat * 34359738368, 5 + 1, 0) by rw [HG.out, HD.out]; exact getGo_lo (by omega) h1)
        have d1 : decide ((c.toNat : Int) < 128) = true := by simp; omega
        have d2 : c.toNat % 128 = c.toNat := by omega
        have d3 : ((c.toNat : Int) % 128) = c.toNat := by omega
        have d4 : ((c.toNat : Int) == 0) = decide (c.toNat = 0) := by rw [Bool.eq_iff_iff]; simp
        cases h0 : decide (c.toNat = 0) <;> rw [h0] at d4 <;> simp only [decide_eq_true_eq, decide_eq_false_iff_not] at h0
        all_goals go_wp2_with fail
        all_goals
          go_ret3
          refine ⟨?_, rfl⟩
          first
            | exact ret_gv' (HV.out.trans (if_pos (by omega))) rfl rfl
            | exact ret_gv' (HV.out.trans (if_neg (by omega))) (by omega) (by omega)
      · have HV := lid (show getI s.data.toList = getGo (6 - 6) 6 (n + (c.toNat - 128) * 34359738368) (s.data.toList.drop 6) by rw [HG.out, HD.out]; exact getGo_hi h1)
        have d1 : decide ((c.toNat : Int) < 128) = false := by simp; omega
        have d3 : ((c.toNat : Int) % 128) = ((c.toNat - 128 : Nat) : Int) := by omega
        go_wp2_with fail
        go_round
        case rel => exact ⟨6, n + (c.toNat - 128) * 34359738368, .inr (.inr (.inr (.inr (.inr (.inr ⟨rfl, rfl, rfl⟩))))), by go_num, by omega, by omega, HV⟩
        case measure => simp [intOf]
    · go_wp2_with fail
      go_ret3
      exact ⟨ret_gv' (by rw [HG.out]; rfl) rfl rfl, rfl⟩
end Go.Proofs.Ytmkdcnkbhnegnaa

namespace Go.Proofs.Ytmkdcnkbhnegnaa
open Go.RowKit

abbrev xv (r : List UInt8 × Nat × Int) : Value := .tuple #[.string (bstr r.1), .int .i64 r.2.1, .int .i64 r.2.2]
theorem ret_xv {s : ByteArray} {b c : Int} {r : List UInt8 × Nat × Int} (h0 : bstr r.1 = s) (h1 : b = r.2.1) (h2 : c = r.2.2) : Ending.returned (.tuple #[.string s, .int .i64 b, .int .i64 c]) = .returned (xv r) := by rw [← h0, h1, h2]
theorem getX_a {l : List UInt8} (h : ¬ (getI l).2.2 = 0) : getX l = ([], 0, (getI l).2.2) := by unfold getX; rw [if_neg h]
theorem getX_b {l : List UInt8} (h : (getI l).2.2 = 0) (h1 : 65536 < (getI l).1) : getX l = ([], 0, 13) := by unfold getX; rw [if_pos h, if_pos h1]
theorem getX_c {l : List UInt8} (h : (getI l).2.2 = 0) (h1 : ¬ 65536 < (getI l).1) (h2 : l.length - (getI l).2.1 < (getI l).1) : getX l = ([], 0, 12) := by unfold getX; rw [if_pos h, if_neg h1, if_pos h2]
theorem getX_d {l : List UInt8} (h : (getI l).2.2 = 0) (h1 : ¬ 65536 < (getI l).1) (h2 : ¬ l.length - (getI l).2.1 < (getI l).1) : getX l = ((l.drop (getI l).2.1).take (getI l).1, (getI l).2.1 + (getI l).1, 0) := by unfold getX; rw [if_pos h, if_neg h1, if_neg h2]
theorem bstr_extract (s : ByteArray) (a b : Nat) : bstr ((s.data.toList.drop a).take (b - a)) = s.extract a b := by
  apply ByteArray.ext
  apply Array.toList_inj.1
  rw [ByteArray.data_extract, Array.toList_extract, List.extract_eq_take_drop, bstr_list]

set_option maxRecDepth 100000 in
set_option maxHeartbeats 4000000 in
theorem GetText_any (s : ByteArray) (w : World) (hs : s.size ≤ maxLen) :
    Calls Try.prog 55 #[.string s] w fun e w' => e = .returned (xv (getX s.data.toList)) ∧ w' = w := by
  have hs' : s.size ≤ 9223372036854775807 := hs
  have hN : s.data.toList.length = s.size := rfl
  have HM := lid hs
  have hle := getI_le s.data.toList
  have HA := lid (getX_a (l := s.data.toList))
  have HB := lid (getX_b (l := s.data.toList))
  have HC := lid (getX_c (l := s.data.toList))
  have HD := lid (getX_d (l := s.data.toList))
  have HG := lid (GetInt_any s w hs)
  go_enter Try.func55, Try.ntmps55
  go_wp2_with fail
  (with_reducible refine (HG.out).mono ?_); rintro e w1 ⟨rfl, rfl⟩
  obtain ⟨r, hr⟩ : ∃ r, getI s.data.toList = r := ⟨_, rfl⟩
  rw [hr] at hle HA HB HC HD ⊢
  obtain ⟨n, k, e⟩ := r
  clear HG hr
  simp only at hle HA HB HC HD
  rw [hN] at hle HC HD
  by_cases h0 : e = 0
  case neg =>
    have HV := lid (HA.out h0)
    have u0 : (e == 0) = false := by simpa using h0
    clear h0 HA HB HC HD
    go_wp2_with fail
    go_ret3
    exact ⟨ret_xv (by rw [HV.out]; rfl) (by rw [HV.out]; rfl) (by rw [HV.out]), rfl⟩
  subst h0
  by_cases h1 : 65536 < n
  · have HV := lid (HB.out rfl h1)
    have u1 : decide ((65536 : Int) < (n : Int)) = true := by simp; omega
    have u1' : decide (65536 < n) = true := by simp; omega
    clear h1 HA HB HC HD
    go_wp2_with fail
    go_ret3
    exact ⟨ret_xv (by rw [HV.out]; rfl) (by rw [HV.out]; rfl) (by rw [HV.out]), rfl⟩
  have u1 : decide ((65536 : Int) < (n : Int)) = false := by simp; omega
  have u1' : decide (65536 < n) = false := by simp; omega
  have n0 : n ≤ 65536 := by omega
  have N1 := lid h1
  clear h1
  by_cases h2 : s.size - k < n
  · have HV := lid (HC.out rfl N1.out h2)
    have u2 : decide ((s.size : Int) - (k : Int) < (n : Int)) = true := by simp; omega
    clear HA HB HC HD
    go_wp2_with fail
    go_ret3
    exact ⟨ret_xv (by rw [HV.out]; rfl) (by rw [HV.out]; rfl) (by rw [HV.out]), rfl⟩
  · have HV := lid (HD.out rfl N1.out h2)
    have u2 : decide ((s.size : Int) - (k : Int) < (n : Int)) = false := by simp; omega
    have hkn : k + n ≤ s.size := by omega
    have HE := lid (bstr_extract s k (k + n))
    clear HA HB HC HD n0
    go_wp2_with fail
    go_ret3
    exact ⟨ret_xv (by rw [HV.out, ← HE.out, Nat.add_sub_cancel_left]) (by rw [HV.out]; simp) (by rw [HV.out]), rfl⟩
set_option maxRecDepth 100000 in
set_option maxHeartbeats 4000000 in
theorem refGetText_any (s : ByteArray) (w : World) (hs : s.size ≤ maxLen) :
    Calls Try.prog 57 #[.string s] w fun e w' => e = .returned (xv (getX s.data.toList)) ∧ w' = w := by
  have hs' : s.size ≤ 9223372036854775807 := hs
  have hN : s.data.toList.length = s.size := rfl
  have HM := lid hs
  have hle := getI_le s.data.toList
  have HA := lid (getX_a (l := s.data.toList))
  have HB := lid (getX_b (l := s.data.toList))
  have HC := lid (getX_c (l := s.data.toList))
  have HD := lid (getX_d (l := s.data.toList))
  have HG := lid (refGetInt_any s w hs)
  go_enter Try.func57, Try.ntmps57
  go_wp2_with fail
  (with_reducible refine (HG.out).mono ?_); rintro e w1 ⟨rfl, rfl⟩
  obtain ⟨r, hr⟩ : ∃ r, getI s.data.toList = r := ⟨_, rfl⟩
  rw [hr] at hle HA HB HC HD ⊢
  obtain ⟨n, k, e⟩ := r
  clear HG hr
  simp only at hle HA HB HC HD
  rw [hN] at hle HC HD
  by_cases h0 : e = 0
  case neg =>
    have HV := lid (HA.out h0)
    have u0 : (e == 0) = false := by simpa using h0
    clear h0 HA HB HC HD
    go_wp2_with fail
    go_ret3
    exact ⟨ret_xv (by rw [HV.out]; rfl) (by rw [HV.out]; rfl) (by rw [HV.out]), rfl⟩
  subst h0
  by_cases h1 : 65536 < n
  · have HV := lid (HB.out rfl h1)
    have u1 : decide ((65536 : Int) < (n : Int)) = true := by simp; omega
    have u1' : decide (65536 < n) = true := by simp; omega
    clear h1 HA HB HC HD
    go_wp2_with fail
    go_ret3
    exact ⟨ret_xv (by rw [HV.out]; rfl) (by rw [HV.out]; rfl) (by rw [HV.out]), rfl⟩
  have u1 : decide ((65536 : Int) < (n : Int)) = false := by simp; omega
  have u1' : decide (65536 < n) = false := by simp; omega
  have n0 : n ≤ 65536 := by omega
  have N1 := lid h1
  clear h1
  by_cases h2 : s.size - k < n
  · have HV := lid (HC.out rfl N1.out h2)
    have u2 : decide ((s.size : Int) - (k : Int) < (n : Int)) = true := by simp; omega
    clear HA HB HC HD
    go_wp2_with fail
    go_ret3
    exact ⟨ret_xv (by rw [HV.out]; rfl) (by rw [HV.out]; rfl) (by rw [HV.out]), rfl⟩
  · have HV := lid (HD.out rfl N1.out h2)
    have u2 : decide ((s.size : Int) - (k : Int) < (n : Int)) = false := by simp; omega
    have hkn : k + n ≤ s.size := by omega
    have HE := lid (bstr_extract s k (k + n))
    clear HA HB HC HD n0
    go_wp2_with fail
    go_ret3
    exact ⟨ret_xv (by rw [HV.out, ← HE.out, Nat.add_sub_cancel_left]) (by rw [HV.out]; simp) (by rw [HV.out]), rfl⟩
end Go.Proofs.Ytmkdcnkbhnegnaa

namespace Go.Proofs.Ytmkdcnkbhnegnaa
open Go.RowKit

/-- What is left to read, and whether something is wrong. -/
abbrev Rd := List UInt8 × Bool
def rNum (s : Rd) : Nat × Rd := ((getI s.1).1, (s.1.drop (getI s.1).2.1, s.2 || !decide ((getI s.1).2.2 = 0)))
def rStr (s : Rd) : List UInt8 × Rd := ((getX s.1).1, (s.1.drop (getX s.1).2.1, s.2 || !decide ((getX s.1).2.2 = 0)))
def qNum (s : Rd) : Nat × Rd := if s.2 = true ∨ (getI s.1).2.2 ≠ 0 then (0, (s.1, true)) else ((getI s.1).1, (s.1.drop (getI s.1).2.1, false))
def qStr (s : Rd) : List UInt8 × Rd := if s.2 = true ∨ (getX s.1).2.2 ≠ 0 then ([], (s.1, true)) else ((getX s.1).1, (s.1.drop (getX s.1).2.1, false))
abbrev rcell (s : Rd) : Array Value := #[.string (bstr s.1), .bool s.2]
/-- A reader in box b. -/
def Rb (t : TypeId) (b : Nat) (s : Rd) (w : World) : Prop := w.heap[b]? = some (.cells (rcell s) t (0, 0))
/-- All blocks but b stay. -/
def Kp (b : Nat) (w w' : World) : Prop := Below b w w' ∧ ∀ k, k < w.heap.size → k ≠ b → w'.heap[k]? = w.heap[k]?
theorem Kp.refl (b : Nat) (w : World) : Kp b w w := ⟨Below.refl _ _, fun _ _ _ => rfl⟩
theorem Kp.size {b : Nat} {w w' : World} (h : Kp b w w') : w.heap.size ≤ w'.heap.size := h.1.size
theorem Kp.trans {b : Nat} {w w1 w2 : World} (h : Kp b w w1) (k : Kp b w1 w2) : Kp b w w2 := ⟨h.1.trans k.1, fun j hj hb => (k.2 j (Nat.lt_of_lt_of_le hj h.size) hb).trans (h.2 j hj hb)⟩
theorem Kp.setCell {b : Nat} {w w1 : World} (h : Kp b w w1) (o : Nat) (u : Value) : Kp b w (w1.setCell ⟨b, o, none⟩ u) := ⟨h.1.setCell (p := ⟨b, o, none⟩) (Nat.le_refl _) _, fun j hj hb => (Below.heap_setCell _ _ _ _ hb).trans (h.2 j hj hb)⟩
theorem Kp.of_below {b : Nat} {w w' : World} (hb : b ≤ w.heap.size) (h : Below w.heap.size w w') : Kp b w w' := ⟨h.mono hb, fun k hk _ => h.block k hk⟩
theorem Kp.below {b B : Nat} {w0 w w' : World} (h : Kp b w w') (k : Below B w0 w) (hb : B ≤ b) : Below B w0 w' := k.trans (h.1.mono hb)
theorem Kp.cell {b : Nat} {w w' : World} (h : Kp b w w') {k : Nat} (hk : k < w.heap.size) (hb : k ≠ b) (o : Nat) : w'.cell? ⟨k, o, none⟩ = w.cell? ⟨k, o, none⟩ := World.cell?_of_block (w := w) (a := ⟨k, o, none⟩) (h.2 k hk hb)
theorem Rb.lt {t : TypeId} {b : Nat} {s : Rd} {w : World} (h : Rb t b s w) : b < w.heap.size := (Array.getElem?_eq_some_iff.1 h).1
theorem Rb.c0 {t : TypeId} {b : Nat} {s : Rd} {w : World} (h : Rb t b s w) : w.cell? ⟨b, 0, none⟩ = some (.string (bstr s.1)) := by rw [Lib.cell_of_heap h]; rfl
theorem Rb.c1 {t : TypeId} {b : Nat} {s : Rd} {w : World} (h : Rb t b s w) : w.cell? ⟨b, 1, none⟩ = some (.bool s.2) := by rw [Lib.cell_of_heap h]; rfl
theorem Rb.fz {t : TypeId} {b : Nat} {s : Rd} {w : World} (h : Rb t b s w) (o : Nat) : w.frozen? ⟨b, o, none⟩ = false := Lib.frozen_of_heap h o
theorem Rb.set0 {t : TypeId} {b : Nat} {s : Rd} {w : World} (h : Rb t b s w) (l : List UInt8) : Rb t b (l, s.2) (w.setCell ⟨b, 0, none⟩ (.string (bstr l))) := heap_setCell_same w b 0 _ _ _ h
theorem Rb.set1 {t : TypeId} {b : Nat} {s : Rd} {w : World} (h : Rb t b s w) (v : Bool) : Rb t b (s.1, v) (w.setCell ⟨b, 1, none⟩ (.bool v)) := heap_setCell_same w b 1 _ _ _ h
theorem Rb.below {t : TypeId} {b : Nat} {s : Rd} {w w' : World} (h : Rb t b s w) (hb : Below w.heap.size w w') : Rb t b s w' := (hb.block b h.lt).trans h
theorem bstr_drop (l : List UInt8) (k : Nat) : bstr (l.drop k) = (bstr l).extract k l.length := by
  have := bstr_extract (bstr l) k l.length
  rw [← this, bstr_list, List.take_of_length_le (by rw [List.length_drop]; exact Nat.le_refl _)]

set_option maxRecDepth 100000 in
set_option maxHeartbeats 4000000 in
theorem rNumber_any (b : Nat) (s : Rd) (w : World) (h : Rb 57 b s w) (hl : s.1.length ≤ maxLen) :
    Calls Try.prog 35 #[.pointer (some ⟨b, 0, none⟩)] w fun e w' => e = .returned (.int .i64 (rNum s).1) ∧ Rb 57 b (rNum s).2 w' ∧ Kp b w w' := by
  obtain ⟨l, bad⟩ := s
  have HI := lid (getI_le l)
  have HB := lid (bstr_drop l)
  have hS : (bstr l).size = l.length := rfl
  have HG := lid (GetInt_any (bstr l) w hl)
  have hl' : l.length ≤ 9223372036854775807 := hl
  have hlt := h.lt
  have c0 := h.c0
  have c1 := h.c1
  have f1 := h.fz 1
  have H := lid h
  have HV : Hid (rNum (l, bad) = ((getI l).1, (l.drop (getI l).2.1, bad || !decide ((getI l).2.2 = 0)))) := lid rfl
  rw [bstr_list] at HG
  clear h hl
  go_enter Try.func35, Try.ntmps35
  go_wp2_with fail
  (with_reducible refine (HG.out).mono ?_); rintro e w1 ⟨rfl, rfl⟩
  clear HG
  obtain ⟨r, hr⟩ : ∃ r, getI l = r := ⟨_, rfl⟩
  rw [hr] at HI HV ⊢
  obtain ⟨n, k, e⟩ := r
  have hk := HI.out.1
  simp only at HV hk
  clear hr HI
  have hsl : (bstr l).extract k (bstr l).size = bstr (l.drop k) := (HB.out k).symm
  cases bad with
  | true =>
    clear hS
    obtain ⟨w2, hw2⟩ : ∃ w2, w1.setCell ⟨b, 1, none⟩ (.bool true) = w2 := ⟨_, rfl⟩
    have H2 : Rb 57 b (l, true) w2 := by rw [← hw2]; exact H.out.set1 true
    have d0 := H2.c0
    have g0 := H2.fz 0
    have h2lt := H2.lt
    have K2 : Hid (Kp b w1 w2) := lid (by rw [← hw2]; exact (Kp.refl _ _).setCell _ _)
    have HH2 := lid H2
    clear H2
    go_wp2_with fail
    go_ret
    refine ⟨ret_i64 (by rw [HV.out]), ?_, K2.out.setCell 0 _⟩
    rw [HV.out, ← HB.out]
    exact HH2.out.set0 _
  | false =>
    by_cases h0 : e = 0
    · subst h0
      clear hS
      obtain ⟨w2, hw2⟩ : ∃ w2, w1.setCell ⟨b, 1, none⟩ (.bool false) = w2 := ⟨_, rfl⟩
      have H2 : Rb 57 b (l, false) w2 := by rw [← hw2]; exact H.out.set1 false
      have d0 := H2.c0
      have g0 := H2.fz 0
      have h2lt := H2.lt
      have K2 : Hid (Kp b w1 w2) := lid (by rw [← hw2]; exact (Kp.refl _ _).setCell _ _)
      have HH2 := lid H2
      clear H2
      go_wp2_with fail
      go_ret
      refine ⟨ret_i64 (by rw [HV.out]), ?_, K2.out.setCell 0 _⟩
      rw [HV.out, ← HB.out]
      exact HH2.out.set0 _
    · have u0 : (e != 0) = true := by simpa using h0
      have HV2 : Hid ((false || !decide (e = 0)) = true) := lid (by simp [h0])
      rw [HV2.out] at HV
      clear h0 hS
      obtain ⟨w2, hw2⟩ : ∃ w2, w1.setCell ⟨b, 1, none⟩ (.bool true) = w2 := ⟨_, rfl⟩
      have H2 : Rb 57 b (l, true) w2 := by rw [← hw2]; exact H.out.set1 true
      have d0 := H2.c0
      have g0 := H2.fz 0
      have h2lt := H2.lt
      have K2 : Hid (Kp b w1 w2) := lid (by rw [← hw2]; exact (Kp.refl _ _).setCell _ _)
      have HH2 := lid H2
      clear H2
      go_wp2_with fail
      go_ret
      refine ⟨ret_i64 (by rw [HV.out]), ?_, K2.out.setCell 0 _⟩
      rw [HV.out, ← HB.out]
      exact HH2.out.set0 _
set_option maxRecDepth 100000 in
set_option maxHeartbeats 4000000 in
theorem rString_any (b : Nat) (s : Rd) (w : World) (h : Rb 57 b s w) (hl : s.1.length ≤ maxLen) :
    Calls Try.prog 36 #[.pointer (some ⟨b, 0, none⟩)] w fun e w' => e = .returned (.string (bstr (rStr s).1)) ∧ Rb 57 b (rStr s).2 w' ∧ Kp b w w' := by
  obtain ⟨l, bad⟩ := s
  have HI := lid (getX_le l)
  have HB := lid (bstr_drop l)
  have hS : (bstr l).size = l.length := rfl
  have HG := lid (GetText_any (bstr l) w hl)
  have hl' : l.length ≤ 9223372036854775807 := hl
  have hlt := h.lt
  have c0 := h.c0
  have c1 := h.c1
  have f1 := h.fz 1
  have H := lid h
  have HV : Hid (rStr (l, bad) = ((getX l).1, (l.drop (getX l).2.1, bad || !decide ((getX l).2.2 = 0)))) := lid rfl
  rw [bstr_list] at HG
  clear h hl
  go_enter Try.func36, Try.ntmps36
  go_wp2_with fail
  (with_reducible refine (HG.out).mono ?_); rintro e w1 ⟨rfl, rfl⟩
  clear HG
  obtain ⟨r, hr⟩ : ∃ r, getX l = r := ⟨_, rfl⟩
  rw [hr] at HI HV ⊢
  obtain ⟨n, k, e⟩ := r
  have hk := HI.out.1
  simp only at HV hk
  clear hr HI
  have hsl : (bstr l).extract k (bstr l).size = bstr (l.drop k) := (HB.out k).symm
  cases bad with
  | true =>
    clear hS
    obtain ⟨w2, hw2⟩ : ∃ w2, w1.setCell ⟨b, 1, none⟩ (.bool true) = w2 := ⟨_, rfl⟩
    have H2 : Rb 57 b (l, true) w2 := by rw [← hw2]; exact H.out.set1 true
    have d0 := H2.c0
    have g0 := H2.fz 0
    have h2lt := H2.lt
    have K2 : Hid (Kp b w1 w2) := lid (by rw [← hw2]; exact (Kp.refl _ _).setCell _ _)
    have HH2 := lid H2
    clear H2
    go_wp2_with fail
    go_ret
    refine ⟨ret_string (by rw [HV.out]), ?_, K2.out.setCell 0 _⟩
    rw [HV.out, ← HB.out]
    exact HH2.out.set0 _
  | false =>
    by_cases h0 : e = 0
    · subst h0
      clear hS
      obtain ⟨w2, hw2⟩ : ∃ w2, w1.setCell ⟨b, 1, none⟩ (.bool false) = w2 := ⟨_, rfl⟩
      have H2 : Rb 57 b (l, false) w2 := by rw [← hw2]; exact H.out.set1 false
      have d0 := H2.c0
      have g0 := H2.fz 0
      have h2lt := H2.lt
      have K2 : Hid (Kp b w1 w2) := lid (by rw [← hw2]; exact (Kp.refl _ _).setCell _ _)
      have HH2 := lid H2
      clear H2
      go_wp2_with fail
      go_ret
      refine ⟨ret_string (by rw [HV.out]), ?_, K2.out.setCell 0 _⟩
      rw [HV.out, ← HB.out]
      exact HH2.out.set0 _
    · have u0 : (e != 0) = true := by simpa using h0
      have HV2 : Hid ((false || !decide (e = 0)) = true) := lid (by simp [h0])
      rw [HV2.out] at HV
      clear h0 hS
      obtain ⟨w2, hw2⟩ : ∃ w2, w1.setCell ⟨b, 1, none⟩ (.bool true) = w2 := ⟨_, rfl⟩
      have H2 : Rb 57 b (l, true) w2 := by rw [← hw2]; exact H.out.set1 true
      have d0 := H2.c0
      have g0 := H2.fz 0
      have h2lt := H2.lt
      have K2 : Hid (Kp b w1 w2) := lid (by rw [← hw2]; exact (Kp.refl _ _).setCell _ _)
      have HH2 := lid H2
      clear H2
      go_wp2_with fail
      go_ret
      refine ⟨ret_string (by rw [HV.out]), ?_, K2.out.setCell 0 _⟩
      rw [HV.out, ← HB.out]
      exact HH2.out.set0 _
set_option maxRecDepth 100000 in
set_option maxHeartbeats 4000000 in
theorem qNumber_any (b : Nat) (s : Rd) (w : World) (h : Rb 66 b s w) (hl : s.1.length ≤ maxLen) :
    Calls Try.prog 41 #[.pointer (some ⟨b, 0, none⟩)] w fun e w' => e = .returned (.int .i64 (qNum s).1) ∧ Rb 66 b (qNum s).2 w' ∧ Kp b w w' := by
  obtain ⟨l, bad⟩ := s
  have HI := lid (getI_le l)
  have HB := lid (bstr_drop l)
  have hS : (bstr l).size = l.length := rfl
  have HG := lid (refGetInt_any (bstr l) w hl)
  have hl' : l.length ≤ 9223372036854775807 := hl
  have hlt := h.lt
  have c0 := h.c0
  have c1 := h.c1
  have f0 := h.fz 0
  have f1 := h.fz 1
  have H := lid h
  have HV : Hid (qNum (l, bad) = if bad = true ∨ (getI l).2.2 ≠ 0 then (0, (l, true)) else ((getI l).1, (l.drop (getI l).2.1, false))) := lid rfl
  rw [bstr_list] at HG
  clear h hl
  go_enter Try.func41, Try.ntmps41
  go_wp2_with fail
  (with_reducible refine (HG.out).mono ?_); rintro e w1 ⟨rfl, rfl⟩
  clear HG
  obtain ⟨r, hr⟩ : ∃ r, getI l = r := ⟨_, rfl⟩
  rw [hr] at HI HV ⊢
  obtain ⟨n, k, e⟩ := r
  have hk := HI.out.1
  simp only at HV hk
  clear hr HI
  have hsl : (bstr l).extract k (bstr l).size = bstr (l.drop k) := (HB.out k).symm
  clear hS
  cases bad with
  | true =>
    have HW := lid (HV.out.trans (if_pos (.inl rfl)))
    clear HV
    go_wp2_with fail
    go_ret
    refine ⟨ret_i64 (by rw [HW.out]; rfl), ?_, (Kp.refl _ _).setCell 1 _⟩
    rw [HW.out]
    exact H.out.set1 true
  | false =>
    by_cases h0 : e = 0
    · subst h0
      have HW := lid (HV.out.trans (if_neg (by simp)))
      clear HV
      go_wp2_with fail
      go_ret
      refine ⟨ret_i64 (by rw [HW.out]), ?_, (Kp.refl _ _).setCell 0 _⟩
      rw [HW.out, ← HB.out]
      exact H.out.set0 _
    · have u0 : (e == 0) = false := by simpa using h0
      have HW := lid (HV.out.trans (if_pos (.inr h0)))
      clear HV h0
      go_wp2_with fail
      go_ret
      refine ⟨ret_i64 (by rw [HW.out]; rfl), ?_, (Kp.refl _ _).setCell 1 _⟩
      rw [HW.out]
      exact H.out.set1 true
set_option maxRecDepth 100000 in
set_option maxHeartbeats 4000000 in
theorem qText_any (b : Nat) (s : Rd) (w : World) (h : Rb 66 b s w) (hl : s.1.length ≤ maxLen) :
    Calls Try.prog 42 #[.pointer (some ⟨b, 0, none⟩)] w fun e w' => e = .returned (.string (bstr (qStr s).1)) ∧ Rb 66 b (qStr s).2 w' ∧ Kp b w w' := by
  obtain ⟨l, bad⟩ := s
  have HI := lid (getX_le l)
  have HB := lid (bstr_drop l)
  have hS : (bstr l).size = l.length := rfl
  have HG := lid (refGetText_any (bstr l) w hl)
  have hl' : l.length ≤ 9223372036854775807 := hl
  have hlt := h.lt
  have c0 := h.c0
  have c1 := h.c1
  have f0 := h.fz 0
  have f1 := h.fz 1
  have H := lid h
  have HV : Hid (qStr (l, bad) = if bad = true ∨ (getX l).2.2 ≠ 0 then ([], (l, true)) else ((getX l).1, (l.drop (getX l).2.1, false))) := lid rfl
  rw [bstr_list] at HG
  clear h hl
  go_enter Try.func42, Try.ntmps42
  go_wp2_with fail
  (with_reducible refine (HG.out).mono ?_); rintro e w1 ⟨rfl, rfl⟩
  clear HG
  obtain ⟨r, hr⟩ : ∃ r, getX l = r := ⟨_, rfl⟩
  rw [hr] at HI HV ⊢
  obtain ⟨n, k, e⟩ := r
  have hk := HI.out.1
  simp only at HV hk
  clear hr HI
  have hsl : (bstr l).extract k (bstr l).size = bstr (l.drop k) := (HB.out k).symm
  clear hS
  cases bad with
  | true =>
    have HW := lid (HV.out.trans (if_pos (.inl rfl)))
    clear HV
    go_wp2_with fail
    go_ret
    refine ⟨ret_string (by rw [HW.out]; rfl), ?_, (Kp.refl _ _).setCell 1 _⟩
    rw [HW.out]
    exact H.out.set1 true
  | false =>
    by_cases h0 : e = 0
    · subst h0
      have HW := lid (HV.out.trans (if_neg (by simp)))
      clear HV
      go_wp2_with fail
      go_ret
      refine ⟨ret_string (by rw [HW.out]), ?_, (Kp.refl _ _).setCell 0 _⟩
      rw [HW.out, ← HB.out]
      exact H.out.set0 _
    · have u0 : (e == 0) = false := by simpa using h0
      have HW := lid (HV.out.trans (if_pos (.inr h0)))
      clear HV h0
      go_wp2_with fail
      go_ret
      refine ⟨ret_string (by rw [HW.out]; rfl), ?_, (Kp.refl _ _).setCell 1 _⟩
      rw [HW.out]
      exact H.out.set1 true
end Go.Proofs.Ytmkdcnkbhnegnaa

namespace Go.Proofs.Ytmkdcnkbhnegnaa
open Go.RowKit

/-- A number of bytes, the greatest first. -/
def beN (l : List UInt8) : Nat := l.foldl (fun a c => a * 256 + c.toNat) 0
theorem beN_snoc (l : List UInt8) (c : UInt8) : beN (l ++ [c]) = beN l * 256 + c.toNat := by simp [beN]
theorem beN_lt : ∀ (k : Nat) (l : List UInt8), l.length ≤ k → beN l < 256 ^ k := by
  intro k
  induction k with
  | zero => intro l h; rw [List.eq_nil_of_length_eq_zero (l := l) (by omega)]; simp [beN]
  | succ k ih =>
    intro l h
    rcases List.eq_nil_or_concat l with rfl | ⟨m, c, rfl⟩
    · exact Nat.lt_of_lt_of_le (by simp [beN]) (Nat.one_le_pow _ _ (by omega))
    · rw [List.concat_eq_append, beN_snoc]
      have := ih m (by rw [List.concat_eq_append, List.length_append] at h; simp at h; omega)
      have hc := c.toNat_lt
      rw [Nat.pow_succ]
      omega
/-- The digest of sixteen bytes. -/
def digOf (l : List UInt8) : Dg := (UInt64.ofNat (beN (l.take 8)), UInt64.ofNat (beN ((l.drop 8).take 8)))
theorem beN_bytes (x : UInt64) (f : Nat → UInt8) (hf : ∀ j, j < 8 → (f j).toNat = x.toNat / 2 ^ (56 - 8 * j) % 256) : ∀ k, k ≤ 8 → beN ((List.range k).map f) = x.toNat / 2 ^ (64 - 8 * k) := by
  intro k
  induction k with
  | zero => intro _; simp [beN]; exact (Nat.div_eq_of_lt x.toNat_lt).symm
  | succ k ih =>
    intro hk
    rw [List.range_succ, List.map_append, List.map_singleton, beN_snoc, ih (by omega), hf k (by omega)]
    rw [show 64 - 8 * k = (56 - 8 * k) + 8 by omega, Nat.pow_add, ← Nat.div_div_eq_div_mul, show 64 - 8 * (k + 1) = 56 - 8 * k by omega]
    omega
theorem byteAt_nat (x y : UInt64) (k : Nat) : (byteAt x y k).toNat = (if k < 8 then x else y).toNat / 2 ^ (56 - 8 * (k % 8)) % 256 := by
  unfold byteAt
  simp
theorem bytesU_halves (x y : UInt64) : bytesU x y = (List.range 8).map (byteAt x y) ++ (List.range 8).map (fun j => byteAt x y (8 + j)) := rfl
theorem digOf_digL (d : Dg) (t : List UInt8) : digOf (digL d ++ t) = d := by
  obtain ⟨x, y⟩ := d
  unfold digOf digL
  rw [bytesU_halves, List.append_assoc]
  rw [List.take_append_of_le_length (by simp), List.take_of_length_le (by simp), List.drop_append_of_le_length (by simp), List.drop_of_length_le (by simp), List.nil_append, List.take_append_of_le_length (by simp), List.take_of_length_le (by simp)]
  rw [beN_bytes x _ (fun j hj => by rw [byteAt_nat, if_pos hj, show j % 8 = j by omega]) 8 (Nat.le_refl _), beN_bytes y _ (fun j hj => by rw [byteAt_nat, if_neg (by omega), show (8 + j) % 8 = j by omega]) 8 (Nat.le_refl _)]
  simp
theorem bytes_beN : ∀ (k : Nat) (l : List UInt8), l.length = k → k ≤ 8 → ∀ j (hj : j < l.length), beN l / 256 ^ (k - 1 - j) % 256 = (l[j]).toNat := by
  intro k
  induction k with
  | zero => intro l h _ j hj; omega
  | succ k ih =>
    intro l h hk j hj
    rcases List.eq_nil_or_concat l with rfl | ⟨m, c, rfl⟩
    · simp at hj
    · have hc := c.toNat_lt
      have hm : m.length = k := by simpa using h
      simp only [List.concat_eq_append] at hj ⊢
      rw [beN_snoc]
      by_cases hjk : j < k
      · rw [List.getElem_append_left (by omega), ← ih m hm (by omega) j (by omega)]
        rw [show k + 1 - 1 - j = (k - 1 - j) + 1 by omega, Nat.pow_succ, Nat.mul_comm (256 ^ (k - 1 - j)), ← Nat.div_div_eq_div_mul]
        congr 2
        omega
      · have : j = k := by rw [List.length_append] at hj; simp at hj; omega
        subst this
        rw [List.getElem_append_right (by omega)]
        simp [hm]
theorem digL_digOf {l : List UInt8} (h : 16 ≤ l.length) : digL (digOf l) = l.take 16 := by
  unfold digL
  apply List.ext_getElem
  · rw [bytesU_length, List.length_take]; omega
  · intro j h1 h2
    rw [bytesU_length] at h1
    apply UInt8.toNat_inj.1
    rw [List.getElem_take]
    simp only [bytesU, List.getElem_map, List.getElem_range]
    rw [byteAt_nat]
    have hl1 : beN (l.take 8) < 256 ^ 8 := beN_lt 8 _ (by rw [List.length_take]; omega)
    have hl2 : beN ((l.drop 8).take 8) < 256 ^ 8 := beN_lt 8 _ (by rw [List.length_take]; omega)
    by_cases hj : j < 8
    · rw [if_pos hj]
      simp only [digOf]
      rw [UInt64.toNat_ofNat', Nat.mod_eq_of_lt (a := beN (l.take 8)) (by omega)]
      have := bytes_beN 8 (l.take 8) (by rw [List.length_take]; omega) (Nat.le_refl _) j (by rw [List.length_take]; omega)
      rw [List.getElem_take] at this
      rw [← this, show 56 - 8 * (j % 8) = 8 * (8 - 1 - j) by omega, Nat.pow_mul]
    · rw [if_neg hj]
      simp only [digOf]
      rw [UInt64.toNat_ofNat', Nat.mod_eq_of_lt (a := beN ((l.drop 8).take 8)) (by omega)]
      have := bytes_beN 8 ((l.drop 8).take 8) (by rw [List.length_take, List.length_drop]; omega) (Nat.le_refl _) (j - 8) (by rw [List.length_take, List.length_drop]; omega)
      rw [List.getElem_take, List.getElem_drop] at this
      rw [show 56 - 8 * (j % 8) = 8 * (8 - 1 - (j - 8)) by omega, Nat.pow_mul]
      simp only [show 8 + (j - 8) = j by omega] at this
      exact this
end Go.Proofs.Ytmkdcnkbhnegnaa

namespace Go.Proofs.Ytmkdcnkbhnegnaa
open Go.RowKit

def rDig (s : Rd) : Dg × Rd := if s.1.length < 16 then ((0, 0), (s.1, true)) else (digOf s.1, (s.1.drop 16, s.2))
def qDig (s : Rd) : Dg × Rd := if s.2 = true ∨ s.1.length < 16 then ((0, 0), (s.1, true)) else (digOf s.1, (s.1.drop 16, false))
def rEnt3 (a : List UInt8) (d : Nat × Rd) : Ent × Rd := ((bstr a, decide (d.1 = 1), (rDig (d.2.1, d.2.2 || decide (1 < d.1))).1), (rDig (d.2.1, d.2.2 || decide (1 < d.1))).2)
def rEnt (s : Rd) : Ent × Rd := rEnt3 (rStr s).1 (rNum (rStr s).2)
def qEnt3 (a : List UInt8) (d : Nat × Rd) : Ent × Rd := ((bstr a, decide (d.1 = 1), (qDig d.2).1), (qDig d.2).2)
def qEnt (s : Rd) : Ent × Rd := qEnt3 (qStr s).1 (qNum (qStr s).2)
def many {α : Type} (f : Rd → α × Rd) : Nat → Rd → List α × Rd
  | 0, s => ([], s)
  | n + 1, s => if s.2 = true then ([], s) else ((f s).1 :: (many f n (f s).2).1, (many f n (f s).2).2)
def rList {α : Type} (f : Rd → α × Rd) (most : Nat) (s : Rd) : List α × Rd := many f (rNum s).1 ((rNum s).2.1, (rNum s).2.2 || decide (most < (rNum s).1))
def qList {α : Type} (f : Rd → α × Rd) (s : Rd) : List α × Rd := many f (qNum s).1 (qNum s).2
def ob0 (k : Int) : Ob := ⟨k, ⟨#[]⟩, [], (0, 0), [], ⟨#[]⟩, 0, ⟨#[]⟩⟩
def obD (k : Int) (d : List UInt8) : Ob := ⟨k, bstr d, [], (0, 0), [], ⟨#[]⟩, 0, ⟨#[]⟩⟩
def obE (l : List Ent) : Ob := ⟨2, ⟨#[]⟩, l, (0, 0), [], ⟨#[]⟩, 0, ⟨#[]⟩⟩
def obC (t : Dg) (p : List Dg) (a : List UInt8) (m : Nat) (g : List UInt8) : Ob := ⟨3, ⟨#[]⟩, [], t, p, bstr a, m, bstr g⟩
/-- What is read behind the kind. -/
def decRk (k : Nat) (s : Rd) : Ob × Rd :=
  if k = 1 ∨ k = 4 then (obD k (rStr s).1, (rStr s).2)
  else if k = 2 then (obE (rList rEnt 200 s).1, (rList rEnt 200 s).2)
  else if k = 3 then
    let p := rList rDig 8 (rDig s).2
    let a := rStr p.2
    let m := rNum a.2
    let g := rStr m.2
    (obC (rDig s).1 p.1 a.1 m.1 g.1, g.2)
  else (ob0 k, s)
def decR (l : List UInt8) : Ob × Rd := decRk (rNum (l, false)).1 (rNum (l, false)).2
def decQk (k : Nat) (s : Rd) : Ob × Rd :=
  if k = 2 then (obE (qList qEnt s).1, (qList qEnt s).2)
  else if k = 3 then
    let p := qList qDig (qDig s).2
    let a := qStr p.2
    let m := qNum a.2
    let g := qStr m.2
    (obC (qDig s).1 p.1 a.1 m.1 g.1, g.2)
  else (obD k (qStr s).1, (qStr s).2)
def decQ (l : List UInt8) : Ob × Rd := decQk (qNum (l, false)).1 (qNum (l, false)).2

def decRC (s : Rd) : Ob × Rd :=
  let p := rList rDig 8 (rDig s).2
  let a := rStr p.2
  let m := rNum a.2
  let g := rStr m.2
  (obC (rDig s).1 p.1 a.1 m.1 g.1, g.2)
def decQC (s : Rd) : Ob × Rd :=
  let p := qList qDig (qDig s).2
  let a := qStr p.2
  let m := qNum a.2
  let g := qStr m.2
  (obC (qDig s).1 p.1 a.1 m.1 g.1, g.2)
theorem decRk_D {k : Nat} (h : k = 1 ∨ k = 4) (s : Rd) : decRk k s = (obD k (rStr s).1, (rStr s).2) := by unfold decRk; rw [if_pos h]
theorem decRk_E (s : Rd) : decRk 2 s = (obE (rList rEnt 200 s).1, (rList rEnt 200 s).2) := rfl
theorem decRk_C (s : Rd) : decRk 3 s = decRC s := rfl
theorem decRk_0 {k : Nat} (h : ¬ (k = 1 ∨ k = 4)) (h2 : ¬ k = 2) (h3 : ¬ k = 3) (s : Rd) : decRk k s = (ob0 k, s) := by unfold decRk; rw [if_neg h, if_neg h2, if_neg h3]
theorem decQk_E (s : Rd) : decQk 2 s = (obE (qList qEnt s).1, (qList qEnt s).2) := rfl
theorem decQk_C (s : Rd) : decQk 3 s = decQC s := rfl
theorem decQk_D {k : Nat} (h2 : ¬ k = 2) (h3 : ¬ k = 3) (s : Rd) : decQk k s = (obD k (qStr s).1, (qStr s).2) := by unfold decQk; rw [if_neg h2, if_neg h3]

section put
variable {t : List UInt8}
theorem rNum_put {n : Nat} (h : n ≤ 1099511627776) : rNum (putN n ++ t, false) = (n, (t, false)) := by
  unfold rNum
  simp only [getI_put h]
  simp
theorem qNum_put {n : Nat} (h : n ≤ 1099511627776) : qNum (putN n ++ t, false) = (n, (t, false)) := by
  unfold qNum
  simp only [getI_put h]
  simp
theorem rStr_put {s : List UInt8} (h : s.length ≤ 65536) : rStr (putT s ++ t, false) = (s, (t, false)) := by
  unfold rStr
  simp only [getX_put h]
  simp
theorem qStr_put {s : List UInt8} (h : s.length ≤ 65536) : qStr (putT s ++ t, false) = (s, (t, false)) := by
  unfold qStr
  simp only [getX_put h]
  simp
theorem rDig_put (d : Dg) : rDig (digL d ++ t, false) = (d, (t, false)) := by
  unfold rDig
  have h := digL_len d
  rw [if_neg (by simp [h])]
  simp only [digOf_digL]
  rw [List.drop_append_of_le_length (by omega), List.drop_of_length_le (by omega)]
  rfl
theorem qDig_put (d : Dg) : qDig (digL d ++ t, false) = (d, (t, false)) := by
  unfold qDig
  have h := digL_len d
  rw [if_neg (by simp [h])]
  simp only [digOf_digL]
  rw [List.drop_append_of_le_length (by omega), List.drop_of_length_le (by omega)]
  rfl
theorem dirI_nat (b : Bool) : ∃ n : Nat, dirI b = n ∧ n ≤ 1 ∧ decide (n = 1) = b := by
  cases b
  · exact ⟨0, rfl, by omega, rfl⟩
  · exact ⟨1, rfl, by omega, rfl⟩
theorem putI_nat {n : Nat} (h : n ≤ 1099511627776) : putI (n : Int) = putN n := by
  unfold putI putB
  rw [if_pos (by simp; omega)]
  simp
theorem putX_lo {l : List UInt8} (h : l.length ≤ 65536) : putX l = putT l := by unfold putX; rw [if_pos h]
theorem rEnt_put {e : Ent} (h : e.1.size ≤ 65536) : rEnt (entL e ++ t, false) = (e, (t, false)) := by
  obtain ⟨a, b, d⟩ := e
  obtain ⟨n, h1, h2, h3⟩ := dirI_nat b
  unfold rEnt entL
  simp only at h ⊢
  have h' : a.data.toList.length ≤ 65536 := h
  rw [putX_lo h', h1, putI_nat (by omega), List.append_assoc, List.append_assoc, rStr_put h']
  simp only
  rw [rNum_put (by omega)]
  unfold rEnt3
  simp only [h3]
  rw [show (false || decide (1 < n)) = false by simp; omega, rDig_put]
  rfl
theorem qEnt_put {e : Ent} (h : e.1.size ≤ 65536) : qEnt (entL e ++ t, false) = (e, (t, false)) := by
  obtain ⟨a, b, d⟩ := e
  obtain ⟨n, h1, h2, h3⟩ := dirI_nat b
  unfold qEnt entL
  simp only at h ⊢
  have h' : a.data.toList.length ≤ 65536 := h
  rw [putX_lo h', h1, putI_nat (by omega), List.append_assoc, List.append_assoc, qStr_put h']
  simp only
  rw [qNum_put (by omega)]
  unfold qEnt3
  simp only [h3]
  rw [qDig_put]
  rfl
theorem many_put {α : Type} {f : Rd → α × Rd} {g : α → List UInt8} : ∀ (l : List α), (∀ x ∈ l, ∀ t, f (g x ++ t, false) = (x, (t, false))) → many f l.length (l.flatMap g ++ t, false) = (l, (t, false))
  | [], _ => rfl
  | x :: l, h => by
    rw [List.length_cons, many, if_neg (by simp), List.flatMap_cons, List.append_assoc, h x (List.mem_cons_self ..) _]
    simp only
    rw [many_put l (fun y hy => h y (List.mem_cons_of_mem _ hy))]
end put

theorem zeroB_eq {d : Dg} (h : zeroB d = true) : d = (0, 0) := of_decide_eq_true h
theorem emptyB_eq {s : ByteArray} (h : emptyB s = true) : s = ⟨#[]⟩ := of_decide_eq_true h
theorem hasD_no {o : Ob} (h : hasD o = false) : o.data = ⟨#[]⟩ := emptyB_eq (by unfold hasD at h; simpa using h)
theorem hasE_no {o : Ob} (h : hasE o = false) : o.ents = [] := List.eq_nil_of_length_eq_zero (by unfold hasE at h; simpa using h)
theorem hasC_no {o : Ob} (h : hasC o = false) : o.tree = (0, 0) ∧ o.pars = [] ∧ o.auth = ⟨#[]⟩ ∧ o.time = 0 ∧ o.msg = ⟨#[]⟩ := by
  unfold hasC at h
  simp only [Bool.or_eq_false_iff, Bool.not_eq_false', decide_eq_true_eq] at h
  obtain ⟨h1, h2, h3, h4, h5⟩ := h
  exact ⟨zeroB_eq h1, List.eq_nil_of_length_eq_zero (by simpa using h2), emptyB_eq h3, h4, emptyB_eq h5⟩
theorem bstr_self (s : ByteArray) : bstr s.data.toList = s := rfl
/-- What a valid object is. -/
theorem valid_form {o : Ob} (h : checkO o = 0) :
    (∃ k : Nat, (k = 1 ∨ k = 4) ∧ o = obD k o.data.data.toList) ∨ (o = obE o.ents ∧ (∀ e ∈ o.ents, e.1.size ≤ 24) ∧ o.ents.length ≤ 200)
    ∨ ∃ m : Nat, o = obC o.tree o.pars o.auth.data.toList m o.msg.data.toList ∧ o.pars.length ≤ 8 ∧ o.auth.size ≤ 24 ∧ m ≤ 1099511627776 ∧ o.msg.size ≤ 200 := by
  rcases checkO_kind h with hk | hk | hk | hk
  · have h' := h
    unfold checkO at h'
    rw [if_pos (.inl hk)] at h'
    split at h'
    · cases h'
    · rename_i h1
      simp only [Bool.or_eq_true, not_or, Bool.not_eq_true] at h1
      obtain ⟨e1, e2, e3, e4, e5⟩ := hasC_no h1.2
      have e0 := hasE_no h1.1
      refine .inl ⟨1, .inl rfl, ?_⟩
      obtain ⟨a1, a2, a3, a4, a5, a6, a7, a8⟩ := o
      simp only at hk e0 e1 e2 e3 e4 e5
      subst hk e0 e1 e2 e3 e4 e5
      rfl
  · obtain ⟨h2, _⟩ := checkO_ents h hk
    have hn := checkO_names h hk
    have h' := h
    unfold checkO at h'
    rw [if_neg (by omega), if_pos hk] at h'
    split at h'
    · cases h'
    · rename_i h1
      simp only [Bool.or_eq_true, not_or, Bool.not_eq_true] at h1
      obtain ⟨e1, e2, e3, e4, e5⟩ := hasC_no h1.2
      have e0 := hasD_no h1.1
      refine .inr (.inl ⟨?_, hn, h2⟩)
      obtain ⟨a1, a2, a3, a4, a5, a6, a7, a8⟩ := o
      simp only at hk e0 e1 e2 e3 e4 e5
      subst hk e0 e1 e2 e3 e4 e5
      rfl
  · obtain ⟨c1, c2, c3, c4, c5⟩ := checkO_comm h hk
    have h' := h
    unfold checkO at h'
    rw [if_neg (by omega), if_neg (by omega), if_pos hk] at h'
    split at h'
    · cases h'
    · rename_i h1
      simp only [Bool.or_eq_true, not_or, Bool.not_eq_true] at h1
      have e0 := hasD_no h1.1
      have e1 := hasE_no h1.2
      refine .inr (.inr ⟨o.time.toNat, ?_, c1, c2, by omega, c5⟩)
      have e2 : (o.time.toNat : Int) = o.time := by omega
      obtain ⟨a1, a2, a3, a4, a5, a6, a7, a8⟩ := o
      simp only at hk e0 e1 e2
      subst hk e0 e1
      unfold obC
      simp only [e2]
      rfl
  · have h' := h
    unfold checkO at h'
    rw [if_pos (.inr hk)] at h'
    split at h'
    · cases h'
    · rename_i h1
      simp only [Bool.or_eq_true, not_or, Bool.not_eq_true] at h1
      obtain ⟨e1, e2, e3, e4, e5⟩ := hasC_no h1.2
      have e0 := hasE_no h1.1
      refine .inl ⟨4, .inr rfl, ?_⟩
      obtain ⟨a1, a2, a3, a4, a5, a6, a7, a8⟩ := o
      simp only at hk e0 e1 e2 e3 e4 e5
      subst hk e0 e1 e2 e3 e4 e5
      rfl

theorem encL_D {k : Nat} (hk : k = 1 ∨ k = 4) {d : List UInt8} (h : d.length ≤ 65536) : encL (obD k d) = putN k ++ (putT d ++ []) := by
  unfold encL
  rw [if_neg (by simp only [obD]; omega), if_neg (by simp only [obD]; omega)]
  simp only [obD]
  rw [putI_nat (by omega), bstr_list, putX_lo h, List.append_nil]
theorem encL_E (l : List Ent) (h : l.length ≤ 200) : encL (obE l) = putN 2 ++ (putN l.length ++ (l.flatMap entL ++ [])) := by
  unfold encL
  rw [if_pos (show (obE l).kind = 2 from rfl)]
  unfold entsL
  simp only [obE]
  rw [show (2 : Int) = ((2 : Nat) : Int) from rfl, putI_nat (by omega), putI_nat (by omega), List.take_of_length_le (Nat.le_refl _), List.append_nil]
theorem encL_C {t : Dg} {p : List Dg} {a g : List UInt8} {m : Nat} (h1 : p.length ≤ 8) (h2 : a.length ≤ 65536) (h3 : m ≤ 1099511627776) (h4 : g.length ≤ 65536) :
    encL (obC t p a m g) = putN 3 ++ (digL t ++ (putN p.length ++ (p.flatMap digL ++ (putT a ++ (putN m ++ (putT g ++ [])))))) := by
  unfold encL
  rw [if_neg (by simp [obC]), if_pos (show (obC t p a m g).kind = 3 from rfl)]
  unfold parsL
  simp only [obC]
  rw [show (3 : Int) = ((3 : Nat) : Int) from rfl, putI_nat (by omega), putI_nat (by omega), putI_nat h3, List.take_of_length_le (Nat.le_refl _), bstr_list, bstr_list, putX_lo h2, putX_lo h4, List.append_nil]
  simp only [List.append_assoc]

/-- Both readers read what is encoded. -/
theorem dec_enc {o : Ob} (h : checkO o = 0) (hd : o.data.size ≤ 65536) : decR (encL o) = (o, ([], false)) ∧ decQ (encL o) = (o, ([], false)) := by
  unfold decR decQ
  rcases valid_form h with ⟨k, hk, ho⟩ | ⟨ho, hn, hl⟩ | ⟨m, ho, h1, h2, h3, h4⟩
  · have hd' : o.data.data.toList.length ≤ 65536 := hd
    obtain ⟨d, hdd⟩ : ∃ d, o.data.data.toList = d := ⟨_, rfl⟩
    rw [hdd] at ho hd'
    subst ho
    rw [encL_D hk hd', rNum_put (by omega), qNum_put (by omega)]
    simp only
    rw [decRk_D hk, decQk_D (by omega) (by omega), rStr_put hd', qStr_put hd']
    exact ⟨rfl, rfl⟩
  · obtain ⟨l, hll⟩ : ∃ l, o.ents = l := ⟨_, rfl⟩
    rw [hll] at ho hn hl
    subst ho
    rw [encL_E l hl, rNum_put (by omega), qNum_put (by omega)]
    simp only
    rw [decRk_E, decQk_E]
    unfold rList qList
    rw [rNum_put (by omega), qNum_put (by omega)]
    simp only
    rw [show (false || decide (200 < l.length)) = false by simp; omega]
    rw [many_put l (fun e he t => rEnt_put (Nat.le_trans (hn e he) (by omega))), many_put l (fun e he t => qEnt_put (Nat.le_trans (hn e he) (by omega)))]
    exact ⟨rfl, rfl⟩
  · have h2' : o.auth.data.toList.length ≤ 65536 := Nat.le_trans h2 (by omega)
    have h4' : o.msg.data.toList.length ≤ 65536 := Nat.le_trans h4 (by omega)
    obtain ⟨a, ha⟩ : ∃ d, o.auth.data.toList = d := ⟨_, rfl⟩
    obtain ⟨g, hg⟩ : ∃ d, o.msg.data.toList = d := ⟨_, rfl⟩
    obtain ⟨p, hp⟩ : ∃ d, o.pars = d := ⟨_, rfl⟩
    obtain ⟨t, ht⟩ : ∃ d, o.tree = d := ⟨_, rfl⟩
    rw [ha, hg, hp, ht] at ho
    rw [ha] at h2'
    rw [hg] at h4'
    rw [hp] at h1
    clear ha hg hp ht h2 h4
    subst ho
    rw [encL_C h1 h2' h3 h4', rNum_put (by omega), qNum_put (by omega)]
    simp only
    rw [decRk_C, decQk_C]
    unfold decRC decQC
    rw [rDig_put, qDig_put]
    unfold rList qList
    simp only
    rw [rNum_put (by omega), qNum_put (by omega)]
    simp only
    rw [show (false || decide (8 < p.length)) = false by simp; omega]
    rw [many_put p (fun e he t => rDig_put e), many_put p (fun e he t => qDig_put e)]
    simp only
    rw [rStr_put h2', qStr_put h2']
    simp only
    rw [rNum_put h3, qNum_put h3]
    simp only
    rw [rStr_put h4', qStr_put h4']
    exact ⟨rfl, rfl⟩
/-- The encodings of valid objects differ. -/
theorem encL_inj {a b : Ob} (ha : checkO a = 0) (hb : checkO b = 0) (da : a.data.size ≤ 65536) (db : b.data.size ≤ 65536) (h : encL a = encL b) : a = b := by
  have h1 := (dec_enc ha da).1
  have h2 := (dec_enc hb db).1
  rw [h, h2] at h1
  exact (congrArg Prod.fst h1).symm
end Go.Proofs.Ytmkdcnkbhnegnaa

namespace Go.Proofs.Ytmkdcnkbhnegnaa
open Go.RowKit

deriving instance DecidableEq for Ob
theorem str_list_eq (a b : ByteArray) : (a.toList = b.toList) = (a = b) := by
  have := str_beq a b
  rw [Bool.eq_iff_iff] at this
  simpa using this
theorem u64_int_eq (a b : UInt64) : ((a.toNat : Int) = (b.toNat : Int)) = (a = b) := by
  apply propext
  rw [← UInt64.toNat_inj]
  omega
abbrev ev (r : Ent) : Value := .agg #[.string r.1, .bool r.2.1, .int .u64 r.2.2.1.toNat, .int .u64 r.2.2.2.toNat]
set_option maxRecDepth 100000 in
theorem quiet_neq_ent {C : World → Prop} {K : Act → Prop} {a : Act} {o : Oper} (r q : Ent) (v : Bool) (x y : Operand) (h : o.op = .binOp .neq 45 x y 45)
    (hx : a.eval x = ev r) (hy : a.eval y = ev q) (hv : (!decide (r = q)) = v) (hk : K (a.put o.dst (.bool v))) : o.quiet Try.prog a C K := by
  refine ⟨.bool v, fun w _ => ?_, hk⟩
  subst hv
  unfold Oper.quietAt execOp
  rw [h]
  simp only [hx, hy]
  simp [go_sem]
  obtain ⟨s1, b1, x1, y1⟩ := r
  obtain ⟨s2, b2, x2, y2⟩ := q
  have ex := u64_int_eq x1 x2
  have ey := u64_int_eq y1 y2
  simp only [Prod.mk.injEq, str_list_eq, ex, ey]
  by_cases h1 : s1 = s2
  · by_cases h2 : b1 = b2
    · by_cases h3 : x1 = x2
      · by_cases h4 : y1 = y2
        · subst h1 h2 h3 h4; simp
        · simp [h1, h2, h3, h4]
      · simp [h1, h2, h3]
    · simp [h1, h2]
  · simp [h1]
set_option maxRecDepth 100000 in
theorem quiet_neq_dg {C : World → Prop} {K : Act → Prop} {a : Act} {o : Oper} (r q : Dg) (v : Bool) (x y : Operand) (h : o.op = .binOp .neq 25 x y 25)
    (hx : a.eval x = dv r) (hy : a.eval y = dv q) (hv : (!decide (r = q)) = v) (hk : K (a.put o.dst (.bool v))) : o.quiet Try.prog a C K := by
  refine ⟨.bool v, fun w _ => ?_, hk⟩
  subst hv
  unfold Oper.quietAt execOp
  rw [h]
  simp only [hx, hy]
  simp [go_sem]
  obtain ⟨x1, y1⟩ := r
  obtain ⟨x2, y2⟩ := q
  have ex := u64_int_eq x1 x2
  have ey := u64_int_eq y1 y2
  simp only [Prod.mk.injEq]
  by_cases h3 : x1 = x2
  · by_cases h4 : y1 = y2
    · subst h3 h4; simp
    · have ny : ¬ (y1.toNat : Int) = (y2.toNat : Int) := by rw [ey]; exact h4
      simp [h3, h4, ny]
  · have nx : ¬ (x1.toNat : Int) = (x2.toNat : Int) := by rw [ex]; exact h3
    simp [h3, nx]

set_option maxRecDepth 100000 in
set_option maxHeartbeats 16000000 in
theorem SameO_any (a : Ob) (ae ap : Option Addr) (ne ce np cp : Nat) (b : Ob) (be bp : Option Addr) (me de mp dp : Nat) (w : World) (h : ObjA w ae ne ap np a) (k : ObjA w be me bp mp b) :
    Calls Try.prog 21 #[.agg (ocells a ae ne ce ap np cp), .agg (ocells b be me de bp mp dp)] w fun e w' => e = .returned (.bool (decide (a = b))) ∧ Below w.heap.size w w' := by
  have hb0 := ba w (Obj.cells (ocells a ae ne ce ap np cp) 28)
  have HO0 := OBox.new w a ae ne ce ap np cp 28
  obtain ⟨W1, hW1⟩ : ∃ W, w.alloc (Obj.cells (ocells a ae ne ce ap np cp) 28) = W := ⟨_, rfl⟩
  rw [hW1] at hb0 HO0
  have hb1 := ba W1 (Obj.cells (ocells b be me de bp mp dp) 28)
  have HO1 := OBox.new W1 b be me de bp mp dp 28
  obtain ⟨W, hW⟩ : ∃ W, W1.alloc (Obj.cells (ocells b be me de bp mp dp) 28) = W := ⟨_, rfl⟩
  rw [hW] at hb1 HO1
  have hw0 := hb0.trans (hb1.mono hb0.size)
  have l4 : W1.heap.size = w.heap.size + 1 := by rw [← hW1]; simp
  rw [l4] at HO1
  have HO := lid (HO0.below hb1)
  have HQ := lid HO1
  have HA := lid (h.below hw0)
  have HB := lid (k.below hw0)
  have HW1 := lid hW1
  have HW := lid hW
  have HNa := lid h.plen
  have HMa := lid h.elen
  have HNb := lid k.plen
  have HMb := lid k.elen
  have n1' : np ≤ 9223372036854775807 := h.pmax
  have n2' : ne ≤ 9223372036854775807 := h.emax
  have n3' : mp ≤ 9223372036854775807 := k.pmax
  have n4' : me ≤ 9223372036854775807 := k.emax
  obtain ⟨l0, c0, c1, c2, c3, c4, c5, c6, c7, c8⟩ := HO.out
  obtain ⟨m0, d0, d1, d2, d3, d4, d5, d6, d7, d8⟩ := HQ.out
  rw [← HW.out, ← HW1.out] at c0 c1 c2 c3 c4 c5 c6 c7 c8 d0 d1 d2 d3 d4 d5 d6 d7 d8
  clear hW hW1 HO0 HO1 h k l4 hb0 hb1
  by_cases qkind : a.kind = b.kind
  case neg =>
    have ukind : (a.kind == b.kind) = false := by simpa using qkind
    have HV : Hid (decide (a = b) = false) := lid (decide_eq_false (fun e => by rw [e] at qkind; exact qkind rfl))
    go_enter Try.func21, Try.ntmps21
    go_wp2_with fail
    rw [HW1.out, HW.out]
    go_ret
    exact ⟨ret_bool' HV.out.symm, hw0⟩
  have ukind : (a.kind == b.kind) = true := by simpa using qkind
  by_cases qdata : a.data = b.data
  case neg =>
    have udata : (a.data.toList == b.data.toList) = false := str_ne qdata
    have HV : Hid (decide (a = b) = false) := lid (decide_eq_false (fun e => by rw [e] at qdata; exact qdata rfl))
    go_enter Try.func21, Try.ntmps21
    go_wp2_with fail
    rw [HW1.out, HW.out]
    go_ret
    exact ⟨ret_bool' HV.out.symm, hw0⟩
  have udata : (a.data.toList == b.data.toList) = true := str_eq qdata
  by_cases qtree : a.tree = b.tree
  case neg =>
    have utree : (((a.tree.1.toNat : Int) == (b.tree.1.toNat : Int)) && ((a.tree.2.toNat : Int) == (b.tree.2.toNat : Int))) = false := (dg_beq _ _).trans (by simpa using qtree)
    have HV : Hid (decide (a = b) = false) := lid (decide_eq_false (fun e => by rw [e] at qtree; exact qtree rfl))
    go_enter Try.func21, Try.ntmps21
    go_wp2_with fail
    rw [HW1.out, HW.out]
    go_ret
    exact ⟨ret_bool' HV.out.symm, hw0⟩
  have utree : (((a.tree.1.toNat : Int) == (b.tree.1.toNat : Int)) && ((a.tree.2.toNat : Int) == (b.tree.2.toNat : Int))) = true := (dg_beq _ _).trans (by simpa using qtree)
  by_cases qauth : a.auth = b.auth
  case neg =>
    have uauth : (a.auth.toList == b.auth.toList) = false := str_ne qauth
    have HV : Hid (decide (a = b) = false) := lid (decide_eq_false (fun e => by rw [e] at qauth; exact qauth rfl))
    go_enter Try.func21, Try.ntmps21
    go_wp2_with fail
    rw [HW1.out, HW.out]
    go_ret
    exact ⟨ret_bool' HV.out.symm, hw0⟩
  have uauth : (a.auth.toList == b.auth.toList) = true := str_eq qauth
  by_cases qtime : a.time = b.time
  case neg =>
    have utime : (a.time == b.time) = false := by simpa using qtime
    have HV : Hid (decide (a = b) = false) := lid (decide_eq_false (fun e => by rw [e] at qtime; exact qtime rfl))
    go_enter Try.func21, Try.ntmps21
    go_wp2_with fail
    rw [HW1.out, HW.out]
    go_ret
    exact ⟨ret_bool' HV.out.symm, hw0⟩
  have utime : (a.time == b.time) = true := by simpa using qtime
  by_cases qmsg : a.msg = b.msg
  case neg =>
    have umsg : (a.msg.toList == b.msg.toList) = false := str_ne qmsg
    have HV : Hid (decide (a = b) = false) := lid (decide_eq_false (fun e => by rw [e] at qmsg; exact qmsg rfl))
    go_enter Try.func21, Try.ntmps21
    go_wp2_with fail
    rw [HW1.out, HW.out]
    go_ret
    exact ⟨ret_bool' HV.out.symm, hw0⟩
  have umsg : (a.msg.toList == b.msg.toList) = true := str_eq qmsg
  by_cases qne : ne = me
  case neg =>
    have une : ((ne : Int) == (me : Int)) = false := by simp; omega
    have une' : (ne == me) = false := by simp; omega
    have HV : Hid (decide (a = b) = false) := lid (decide_eq_false (fun e => by have h1 := HMa.out; have h2 := HMb.out; rw [e] at h1; omega))
    go_enter Try.func21, Try.ntmps21
    go_wp2_with fail
    rw [HW1.out, HW.out]
    go_ret
    exact ⟨ret_bool' HV.out.symm, hw0⟩
  have une : ((ne : Int) == (me : Int)) = true := by simp; omega
  have une' : (ne == me) = true := by simp; omega
  have HEne := lid qne
  clear qne
  by_cases qnp : np = mp
  case neg =>
    have unp : ((np : Int) == (mp : Int)) = false := by simp; omega
    have unp' : (np == mp) = false := by simp; omega
    have HV : Hid (decide (a = b) = false) := lid (decide_eq_false (fun e => by have h1 := HNa.out; have h2 := HNb.out; rw [e] at h1; omega))
    go_enter Try.func21, Try.ntmps21
    go_wp2_with fail
    rotate_left
    exfalso
    have := HEne.out
    omega
    rw [HW1.out, HW.out]
    go_ret
    exact ⟨ret_bool' HV.out.symm, hw0⟩
  have unp : ((np : Int) == (mp : Int)) = true := by simp; omega
  have unp' : (np == mp) = true := by simp; omega
  have HEnp := lid qnp
  clear qnp
  go_enter Try.func21, Try.ntmps21
  go_wp2_with fail
  all_goals try (exfalso; have h1 := HEne.out; have h2 := HEnp.out; omega)
  rw [HW1.out, HW.out]
  have HEQ : Hid (a.kind = b.kind ∧ a.data = b.data ∧ a.tree = b.tree ∧ a.auth = b.auth ∧ a.time = b.time ∧ a.msg = b.msg) := lid ⟨qkind, qdata, qtree, qauth, qtime, qmsg⟩
  clear qkind qdata qtree qauth qtime qmsg
  clear HW HW1 c0 c1 c2 c3 c4 c5 c6 c7 c8 d0 d1 d2 d3 d4 d5 d6 d7 d8 ukind udata utree uauth utime umsg une une' unp unp' l0 m0
  go_loopw [5] (fun i wr => ∃ k : Nat, k ≤ ne ∧ i = .int .i64 k ∧ Hid (a.ents.take k = b.ents.take k) ∧ Below W.heap.size W wr) (fun i _ => ne - (intOf i).toNat)
  case atStart => exact ⟨0, Nat.zero_le _, rfl, lid rfl, Below.refl _ _⟩
  case round =>
    obtain ⟨k, hk, rfl, HT, hb⟩ := hrel
    obtain ⟨l0, c0, c1, c2, c3, c4, c5, c6, c7, c8⟩ := HO.out.below hb
    obtain ⟨m0, d0, d1, d2, d3, d4, d5, d6, d7, d8⟩ := HQ.out.below hb
    clear c0 c1 c3 c4 c6 c7 c8 d0 d1 d3 d4 d6 d7 d8
    by_cases hlt : k < ne
    · have hkl : k < a.ents.length := by rw [HMa.out]; exact hlt
      have hkm : k < b.ents.length := by have := HEne.out; rw [HMb.out]; omega
      have hlt2 : k < me := by have := HEne.out; omega
      obtain ⟨b1, o1, rfl, hlb, hcell⟩ := (HA.out.es.below hb).at_ hlt
      obtain ⟨b2, o2, rfl, hlb2, hcell2⟩ := (HB.out.es.below hb).at_ hlt2
      have x0 := hcell (k * 4 + 0) _ (ecells_at hkl).1
      have x1 := hcell (k * 4 + 1) _ (ecells_at hkl).2.1
      have x2 := hcell (k * 4 + 2) _ (ecells_at hkl).2.2.1
      have x3 := hcell (k * 4 + 3) _ (ecells_at hkl).2.2.2
      have y0 := hcell2 (k * 4 + 0) _ (ecells_at hkm).1
      have y1 := hcell2 (k * 4 + 1) _ (ecells_at hkm).2.1
      have y2 := hcell2 (k * 4 + 2) _ (ecells_at hkm).2.2.1
      have y3 := hcell2 (k * 4 + 3) _ (ecells_at hkm).2.2.2
      rw [← Nat.add_assoc] at x1 x2 x3 y1 y2 y3
      rw [Nat.add_zero] at x0 y0
      have dk : decide ((k : Int) < (ne : Int)) = true := by simp; omega
      have HT1 := lid (List.take_succ_eq_append_getElem hkl)
      have HT2 := lid (List.take_succ_eq_append_getElem hkm)
      have HG : Hid (∀ (he : a = b), a.ents[k] = b.ents[k]) := lid (fun he => by subst he; rfl)
      clear hcell hcell2
      obtain ⟨r, hr⟩ : ∃ r, a.ents[k] = r := ⟨_, rfl⟩
      obtain ⟨s, hs⟩ : ∃ s, b.ents[k] = s := ⟨_, rfl⟩
      rw [hr] at x0 x1 x2 x3 HT1 HG
      rw [hs] at y0 y1 y2 y3 HT2 HG
      clear hr hs
      by_cases hrs : r = s
      · have HE : Hid ((!decide (r = s)) = false) := lid (by simp [hrs])
        have HRS := lid hrs
        clear hrs
        go_wp2_with fail
        refine wp_region_seq (fun w' => ∃ s : Since wr.heap.size wr, w' = s.world) [(0, true), (1, true), (2, true), (3, true), (4, true), (5, true), (6, true), (7, true), (8, true), (9, true), (10, true)] (by kernel_rfl) (by kernel_rfl) (by intro c d v a w h; cases d <;> exact h) (since (Below.refl _ _).drew) ?_
        iterate 10 (first | (refine seq_skip (by rfl) (by rfl) ?_; simp only [Act.put, List.setIfInBounds_toArray, List.set_cons_succ, List.set_cons_zero]) | (refine seq_float (by rfl) (by rfl) (by rfl) ?_; intro K hK; go_big_quiet_op; go_big_quiet_on))
        refine seq_float (by rfl) (by rfl) (by rfl) ?_; intro K hK
        refine quiet_neq_ent r s false _ _ rfl rfl rfl HE.out ?_
        simp only [Act.put, List.setIfInBounds_toArray, List.set_cons_succ, List.set_cons_zero]
        go_big_quiet_on
        refine seq_nil ?_
        go_wp2_with fail
        go_roundw
        case rel => exact ⟨k + 1, by omega, by go_num, lid (by rw [HT1.out, HT2.out, HT.out, HRS.out]), hb.drew⟩
        case measure => simp [intOf]; omega
      · have HE : Hid ((!decide (r = s)) = true) := lid (by simp [hrs])
        have HV : Hid (decide (a = b) = false) := lid (decide_eq_false (fun e => hrs (HG.out e)))
        clear hrs
        go_wp2_with fail
        refine wp_region_seq (fun w' => ∃ s : Since wr.heap.size wr, w' = s.world) [(0, true), (1, true), (2, true), (3, true), (4, true), (5, true), (6, true), (7, true), (8, true), (9, true), (10, true)] (by kernel_rfl) (by kernel_rfl) (by intro c d v a w h; cases d <;> exact h) (since (Below.refl _ _).drew) ?_
        iterate 10 (first | (refine seq_skip (by rfl) (by rfl) ?_; simp only [Act.put, List.setIfInBounds_toArray, List.set_cons_succ, List.set_cons_zero]) | (refine seq_float (by rfl) (by rfl) (by rfl) ?_; intro K hK; go_big_quiet_op; go_big_quiet_on))
        refine seq_float (by rfl) (by rfl) (by rfl) ?_; intro K hK
        refine quiet_neq_ent r s true _ _ rfl rfl rfl HE.out ?_
        simp only [Act.put, List.setIfInBounds_toArray, List.set_cons_succ, List.set_cons_zero]
        go_big_quiet_on
        refine seq_nil ?_
        go_wp2_with fail
        go_ret
        exact ⟨ret_bool' HV.out.symm, hw0.trans ((hb.drew).mono hw0.size)⟩
    · obtain rfl : k = ne := by omega
      have HTE : Hid (a.ents = b.ents) := lid (by have := HT.out; rwa [List.take_of_length_le (by rw [HMa.out]; exact Nat.le_refl _), List.take_of_length_le (by have := HEne.out; rw [HMb.out]; omega)] at this)
      clear HT
      have HOr := lid (HO.out.below hb)
      have HQr := lid (HQ.out.below hb)
      have HAr := lid (HA.out.below hb)
      have HBr := lid (HB.out.below hb)
      have hwr := hw0.trans (hb.mono hw0.size)
      clear HO HQ HA HB hw0 hb
      go_wp2_with fail
      clear c2 c5 d2 d5 l0 m0
      obtain ⟨V, rfl⟩ : ∃ V, V = wr := ⟨_, rfl⟩
      go_loopw [6] (fun i wr => ∃ k : Nat, k ≤ np ∧ i = .int .i64 k ∧ Hid (a.pars.take k = b.pars.take k) ∧ Below V.heap.size V wr) (fun i _ => np - (intOf i).toNat)
      case atStart => exact ⟨0, Nat.zero_le _, rfl, lid rfl, Below.refl _ _⟩
      case round =>
        clear hk hlt
        obtain ⟨k, hk, rfl, HT, hb⟩ := hrel
        obtain ⟨l0, c0, c1, c2, c3, c4, c5, c6, c7, c8⟩ := HOr.out.below hb
        obtain ⟨m0, d0, d1, d2, d3, d4, d5, d6, d7, d8⟩ := HQr.out.below hb
        clear c0 c1 c2 c3 c4 c6 c7 c8 d0 d1 d2 d3 d4 d6 d7 d8
        by_cases hlt : k < np
        · have hkl : k < a.pars.length := by rw [HNa.out]; exact hlt
          have hkm : k < b.pars.length := by have := HEnp.out; rw [HNb.out]; omega
          rcases HAr.out.ps.below hb with h | ⟨b1, o1, rfl, hlb, hcell⟩
          · exfalso; omega
          rcases HBr.out.ps.below hb with h | ⟨b2, o2, rfl, hlb2, hcell2⟩
          · exfalso; omega
          have hlt2 : k < mp := by have := HEnp.out; omega
          obtain ⟨x0, x1⟩ := hcell.at hkl
          obtain ⟨y0, y1⟩ := hcell2.at hkm
          have dk : decide ((k : Int) < (np : Int)) = true := by simp; omega
          have HT1 := lid (List.take_succ_eq_append_getElem hkl)
          have HT2 := lid (List.take_succ_eq_append_getElem hkm)
          have HG : Hid (∀ (he : a = b), a.pars[k] = b.pars[k]) := lid (fun he => by subst he; rfl)
          clear hcell hcell2
          obtain ⟨r, hr⟩ : ∃ r, a.pars[k] = r := ⟨_, rfl⟩
          obtain ⟨s, hs⟩ : ∃ s, b.pars[k] = s := ⟨_, rfl⟩
          rw [hr] at x0 x1 HT1 HG
          rw [hs] at y0 y1 HT2 HG
          clear hr hs
          by_cases hrs : r = s
          · have HE : Hid ((!decide (r = s)) = false) := lid (by simp [hrs])
            have HRS := lid hrs
            clear hrs
            go_wp2_with fail
            refine wp_region_seq (fun w' => ∃ s : Since wr.heap.size wr, w' = s.world) [(0, true), (1, true), (2, true), (3, true), (4, true), (5, true), (6, true), (7, true), (8, true), (9, true), (10, true)] (by kernel_rfl) (by kernel_rfl) (by intro c d v a w h; cases d <;> exact h) (since (Below.refl _ _).drew) ?_
            iterate 10 (first | (refine seq_skip (by rfl) (by rfl) ?_; simp only [Act.put, List.setIfInBounds_toArray, List.set_cons_succ, List.set_cons_zero]) | (refine seq_float (by rfl) (by rfl) (by rfl) ?_; intro K hK; go_big_quiet_op; go_big_quiet_on))
            refine seq_float (by rfl) (by rfl) (by rfl) ?_; intro K hK
            refine quiet_neq_dg r s false _ _ rfl rfl rfl HE.out ?_
            simp only [Act.put, List.setIfInBounds_toArray, List.set_cons_succ, List.set_cons_zero]
            go_big_quiet_on
            refine seq_nil ?_
            go_wp2_with fail
            go_roundw
            case rel => exact ⟨k + 1, by omega, by go_num, lid (by rw [HT1.out, HT2.out, HT.out, HRS.out]), hb.drew⟩
            case measure => simp [intOf]; omega
          · have HE : Hid ((!decide (r = s)) = true) := lid (by simp [hrs])
            have HV : Hid (decide (a = b) = false) := lid (decide_eq_false (fun e => hrs (HG.out e)))
            clear hrs
            go_wp2_with fail
            refine wp_region_seq (fun w' => ∃ s : Since wr.heap.size wr, w' = s.world) [(0, true), (1, true), (2, true), (3, true), (4, true), (5, true), (6, true), (7, true), (8, true), (9, true), (10, true)] (by kernel_rfl) (by kernel_rfl) (by intro c d v a w h; cases d <;> exact h) (since (Below.refl _ _).drew) ?_
            iterate 10 (first | (refine seq_skip (by rfl) (by rfl) ?_; simp only [Act.put, List.setIfInBounds_toArray, List.set_cons_succ, List.set_cons_zero]) | (refine seq_float (by rfl) (by rfl) (by rfl) ?_; intro K hK; go_big_quiet_op; go_big_quiet_on))
            refine seq_float (by rfl) (by rfl) (by rfl) ?_; intro K hK
            refine quiet_neq_dg r s true _ _ rfl rfl rfl HE.out ?_
            simp only [Act.put, List.setIfInBounds_toArray, List.set_cons_succ, List.set_cons_zero]
            go_big_quiet_on
            refine seq_nil ?_
            go_wp2_with fail
            go_ret
            exact ⟨ret_bool' HV.out.symm, hwr.trans ((hb.drew).mono hwr.size)⟩
        · obtain rfl : k = np := by omega
          have HV : Hid (decide (a = b) = true) := lid (decide_eq_true (by
            have hp := HT.out
            rw [List.take_of_length_le (by rw [HNa.out]; exact Nat.le_refl _), List.take_of_length_le (by have := HEnp.out; rw [HNb.out]; omega)] at hp
            obtain ⟨q1, q2, q3, q4, q5, q6⟩ := HEQ.out
            have q7 := HTE.out
            obtain ⟨a1, a2, a3, a4, a5, a6, a7, a8⟩ := a
            obtain ⟨b1, b2, b3, b4, b5, b6, b7, b8⟩ := b
            simp only at q1 q2 q3 q4 q5 q6 q7 hp
            subst q1 q2 q3 q4 q5 q6 q7 hp
            rfl))
          go_wp2_with fail
          go_ret
          exact ⟨ret_bool' HV.out.symm, hwr.trans (hb.mono hwr.size)⟩
end Go.Proofs.Ytmkdcnkbhnegnaa

namespace Go.Proofs.Ytmkdcnkbhnegnaa
open Go.RowKit

theorem names_same {a b : Ob} (ha : checkO a = 0) (hb : checkO b = 0) (da : a.data.size ≤ 60000) (db : b.data.size ≤ 60000) : ((bstr (encT a)).toList == (bstr (encT b)).toList) = decide (a = b) := by
  rw [str_beq]
  unfold encT
  rw [if_pos ha, if_pos hb]
  by_cases h : a = b
  · subst h; simp
  · rw [decide_eq_false h, decide_eq_false]
    intro e
    exact h (encL_inj ha hb (by omega) (by omega) (congrArg (fun s : ByteArray => s.data.toList) e))
theorem encT_max {o : Ob} (h : o.data.size ≤ 60000) : (bstr (encT o)).size ≤ maxLen := by
  rw [bstr_size]
  unfold encT
  split
  · rename_i h1
    have := encL_len h1 h
    simp [maxLen]
    omega
  · simp
theorem ofU_encT {o : Ob} (h : checkO o = 0) : ofU (bstr (encT o)).data.toList = nameD o := by
  unfold nameD encT
  rw [if_pos h, if_pos h, bstr_list]

set_option maxRecDepth 100000 in
set_option maxHeartbeats 16000000 in
theorem LawNames_any (a : Ob) (ae ap : Option Addr) (ne ce np cp : Nat) (b : Ob) (be bp : Option Addr) (me de mp dp : Nat) (w : World) (h : ObjA w ae ne ap np a) (k : ObjA w be me bp mp b) (hc : np ≤ cp) (kc : mp ≤ dp) :
    Calls Try.prog 6 #[.agg (ocells a ae ne ce ap np cp), .agg (ocells b be me de bp mp dp)] w fun e w' => e = .returned (.bool true) ∧ Below w.heap.size w w' := by
  have hb0 := ba w (Obj.cells (ocells a ae ne ce ap np cp) 28)
  have HO0 := OBox.new w a ae ne ce ap np cp 28
  obtain ⟨W1, hW1⟩ : ∃ W, w.alloc (Obj.cells (ocells a ae ne ce ap np cp) 28) = W := ⟨_, rfl⟩
  rw [hW1] at hb0 HO0
  have hb1 := ba W1 (Obj.cells (ocells b be me de bp mp dp) 28)
  have HO1 := OBox.new W1 b be me de bp mp dp 28
  obtain ⟨W, hW⟩ : ∃ W, W1.alloc (Obj.cells (ocells b be me de bp mp dp) 28) = W := ⟨_, rfl⟩
  rw [hW] at hb1 HO1
  have hw0 := hb0.trans (hb1.mono hb0.size)
  have l4 : W1.heap.size = w.heap.size + 1 := by rw [← hW1]; simp
  rw [l4] at HO1
  have HO := lid (HO0.below hb1)
  have HQ := lid HO1
  have HA := lid (h.below hw0)
  have HB := lid (k.below hw0)
  have HW1 := lid hW1
  have HW := lid hW
  have CG := lid (fun w (h : ObjA w ae ne ap np a) => Great_any a ae ap ne ce np cp w h)
  have DG := lid (fun w (h : ObjA w be me bp mp b) => Great_any b be bp me de mp dp w h)
  have CA := lid awake_any
  have HC := lid hc
  have KC := lid kc
  obtain ⟨l0, c0, c1, c2, c3, c4, c5, c6, c7, c8⟩ := HO.out
  obtain ⟨m0, d0, d1, d2, d3, d4, d5, d6, d7, d8⟩ := HQ.out
  rw [← HW.out, ← HW1.out] at c0 c1 c2 c3 c4 c5 c6 c7 c8 d0 d1 d2 d3 d4 d5 d6 d7 d8
  clear hW hW1 HO0 HO1 h k l4 hb0 hb1 hc kc
  go_enter Try.func6, Try.ntmps6
  go_wp2_with fail
  rw [HW1.out, HW.out]
  clear HW HW1 c0 c1 c2 c3 c4 c5 c6 c7 c8 d0 d1 d2 d3 d4 d5 d6 d7 d8 l0 m0
  (with_reducible refine (CG.out _ HA.out).mono ?_); rintro e w1 ⟨rfl, hb1⟩
  have hw1 := hw0.trans (hb1.mono hw0.size)
  cases hS : smallB a with
  | false =>
    clear hS
    simp only [Bool.not_false]
    go_wp2_with fail
    (with_reducible refine (CA.out _).mono ?_); rintro e w2 ⟨rfl, hb2⟩
    go_wp2_with fail
    go_ret
    exact ⟨rfl, hw1.trans (hb2.mono hw1.size)⟩
  | true =>
  have HSA := lid (small_of hS)
  have hda : Hid (a.data.size ≤ 60000) := lid (by have := HSA.out.1; omega)
  clear hS HSA
  simp only [Bool.not_true]
  obtain ⟨m0, d0, d1, d2, d3, d4, d5, d6, d7, d8⟩ := HQ.out.below hb1
  go_wp2_with fail
  clear m0 d0 d1 d2 d3 d4 d5 d6 d7 d8
  (with_reducible refine (DG.out _ (HB.out.below hb1)).mono ?_); rintro e w2 ⟨rfl, hb2⟩
  have hw2 := hw1.trans (hb2.mono hw1.size)
  cases hS : smallB b with
  | false =>
    clear hS
    simp only [Bool.not_false]
    go_wp2_with fail
    (with_reducible refine (CA.out _).mono ?_); rintro e w3 ⟨rfl, hb3⟩
    go_wp2_with fail
    go_ret
    exact ⟨rfl, hw2.trans (hb3.mono hw2.size)⟩
  | true =>
  have HSB := lid (small_of hS)
  have hdb : Hid (b.data.size ≤ 60000) := lid (by have := HSB.out.1; omega)
  clear hS HSB
  simp only [Bool.not_true]
  have hs2 := hb1.trans (hb2.mono hb1.size)
  have HO2 := lid (HO.out.below hs2)
  have HQ2 := lid (HQ.out.below hs2)
  have HA2 := lid (HA.out.below hs2)
  have HB2 := lid (HB.out.below hs2)
  have C1 := lid (fun w (h : ObjA w ae ne ap np a) => objEncode_any a ae ap ne ce np cp w h HC.out hda.out)
  have C2 := lid (fun w (h : ObjA w be me bp mp b) => objEncode_any b be bp me de mp dp w h KC.out hdb.out)
  have C3 := lid (fun w (h : ObjA w ae ne ap np a) => objName_any a ae ap ne ce np cp w h HC.out hda.out)
  have C4 := lid (fun w (h : ObjA w ae ne ap np a) (k : ObjA w be me bp mp b) => SameO_any a ae ap ne ce np cp b be bp me de mp dp w h k)
  have C5 := lid (fun w => of_any (bstr (encT a)) w (encT_max hda.out))
  have HN := lid (fun ha hb => names_same (a := a) (b := b) ha hb hda.out hdb.out)
  have HD := lid (fun ha => ofU_encT (o := a) ha)
  obtain ⟨S, hS⟩ : ∃ S, bstr (encT a) = S := ⟨_, rfl⟩
  obtain ⟨T, hT⟩ : ∃ S, bstr (encT b) = S := ⟨_, rfl⟩
  obtain ⟨D, hD⟩ : ∃ D, nameD a = D := ⟨_, rfl⟩
  rw [hS] at C1 C5 HN HD
  rw [hT] at C2 HN
  rw [hD] at C3 HD
  obtain ⟨same, hsame⟩ : ∃ v, decide (a = b) = v := ⟨_, rfl⟩
  rw [hsame] at C4 HN
  clear hS hT hD hsame HO HQ HA HB hw0 hb1 hb2 hs2 hw1
  obtain ⟨W, rfl⟩ : ∃ W, W = w2 := ⟨_, rfl⟩
  obtain ⟨l0, c0, c1, c2, c3, c4, c5, c6, c7, c8⟩ := HO2.out
  go_wp2_with fail
  clear l0 c0 c1 c2 c3 c4 c5 c6 c7 c8
  (with_reducible refine (C1.out _ HA2.out).mono ?_); rintro e w3 ⟨rfl, hb3⟩
  obtain ⟨m0, d0, d1, d2, d3, d4, d5, d6, d7, d8⟩ := HQ2.out.below hb3
  go_wp2_with fail
  clear m0 d0 d1 d2 d3 d4 d5 d6 d7 d8
  (with_reducible refine (C2.out _ (HB2.out.below hb3)).mono ?_); rintro e w4 ⟨rfl, hb4⟩
  have hs4 := hb3.trans (hb4.mono hb3.size)
  by_cases ha : checkO a = 0
  case neg =>
    have u1 : (checkO a != 0) = true := by simpa using ha
    clear ha
    go_wp2_with fail
    (with_reducible refine (CA.out _).mono ?_); rintro e w5 ⟨rfl, hb5⟩
    go_wp2_with fail
    go_ret
    exact ⟨rfl, hw2.trans ((hs4.trans (hb5.mono hs4.size)).mono hw2.size)⟩
  by_cases hb : checkO b = 0
  case neg =>
    have u2 : (checkO b != 0) = true := by simpa using hb
    rw [ha]
    clear hb ha
    go_wp2_with fail
    (with_reducible refine (CA.out _).mono ?_); rintro e w5 ⟨rfl, hb5⟩
    go_wp2_with fail
    go_ret
    exact ⟨rfl, hw2.trans ((hs4.trans (hb5.mono hs4.size)).mono hw2.size)⟩
  have HE := lid (HN.out ha hb)
  have HF := lid (HD.out ha)
  have HZ := lid ha
  rw [ha, hb]
  clear ha hb HN HD
  obtain ⟨l0, c0, c1, c2, c3, c4, c5, c6, c7, c8⟩ := HO2.out.below hs4
  go_wp2_with fail
  clear l0 c0 c1 c2 c3 c4 c5 c6 c7 c8
  (with_reducible refine (C3.out _ (HA2.out.below hs4)).mono ?_); rintro e w5 ⟨rfl, hb5⟩
  rw [HZ.out]
  have hs5 := hs4.trans (hb5.mono hs4.size)
  rw [HF.out] at C5
  obtain ⟨V, hV⟩ : ∃ V, w5.alloc (Obj.cells #[.int .u64 D.1.toNat, .int .u64 D.2.toNat] 25) = V := ⟨_, rfl⟩
  have hB5 : Below W.heap.size W V := by rw [← hV]; exact hs5.alloc hs5.size _
  have y0 : V.cell? ⟨w5.heap.size, 0, none⟩ = some (.int .u64 D.1.toNat) := by rw [← hV]; exact cell_new_at rfl _ _ _
  have y1 : V.cell? ⟨w5.heap.size, 1, none⟩ = some (.int .u64 D.2.toNat) := by rw [← hV]; exact cell_new_at rfl _ _ _
  have ly : w5.heap.size < V.heap.size := by rw [← hV]; simp
  obtain ⟨l0, c0, c1, c2, c3, c4, c5, c6, c7, c8⟩ := HO2.out.below hB5
  obtain ⟨m0, d0, d1, d2, d3, d4, d5, d6, d7, d8⟩ := HQ2.out.below hB5
  have HAV := lid (HA2.out.below hB5)
  have HBV := lid (HB2.out.below hB5)
  have e1 := HE.out
  have e2 : (same == same) = true := by simp
  go_wp2_with fail
  clear hV
  refine wp_region_seq (fun w' => ∃ s : Since V.heap.size V, w' = s.world) [(0, true), (1, true), (2, true), (3, true), (4, true), (5, false), (6, true), (7, true), (8, true), (9, true), (10, true), (11, true), (12, true), (13, true), (14, false), (15, true), (16, true), (17, true), (18, false), (19, true), (20, false)] (by kernel_rfl) (by kernel_rfl) (by intro c d v a w h; cases d <;> exact h) (since (Below.refl _ _).drew) ?_
  repeat (first | (refine seq_skip (by rfl) (by rfl) ?_; simp only [Act.put, List.setIfInBounds_toArray, List.set_cons_succ, List.set_cons_zero]) | (refine seq_float (by rfl) (by rfl) (by rfl) ?_; intro K hK; go_big_quiet_op; go_big_quiet_on))
  refine seq_chain (by rfl) ?_
  intro K hK
  go_wp2_with fail
  (with_reducible refine (C4.out _ (HAV.out.below (Below.refl _ _).drew) (HBV.out.below (Below.refl _ _).drew)).mono ?_); rintro e w6 ⟨rfl, hb6⟩
  replace hb6 : Below V.heap.size V w6 := (Below.refl _ _).drew.trans hb6
  have hs6 := hb6
  have z0 := (bc hb6 ly 0).trans y0
  have z1 := (bc hb6 ly 1).trans y1
  have lz : w5.heap.size < w6.heap.size := Nat.lt_of_lt_of_le ly hb6.size
  go_wp2_with fail
  refine hK.out _ _ (since hs6) ?_
  clear hK K
  repeat (first | (refine seq_skip (by rfl) (by rfl) ?_; simp only [Act.put, List.setIfInBounds_toArray, List.set_cons_succ, List.set_cons_zero]) | (refine seq_float (by rfl) (by rfl) (by rfl) ?_; intro K hK; go_big_quiet_op; go_big_quiet_on))
  go_wp2_with fail
  refine seq_chain (by rfl) ?_
  intro K hK
  go_wp2_with fail
  (with_reducible refine (C5.out _).mono ?_); rintro e w7 ⟨rfl, hb7⟩
  have hs7 : Below V.heap.size V w7 := hs6.trans (hb7.mono hs6.size)
  go_wp2_with fail
  refine hK.out _ _ (since hs7) ?_
  clear hK K
  refine seq_float (by rfl) (by rfl) (by rfl) ?_; intro K hK
  refine quiet_eq_dg3 D D true _ _ rfl rfl rfl (by simp) ?_
  simp only [Act.put, List.setIfInBounds_toArray, List.set_cons_succ, List.set_cons_zero]
  go_big_quiet_on
  repeat (first | (refine seq_skip (by rfl) (by rfl) ?_; simp only [Act.put, List.setIfInBounds_toArray, List.set_cons_succ, List.set_cons_zero]) | (refine seq_float (by rfl) (by rfl) (by rfl) ?_; intro K hK; go_big_quiet_op; go_big_quiet_on))
  refine seq_chain (by rfl) ?_
  intro K hK
  go_wp2_with fail
  (with_reducible refine (CA.out _).mono ?_); rintro e w8 ⟨rfl, hb8⟩
  have hs8 : Below V.heap.size V w8 := hs7.trans (hb8.mono hs7.size)
  go_wp2_with fail
  refine hK.out _ _ (since hs8) ?_
  clear hK K
  repeat (first | (refine seq_skip (by rfl) (by rfl) ?_; simp only [Act.put, List.setIfInBounds_toArray, List.set_cons_succ, List.set_cons_zero]) | (refine seq_float (by rfl) (by rfl) (by rfl) ?_; intro K hK; go_big_quiet_op; go_big_quiet_on))
  refine seq_chain (by rfl) ?_
  intro K hK
  go_wp2_with fail
  go_wp2_with fail
  refine hK.out _ _ (since hs8) ?_
  clear hK K
  refine seq_nil ?_
  go_wp2_with fail
  go_ret
  exact ⟨rfl, hw2.trans ((hB5.trans (hs8.mono hB5.size)).mono hw2.size)⟩
end Go.Proofs.Ytmkdcnkbhnegnaa

namespace Go.Proofs.Ytmkdcnkbhnegnaa
open Go.ChangeShapes Go.WideShapes Go.ChangeAt Go.RowKit

set_option maxRecDepth 100000 in
theorem objectNames_lifted (os : Os) (started : os.Started) (H : Type) (enc : TypeId × Value → H) :
    ReturnsInHanded {} Try.checked os 6 .any (Rows.objectNamesSpec.pre6 enc Try.prog Try.f6 Rows.objectNamesRow.domain false) (Rows.objectNamesSpec.post enc Try.prog Try.f6 false true false false) := by
  refine law_lift started (by kernel_rfl) Try.func6 rfl rfl (by kernel_rfl) ?_ (ChangeSpec.witness6 (enc := enc) (C := Try.checked) false ⟨#[], #[.agg #[.int .i64 0, .string ⟨#[]⟩, .slice none 0 0, .int .u64 0, .int .u64 0, .slice none 0 0, .string ⟨#[]⟩, .int .i64 0, .string ⟨#[]⟩], .agg #[.int .i64 0, .string ⟨#[]⟩, .slice none 0 0, .int .u64 0, .int .u64 0, .slice none 0 0, .string ⟨#[]⟩, .int .i64 0, .string ⟨#[]⟩]], []⟩ 8 (by kernel_rfl) (by kernel_rfl) (by kernel_rfl) (by kernel_rfl)) ?_
  · intro ds h
    rw [Try.params6] at h
    match ds, h with
    | [_, _], _ => exact ⟨rfl, rfl, rfl⟩
  · intro W vs h
    rw [Try.params6] at h
    match vs, h with
    | [v0, v1], ⟨h0, h1, _⟩ =>
      obtain ⟨a, ae, ap, ne, ce, np, cp, rfl, _, hc, _, _, _, hA, _, _⟩ := h0.obj
      obtain ⟨b, be, bp, me, de, mp, dp, rfl, _, kc, _, _, _, hB, _, _⟩ := h1.obj
      exact LawNames_any a ae ap ne ce np cp b be bp me de mp dp W hA hB hc kc

theorem objectNames_holds : Rows.ObjectNamesSaid :=
  OpenClaim.holds_of_wide 6 Try.f6 rfl rfl rfl rfl rfl rfl rfl ⟨rfl, rfl, rfl, rfl, rfl⟩ rfl rfl rfl rfl rfl (by kernel_rfl) Try.func6 (by kernel_rfl)
    (of_decide_eq_true (by kernel_rfl)) (by unfold Func.isWrapper; first | (rw [if_pos (by decide +kernel)]; kernel_rfl) | (rw [if_neg (by decide +kernel)]; exact ⟨rfl, rfl⟩))
    (fun os started H enc _ => objectNames_lifted os started H enc)
#print axioms objectNames_holds
end Go.Proofs.Ytmkdcnkbhnegnaa
