/-
  Decoding of objects: the plain part and the readers, in one text.
-/
import Derived.Test.YtmkdcnkbhnegnaaCodPut
import Derived.Test.YtmkdcnkbhnegnaaSl
import Derived.Test.YtmkdcnkbhnegnaaObjTop
import Derived.Test.YtmkdcnkbhnegnaaRegionL
import Derived.Test.YtmkdcnkbhnegnaaObjGreat
import Derived.Test.YtmkdcnkbhnegnaaDgSl
import Derived.Test.YtmkdcnkbhnegnaaAppG
namespace Go.Proofs.Ytmkdcnkbhnegnaa

/-- Reads a number: at most so many bytes are left, i were read, n is what they say. -/
def getGo : Nat → Nat → Nat → List UInt8 → Nat × Nat × Int
  | 0, _, _, _ => (0, 0, 13)
  | _ + 1, _, _, [] => (0, 0, 12)
  | f + 1, i, n, c :: l =>
    if c.toNat < 128 then (if c.toNat = 0 ∧ 0 < i ∨ 1099511627776 < n + c.toNat * 128 ^ i then (0, 0, 13) else (n + c.toNat * 128 ^ i, i + 1, 0))
    else getGo f (i + 1) (n + (c.toNat - 128) * 128 ^ i) l
def getI (l : List UInt8) : Nat × Nat × Int := getGo 6 0 0 l
def getX (l : List UInt8) : List UInt8 × Nat × Int :=
  if (getI l).2.2 = 0 then (if 65536 < (getI l).1 then ([], 0, 13) else if l.length - (getI l).2.1 < (getI l).1 then ([], 0, 12) else ((l.drop (getI l).2.1).take (getI l).1, (getI l).2.1 + (getI l).1, 0)) else ([], 0, (getI l).2.2)

theorem getGo_ok : ∀ {f i n m k : Nat} {l : List UInt8}, getGo f i n l = (m, k, 0) → ∃ x t, l = putN x ++ t ∧ m = n + x * 128 ^ i ∧ k = i + (putN x).length ∧ (0 < i → 0 < x) ∧ m ≤ 1099511627776
  | 0, _, _, _, _, _, h => by simp [getGo] at h
  | _ + 1, _, _, _, _, [], h => by simp [getGo] at h
  | f + 1, i, n, m, k, c :: l, h => by
    unfold getGo at h
    have hc := c.toNat_lt
    split at h
    · rename_i h1
      split at h
      · simp at h
      · rename_i h2
        simp only [Prod.mk.injEq] at h
        obtain ⟨rfl, rfl, _⟩ := h
        refine ⟨c.toNat, l, ?_, rfl, ?_, ?_, ?_⟩
        · rw [putN_lo h1]; simp
        · rw [putN_lo h1]; rfl
        · omega
        · omega
    · rename_i h1
      obtain ⟨x, t, rfl, rfl, rfl, h3, h4⟩ := getGo_ok h
      have h5 := h3 (by omega)
      refine ⟨(c.toNat - 128) + 128 * x, t, ?_, ?_, ?_, ?_, h4⟩
      · rw [putN_hi (n := (c.toNat - 128) + 128 * x) (by omega), show ((c.toNat - 128) + 128 * x) / 128 = x by omega, show ((c.toNat - 128) + 128 * x) % 128 + 128 = c.toNat by omega]
        simp
      · rw [Nat.pow_succ, Nat.add_mul, Nat.add_assoc, Nat.mul_comm 128 x, Nat.mul_assoc, Nat.mul_comm 128]
      · rw [putN_hi (n := (c.toNat - 128) + 128 * x) (by omega), List.length_cons, show ((c.toNat - 128) + 128 * x) / 128 = x by omega]
        omega
      · omega
theorem getGo_put : ∀ {f i n x : Nat} {t : List UInt8}, (putN x).length ≤ f → (0 < i → 0 < x) → n + x * 128 ^ i ≤ 1099511627776 → getGo f i n (putN x ++ t) = (n + x * 128 ^ i, i + (putN x).length, 0)
  | 0, _, _, x, _, h, _, _ => by
    have := putN_ne x
    exact absurd (List.eq_nil_of_length_eq_zero (by omega)) this
  | f + 1, i, n, x, t, h, h1, h2 => by
    by_cases hx : x < 128
    · rw [putN_lo hx]
      have e : (UInt8.ofNat x).toNat = x := ofNat_lo hx
      rw [List.singleton_append]
      unfold getGo
      rw [e, if_pos hx, if_neg (by omega)]
      rfl
    · rw [putN_hi hx] at h ⊢
      rw [List.cons_append]
      unfold getGo
      rw [ofNat_hi, if_neg (by omega), Nat.add_sub_cancel]
      have h3 : n + x % 128 * 128 ^ i + x / 128 * 128 ^ (i + 1) = n + x * 128 ^ i := by
        rw [Nat.pow_succ, Nat.add_assoc, Nat.mul_comm (128 ^ i), ← Nat.mul_assoc, ← Nat.add_mul, show x % 128 + x / 128 * 128 = x by omega]
      rw [getGo_put (by simpa using h) (fun _ => by omega) (by omega), h3, List.length_cons]
      congr 2
      omega
theorem getI_ok {l : List UInt8} {n k : Nat} (h : getI l = (n, k, 0)) : l = putN n ++ l.drop k ∧ k = (putN n).length ∧ n ≤ 1099511627776 := by
  obtain ⟨x, t, rfl, rfl, rfl, _, h4⟩ := getGo_ok h
  have e : 0 + x * 128 ^ 0 = x := by simp
  rw [e] at h4 ⊢
  refine ⟨?_, by omega, h4⟩
  rw [Nat.zero_add, List.drop_left]
theorem getI_put {n : Nat} {t : List UInt8} (h : n ≤ 1099511627776) : getI (putN n ++ t) = (n, (putN n).length, 0) := by
  unfold getI
  rw [getGo_put (putN_six h) (fun h => by omega) (by omega)]
  simp
theorem getGo_err : ∀ {f i n : Nat} {l : List UInt8}, (getGo f i n l).2.2 ≠ 0 → (getGo f i n l).1 = 0 ∧ (getGo f i n l).2.1 = 0
  | 0, _, _, _, _ => ⟨rfl, rfl⟩
  | _ + 1, _, _, [], _ => ⟨rfl, rfl⟩
  | f + 1, i, n, c :: l, h => by
    unfold getGo at h ⊢
    split at h
    · rename_i h1
      rw [if_pos h1]
      split at h
      · rename_i h2; rw [if_pos h2]; exact ⟨rfl, rfl⟩
      · simp at h
    · rename_i h1
      rw [if_neg h1]
      exact getGo_err h
theorem getI_err {l : List UInt8} (h : (getI l).2.2 ≠ 0) : (getI l).1 = 0 ∧ (getI l).2.1 = 0 := getGo_err h
theorem getI_le (l : List UInt8) : (getI l).2.1 ≤ l.length ∧ (getI l).1 ≤ 1099511627776 := by
  by_cases h : (getI l).2.2 = 0
  · obtain ⟨h1, h2, h3⟩ := getI_ok (l := l) (n := (getI l).1) (k := (getI l).2.1) (by rw [← h])
    refine ⟨?_, h3⟩
    have := congrArg List.length h1
    rw [List.length_append, ← h2] at this
    omega
  · obtain ⟨h1, h2⟩ := getI_err h
    omega
theorem getX_ok {l t : List UInt8} {k : Nat} (h : getX l = (t, k, 0)) : l = putT t ++ l.drop k ∧ t.length ≤ 65536 ∧ k = (putT t).length := by
  unfold getX at h
  split at h
  · rename_i h0
    obtain ⟨h1, h2, h3⟩ := getI_ok (l := l) (n := (getI l).1) (k := (getI l).2.1) (by rw [← h0])
    split at h
    · simp at h
    · rename_i h4
      split at h
      · simp at h
      · rename_i h5
        simp only [Prod.mk.injEq] at h
        obtain ⟨rfl, rfl, _⟩ := h
        have hl := (getI_le l).1
        have h6 : ((l.drop (getI l).2.1).take (getI l).1).length = (getI l).1 := by rw [List.length_take, List.length_drop]; omega
        unfold putT
        rw [h6, List.length_append, h6]
        refine ⟨?_, by omega, by omega⟩
        rw [List.append_assoc, ← List.drop_drop, List.take_append_drop]
        exact h1
  · rename_i h0
    simp only [Prod.mk.injEq] at h
    exact absurd h.2.2 h0
theorem getX_put {t s : List UInt8} (h : t.length ≤ 65536) : getX (putT t ++ s) = (t, (putT t).length, 0) := by
  have e : getI (putT t ++ s) = (t.length, (putN t.length).length, 0) := by
    unfold putT
    rw [List.append_assoc]
    exact getI_put (by omega)
  unfold getX
  rw [e]
  simp only [if_true]
  rw [if_neg (by omega), if_neg (by unfold putT; simp)]
  unfold putT
  rw [List.append_assoc, List.drop_left, List.take_left, List.length_append]
theorem getX_le (l : List UInt8) : (getX l).2.1 ≤ l.length ∧ (getX l).1.length ≤ l.length ∧ (getX l).1.length ≤ 65536 := by
  have hl := (getI_le l).1
  unfold getX
  split
  · split
    · simp
    · split
      · simp
      · simp only [List.length_take, List.length_drop]; omega
  · simp
theorem getX_err {l : List UInt8} (h : (getX l).2.2 ≠ 0) : (getX l).1 = [] ∧ (getX l).2.1 = 0 := by
  unfold getX at h ⊢
  split at h
  · rename_i h0
    rw [if_pos h0]
    split at h
    · rename_i h1; rw [if_pos h1]; exact ⟨rfl, rfl⟩
    · rename_i h1
      rw [if_neg h1]
      split at h
      · rename_i h2; rw [if_pos h2]; exact ⟨rfl, rfl⟩
      · exact absurd rfl h
  · rename_i h0; rw [if_neg h0]; exact ⟨rfl, rfl⟩
end Go.Proofs.Ytmkdcnkbhnegnaa

namespace Go.Proofs.Ytmkdcnkbhnegnaa
open Go.RowKit

theorem getGo_end {f i n : Nat} (h : 0 < f) : getGo f i n [] = (0, 0, 12) := by
  cases f with
  | zero => omega
  | succ f => rfl
theorem getGo_lo {f i n : Nat} {c : UInt8} {l : List UInt8} (h : 0 < f) (hc : c.toNat < 128) : getGo f i n (c :: l) = if c.toNat = 0 ∧ 0 < i ∨ 1099511627776 < n + c.toNat * 128 ^ i then (0, 0, 13) else (n + c.toNat * 128 ^ i, i + 1, 0) := by
  cases f with
  | zero => omega
  | succ f => rw [getGo, if_pos hc]
theorem getGo_hi {f i n : Nat} {c : UInt8} {l : List UInt8} (hc : ¬ c.toNat < 128) : getGo (f + 1) i n (c :: l) = getGo f (i + 1) (n + (c.toNat - 128) * 128 ^ i) l := by
  rw [getGo, if_neg hc]
abbrev gv (r : Nat × Nat × Int) : Value := .tuple #[.int .i64 r.1, .int .i64 r.2.1, .int .i64 r.2.2]
theorem ret_gv' {a b c : Int} {r : Nat × Nat × Int} {x y : Nat} (h : r = (x, y, c)) (h1 : a = x) (h2 : b = y) : Ending.returned (.tuple #[.int .i64 a, .int .i64 b, .int .i64 c]) = .returned (gv r) := by rw [h, h1, h2]

set_option maxRecDepth 100000 in
set_option maxHeartbeats 4000000 in
theorem GetInt_any (s : ByteArray) (w : World) (hs : s.size ≤ maxLen) :
    Calls Try.prog 54 #[.string s] w fun e w' => e = .returned (gv (getI s.data.toList)) ∧ w' = w := by
  have hs' : s.size ≤ 9223372036854775807 := hs
  have hN : s.data.toList.length = s.size := rfl
  go_enter Try.func54, Try.ntmps54
  go_wp2_with fail
  go_loop [5, 6, 9] (fun nv uv i => ∃ (k n : Nat), (k = 0 ∧ uv = .int .i64 1 ∧ i = .int .i64 0 ∨ k = 1 ∧ uv = .int .i64 128 ∧ i = .int .i64 1 ∨ k = 2 ∧ uv = .int .i64 16384 ∧ i = .int .i64 2 ∨ k = 3 ∧ uv = .int .i64 2097152 ∧ i = .int .i64 3 ∨ k = 4 ∧ uv = .int .i64 268435456 ∧ i = .int .i64 4 ∨ k = 5 ∧ uv = .int .i64 34359738368 ∧ i = .int .i64 5 ∨ k = 6 ∧ uv = .int .i64 4398046511104 ∧ i = .int .i64 6) ∧ nv = .int .i64 n ∧ n < 128 ^ k ∧ k ≤ s.size ∧ Hid (getI s.data.toList = getGo (6 - k) k n (s.data.toList.drop k))) (fun _ _ i => 6 - (intOf i).toNat)
  case atStart => exact ⟨0, 0, .inl ⟨rfl, rfl, rfl⟩, rfl, by omega, Nat.zero_le _, lid rfl⟩
  case round =>
    obtain ⟨k, n, hk, rfl, hn, hks, HG⟩ := hrel
    rcases hk with ⟨rfl, rfl, rfl⟩ | ⟨rfl, rfl, rfl⟩ | ⟨rfl, rfl, rfl⟩ | ⟨rfl, rfl, rfl⟩ | ⟨rfl, rfl, rfl⟩ | ⟨rfl, rfl, rfl⟩ | ⟨rfl, rfl, rfl⟩
    · by_cases hlt : s = ByteArray.empty
      case pos =>
        have HV := lid (show getI s.data.toList = (0, 0, 12) by subst hlt; rfl)
        go_wp2_with fail
        go_ret3
        exact ⟨ret_gv' (x := 0) (y := 0) rfl rfl rfl, rfl⟩
      have hlt' : 0 < s.size := by
        rcases Nat.eq_zero_or_pos s.size with h | h
        · exact absurd (ByteArray.size_eq_zero_iff.1 h) hlt
        · exact h
      have hlt2 : ¬ ByteArray.empty = s := fun e => hlt e.symm
      obtain ⟨c, hc⟩ : ∃ c, s[0]'hlt' = c := ⟨_, rfl⟩
      have hcl : s.data.toList[0]'hlt' = c := by rw [← hc]; rfl
      have HD := lid (List.drop_eq_getElem_cons (l := s.data.toList) (i := 0) hlt')
      rw [hcl] at HD
      have hc8 := c.toNat_lt
      clear hcl
      by_cases h1 : c.toNat < 128
      · have HV := lid (show getI s.data.toList = if c.toNat = 0 ∧ 0 < 0 ∨ 1099511627776 < n + c.toNat * 1 then (0, 0, 13) else (n + c.toNat * 1, 0 + 1, 0) by rw [HG.out, HD.out]; exact getGo_lo (by omega) h1)
        have d1 : decide ((128 : Int) ≤ c.toNat) = false := by simp; omega

        go_wp2_with fail
        all_goals
          go_ret3
          refine ⟨?_, rfl⟩
          first
            | exact ret_gv' (HV.out.trans (if_pos (by omega))) rfl rfl
            | exact ret_gv' (HV.out.trans (if_neg (by omega))) (by omega) (by omega)
      · have HV := lid (show getI s.data.toList = getGo (6 - 1) 1 (n + (c.toNat - 128) * 1) (s.data.toList.drop 1) by rw [HG.out, HD.out]; exact getGo_hi h1)
        have d1 : decide ((128 : Int) ≤ c.toNat) = true := by simp; omega
        go_wp2_with fail
        go_round
        case rel => exact ⟨1, n + (c.toNat - 128) * 1, .inr (.inl ⟨rfl, rfl, rfl⟩), by go_num, by omega, by omega, HV⟩
        case measure => simp [intOf]
    · by_cases hlt : 1 < s.size
      case neg =>
        have HV := lid (show getI s.data.toList = (0, 0, 12) by rw [HG.out, List.drop_eq_nil_of_le (by rw [hN]; omega)]; rfl)
        have d0 : decide ((s.size : Int) ≤ 1) = true := by simp; omega
        go_wp2_with fail
        go_ret3
        exact ⟨ret_gv' HV.out rfl rfl, rfl⟩
      have d0 : decide ((s.size : Int) ≤ 1) = false := by simp; omega
      have hlt' := hlt
      obtain ⟨c, hc⟩ : ∃ c, s[1]'hlt' = c := ⟨_, rfl⟩
      have hcl : s.data.toList[1]'hlt' = c := by rw [← hc]; rfl
      have HD := lid (List.drop_eq_getElem_cons (l := s.data.toList) (i := 1) hlt')
      rw [hcl] at HD
      have hc8 := c.toNat_lt
      clear hcl
      by_cases h1 : c.toNat < 128
      · have HV := lid (show getI s.data.toList = if c.toNat = 0 ∧ 0 < 1 ∨ 1099511627776 < n + c.toNat * 128 then (0, 0, 13) else (n + c.toNat * 128, 1 + 1, 0) by rw [HG.out, HD.out]; exact getGo_lo (by omega) h1)
        have d1 : decide ((128 : Int) ≤ c.toNat) = false := by simp; omega

        go_wp2_with fail
        all_goals
          go_ret3
          refine ⟨?_, rfl⟩
          first
            | exact ret_gv' (HV.out.trans (if_pos (by omega))) rfl rfl
            | exact ret_gv' (HV.out.trans (if_neg (by omega))) (by omega) (by omega)
      · have HV := lid (show getI s.data.toList = getGo (6 - 2) 2 (n + (c.toNat - 128) * 128) (s.data.toList.drop 2) by rw [HG.out, HD.out]; exact getGo_hi h1)
        have d1 : decide ((128 : Int) ≤ c.toNat) = true := by simp; omega
        go_wp2_with fail
        go_round
        case rel => exact ⟨2, n + (c.toNat - 128) * 128, .inr (.inr (.inl ⟨rfl, rfl, rfl⟩)), by go_num, by omega, by omega, HV⟩
        case measure => simp [intOf]
    · by_cases hlt : 2 < s.size
      case neg =>
        have HV := lid (show getI s.data.toList = (0, 0, 12) by rw [HG.out, List.drop_eq_nil_of_le (by rw [hN]; omega)]; rfl)
        have d0 : decide ((s.size : Int) ≤ 2) = true := by simp; omega
        go_wp2_with fail
        go_ret3
        exact ⟨ret_gv' HV.out rfl rfl, rfl⟩
      have d0 : decide ((s.size : Int) ≤ 2) = false := by simp; omega
      have hlt' := hlt
      obtain ⟨c, hc⟩ : ∃ c, s[2]'hlt' = c := ⟨_, rfl⟩
      have hcl : s.data.toList[2]'hlt' = c := by rw [← hc]; rfl
      have HD := lid (List.drop_eq_getElem_cons (l := s.data.toList) (i := 2) hlt')
      rw [hcl] at HD
      have hc8 := c.toNat_lt
      clear hcl
      by_cases h1 : c.toNat < 128
      · have HV := lid (show getI s.data.toList = if c.toNat = 0 ∧ 0 < 2 ∨ 1099511627776 < n + c.toNat * 16384 then (0, 0, 13) else (n + c.toNat * 16384, 2 + 1, 0) by rw [HG.out, HD.out]; exact getGo_lo (by omega) h1)
        have d1 : decide ((128 : Int) ≤ c.toNat) = false := by simp; omega

        go_wp2_with fail
        all_goals
          go_ret3
          refine ⟨?_, rfl⟩
          first
            | exact ret_gv' (HV.out.trans (if_pos (by omega))) rfl rfl
            | exact ret_gv' (HV.out.trans (if_neg (by omega))) (by omega) (by omega)
      · have HV := lid (show getI s.data.toList = getGo (6 - 3) 3 (n + (c.toNat - 128) * 16384) (s.data.toList.drop 3) by rw [HG.out, HD.out]; exact getGo_hi h1)
        have d1 : decide ((128 : Int) ≤ c.toNat) = true := by simp; omega
        go_wp2_with fail
        go_round
        case rel => exact ⟨3, n + (c.toNat - 128) * 16384, .inr (.inr (.inr (.inl ⟨rfl, rfl, rfl⟩))), by go_num, by omega, by omega, HV⟩
        case measure => simp [intOf]
    · by_cases hlt : 3 < s.size
      case neg =>
        have HV := lid (show getI s.data.toList = (0, 0, 12) by rw [HG.out, List.drop_eq_nil_of_le (by rw [hN]; omega)]; rfl)
        have d0 : decide ((s.size : Int) ≤ 3) = true := by simp; omega
        go_wp2_with fail
        go_ret3
        exact ⟨ret_gv' HV.out rfl rfl, rfl⟩
      have d0 : decide ((s.size : Int) ≤ 3) = false := by simp; omega
      have hlt' := hlt
      obtain ⟨c, hc⟩ : ∃ c, s[3]'hlt' = c := ⟨_, rfl⟩
      have hcl : s.data.toList[3]'hlt' = c := by rw [← hc]; rfl
      have HD := lid (List.drop_eq_getElem_cons (l := s.data.toList) (i := 3) hlt')
      rw [hcl] at HD
      have hc8 := c.toNat_lt
      clear hcl
      by_cases h1 : c.toNat < 128
      · have HV := lid (show getI s.data.toList = if c.toNat = 0 ∧ 0 < 3 ∨ 1099511627776 < n + c.toNat * 2097152 then (0, 0, 13) else (n + c.toNat * 2097152, 3 + 1, 0) by rw [HG.out, HD.out]; exact getGo_lo (by omega) h1)
        have d1 : decide ((128 : Int) ≤ c.toNat) = false := by simp; omega

        go_wp2_with fail
        all_goals
          go_ret3
          refine ⟨?_, rfl⟩
          first
            | exact ret_gv' (HV.out.trans (if_pos (by omega))) rfl rfl
            | exact ret_gv' (HV.out.trans (if_neg (by omega))) (by omega) (by omega)
      · have HV := lid (show getI s.data.toList = getGo (6 - 4) 4 (n + (c.toNat - 128) * 2097152) (s.data.toList.drop 4) by rw [HG.out, HD.out]; exact getGo_hi h1)
        have d1 : decide ((128 : Int) ≤ c.toNat) = true := by simp; omega
        go_wp2_with fail
        go_round
        case rel => exact ⟨4, n + (c.toNat - 128) * 2097152, .inr (.inr (.inr (.inr (.inl ⟨rfl, rfl, rfl⟩)))), by go_num, by omega, by omega, HV⟩
        case measure => simp [intOf]
    · by_cases hlt : 4 < s.size
      case neg =>
        have HV := lid (show getI s.data.toList = (0, 0, 12) by rw [HG.out, List.drop_eq_nil_of_le (by rw [hN]; omega)]; rfl)
        have d0 : decide ((s.size : Int) ≤ 4) = true := by simp; omega
        go_wp2_with fail
        go_ret3
        exact ⟨ret_gv' HV.out rfl rfl, rfl⟩
      have d0 : decide ((s.size : Int) ≤ 4) = false := by simp; omega
      have hlt' := hlt
      obtain ⟨c, hc⟩ : ∃ c, s[4]'hlt' = c := ⟨_, rfl⟩
      have hcl : s.data.toList[4]'hlt' = c := by rw [← hc]; rfl
      have HD := lid (List.drop_eq_getElem_cons (l := s.data.toList) (i := 4) hlt')
      rw [hcl] at HD
      have hc8 := c.toNat_lt
      clear hcl
      by_cases h1 : c.toNat < 128
      · have HV := lid (show getI s.data.toList = if c.toNat = 0 ∧ 0 < 4 ∨ 1099511627776 < n + c.toNat * 268435456 then (0, 0, 13) else (n + c.toNat * 268435456, 4 + 1, 0) by rw [HG.out, HD.out]; exact getGo_lo (by omega) h1)
        have d1 : decide ((128 : Int) ≤ c.toNat) = false := by simp; omega

        go_wp2_with fail
        all_goals
          go_ret3
          refine ⟨?_, rfl⟩
          first
            | exact ret_gv' (HV.out.trans (if_pos (by omega))) rfl rfl
            | exact ret_gv' (HV.out.trans (if_neg (by omega))) (by omega) (by omega)
      · have HV := lid (show getI s.data.toList = getGo (6 - 5) 5 (n + (c.toNat - 128) * 268435456) (s.data.toList.drop 5) by rw [HG.out, HD.out]; exact getGo_hi h1)
        have d1 : decide ((128 : Int) ≤ c.toNat) = true := by simp; omega
        go_wp2_with fail
        go_round
        case rel => exact ⟨5, n + (c.toNat - 128) * 268435456, .inr (.inr (.inr (.inr (.inr (.inl ⟨rfl, rfl, rfl⟩))))), by go_num, by omega, by omega, HV⟩
        case measure => simp [intOf]
    · by_cases hlt : 5 < s.size
      case neg =>
        have HV := lid (show getI s.data.toList = (0, 0, 12) by rw [HG.out, List.drop_eq_nil_of_le (by rw [hN]; omega)]; rfl)
        have d0 : decide ((s.size : Int) ≤ 5) = true := by simp; omega
        go_wp2_with fail
        go_ret3
        exact ⟨ret_gv' HV.out rfl rfl, rfl⟩
      have d0 : decide ((s.size : Int) ≤ 5) = false := by simp; omega
      have hlt' := hlt
      obtain ⟨c, hc⟩ : ∃ c, s[5]'hlt' = c := ⟨_, rfl⟩
      have hcl : s.data.toList[5]'hlt' = c := by rw [← hc]; rfl
      have HD := lid (List.drop_eq_getElem_cons (l := s.data.toList) (i := 5) hlt')
      rw [hcl] at HD
      have hc8 := c.toNat_lt
      clear hcl
      by_cases h1 : c.toNat < 128
      · have HV := lid (show getI s.data.toList = if c.toNat = 0 ∧ 0 < 5 ∨ 1099511627776 < n + c.toNat * 34359738368 then (0, 0, 13) else (n + c.toNat * 34359738368, 5 + 1, 0) by rw [HG.out, HD.out]; exact getGo_lo (by omega) h1)
        have d1 : decide ((128 : Int) ≤ c.toNat) = false := by simp; omega

        go_wp2_with fail
        all_goals
          go_ret3
          refine ⟨?_, rfl⟩
          first
            | exact ret_gv' (HV.out.trans (if_pos (by omega))) rfl rfl
            | exact ret_gv' (HV.out.trans (if_neg (by omega))) (by omega) (by omega)
      · have HV := lid (show getI s.data.toList = getGo (6 - 6) 6 (n + (c.toNat - 128) * 34359738368) (s.data.toList.drop 6) by rw [HG.out, HD.out]; exact getGo_hi h1)
        have d1 : decide ((128 : Int) ≤ c.toNat) = true := by simp; omega
        go_wp2_with fail
        go_round
        case rel => exact ⟨6, n + (c.toNat - 128) * 34359738368, .inr (.inr (.inr (.inr (.inr (.inr ⟨rfl, rfl, rfl⟩))))), by go_num, by omega, by omega, HV⟩
        case measure => simp [intOf]
    · go_wp2_with fail
      go_ret3
      exact ⟨ret_gv' (by rw [HG.out]; rfl) rfl rfl, rfl⟩
set_option maxRecDepth 100000 in
set_option maxHeartbeats 4000000 in
theorem refGetInt_any (s : ByteArray) (w : World) (hs : s.size ≤ maxLen) :
    Calls Try.prog 56 #[.string s] w fun e w' => e = .returned (gv (getI s.data.toList)) ∧ w' = w := by
  have hs' : s.size ≤ 9223372036854775807 := hs
  have hN : s.data.toList.length = s.size := rfl
  go_enter Try.func56, Try.ntmps56
  go_wp2_with fail
  go_loop [5, 6, 7] (fun nv uv i => ∃ (k n : Nat), (k = 0 ∧ uv = .int .i64 1 ∧ i = .int .i64 0 ∨ k = 1 ∧ uv = .int .i64 128 ∧ i = .int .i64 1 ∨ k = 2 ∧ uv = .int .i64 16384 ∧ i = .int .i64 2 ∨ k = 3 ∧ uv = .int .i64 2097152 ∧ i = .int .i64 3 ∨ k = 4 ∧ uv = .int .i64 268435456 ∧ i = .int .i64 4 ∨ k = 5 ∧ uv = .int .i64 34359738368 ∧ i = .int .i64 5 ∨ k = 6 ∧ uv = .int .i64 4398046511104 ∧ i = .int .i64 6) ∧ nv = .int .i64 n ∧ n < 128 ^ k ∧ k ≤ s.size ∧ Hid (getI s.data.toList = getGo (6 - k) k n (s.data.toList.drop k))) (fun _ _ i => 6 - (intOf i).toNat)
  case atStart => exact ⟨0, 0, .inl ⟨rfl, rfl, rfl⟩, rfl, by omega, Nat.zero_le _, lid rfl⟩
  case round =>
    obtain ⟨k, n, hk, rfl, hn, hks, HG⟩ := hrel
    rcases hk with ⟨rfl, rfl, rfl⟩ | ⟨rfl, rfl, rfl⟩ | ⟨rfl, rfl, rfl⟩ | ⟨rfl, rfl, rfl⟩ | ⟨rfl, rfl, rfl⟩ | ⟨rfl, rfl, rfl⟩ | ⟨rfl, rfl, rfl⟩
    · by_cases hlt : s = ByteArray.empty
      case pos =>
        have HV := lid (show getI s.data.toList = (0, 0, 12) by subst hlt; rfl)
        go_wp2_with fail
        go_ret3
        exact ⟨ret_gv' (x := 0) (y := 0) rfl rfl rfl, rfl⟩
      have hlt' : 0 < s.size := by
        rcases Nat.eq_zero_or_pos s.size with h | h
        · exact absurd (ByteArray.size_eq_zero_iff.1 h) hlt
        · exact h
      have hlt2 : ¬ ByteArray.empty = s := fun e => hlt e.symm
      obtain ⟨c, hc⟩ : ∃ c, s[0]'hlt' = c := ⟨_, rfl⟩
      have hcl : s.data.toList[0]'hlt' = c := by rw [← hc]; rfl
      have HD := lid (List.drop_eq_getElem_cons (l := s.data.toList) (i := 0) hlt')
      rw [hcl] at HD
      have hc8 := c.toNat_lt
      clear hcl
      by_cases h1 : c.toNat < 128
      · have HV := lid (show getI s.data.toList = if c.toNat = 0 ∧ 0 < 0 ∨ 1099511627776 < n + c.toNat * 1 then (0, 0, 13) else (n + c.toNat * 1, 0 + 1, 0) by rw [HG.out, HD.out]; exact getGo_lo (by omega) h1)
        have d1 : decide ((c.toNat : Int) < 128) = true := by simp; omega
        have d2 : c.toNat % 128 = c.toNat := by omega
        have d3 : ((c.toNat : Int) % 128) = c.toNat := by omega
        have d4 : ((c.toNat : Int) == 0) = decide (c.toNat = 0) := by rw [Bool.eq_iff_iff]; simp
        cases h0 : decide (c.toNat = 0) <;> rw [h0] at d4 <;> simp only [decide_eq_true_eq, decide_eq_false_iff_not] at h0
        all_goals go_wp2_with fail
        all_goals
          go_ret3
          refine ⟨?_, rfl⟩
          first
            | exact ret_gv' (HV.out.trans (if_pos (by omega))) rfl rfl
            | exact ret_gv' (HV.out.trans (if_neg (by omega))) (by omega) (by omega)
      · have HV := lid (show getI s.data.toList = getGo (6 - 1) 1 (n + (c.toNat - 128) * 1) (s.data.toList.drop 1) by rw [HG.out, HD.out]; exact getGo_hi h1)
        have d1 : decide ((c.toNat : Int) < 128) = false := by simp; omega
        have d3 : ((c.toNat : Int) % 128) = ((c.toNat - 128 : Nat) : Int) := by omega
        go_wp2_with fail
        go_round
        case rel => exact ⟨1, n + (c.toNat - 128) * 1, .inr (.inl ⟨rfl, rfl, rfl⟩), by go_num, by omega, by omega, HV⟩
        case measure => simp [intOf]
    · by_cases hlt : 1 < s.size
      case neg =>
        have HV := lid (show getI s.data.toList = (0, 0, 12) by rw [HG.out, List.drop_eq_nil_of_le (by rw [hN]; omega)]; rfl)
        have d0 : ((1 : Int) == s.size) = true := by simp; omega
        go_wp2_with fail
        go_ret3
        exact ⟨ret_gv' HV.out rfl rfl, rfl⟩
      have d0 : ((1 : Int) == s.size) = false := by simp; omega
      have hlt' := hlt
      obtain ⟨c, hc⟩ : ∃ c, s[1]'hlt' = c := ⟨_, rfl⟩
      have hcl : s.data.toList[1]'hlt' = c := by rw [← hc]; rfl
      have HD := lid (List.drop_eq_getElem_cons (l := s.data.toList) (i := 1) hlt')
      rw [hcl] at HD
      have hc8 := c.toNat_lt
      clear hcl
      by_cases h1 : c.toNat < 128
      · have HV := lid (show getI s.data.toList = if c.toNat = 0 ∧ 0 < 1 ∨ 1099511627776 < n + c.toNat * 128 then (0, 0, 13) else (n + c.toNat * 128, 1 + 1, 0) by rw [HG.out, HD.out]; exact getGo_lo (by omega) h1)
        have d1 : decide ((c.toNat : Int) < 128) = true := by simp; omega
        have d2 : c.toNat % 128 = c.toNat := by omega
        have d3 : ((c.toNat : Int) % 128) = c.toNat := by omega
        have d4 : ((c.toNat : Int) == 0) = decide (c.toNat = 0) := by rw [Bool.eq_iff_iff]; simp
        cases h0 : decide (c.toNat = 0) <;> rw [h0] at d4 <;> simp only [decide_eq_true_eq, decide_eq_false_iff_not] at h0
        all_goals go_wp2_with fail
        all_goals
          go_ret3
          refine ⟨?_, rfl⟩
          first
            | exact ret_gv' (HV.out.trans (if_pos (by omega))) rfl rfl
            | exact ret_gv' (HV.out.trans (if_neg (by omega))) (by omega) (by omega)
      · have HV := lid (show getI s.data.toList = getGo (6 - 2) 2 (n + (c.toNat - 128) * 128) (s.data.toList.drop 2) by rw [HG.out, HD.out]; exact getGo_hi h1)
        have d1 : decide ((c.toNat : Int) < 128) = false := by simp; omega
        have d3 : ((c.toNat : Int) % 128) = ((c.toNat - 128 : Nat) : Int) := by omega
        go_wp2_with fail
        go_round
        case rel => exact ⟨2, n + (c.toNat - 128) * 128, .inr (.inr (.inl ⟨rfl, rfl, rfl⟩)), by go_num, by omega, by omega, HV⟩
        case measure => simp [intOf]
    · by_cases hlt : 2 < s.size
      case neg =>
        have HV := lid (show getI s.data.toList = (0, 0, 12) by rw [HG.out, List.drop_eq_nil_of_le (by rw [hN]; omega)]; rfl)
        have d0 : ((2 : Int) == s.size) = true := by simp; omega
        go_wp2_with fail
        go_ret3
        exact ⟨ret_gv' HV.out rfl rfl, rfl⟩
      have d0 : ((2 : Int) == s.size) = false := by simp; omega
      have hlt' := hlt
      obtain ⟨c, hc⟩ : ∃ c, s[2]'hlt' = c := ⟨_, rfl⟩
      have hcl : s.data.toList[2]'hlt' = c := by rw [← hc]; rfl
      have HD := lid (List.drop_eq_getElem_cons (l := s.data.toList) (i := 2) hlt')
      rw [hcl] at HD
      have hc8 := c.toNat_lt
      clear hcl
      by_cases h1 : c.toNat < 128
      · have HV := lid (show getI s.data.toList = if c.toNat = 0 ∧ 0 < 2 ∨ 1099511627776 < n + c.toNat * 16384 then (0, 0, 13) else (n + c.toNat * 16384, 2 + 1, 0) by rw [HG.out, HD.out]; exact getGo_lo (by omega) h1)
        have d1 : decide ((c.toNat : Int) < 128) = true := by simp; omega
        have d2 : c.toNat % 128 = c.toNat := by omega
        have d3 : ((c.toNat : Int) % 128) = c.toNat := by omega
        have d4 : ((c.toNat : Int) == 0) = decide (c.toNat = 0) := by rw [Bool.eq_iff_iff]; simp
        cases h0 : decide (c.toNat = 0) <;> rw [h0] at d4 <;> simp only [decide_eq_true_eq, decide_eq_false_iff_not] at h0
        all_goals go_wp2_with fail
        all_goals
          go_ret3
          refine ⟨?_, rfl⟩
          first
            | exact ret_gv' (HV.out.trans (if_pos (by omega))) rfl rfl
            | exact ret_gv' (HV.out.trans (if_neg (by omega))) (by omega) (by omega)
      · have HV := lid (show getI s.data.toList = getGo (6 - 3) 3 (n + (c.toNat - 128) * 16384) (s.data.toList.drop 3) by rw [HG.out, HD.out]; exact getGo_hi h1)
        have d1 : decide ((c.toNat : Int) < 128) = false := by simp; omega
        have d3 : ((c.toNat : Int) % 128) = ((c.toNat - 128 : Nat) : Int) := by omega
        go_wp2_with fail
        go_round
        case rel => exact ⟨3, n + (c.toNat - 128) * 16384, .inr (.inr (.inr (.inl ⟨rfl, rfl, rfl⟩))), by go_num, by omega, by omega, HV⟩
        case measure => simp [intOf]
    · by_cases hlt : 3 < s.size
      case neg =>
        have HV := lid (show getI s.data.toList = (0, 0, 12) by rw [HG.out, List.drop_eq_nil_of_le (by rw [hN]; omega)]; rfl)
        have d0 : ((3 : Int) == s.size) = true := by simp; omega
        go_wp2_with fail
        go_ret3
        exact ⟨ret_gv' HV.out rfl rfl, rfl⟩
      have d0 : ((3 : Int) == s.size) = false := by simp; omega
      have hlt' := hlt
      obtain ⟨c, hc⟩ : ∃ c, s[3]'hlt' = c := ⟨_, rfl⟩
      have hcl : s.data.toList[3]'hlt' = c := by rw [← hc]; rfl
      have HD := lid (List.drop_eq_getElem_cons (l := s.data.toList) (i := 3) hlt')
      rw [hcl] at HD
      have hc8 := c.toNat_lt
      clear hcl
      by_cases h1 : c.toNat < 128
      · have HV := lid (show getI s.data.toList = if c.toNat = 0 ∧ 0 < 3 ∨ 1099511627776 < n + c.toNat * 2097152 then (0, 0, 13) else (n + c.toNat * 2097152, 3 + 1, 0) by rw [HG.out, HD.out]; exact getGo_lo (by omega) h1)
        have d1 : decide ((c.toNat : Int) < 128) = true := by simp; omega
        have d2 : c.toNat % 128 = c.toNat := by omega
        have d3 : ((c.toNat : Int) % 128) = c.toNat := by omega
        have d4 : ((c.toNat : Int) == 0) = decide (c.toNat = 0) := by rw [Bool.eq_iff_iff]; simp
        cases h0 : decide (c.toNat = 0) <;> rw [h0] at d4 <;> simp only [decide_eq_true_eq, decide_eq_false_iff_not] at h0
        all_goals go_wp2_with fail
        all_goals
          go_ret3
          refine ⟨?_, rfl⟩
          first
            | exact ret_gv' (HV.out.trans (if_pos (by omega))) rfl rfl
            | exact ret_gv' (HV.out.trans (if_neg (by omega))) (by omega) (by omega)
      · have HV := lid (show getI s.data.toList = getGo (6 - 4) 4 (n + (c.toNat - 128) * 2097152) (s.data.toList.drop 4) by rw [HG.out, HD.out]; exact getGo_hi h1)
        have d1 : decide ((c.toNat : Int) < 128) = false := by simp; omega
        have d3 : ((c.toNat : Int) % 128) = ((c.toNat - 128 : Nat) : Int) := by omega
        go_wp2_with fail
        go_round
        case rel => exact ⟨4, n + (c.toNat - 128) * 2097152, .inr (.inr (.inr (.inr (.inl ⟨rfl, rfl, rfl⟩)))), by go_num, by omega, by omega, HV⟩
        case measure => simp [intOf]
    · by_cases hlt : 4 < s.size
      case neg =>
        have HV := lid (show getI s.data.toList = (0, 0, 12) by rw [HG.out, List.drop_eq_nil_of_le (by rw [hN]; omega)]; rfl)
        have d0 : ((4 : Int) == s.size) = true := by simp; omega
        go_wp2_with fail
        go_ret3
        exact ⟨ret_gv' HV.out rfl rfl, rfl⟩
      have d0 : ((4 : Int) == s.size) = false := by simp; omega
      have hlt' := hlt
      obtain ⟨c, hc⟩ : ∃ c, s[4]'hlt' = c := ⟨_, rfl⟩
      have hcl : s.data.toList[4]'hlt' = c := by rw [← hc]; rfl
      have HD := lid (List.drop_eq_getElem_cons (l := s.data.toList) (i := 4) hlt')
      rw [hcl] at HD
      have hc8 := c.toNat_lt
      clear hcl
      by_cases h1 : c.toNat < 128
      · have HV := lid (show getI s.data.toList = if c.toNat = 0 ∧ 0 < 4 ∨ 1099511627776 < n + c.toNat * 268435456 then (0, 0, 13) else (n + c.toNat * 268435456, 4 + 1, 0) by rw [HG.out, HD.out]; exact getGo_lo (by omega) h1)
        have d1 : decide ((c.toNat : Int) < 128) = true := by simp; omega
        have d2 : c.toNat % 128 = c.toNat := by omega
        have d3 : ((c.toNat : Int) % 128) = c.toNat := by omega
        have d4 : ((c.toNat : Int) == 0) = decide (c.toNat = 0) := by rw [Bool.eq_iff_iff]; simp
        cases h0 : decide (c.toNat = 0) <;> rw [h0] at d4 <;> simp only [decide_eq_true_eq, decide_eq_false_iff_not] at h0
        all_goals go_wp2_with fail
        all_goals
          go_ret3
          refine ⟨?_, rfl⟩
          first
            | exact ret_gv' (HV.out.trans (if_pos (by omega))) rfl rfl
            | exact ret_gv' (HV.out.trans (if_neg (by omega))) (by omega) (by omega)
      · have HV := lid (show getI s.data.toList = getGo (6 - 5) 5 (n + (c.toNat - 128) * 268435456) (s.data.toList.drop 5) by rw [HG.out, HD.out]; exact getGo_hi h1)
        have d1 : decide ((c.toNat : Int) < 128) = false := by simp; omega
        have d3 : ((c.toNat : Int) % 128) = ((c.toNat - 128 : Nat) : Int) := by omega
        go_wp2_with fail
        go_round
        case rel => exact ⟨5, n + (c.toNat - 128) * 268435456, .inr (.inr (.inr (.inr (.inr (.inl ⟨rfl, rfl, rfl⟩))))), by go_num, by omega, by omega, HV⟩
        case measure => simp [intOf]
    · by_cases hlt : 5 < s.size
      case neg =>
        have HV := lid (show getI s.data.toList = (0, 0, 12) by rw [HG.out, List.drop_eq_nil_of_le (by rw [hN]; omega)]; rfl)
        have d0 : ((5 : Int) == s.size) = true := by simp; omega
        go_wp2_with fail
        go_ret3
        exact ⟨ret_gv' HV.out rfl rfl, rfl⟩
      have d0 : ((5 : Int) == s.size) = false := by simp; omega
      have hlt' := hlt
      obtain ⟨c, hc⟩ : ∃ c, s[5]'hlt' = c := ⟨_, rfl⟩
      have hcl : s.data.toList[5]'hlt' = c := by rw [← hc]; rfl
      have HD := lid (List.drop_eq_getElem_cons (l := s.data.toList) (i := 5) hlt')
      rw [hcl] at HD
      have hc8 := c.toNat_lt
      clear hcl
      by_cases h1 : c.toNat < 128
      · have HV := lid (show getI s.data.toList = if c.toNat = 0 ∧ 0 < 5 ∨ 1099511627776 < n + c.toNat * 34359738368 then (0, 0, 13) else (n + c.toNat * 34359738368, 5 + 1, 0) by rw [HG.out, HD.out]; exact getGo_lo (by omega) h1)
        have d1 : decide ((c.toNat : Int) < 128) = true := by simp; omega
        have d2 : c.toNat % 128 = c.toNat := by omega
        have d3 : ((c.toNat : Int) % 128) = c.toNat := by omega
        have d4 : ((c.toNat : Int) == 0) = decide (c.toNat = 0) := by rw [Bool.eq_iff_iff]; simp
        cases h0 : decide (c.toNat = 0) <;> rw [h0] at d4 <;> simp only [decide_eq_true_eq, decide_eq_false_iff_not] at h0
        all_goals go_wp2_with fail
        all_goals
          go_ret3
          refine ⟨?_, rfl⟩
          first
            | exact ret_gv' (HV.out.trans (if_pos (by omega))) rfl rfl
            | exact ret_gv' (HV.out.trans (if_neg (by omega))) (by omega) (by omega)
      · have HV := lid (show getI s.data.toList = getGo (6 - 6) 6 (n + (c.toNat - 128) * 34359738368) (s.data.toList.drop 6) by rw [HG.out, HD.out]; exact getGo_hi h1)
        have d1 : decide ((c.toNat : Int) < 128) = false := by simp; omega
        have d3 : ((c.toNat : Int) % 128) = ((c.toNat - 128 : Nat) : Int) := by omega
        go_wp2_with fail
        go_round
        case rel => exact ⟨6, n + (c.toNat - 128) * 34359738368, .inr (.inr (.inr (.inr (.inr (.inr ⟨rfl, rfl, rfl⟩))))), by go_num, by omega, by omega, HV⟩
        case measure => simp [intOf]
    · go_wp2_with fail
      go_ret3
      exact ⟨ret_gv' (by rw [HG.out]; rfl) rfl rfl, rfl⟩
end Go.Proofs.Ytmkdcnkbhnegnaa

namespace Go.Proofs.Ytmkdcnkbhnegnaa
open Go.RowKit

abbrev xv (r : List UInt8 × Nat × Int) : Value := .tuple #[.string (bstr r.1), .int .i64 r.2.1, .int .i64 r.2.2]
theorem ret_xv {s : ByteArray} {b c : Int} {r : List UInt8 × Nat × Int} (h0 : bstr r.1 = s) (h1 : b = r.2.1) (h2 : c = r.2.2) : Ending.returned (.tuple #[.string s, .int .i64 b, .int .i64 c]) = .returned (xv r) := by rw [← h0, h1, h2]
theorem getX_a {l : List UInt8} (h : ¬ (getI l).2.2 = 0) : getX l = ([], 0, (getI l).2.2) := by unfold getX; rw [if_neg h]
theorem getX_b {l : List UInt8} (h : (getI l).2.2 = 0) (h1 : 65536 < (getI l).1) : getX l = ([], 0, 13) := by unfold getX; rw [if_pos h, if_pos h1]
theorem getX_c {l : List UInt8} (h : (getI l).2.2 = 0) (h1 : ¬ 65536 < (getI l).1) (h2 : l.length - (getI l).2.1 < (getI l).1) : getX l = ([], 0, 12) := by unfold getX; rw [if_pos h, if_neg h1, if_pos h2]
theorem getX_d {l : List UInt8} (h : (getI l).2.2 = 0) (h1 : ¬ 65536 < (getI l).1) (h2 : ¬ l.length - (getI l).2.1 < (getI l).1) : getX l = ((l.drop (getI l).2.1).take (getI l).1, (getI l).2.1 + (getI l).1, 0) := by unfold getX; rw [if_pos h, if_neg h1, if_neg h2]
theorem bstr_extract (s : ByteArray) (a b : Nat) : bstr ((s.data.toList.drop a).take (b - a)) = s.extract a b := by
  apply ByteArray.ext
  apply Array.toList_inj.1
  rw [ByteArray.data_extract, Array.toList_extract, List.extract_eq_take_drop, bstr_list]

set_option maxRecDepth 100000 in
set_option maxHeartbeats 4000000 in
theorem GetText_any (s : ByteArray) (w : World) (hs : s.size ≤ maxLen) :
    Calls Try.prog 55 #[.string s] w fun e w' => e = .returned (xv (getX s.data.toList)) ∧ w' = w := by
  have hs' : s.size ≤ 9223372036854775807 := hs
  have hN : s.data.toList.length = s.size := rfl
  have HM := lid hs
  have hle := getI_le s.data.toList
  have HA := lid (getX_a (l := s.data.toList))
  have HB := lid (getX_b (l := s.data.toList))
  have HC := lid (getX_c (l := s.data.toList))
  have HD := lid (getX_d (l := s.data.toList))
  have HG := lid (GetInt_any s w hs)
  go_enter Try.func55, Try.ntmps55
  go_wp2_with fail
  (with_reducible refine (HG.out).mono ?_); rintro e w1 ⟨rfl, rfl⟩
  obtain ⟨r, hr⟩ : ∃ r, getI s.data.toList = r := ⟨_, rfl⟩
  rw [hr] at hle HA HB HC HD ⊢
  obtain ⟨n, k, e⟩ := r
  clear HG hr
  simp only at hle HA HB HC HD
  rw [hN] at hle HC HD
  by_cases h0 : e = 0
  case neg =>
    have HV := lid (HA.out h0)
    have u0 : (e == 0) = false := by simpa using h0
    clear h0 HA HB HC HD
    go_wp2_with fail
    go_ret3
    exact ⟨ret_xv (by rw [HV.out]; rfl) (by rw [HV.out]; rfl) (by rw [HV.out]), rfl⟩
  subst h0
  by_cases h1 : 65536 < n
  · have HV := lid (HB.out rfl h1)
    have u1 : decide ((65536 : Int) < (n : Int)) = true := by simp; omega
    have u1' : decide (65536 < n) = true := by simp; omega
    clear h1 HA HB HC HD
    go_wp2_with fail
    go_ret3
    exact ⟨ret_xv (by rw [HV.out]; rfl) (by rw [HV.out]; rfl) (by rw [HV.out]), rfl⟩
  have u1 : decide ((65536 : Int) < (n : Int)) = false := by simp; omega
  have u1' : decide (65536 < n) = false := by simp; omega
  have n0 : n ≤ 65536 := by omega
  have N1 := lid h1
  clear h1
  by_cases h2 : s.size - k < n
  · have HV := lid (HC.out rfl N1.out h2)
    have u2 : decide ((s.size : Int) - (k : Int) < (n : Int)) = true := by simp; omega
    clear HA HB HC HD
    go_wp2_with fail
    go_ret3
    exact ⟨ret_xv (by rw [HV.out]; rfl) (by rw [HV.out]; rfl) (by rw [HV.out]), rfl⟩
  · have HV := lid (HD.out rfl N1.out h2)
    have u2 : decide ((s.size : Int) - (k : Int) < (n : Int)) = false := by simp; omega
    have hkn : k + n ≤ s.size := by omega
    have HE := lid (bstr_extract s k (k + n))
    clear HA HB HC HD n0
    go_wp2_with fail
    go_ret3
    exact ⟨ret_xv (by rw [HV.out, ← HE.out, Nat.add_sub_cancel_left]) (by rw [HV.out]; simp) (by rw [HV.out]), rfl⟩
set_option maxRecDepth 100000 in
set_option maxHeartbeats 4000000 in
theorem refGetText_any (s : ByteArray) (w : World) (hs : s.size ≤ maxLen) :
    Calls Try.prog 57 #[.string s] w fun e w' => e = .returned (xv (getX s.data.toList)) ∧ w' = w := by
  have hs' : s.size ≤ 9223372036854775807 := hs
  have hN : s.data.toList.length = s.size := rfl
  have HM := lid hs
  have hle := getI_le s.data.toList
  have HA := lid (getX_a (l := s.data.toList))
  have HB := lid (getX_b (l := s.data.toList))
  have HC := lid (getX_c (l := s.data.toList))
  have HD := lid (getX_d (l := s.data.toList))
  have HG := lid (refGetInt_any s w hs)
  go_enter Try.func57, Try.ntmps57
  go_wp2_with fail
  (with_reducible refine (HG.out).mono ?_); rintro e w1 ⟨rfl, rfl⟩
  obtain ⟨r, hr⟩ : ∃ r, getI s.data.toList = r := ⟨_, rfl⟩
  rw [hr] at hle HA HB HC HD ⊢
  obtain ⟨n, k, e⟩ := r
  clear HG hr
  simp only at hle HA HB HC HD
  rw [hN] at hle HC HD
  by_cases h0 : e = 0
  case neg =>
    have HV := lid (HA.out h0)
    have u0 : (e == 0) = false := by simpa using h0
    clear h0 HA HB HC HD
    go_wp2_with fail
    go_ret3
    exact ⟨ret_xv (by rw [HV.out]; rfl) (by rw [HV.out]; rfl) (by rw [HV.out]), rfl⟩
  subst h0
  by_cases h1 : 65536 < n
  · have HV := lid (HB.out rfl h1)
    have u1 : decide ((65536 : Int) < (n : Int)) = true := by simp; omega
    have u1' : decide (65536 < n) = true := by simp; omega
    clear h1 HA HB HC HD
    go_wp2_with fail
    go_ret3
    exact ⟨ret_xv (by rw [HV.out]; rfl) (by rw [HV.out]; rfl) (by rw [HV.out]), rfl⟩
  have u1 : decide ((65536 : Int) < (n : Int)) = false := by simp; omega
  have u1' : decide (65536 < n) = false := by simp; omega
  have n0 : n ≤ 65536 := by omega
  have N1 := lid h1
  clear h1
  by_cases h2 : s.size - k < n
  · have HV := lid (HC.out rfl N1.out h2)
    have u2 : decide ((s.size : Int) - (k : Int) < (n : Int)) = true := by simp; omega
    clear HA HB HC HD
    go_wp2_with fail
    go_ret3
    exact ⟨ret_xv (by rw [HV.out]; rfl) (by rw [HV.out]; rfl) (by rw [HV.out]), rfl⟩
  · have HV := lid (HD.out rfl N1.out h2)
    have u2 : decide ((s.size : Int) - (k : Int) < (n : Int)) = false := by simp; omega
    have hkn : k + n ≤ s.size := by omega
    have HE := lid (bstr_extract s k (k + n))
    clear HA HB HC HD n0
    go_wp2_with fail
    go_ret3
    exact ⟨ret_xv (by rw [HV.out, ← HE.out, Nat.add_sub_cancel_left]) (by rw [HV.out]; simp) (by rw [HV.out]), rfl⟩
end Go.Proofs.Ytmkdcnkbhnegnaa

namespace Go.Proofs.Ytmkdcnkbhnegnaa
open Go.RowKit

/-- What is left to read, and whether something is wrong. -/
abbrev Rd := List UInt8 × Bool
def rNum (s : Rd) : Nat × Rd := ((getI s.1).1, (s.1.drop (getI s.1).2.1, s.2 || !decide ((getI s.1).2.2 = 0)))
def rStr (s : Rd) : List UInt8 × Rd := ((getX s.1).1, (s.1.drop (getX s.1).2.1, s.2 || !decide ((getX s.1).2.2 = 0)))
def qNum (s : Rd) : Nat × Rd := if s.2 = true ∨ (getI s.1).2.2 ≠ 0 then (0, (s.1, true)) else ((getI s.1).1, (s.1.drop (getI s.1).2.1, false))
def qStr (s : Rd) : List UInt8 × Rd := if s.2 = true ∨ (getX s.1).2.2 ≠ 0 then ([], (s.1, true)) else ((getX s.1).1, (s.1.drop (getX s.1).2.1, false))
abbrev rcell (s : Rd) : Array Value := #[.string (bstr s.1), .bool s.2]
/-- A reader in box b. -/
def Rb (t : TypeId) (b : Nat) (s : Rd) (w : World) : Prop := w.heap[b]? = some (.cells (rcell s) t (0, 0))
/-- All blocks but b stay. -/
def Kp (b : Nat) (w w' : World) : Prop := Below b w w' ∧ ∀ k, k < w.heap.size → k ≠ b → w'.heap[k]? = w.heap[k]?
theorem Kp.refl (b : Nat) (w : World) : Kp b w w := ⟨Below.refl _ _, fun _ _ _ => rfl⟩
theorem Kp.size {b : Nat} {w w' : World} (h : Kp b w w') : w.heap.size ≤ w'.heap.size := h.1.size
theorem Kp.trans {b : Nat} {w w1 w2 : World} (h : Kp b w w1) (k : Kp b w1 w2) : Kp b w w2 := ⟨h.1.trans k.1, fun j hj hb => (k.2 j (Nat.lt_of_lt_of_le hj h.size) hb).trans (h.2 j hj hb)⟩
theorem Kp.setCell {b : Nat} {w w1 : World} (h : Kp b w w1) (o : Nat) (u : Value) : Kp b w (w1.setCell ⟨b, o, none⟩ u) := ⟨h.1.setCell (p := ⟨b, o, none⟩) (Nat.le_refl _) _, fun j hj hb => (Below.heap_setCell _ _ _ _ hb).trans (h.2 j hj hb)⟩
theorem Kp.of_below {b : Nat} {w w' : World} (hb : b ≤ w.heap.size) (h : Below w.heap.size w w') : Kp b w w' := ⟨h.mono hb, fun k hk _ => h.block k hk⟩
theorem Kp.below {b B : Nat} {w0 w w' : World} (h : Kp b w w') (k : Below B w0 w) (hb : B ≤ b) : Below B w0 w' := k.trans (h.1.mono hb)
theorem Kp.cell {b : Nat} {w w' : World} (h : Kp b w w') {k : Nat} (hk : k < w.heap.size) (hb : k ≠ b) (o : Nat) : w'.cell? ⟨k, o, none⟩ = w.cell? ⟨k, o, none⟩ := World.cell?_of_block (w := w) (a := ⟨k, o, none⟩) (h.2 k hk hb)
theorem Rb.lt {t : TypeId} {b : Nat} {s : Rd} {w : World} (h : Rb t b s w) : b < w.heap.size := (Array.getElem?_eq_some_iff.1 h).1
theorem Rb.c0 {t : TypeId} {b : Nat} {s : Rd} {w : World} (h : Rb t b s w) : w.cell? ⟨b, 0, none⟩ = some (.string (bstr s.1)) := by rw [Lib.cell_of_heap h]; rfl
theorem Rb.c1 {t : TypeId} {b : Nat} {s : Rd} {w : World} (h : Rb t b s w) : w.cell? ⟨b, 1, none⟩ = some (.bool s.2) := by rw [Lib.cell_of_heap h]; rfl
theorem Rb.fz {t : TypeId} {b : Nat} {s : Rd} {w : World} (h : Rb t b s w) (o : Nat) : w.frozen? ⟨b, o, none⟩ = false := Lib.frozen_of_heap h o
theorem Rb.set0 {t : TypeId} {b : Nat} {s : Rd} {w : World} (h : Rb t b s w) (l : List UInt8) : Rb t b (l, s.2) (w.setCell ⟨b, 0, none⟩ (.string (bstr l))) := heap_setCell_same w b 0 _ _ _ h
theorem Rb.set1 {t : TypeId} {b : Nat} {s : Rd} {w : World} (h : Rb t b s w) (v : Bool) : Rb t b (s.1, v) (w.setCell ⟨b, 1, none⟩ (.bool v)) := heap_setCell_same w b 1 _ _ _ h
theorem Rb.below {t : TypeId} {b : Nat} {s : Rd} {w w' : World} (h : Rb t b s w) (hb : Below w.heap.size w w') : Rb t b s w' := (hb.block b h.lt).trans h
theorem bstr_drop (l : List UInt8) (k : Nat) : bstr (l.drop k) = (bstr l).extract k l.length := by
  have := bstr_extract (bstr l) k l.length
  rw [← this, bstr_list, List.take_of_length_le (by rw [List.length_drop]; exact Nat.le_refl _)]

set_option maxRecDepth 100000 in
set_option maxHeartbeats 4000000 in
theorem rNumber_any (b : Nat) (s : Rd) (w : World) (h : Rb 57 b s w) (hl : s.1.length ≤ maxLen) :
    Calls Try.prog 35 #[.pointer (some ⟨b, 0, none⟩)] w fun e w' => e = .returned (.int .i64 (rNum s).1) ∧ Rb 57 b (rNum s).2 w' ∧ Kp b w w' := by
  obtain ⟨l, bad⟩ := s
  have HI := lid (getI_le l)
  have HB := lid (bstr_drop l)
  have hS : (bstr l).size = l.length := rfl
  have HG := lid (GetInt_any (bstr l) w hl)
  have hl' : l.length ≤ 9223372036854775807 := hl
  have hlt := h.lt
  have c0 := h.c0
  have c1 := h.c1
  have f1 := h.fz 1
  have H := lid h
  have HV : Hid (rNum (l, bad) = ((getI l).1, (l.drop (getI l).2.1, bad || !decide ((getI l).2.2 = 0)))) := lid rfl
  rw [bstr_list] at HG
  clear h hl
  go_enter Try.func35, Try.ntmps35
  go_wp2_with fail
  (with_reducible refine (HG.out).mono ?_); rintro e w1 ⟨rfl, rfl⟩
  clear HG
  obtain ⟨r, hr⟩ : ∃ r, getI l = r := ⟨_, rfl⟩
  rw [hr] at HI HV ⊢
  obtain ⟨n, k, e⟩ := r
  have hk := HI.out.1
  simp only at HV hk
  clear hr HI
  have hsl : (bstr l).extract k (bstr l).size = bstr (l.drop k) := (HB.out k).symm
  cases bad with
  | true =>
    clear hS
    obtain ⟨w2, hw2⟩ : ∃ w2, w1.setCell ⟨b, 1, none⟩ (.bool true) = w2 := ⟨_, rfl⟩
    have H2 : Rb 57 b (l, true) w2 := by rw [← hw2]; exact H.out.set1 true
    have d0 := H2.c0
    have g0 := H2.fz 0
    have h2lt := H2.lt
    have K2 : Hid (Kp b w1 w2) := lid (by rw [← hw2]; exact (Kp.refl _ _).setCell _ _)
    have HH2 := lid H2
    clear H2
    go_wp2_with fail
    go_ret
    refine ⟨ret_i64 (by rw [HV.out]), ?_, K2.out.setCell 0 _⟩
    rw [HV.out, ← HB.out]
    exact HH2.out.set0 _
  | false =>
    by_cases h0 : e = 0
    · subst h0
      clear hS
      obtain ⟨w2, hw2⟩ : ∃ w2, w1.setCell ⟨b, 1, none⟩ (.bool false) = w2 := ⟨_, rfl⟩
      have H2 : Rb 57 b (l, false) w2 := by rw [← hw2]; exact H.out.set1 false
      have d0 := H2.c0
      have g0 := H2.fz 0
      have h2lt := H2.lt
      have K2 : Hid (Kp b w1 w2) := lid (by rw [← hw2]; exact (Kp.refl _ _).setCell _ _)
      have HH2 := lid H2
      clear H2
      go_wp2_with fail
      go_ret
      refine ⟨ret_i64 (by rw [HV.out]), ?_, K2.out.setCell 0 _⟩
      rw [HV.out, ← HB.out]
      exact HH2.out.set0 _
    · have u0 : (e != 0) = true := by simpa using h0
      have HV2 : Hid ((false || !decide (e = 0)) = true) := lid (by simp [h0])
      rw [HV2.out] at HV
      clear h0 hS
      obtain ⟨w2, hw2⟩ : ∃ w2, w1.setCell ⟨b, 1, none⟩ (.bool true) = w2 := ⟨_, rfl⟩
      have H2 : Rb 57 b (l, true) w2 := by rw [← hw2]; exact H.out.set1 true
      have d0 := H2.c0
      have g0 := H2.fz 0
      have h2lt := H2.lt
      have K2 : Hid (Kp b w1 w2) := lid (by rw [← hw2]; exact (Kp.refl _ _).setCell _ _)
      have HH2 := lid H2
      clear H2
      go_wp2_with fail
      go_ret
      refine ⟨ret_i64 (by rw [HV.out]), ?_, K2.out.setCell 0 _⟩
      rw [HV.out, ← HB.out]
      exact HH2.out.set0 _
set_option maxRecDepth 100000 in
set_option maxHeartbeats 4000000 in
theorem rString_any (b : Nat) (s : Rd) (w : World) (h : Rb 57 b s w) (hl : s.1.length ≤ maxLen) :
    Calls Try.prog 36 #[.pointer (some ⟨b, 0, none⟩)] w fun e w' => e = .returned (.string (bstr (rStr s).1)) ∧ Rb 57 b (rStr s).2 w' ∧ Kp b w w' := by
  obtain ⟨l, bad⟩ := s
  have HI := lid (getX_le l)
  have HB := lid (bstr_drop l)
  have hS : (bstr l).size = l.length := rfl
  have HG := lid (GetText_any (bstr l) w hl)
  have hl' : l.length ≤ 9223372036854775807 := hl
  have hlt := h.lt
  have c0 := h.c0
  have c1 := h.c1
  have f1 := h.fz 1
  have H := lid h
  have HV : Hid (rStr (l, bad) = ((getX l).1, (l.drop (getX l).2.1, bad || !decide ((getX l).2.2 = 0)))) := lid rfl
  rw [bstr_list] at HG
  clear h hl
  go_enter Try.func36, Try.ntmps36
  go_wp2_with fail
  (with_reducible refine (HG.out).mono ?_); rintro e w1 ⟨rfl, rfl⟩
  clear HG
  obtain ⟨r, hr⟩ : ∃ r, getX l = r := ⟨_, rfl⟩
  rw [hr] at HI HV ⊢
  obtain ⟨n, k, e⟩ := r
  have hk := HI.out.1
  simp only at HV hk
  clear hr HI
  have hsl : (bstr l).extract k (bstr l).size = bstr (l.drop k) := (HB.out k).symm
  cases bad with
  | true =>
    clear hS
    obtain ⟨w2, hw2⟩ : ∃ w2, w1.setCell ⟨b, 1, none⟩ (.bool true) = w2 := ⟨_, rfl⟩
    have H2 : Rb 57 b (l, true) w2 := by rw [← hw2]; exact H.out.set1 true
    have d0 := H2.c0
    have g0 := H2.fz 0
    have h2lt := H2.lt
    have K2 : Hid (Kp b w1 w2) := lid (by rw [← hw2]; exact (Kp.refl _ _).setCell _ _)
    have HH2 := lid H2
    clear H2
    go_wp2_with fail
    go_ret
    refine ⟨ret_string (by rw [HV.out]), ?_, K2.out.setCell 0 _⟩
    rw [HV.out, ← HB.out]
    exact HH2.out.set0 _
  | false =>
    by_cases h0 : e = 0
    · subst h0
      clear hS
      obtain ⟨w2, hw2⟩ : ∃ w2, w1.setCell ⟨b, 1, none⟩ (.bool false) = w2 := ⟨_, rfl⟩
      have H2 : Rb 57 b (l, false) w2 := by rw [← hw2]; exact H.out.set1 false
      have d0 := H2.c0
      have g0 := H2.fz 0
      have h2lt := H2.lt
      have K2 : Hid (Kp b w1 w2) := lid (by rw [← hw2]; exact (Kp.refl _ _).setCell _ _)
      have HH2 := lid H2
      clear H2
      go_wp2_with fail
      go_ret
      refine ⟨ret_string (by rw [HV.out]), ?_, K2.out.setCell 0 _⟩
      rw [HV.out, ← HB.out]
      exact HH2.out.set0 _
    · have u0 : (e != 0) = true := by simpa using h0
      have HV2 : Hid ((false || !decide (e = 0)) = true) := lid (by simp [h0])
      rw [HV2.out] at HV
      clear h0 hS
      obtain ⟨w2, hw2⟩ : ∃ w2, w1.setCell ⟨b, 1, none⟩ (.bool true) = w2 := ⟨_, rfl⟩
      have H2 : Rb 57 b (l, true) w2 := by rw [← hw2]; exact H.out.set1 true
      have d0 := H2.c0
      have g0 := H2.fz 0
      have h2lt := H2.lt
      have K2 : Hid (Kp b w1 w2) := lid (by rw [← hw2]; exact (Kp.refl _ _).setCell _ _)
      have HH2 := lid H2
      clear H2
      go_wp2_with fail
      go_ret
      refine ⟨ret_string (by rw [HV.out]), ?_, K2.out.setCell 0 _⟩
      rw [HV.out, ← HB.out]
      exact HH2.out.set0 _
set_option maxRecDepth 100000 in
set_option maxHeartbeats 4000000 in
theorem qNumber_any (b : Nat) (s : Rd) (w : World) (h : Rb 66 b s w) (hl : s.1.length ≤ maxLen) :
    Calls Try.prog 41 #[.pointer (some ⟨b, 0, none⟩)] w fun e w' => e = .returned (.int .i64 (qNum s).1) ∧ Rb 66 b (qNum s).2 w' ∧ Kp b w w' := by
  obtain ⟨l, bad⟩ := s
  have HI := lid (getI_le l)
  have HB := lid (bstr_drop l)
  have hS : (bstr l).size = l.length := rfl
  have HG := lid (refGetInt_any (bstr l) w hl)
  have hl' : l.length ≤ 9223372036854775807 := hl
  have hlt := h.lt
  have c0 := h.c0
  have c1 := h.c1
  have f0 := h.fz 0
  have f1 := h.fz 1
  have H := lid h
  have HV : Hid (qNum (l, bad) = if bad = true ∨ (getI l).2.2 ≠ 0 then (0, (l, true)) else ((getI l).1, (l.drop (getI l).2.1, false))) := lid rfl
  rw [bstr_list] at HG
  clear h hl
  go_enter Try.func41, Try.ntmps41
  go_wp2_with fail
  (with_reducible refine (HG.out).mono ?_); rintro e w1 ⟨rfl, rfl⟩
  clear HG
  obtain ⟨r, hr⟩ : ∃ r, getI l = r := ⟨_, rfl⟩
  rw [hr] at HI HV ⊢
  obtain ⟨n, k, e⟩ := r
  have hk := HI.out.1
  simp only at HV hk
  clear hr HI
  have hsl : (bstr l).extract k (bstr l).size = bstr (l.drop k) := (HB.out k).symm
  clear hS
  cases bad with
  | true =>
    have HW := lid (HV.out.trans (if_pos (.inl rfl)))
    clear HV
    go_wp2_with fail
    go_ret
    refine ⟨ret_i64 (by rw [HW.out]; rfl), ?_, (Kp.refl _ _).setCell 1 _⟩
    rw [HW.out]
    exact H.out.set1 true
  | false =>
    by_cases h0 : e = 0
    · subst h0
      have HW := lid (HV.out.trans (if_neg (by simp)))
      clear HV
      go_wp2_with fail
      go_ret
      refine ⟨ret_i64 (by rw [HW.out]), ?_, (Kp.refl _ _).setCell 0 _⟩
      rw [HW.out, ← HB.out]
      exact H.out.set0 _
    · have u0 : (e == 0) = false := by simpa using h0
      have HW := lid (HV.out.trans (if_pos (.inr h0)))
      clear HV h0
      go_wp2_with fail
      go_ret
      refine ⟨ret_i64 (by rw [HW.out]; rfl), ?_, (Kp.refl _ _).setCell 1 _⟩
      rw [HW.out]
      exact H.out.set1 true
set_option maxRecDepth 100000 in
set_option maxHeartbeats 4000000 in
theorem qText_any (b : Nat) (s : Rd) (w : World) (h : Rb 66 b s w) (hl : s.1.length ≤ maxLen) :
    Calls Try.prog 42 #[.pointer (some ⟨b, 0, none⟩)] w fun e w' => e = .returned (.string (bstr (qStr s).1)) ∧ Rb 66 b (qStr s).2 w' ∧ Kp b w w' := by
  obtain ⟨l, bad⟩ := s
  have HI := lid (getX_le l)
  have HB := lid (bstr_drop l)
  have hS : (bstr l).size = l.length := rfl
  have HG := lid (refGetText_any (bstr l) w hl)
  have hl' : l.length ≤ 9223372036854775807 := hl
  have hlt := h.lt
  have c0 := h.c0
  have c1 := h.c1
  have f0 := h.fz 0
  have f1 := h.fz 1
  have H := lid h
  have HV : Hid (qStr (l, bad) = if bad = true ∨ (getX l).2.2 ≠ 0 then ([], (l, true)) else ((getX l).1, (l.drop (getX l).2.1, false))) := lid rfl
  rw [bstr_list] at HG
  clear h hl
  go_enter Try.func42, Try.ntmps42
  go_wp2_with fail
  (with_reducible refine (HG.out).mono ?_); rintro e w1 ⟨rfl, rfl⟩
  clear HG
  obtain ⟨r, hr⟩ : ∃ r, getX l = r := ⟨_, rfl⟩
  rw [hr] at HI HV ⊢
  obtain ⟨n, k, e⟩ := r
  have hk := HI.out.1
  simp only at HV hk
  clear hr HI
  have hsl : (bstr l).extract k (bstr l).size = bstr (l.drop k) := (HB.out k).symm
  clear hS
  cases bad with
  | true =>
    have HW := lid (HV.out.trans (if_pos (.inl rfl)))
    clear HV
    go_wp2_with fail
    go_ret
    refine ⟨ret_string (by rw [HW.out]; rfl), ?_, (Kp.refl _ _).setCell 1 _⟩
    rw [HW.out]
    exact H.out.set1 true
  | false =>
    by_cases h0 : e = 0
    · subst h0
      have HW := lid (HV.out.trans (if_neg (by simp)))
      clear HV
      go_wp2_with fail
      go_ret
      refine ⟨ret_string (by rw [HW.out]), ?_, (Kp.refl _ _).setCell 0 _⟩
      rw [HW.out, ← HB.out]
      exact H.out.set0 _
    · have u0 : (e == 0) = false := by simpa using h0
      have HW := lid (HV.out.trans (if_pos (.inr h0)))
      clear HV h0
      go_wp2_with fail
      go_ret
      refine ⟨ret_string (by rw [HW.out]; rfl), ?_, (Kp.refl _ _).setCell 1 _⟩
      rw [HW.out]
      exact H.out.set1 true
end Go.Proofs.Ytmkdcnkbhnegnaa

namespace Go.Proofs.Ytmkdcnkbhnegnaa
open Go.RowKit

/-- A number of bytes, the greatest first. -/
def beN (l : List UInt8) : Nat := l.foldl (fun a c => a * 256 + c.toNat) 0
theorem beN_snoc (l : List UInt8) (c : UInt8) : beN (l ++ [c]) = beN l * 256 + c.toNat := by simp [beN]
theorem beN_lt : ∀ (k : Nat) (l : List UInt8), l.length ≤ k → beN l < 256 ^ k := by
  intro k
  induction k with
  | zero => intro l h; rw [List.eq_nil_of_length_eq_zero (l := l) (by omega)]; simp [beN]
  | succ k ih =>
    intro l h
    rcases List.eq_nil_or_concat l with rfl | ⟨m, c, rfl⟩
    · exact Nat.lt_of_lt_of_le (by simp [beN]) (Nat.one_le_pow _ _ (by omega))
    · rw [List.concat_eq_append, beN_snoc]
      have := ih m (by rw [List.concat_eq_append, List.length_append] at h; simp at h; omega)
      have hc := c.toNat_lt
      rw [Nat.pow_succ]
      omega
/-- The digest of sixteen bytes. -/
def digOf (l : List UInt8) : Dg := (UInt64.ofNat (beN (l.take 8)), UInt64.ofNat (beN ((l.drop 8).take 8)))
theorem beN_bytes (x : UInt64) (f : Nat → UInt8) (hf : ∀ j, j < 8 → (f j).toNat = x.toNat / 2 ^ (56 - 8 * j) % 256) : ∀ k, k ≤ 8 → beN ((List.range k).map f) = x.toNat / 2 ^ (64 - 8 * k) := by
  intro k
  induction k with
  | zero => intro _; simp [beN]; exact (Nat.div_eq_of_lt x.toNat_lt).symm
  | succ k ih =>
    intro hk
    rw [List.range_succ, List.map_append, List.map_singleton, beN_snoc, ih (by omega), hf k (by omega)]
    rw [show 64 - 8 * k = (56 - 8 * k) + 8 by omega, Nat.pow_add, ← Nat.div_div_eq_div_mul, show 64 - 8 * (k + 1) = 56 - 8 * k by omega]
    omega
theorem byteAt_nat (x y : UInt64) (k : Nat) : (byteAt x y k).toNat = (if k < 8 then x else y).toNat / 2 ^ (56 - 8 * (k % 8)) % 256 := by
  unfold byteAt
  simp
theorem bytesU_halves (x y : UInt64) : bytesU x y = (List.range 8).map (byteAt x y) ++ (List.range 8).map (fun j => byteAt x y (8 + j)) := rfl
theorem digOf_digL (d : Dg) (t : List UInt8) : digOf (digL d ++ t) = d := by
  obtain ⟨x, y⟩ := d
  unfold digOf digL
  rw [bytesU_halves, List.append_assoc]
  rw [List.take_append_of_le_length (by simp), List.take_of_length_le (by simp), List.drop_append_of_le_length (by simp), List.drop_of_length_le (by simp), List.nil_append, List.take_append_of_le_length (by simp), List.take_of_length_le (by simp)]
  rw [beN_bytes x _ (fun j hj => by rw [byteAt_nat, if_pos hj, show j % 8 = j by omega]) 8 (Nat.le_refl _), beN_bytes y _ (fun j hj => by rw [byteAt_nat, if_neg (by omega), show (8 + j) % 8 = j by omega]) 8 (Nat.le_refl _)]
  simp
theorem bytes_beN : ∀ (k : Nat) (l : List UInt8), l.length = k → k ≤ 8 → ∀ j (hj : j < l.length), beN l / 256 ^ (k - 1 - j) % 256 = (l[j]).toNat := by
  intro k
  induction k with
  | zero => intro l h _ j hj; omega
  | succ k ih =>
    intro l h hk j hj
    rcases List.eq_nil_or_concat l with rfl | ⟨m, c, rfl⟩
    · simp at hj
    · have hc := c.toNat_lt
      have hm : m.length = k := by simpa using h
      simp only [List.concat_eq_append] at hj ⊢
      rw [beN_snoc]
      by_cases hjk : j < k
      · rw [List.getElem_append_left (by omega), ← ih m hm (by omega) j (by omega)]
        rw [show k + 1 - 1 - j = (k - 1 - j) + 1 by omega, Nat.pow_succ, Nat.mul_comm (256 ^ (k - 1 - j)), ← Nat.div_div_eq_div_mul]
        congr 2
        omega
      · have : j = k := by rw [List.length_append] at hj; simp at hj; omega
        subst this
        rw [List.getElem_append_right (by omega)]
        simp [hm]
theorem digL_digOf {l : List UInt8} (h : 16 ≤ l.length) : digL (digOf l) = l.take 16 := by
  unfold digL
  apply List.ext_getElem
  · rw [bytesU_length, List.length_take]; omega
  · intro j h1 h2
    rw [bytesU_length] at h1
    apply UInt8.toNat_inj.1
    rw [List.getElem_take]
    simp only [bytesU, List.getElem_map, List.getElem_range]
    rw [byteAt_nat]
    have hl1 : beN (l.take 8) < 256 ^ 8 := beN_lt 8 _ (by rw [List.length_take]; omega)
    have hl2 : beN ((l.drop 8).take 8) < 256 ^ 8 := beN_lt 8 _ (by rw [List.length_take]; omega)
    by_cases hj : j < 8
    · rw [if_pos hj]
      simp only [digOf]
      rw [UInt64.toNat_ofNat', Nat.mod_eq_of_lt (a := beN (l.take 8)) (by omega)]
      have := bytes_beN 8 (l.take 8) (by rw [List.length_take]; omega) (Nat.le_refl _) j (by rw [List.length_take]; omega)
      rw [List.getElem_take] at this
      rw [← this, show 56 - 8 * (j % 8) = 8 * (8 - 1 - j) by omega, Nat.pow_mul]
    · rw [if_neg hj]
      simp only [digOf]
      rw [UInt64.toNat_ofNat', Nat.mod_eq_of_lt (a := beN ((l.drop 8).take 8)) (by omega)]
      have := bytes_beN 8 ((l.drop 8).take 8) (by rw [List.length_take, List.length_drop]; omega) (Nat.le_refl _) (j - 8) (by rw [List.length_take, List.length_drop]; omega)
      rw [List.getElem_take, List.getElem_drop] at this
      rw [show 56 - 8 * (j % 8) = 8 * (8 - 1 - (j - 8)) by omega, Nat.pow_mul]
      simp only [show 8 + (j - 8) = j by omega] at this
      exact this
end Go.Proofs.Ytmkdcnkbhnegnaa

namespace Go.Proofs.Ytmkdcnkbhnegnaa
open Go.RowKit

def rDig (s : Rd) : Dg × Rd := if s.1.length < 16 then ((0, 0), (s.1, true)) else (digOf s.1, (s.1.drop 16, s.2))
def qDig (s : Rd) : Dg × Rd := if s.2 = true ∨ s.1.length < 16 then ((0, 0), (s.1, true)) else (digOf s.1, (s.1.drop 16, false))
def rEnt3 (a : List UInt8) (d : Nat × Rd) : Ent × Rd := ((bstr a, decide (d.1 = 1), (rDig (d.2.1, d.2.2 || decide (1 < d.1))).1), (rDig (d.2.1, d.2.2 || decide (1 < d.1))).2)
def rEnt (s : Rd) : Ent × Rd := rEnt3 (rStr s).1 (rNum (rStr s).2)
def qEnt3 (a : List UInt8) (d : Nat × Rd) : Ent × Rd := ((bstr a, decide (d.1 = 1), (qDig d.2).1), (qDig d.2).2)
def qEnt (s : Rd) : Ent × Rd := qEnt3 (qStr s).1 (qNum (qStr s).2)
def many {α : Type} (f : Rd → α × Rd) : Nat → Rd → List α × Rd
  | 0, s => ([], s)
  | n + 1, s => if s.2 = true then ([], s) else ((f s).1 :: (many f n (f s).2).1, (many f n (f s).2).2)
def rList {α : Type} (f : Rd → α × Rd) (most : Nat) (s : Rd) : List α × Rd := many f (rNum s).1 ((rNum s).2.1, (rNum s).2.2 || decide (most < (rNum s).1))
def qList {α : Type} (f : Rd → α × Rd) (s : Rd) : List α × Rd := many f (qNum s).1 (qNum s).2
def ob0 (k : Int) : Ob := ⟨k, ⟨#[]⟩, [], (0, 0), [], ⟨#[]⟩, 0, ⟨#[]⟩⟩
def obD (k : Int) (d : List UInt8) : Ob := ⟨k, bstr d, [], (0, 0), [], ⟨#[]⟩, 0, ⟨#[]⟩⟩
def obE (l : List Ent) : Ob := ⟨2, ⟨#[]⟩, l, (0, 0), [], ⟨#[]⟩, 0, ⟨#[]⟩⟩
def obC (t : Dg) (p : List Dg) (a : List UInt8) (m : Nat) (g : List UInt8) : Ob := ⟨3, ⟨#[]⟩, [], t, p, bstr a, m, bstr g⟩
/-- What is read behind the kind. -/
def decRk (k : Nat) (s : Rd) : Ob × Rd :=
  if k = 1 ∨ k = 4 then (obD k (rStr s).1, (rStr s).2)
  else if k = 2 then (obE (rList rEnt 200 s).1, (rList rEnt 200 s).2)
  else if k = 3 then
    let p := rList rDig 8 (rDig s).2
    let a := rStr p.2
    let m := rNum a.2
    let g := rStr m.2
    (obC (rDig s).1 p.1 a.1 m.1 g.1, g.2)
  else (ob0 k, s)
def decR (l : List UInt8) : Ob × Rd := decRk (rNum (l, false)).1 (rNum (l, false)).2
def decQk (k : Nat) (s : Rd) : Ob × Rd :=
  if k = 2 then (obE (qList qEnt s).1, (qList qEnt s).2)
  else if k = 3 then
    let p := qList qDig (qDig s).2
    let a := qStr p.2
    let m := qNum a.2
    let g := qStr m.2
    (obC (qDig s).1 p.1 a.1 m.1 g.1, g.2)
  else (obD k (qStr s).1, (qStr s).2)
def decQ (l : List UInt8) : Ob × Rd := decQk (qNum (l, false)).1 (qNum (l, false)).2

def decRC (s : Rd) : Ob × Rd :=
  let p := rList rDig 8 (rDig s).2
  let a := rStr p.2
  let m := rNum a.2
  let g := rStr m.2
  (obC (rDig s).1 p.1 a.1 m.1 g.1, g.2)
def decQC (s : Rd) : Ob × Rd :=
  let p := qList qDig (qDig s).2
  let a := qStr p.2
  let m := qNum a.2
  let g := qStr m.2
  (obC (qDig s).1 p.1 a.1 m.1 g.1, g.2)
theorem decRk_D {k : Nat} (h : k = 1 ∨ k = 4) (s : Rd) : decRk k s = (obD k (rStr s).1, (rStr s).2) := by unfold decRk; rw [if_pos h]
theorem decRk_E (s : Rd) : decRk 2 s = (obE (rList rEnt 200 s).1, (rList rEnt 200 s).2) := rfl
theorem decRk_C (s : Rd) : decRk 3 s = decRC s := rfl
theorem decRk_0 {k : Nat} (h : ¬ (k = 1 ∨ k = 4)) (h2 : ¬ k = 2) (h3 : ¬ k = 3) (s : Rd) : decRk k s = (ob0 k, s) := by unfold decRk; rw [if_neg h, if_neg h2, if_neg h3]
theorem decQk_E (s : Rd) : decQk 2 s = (obE (qList qEnt s).1, (qList qEnt s).2) := rfl
theorem decQk_C (s : Rd) : decQk 3 s = decQC s := rfl
theorem decQk_D {k : Nat} (h2 : ¬ k = 2) (h3 : ¬ k = 3) (s : Rd) : decQk k s = (obD k (qStr s).1, (qStr s).2) := by unfold decQk; rw [if_neg h2, if_neg h3]

section put
variable {t : List UInt8}
theorem rNum_put {n : Nat} (h : n ≤ 1099511627776) : rNum (putN n ++ t, false) = (n, (t, false)) := by
  unfold rNum
  simp only [getI_put h]
  simp
theorem qNum_put {n : Nat} (h : n ≤ 1099511627776) : qNum (putN n ++ t, false) = (n, (t, false)) := by
  unfold qNum
  simp only [getI_put h]
  simp
theorem rStr_put {s : List UInt8} (h : s.length ≤ 65536) : rStr (putT s ++ t, false) = (s, (t, false)) := by
  unfold rStr
  simp only [getX_put h]
  simp
theorem qStr_put {s : List UInt8} (h : s.length ≤ 65536) : qStr (putT s ++ t, false) = (s, (t, false)) := by
  unfold qStr
  simp only [getX_put h]
  simp
theorem rDig_put (d : Dg) : rDig (digL d ++ t, false) = (d, (t, false)) := by
  unfold rDig
  have h := digL_len d
  rw [if_neg (by simp [h])]
  simp only [digOf_digL]
  rw [List.drop_append_of_le_length (by omega), List.drop_of_length_le (by omega)]
  rfl
theorem qDig_put (d : Dg) : qDig (digL d ++ t, false) = (d, (t, false)) := by
  unfold qDig
  have h := digL_len d
  rw [if_neg (by simp [h])]
  simp only [digOf_digL]
  rw [List.drop_append_of_le_length (by omega), List.drop_of_length_le (by omega)]
  rfl
theorem dirI_nat (b : Bool) : ∃ n : Nat, dirI b = n ∧ n ≤ 1 ∧ decide (n = 1) = b := by
  cases b
  · exact ⟨0, rfl, by omega, rfl⟩
  · exact ⟨1, rfl, by omega, rfl⟩
theorem putI_nat {n : Nat} (h : n ≤ 1099511627776) : putI (n : Int) = putN n := by
  unfold putI putB
  rw [if_pos (by simp; omega)]
  simp
theorem putX_lo {l : List UInt8} (h : l.length ≤ 65536) : putX l = putT l := by unfold putX; rw [if_pos h]
theorem rEnt_put {e : Ent} (h : e.1.size ≤ 65536) : rEnt (entL e ++ t, false) = (e, (t, false)) := by
  obtain ⟨a, b, d⟩ := e
  obtain ⟨n, h1, h2, h3⟩ := dirI_nat b
  unfold rEnt entL
  simp only at h ⊢
  have h' : a.data.toList.length ≤ 65536 := h
  rw [putX_lo h', h1, putI_nat (by omega), List.append_assoc, List.append_assoc, rStr_put h']
  simp only
  rw [rNum_put (by omega)]
  unfold rEnt3
  simp only [h3]
  rw [show (false || decide (1 < n)) = false by simp; omega, rDig_put]
  rfl
theorem qEnt_put {e : Ent} (h : e.1.size ≤ 65536) : qEnt (entL e ++ t, false) = (e, (t, false)) := by
  obtain ⟨a, b, d⟩ := e
  obtain ⟨n, h1, h2, h3⟩ := dirI_nat b
  unfold qEnt entL
  simp only at h ⊢
  have h' : a.data.toList.length ≤ 65536 := h
  rw [putX_lo h', h1, putI_nat (by omega), List.append_assoc, List.append_assoc, qStr_put h']
  simp only
  rw [qNum_put (by omega)]
  unfold qEnt3
  simp only [h3]
  rw [qDig_put]
  rfl
theorem many_put {α : Type} {f : Rd → α × Rd} {g : α → List UInt8} : ∀ (l : List α), (∀ x ∈ l, ∀ t, f (g x ++ t, false) = (x, (t, false))) → many f l.length (l.flatMap g ++ t, false) = (l, (t, false))
  | [], _ => rfl
  | x :: l, h => by
    rw [List.length_cons, many, if_neg (by simp), List.flatMap_cons, List.append_assoc, h x (List.mem_cons_self ..) _]
    simp only
    rw [many_put l (fun y hy => h y (List.mem_cons_of_mem _ hy))]
end put

theorem zeroB_eq {d : Dg} (h : zeroB d = true) : d = (0, 0) := of_decide_eq_true h
theorem emptyB_eq {s : ByteArray} (h : emptyB s = true) : s = ⟨#[]⟩ := of_decide_eq_true h
theorem hasD_no {o : Ob} (h : hasD o = false) : o.data = ⟨#[]⟩ := emptyB_eq (by unfold hasD at h; simpa using h)
theorem hasE_no {o : Ob} (h : hasE o = false) : o.ents = [] := List.eq_nil_of_length_eq_zero (by unfold hasE at h; simpa using h)
theorem hasC_no {o : Ob} (h : hasC o = false) : o.tree = (0, 0) ∧ o.pars = [] ∧ o.auth = ⟨#[]⟩ ∧ o.time = 0 ∧ o.msg = ⟨#[]⟩ := by
  unfold hasC at h
  simp only [Bool.or_eq_false_iff, Bool.not_eq_false', decide_eq_true_eq] at h
  obtain ⟨h1, h2, h3, h4, h5⟩ := h
  exact ⟨zeroB_eq h1, List.eq_nil_of_length_eq_zero (by simpa using h2), emptyB_eq h3, h4, emptyB_eq h5⟩
theorem bstr_self (s : ByteArray) : bstr s.data.toList = s := rfl
/-- What a valid object is. -/
theorem valid_form {o : Ob} (h : checkO o = 0) :
    (∃ k : Nat, (k = 1 ∨ k = 4) ∧ o = obD k o.data.data.toList) ∨ (o = obE o.ents ∧ (∀ e ∈ o.ents, e.1.size ≤ 24) ∧ o.ents.length ≤ 200)
    ∨ ∃ m : Nat, o = obC o.tree o.pars o.auth.data.toList m o.msg.data.toList ∧ o.pars.length ≤ 8 ∧ o.auth.size ≤ 24 ∧ m ≤ 1099511627776 ∧ o.msg.size ≤ 200 := by
  rcases checkO_kind h with hk | hk | hk | hk
  · have h' := h
    unfold checkO at h'
    rw [if_pos (.inl hk)] at h'
    split at h'
    · cases h'
    · rename_i h1
      simp only [Bool.or_eq_true, not_or, Bool.not_eq_true] at h1
      obtain ⟨e1, e2, e3, e4, e5⟩ := hasC_no h1.2
      have e0 := hasE_no h1.1
      refine .inl ⟨1, .inl rfl, ?_⟩
      obtain ⟨a1, a2, a3, a4, a5, a6, a7, a8⟩ := o
      simp only at hk e0 e1 e2 e3 e4 e5
      subst hk e0 e1 e2 e3 e4 e5
      rfl
  · obtain ⟨h2, _⟩ := checkO_ents h hk
    have hn := checkO_names h hk
    have h' := h
    unfold checkO at h'
    rw [if_neg (by omega), if_pos hk] at h'
    split at h'
    · cases h'
    · rename_i h1
      simp only [Bool.or_eq_true, not_or, Bool.not_eq_true] at h1
      obtain ⟨e1, e2, e3, e4, e5⟩ := hasC_no h1.2
      have e0 := hasD_no h1.1
      refine .inr (.inl ⟨?_, hn, h2⟩)
      obtain ⟨a1, a2, a3, a4, a5, a6, a7, a8⟩ := o
      simp only at hk e0 e1 e2 e3 e4 e5
      subst hk e0 e1 e2 e3 e4 e5
      rfl
  · obtain ⟨c1, c2, c3, c4, c5⟩ := checkO_comm h hk
    have h' := h
    unfold checkO at h'
    rw [if_neg (by omega), if_neg (by omega), if_pos hk] at h'
    split at h'
    · cases h'
    · rename_i h1
      simp only [Bool.or_eq_true, not_or, Bool.not_eq_true] at h1
      have e0 := hasD_no h1.1
      have e1 := hasE_no h1.2
      refine .inr (.inr ⟨o.time.toNat, ?_, c1, c2, by omega, c5⟩)
      have e2 : (o.time.toNat : Int) = o.time := by omega
      obtain ⟨a1, a2, a3, a4, a5, a6, a7, a8⟩ := o
      simp only at hk e0 e1 e2
      subst hk e0 e1
      unfold obC
      simp only [e2]
      rfl
  · have h' := h
    unfold checkO at h'
    rw [if_pos (.inr hk)] at h'
    split at h'
    · cases h'
    · rename_i h1
      simp only [Bool.or_eq_true, not_or, Bool.not_eq_true] at h1
      obtain ⟨e1, e2, e3, e4, e5⟩ := hasC_no h1.2
      have e0 := hasE_no h1.1
      refine .inl ⟨4, .inr rfl, ?_⟩
      obtain ⟨a1, a2, a3, a4, a5, a6, a7, a8⟩ := o
      simp only at hk e0 e1 e2 e3 e4 e5
      subst hk e0 e1 e2 e3 e4 e5
      rfl

theorem encL_D {k : Nat} (hk : k = 1 ∨ k = 4) {d : List UInt8} (h : d.length ≤ 65536) : encL (obD k d) = putN k ++ (putT d ++ []) := by
  unfold encL
  rw [if_neg (by simp only [obD]; omega), if_neg (by simp only [obD]; omega)]
  simp only [obD]
  rw [putI_nat (by omega), bstr_list, putX_lo h, List.append_nil]
theorem encL_E (l : List Ent) (h : l.length ≤ 200) : encL (obE l) = putN 2 ++ (putN l.length ++ (l.flatMap entL ++ [])) := by
  unfold encL
  rw [if_pos (show (obE l).kind = 2 from rfl)]
  unfold entsL
  simp only [obE]
  rw [show (2 : Int) = ((2 : Nat) : Int) from rfl, putI_nat (by omega), putI_nat (by omega), List.take_of_length_le (Nat.le_refl _), List.append_nil]
theorem encL_C {t : Dg} {p : List Dg} {a g : List UInt8} {m : Nat} (h1 : p.length ≤ 8) (h2 : a.length ≤ 65536) (h3 : m ≤ 1099511627776) (h4 : g.length ≤ 65536) :
    encL (obC t p a m g) = putN 3 ++ (digL t ++ (putN p.length ++ (p.flatMap digL ++ (putT a ++ (putN m ++ (putT g ++ [])))))) := by
  unfold encL
  rw [if_neg (by simp [obC]), if_pos (show (obC t p a m g).kind = 3 from rfl)]
  unfold parsL
  simp only [obC]
  rw [show (3 : Int) = ((3 : Nat) : Int) from rfl, putI_nat (by omega), putI_nat (by omega), putI_nat h3, List.take_of_length_le (Nat.le_refl _), bstr_list, bstr_list, putX_lo h2, putX_lo h4, List.append_nil]
  simp only [List.append_assoc]

/-- Both readers read what is encoded. -/
theorem dec_enc {o : Ob} (h : checkO o = 0) (hd : o.data.size ≤ 65536) : decR (encL o) = (o, ([], false)) ∧ decQ (encL o) = (o, ([], false)) := by
  unfold decR decQ
  rcases valid_form h with ⟨k, hk, ho⟩ | ⟨ho, hn, hl⟩ | ⟨m, ho, h1, h2, h3, h4⟩
  · have hd' : o.data.data.toList.length ≤ 65536 := hd
    obtain ⟨d, hdd⟩ : ∃ d, o.data.data.toList = d := ⟨_, rfl⟩
    rw [hdd] at ho hd'
    subst ho
    rw [encL_D hk hd', rNum_put (by omega), qNum_put (by omega)]
    simp only
    rw [decRk_D hk, decQk_D (by omega) (by omega), rStr_put hd', qStr_put hd']
    exact ⟨rfl, rfl⟩
  · obtain ⟨l, hll⟩ : ∃ l, o.ents = l := ⟨_, rfl⟩
    rw [hll] at ho hn hl
    subst ho
    rw [encL_E l hl, rNum_put (by omega), qNum_put (by omega)]
    simp only
    rw [decRk_E, decQk_E]
    unfold rList qList
    rw [rNum_put (by omega), qNum_put (by omega)]
    simp only
    rw [show (false || decide (200 < l.length)) = false by simp; omega]
    rw [many_put l (fun e he t => rEnt_put (Nat.le_trans (hn e he) (by omega))), many_put l (fun e he t => qEnt_put (Nat.le_trans (hn e he) (by omega)))]
    exact ⟨rfl, rfl⟩
  · have h2' : o.auth.data.toList.length ≤ 65536 := Nat.le_trans h2 (by omega)
    have h4' : o.msg.data.toList.length ≤ 65536 := Nat.le_trans h4 (by omega)
    obtain ⟨a, ha⟩ : ∃ d, o.auth.data.toList = d := ⟨_, rfl⟩
    obtain ⟨g, hg⟩ : ∃ d, o.msg.data.toList = d := ⟨_, rfl⟩
    obtain ⟨p, hp⟩ : ∃ d, o.pars = d := ⟨_, rfl⟩
    obtain ⟨t, ht⟩ : ∃ d, o.tree = d := ⟨_, rfl⟩
    rw [ha, hg, hp, ht] at ho
    rw [ha] at h2'
    rw [hg] at h4'
    rw [hp] at h1
    clear ha hg hp ht h2 h4
    subst ho
    rw [encL_C h1 h2' h3 h4', rNum_put (by omega), qNum_put (by omega)]
    simp only
    rw [decRk_C, decQk_C]
    unfold decRC decQC
    rw [rDig_put, qDig_put]
    unfold rList qList
    simp only
    rw [rNum_put (by omega), qNum_put (by omega)]
    simp only
    rw [show (false || decide (8 < p.length)) = false by simp; omega]
    rw [many_put p (fun e he t => rDig_put e), many_put p (fun e he t => qDig_put e)]
    simp only
    rw [rStr_put h2', qStr_put h2']
    simp only
    rw [rNum_put h3, qNum_put h3]
    simp only
    rw [rStr_put h4', qStr_put h4']
    exact ⟨rfl, rfl⟩
/-- The encodings of valid objects differ. -/
theorem encL_inj {a b : Ob} (ha : checkO a = 0) (hb : checkO b = 0) (da : a.data.size ≤ 65536) (db : b.data.size ≤ 65536) (h : encL a = encL b) : a = b := by
  have h1 := (dec_enc ha da).1
  have h2 := (dec_enc hb db).1
  rw [h, h2] at h1
  exact (congrArg Prod.fst h1).symm
end Go.Proofs.Ytmkdcnkbhnegnaa

namespace Go.Proofs.Ytmkdcnkbhnegnaa
open Go.RowKit

theorem rNum_ok {s : Rd} (h : (rNum s).2.2 = false) : s.2 = false ∧ s.1 = putN (rNum s).1 ++ (rNum s).2.1 ∧ (rNum s).1 ≤ 1099511627776 := by
  unfold rNum at h ⊢
  simp only [Bool.or_eq_false_iff, Bool.not_eq_false', decide_eq_true_eq] at h
  obtain ⟨h1, h2⟩ := h
  obtain ⟨e1, e2, e3⟩ := getI_ok (l := s.1) (n := (getI s.1).1) (k := (getI s.1).2.1) (by rw [← h2])
  exact ⟨h1, e1, e3⟩
theorem rStr_ok {s : Rd} (h : (rStr s).2.2 = false) : s.2 = false ∧ s.1 = putT (rStr s).1 ++ (rStr s).2.1 ∧ (rStr s).1.length ≤ 65536 := by
  unfold rStr at h ⊢
  simp only [Bool.or_eq_false_iff, Bool.not_eq_false', decide_eq_true_eq] at h
  obtain ⟨h1, h2⟩ := h
  obtain ⟨e1, e2, e3⟩ := getX_ok (l := s.1) (t := (getX s.1).1) (k := (getX s.1).2.1) (by rw [← h2])
  exact ⟨h1, e1, e2⟩
theorem rDig_ok {s : Rd} (h : (rDig s).2.2 = false) : s.2 = false ∧ s.1 = digL (rDig s).1 ++ (rDig s).2.1 := by
  unfold rDig at h ⊢
  split at h
  · cases h
  · rename_i h1
    rw [if_neg h1]
    refine ⟨h, ?_⟩
    simp only
    rw [digL_digOf (by omega), List.take_append_drop]
theorem rEnt3_ok {a : List UInt8} {d : Nat × Rd} (h : (rEnt3 a d).2.2 = false) (ha : a.length ≤ 65536) : d.2.2 = false ∧ d.1 ≤ 1 ∧ putT a ++ (putN d.1 ++ d.2.1) = entL (rEnt3 a d).1 ++ (rEnt3 a d).2.1 := by
  obtain ⟨n, l, b⟩ := d
  unfold rEnt3 at h ⊢
  simp only at h ⊢
  obtain ⟨h1, h2⟩ := rDig_ok h
  simp only [Bool.or_eq_false_iff, decide_eq_false_iff_not, Nat.not_lt] at h1
  simp only at h2
  obtain ⟨rfl, h4⟩ := h1
  refine ⟨rfl, h4, ?_⟩
  unfold entL
  simp only
  rw [bstr_list, putX_lo ha]
  have hn : putI (dirI (decide (n = 1))) = putN n := by
    rcases (show n = 0 ∨ n = 1 by omega) with rfl | rfl
    · exact putI_nat (n := 0) (by omega)
    · exact putI_nat (n := 1) (by omega)
  rw [hn, List.append_assoc, List.append_assoc]
  congr 2
theorem rEnt_ok {s : Rd} (h : (rEnt s).2.2 = false) : s.2 = false ∧ s.1 = entL (rEnt s).1 ++ (rEnt s).2.1 := by
  have hl : (rStr s).1.length ≤ 65536 := (getX_le s.1).2.2
  unfold rEnt at h ⊢
  obtain ⟨h1, h2, h3⟩ := rEnt3_ok h hl
  obtain ⟨h4, h5, _⟩ := rNum_ok h1
  obtain ⟨h6, h7, _⟩ := rStr_ok h4
  exact ⟨h6, by rw [← h3, ← h5]; exact h7⟩
theorem many_ok {α : Type} {f : Rd → α × Rd} {g : α → List UInt8} (hf : ∀ s, (f s).2.2 = false → s.2 = false ∧ s.1 = g (f s).1 ++ (f s).2.1) :
    ∀ (n : Nat) (s : Rd), (many f n s).2.2 = false → s.2 = false ∧ (many f n s).1.length = n ∧ s.1 = (many f n s).1.flatMap g ++ (many f n s).2.1
  | 0, s, h => ⟨h, rfl, by simp [many]⟩
  | n + 1, s, h => by
    unfold many at h ⊢
    split at h
    · rename_i h1
      simp only at h
      rw [h1] at h
      cases h
    · rename_i h1
      rw [if_neg h1]
      obtain ⟨h2, h3, h4⟩ := many_ok hf n (f s).2 h
      obtain ⟨h5, h6⟩ := hf s h2
      refine ⟨h5, by simp [h3], ?_⟩
      simp only
      rw [List.flatMap_cons, List.append_assoc, ← h4]
      exact h6
theorem rList_ok {α : Type} {f : Rd → α × Rd} {g : α → List UInt8} (hf : ∀ s, (f s).2.2 = false → s.2 = false ∧ s.1 = g (f s).1 ++ (f s).2.1) {most : Nat} {s : Rd} (h : (rList f most s).2.2 = false) :
    s.2 = false ∧ (rList f most s).1.length ≤ most ∧ s.1 = putN (rList f most s).1.length ++ ((rList f most s).1.flatMap g ++ (rList f most s).2.1) := by
  unfold rList at h ⊢
  obtain ⟨h1, h2, h3⟩ := many_ok hf _ _ h
  simp only [Bool.or_eq_false_iff, decide_eq_false_iff_not, Nat.not_lt] at h1
  obtain ⟨h4, h5, _⟩ := rNum_ok h1.1
  refine ⟨h4, by rw [h2]; exact h1.2, ?_⟩
  rw [h2, ← h3]
  exact h5
/-- What is read without a fault is the encoding of what was read. -/
theorem canon {l : List UInt8} (h : (decR l).2 = ([], false)) (hc : checkO (decR l).1 = 0) : encL (decR l).1 = l ∧ (decR l).1.data.size ≤ 65536 := by
  have hb : (decR l).2.2 = false := by rw [h]
  have hr : (decR l).2.1 = [] := by rw [h]
  unfold decR at hb hr hc ⊢
  have HN := rNum_ok (s := (l, false))
  simp only at HN
  generalize rNum (l, false) = q at *
  obtain ⟨k, s⟩ := q
  simp only at hb hr hc HN ⊢
  by_cases hk : k = 1 ∨ k = 4
  · rw [decRk_D hk] at hb hr hc ⊢
    simp only at hb hr hc ⊢
    obtain ⟨h1, h2, h3⟩ := rStr_ok hb
    obtain ⟨_, h4, _⟩ := HN h1
    rw [encL_D hk h3, h4, h2, hr]
    exact ⟨rfl, h3⟩
  by_cases h2 : k = 2
  · subst h2
    rw [decRk_E] at hb hr hc ⊢
    simp only at hb hr hc ⊢
    obtain ⟨h1, h2, h3⟩ := rList_ok (fun s h => rEnt_ok h) hb
    obtain ⟨_, h4, _⟩ := HN h1
    rw [encL_E _ h2, h4, h3, hr]
    exact ⟨rfl, (by decide : ByteArray.size ⟨#[]⟩ ≤ 65536)⟩
  by_cases h3 : k = 3
  · subst h3
    rw [decRk_C] at hb hr hc ⊢
    unfold decRC at hb hr hc ⊢
    simp only at hb hr hc ⊢
    obtain ⟨a1, a2, a3⟩ := rStr_ok hb
    obtain ⟨b1, b2, b3⟩ := rNum_ok a1
    obtain ⟨c1, c2, c3⟩ := rStr_ok b1
    obtain ⟨d1, d2, d3⟩ := rList_ok (fun s h => rDig_ok h) c1
    obtain ⟨e1, e2⟩ := rDig_ok d1
    obtain ⟨_, h4, _⟩ := HN e1
    rw [encL_C d2 c3 b3 a3, ← hr, ← a2, ← b2, ← c2, ← d3, ← e2]
    exact ⟨h4.symm, (by decide : ByteArray.size ⟨#[]⟩ ≤ 65536)⟩
  · rw [decRk_0 hk h2 h3] at hc
    simp only at hc
    rcases checkO_kind hc with h | h | h | h <;> (simp only [ob0] at h; omega)

def okR (l : List UInt8) : Bool := decide ((decR l).2 = ([], false)) && decide (checkO (decR l).1 = 0)
def okQ (l : List UInt8) : Bool := !(decQ l).2.2 && (decide (checkO (decQ l).1 = 0) && decide (encL (decQ l).1 = l))
def oR (l : List UInt8) : Ob := if okR l = true then (decR l).1 else ob0 0
def eR (l : List UInt8) : Int := if okR l = true then 0 else 13
def oQ (l : List UInt8) : Ob := if okQ l = true then (decQ l).1 else ob0 0
def eQ (l : List UInt8) : Int := if okQ l = true then 0 else 13
theorem okR_of {l : List UInt8} (h : okR l = true) : (decR l).2 = ([], false) ∧ checkO (decR l).1 = 0 := by
  unfold okR at h
  simpa using h
theorem decQ_size (l : List UInt8) : (decQ l).1.data.size ≤ 65536 := by
  unfold decQ
  generalize qNum (l, false) = q
  obtain ⟨k, s⟩ := q
  by_cases h2 : k = 2
  · subst h2; exact (by decide : ByteArray.size ⟨#[]⟩ ≤ 65536)
  by_cases h3 : k = 3
  · subst h3; exact (by decide : ByteArray.size ⟨#[]⟩ ≤ 65536)
  · simp only [decQk_D h2 h3, obD, bstr_size]
    unfold qStr
    split
    · simp
    · exact (getX_le s.1).2.2
theorem ok_same (l : List UInt8) : okR l = okQ l ∧ (okR l = true → (decR l).1 = (decQ l).1) := by
  have h1 : okR l = true → okQ l = true ∧ (decR l).1 = (decQ l).1 := by
    intro h
    obtain ⟨a, b⟩ := okR_of h
    obtain ⟨c, d⟩ := canon a b
    have e := (dec_enc b d).2
    rw [c] at e
    refine ⟨?_, by rw [e]⟩
    unfold okQ
    rw [e]
    simp [b, c]
  have h2 : okQ l = true → okR l = true := by
    intro h
    unfold okQ at h
    simp only [Bool.and_eq_true, Bool.not_eq_true', decide_eq_true_eq] at h
    obtain ⟨a, b, c⟩ := h
    have e := (dec_enc b (decQ_size l)).1
    rw [c] at e
    unfold okR
    rw [e]
    simp [b]
  refine ⟨?_, fun h => (h1 h).2⟩
  rw [Bool.eq_iff_iff]
  exact ⟨fun h => (h1 h).1, h2⟩
/-- Both answer alike. -/
theorem dec_same (l : List UInt8) : oR l = oQ l ∧ eR l = eQ l := by
  obtain ⟨h1, h2⟩ := ok_same l
  unfold oR oQ eR eQ
  rw [← h1]
  refine ⟨?_, rfl⟩
  by_cases h : okR l = true
  · rw [if_pos h, if_pos h, h2 h]
  · rw [if_neg h, if_neg h]
theorem oR_enc {o : Ob} (h : checkO o = 0) (hd : o.data.size ≤ 65536) : oR (encL o) = o ∧ eR (encL o) = 0 := by
  have e := (dec_enc h hd).1
  have : okR (encL o) = true := by unfold okR; rw [e]; simp [h]
  unfold oR eR
  rw [if_pos this, if_pos this, e]
  exact ⟨rfl, rfl⟩
theorem eR_canon {l : List UInt8} (h : eR l = 0) : checkO (oR l) = 0 ∧ encL (oR l) = l := by
  unfold eR at h
  split at h
  · rename_i h1
    obtain ⟨a, b⟩ := okR_of h1
    unfold oR
    rw [if_pos h1]
    exact ⟨b, (canon a b).1⟩
  · cases h
theorem eR_not {l : List UInt8} (h : ¬ eR l = 0) : oR l = ob0 0 ∧ eR l = 13 := by
  unfold eR oR at *
  split at h
  · cases h rfl
  · rename_i h1; rw [if_neg h1, if_neg h1]; exact ⟨rfl, rfl⟩
end Go.Proofs.Ytmkdcnkbhnegnaa

namespace Go.Proofs.Ytmkdcnkbhnegnaa
open Go.RowKit

theorem Kp.drew {b : Nat} {w w' : World} (h : Kp b w w') : Kp b w w'.drew := ⟨h.1.drew, h.2⟩
theorem beN_take {l : List UInt8} {k : Nat} (h : k < l.length) : beN (l.take (k + 1)) = beN (l.take k) * 256 + (l[k]).toNat := by
  rw [List.take_succ_eq_append_getElem h, beN_snoc]
abbrev d2cells (x y : Nat) : Array Value := #[.int .u64 x, .int .u64 y]
/-- A digest in block D that is being read. -/
def Db (D x y : Nat) (w : World) : Prop := w.heap[D]? = some (.cells (d2cells x y) 25 (0, 0))

theorem Db.set0 {D x y : Nat} {w : World} (h : Db D x y w) (z : Nat) : Db D z y (w.setCell ⟨D, 0, none⟩ (.int .u64 z)) := heap_setCell_same w D 0 _ _ _ h
theorem Db.set1 {D x y : Nat} {w : World} (h : Db D x y w) (z : Nat) : Db D x z (w.setCell ⟨D, 1, none⟩ (.int .u64 z)) := heap_setCell_same w D 1 _ _ _ h
theorem wraps_u64' (n : Int) (h₀ : 0 ≤ n) (h₁ : n < 2 ^ 64) : IntKind.u64.wrap n = n := by rw [IntKind.wrap_u64]; omega
theorem shl_wrap {x : Nat} (hx : x < 256 ^ 7) : IntKind.u64.wrap ((x : Int) * 256) = (x : Int) * 256 := wraps_u64' _ (by omega) (by omega)
theorem shl_or {x c : Nat} (hx : x < 256 ^ 7) (hc : c < 256) : bits .or .u64 ((x : Int) * 256) (c : Int) = ((x * 256 + c : Nat) : Int) := by
  rw [bits_join .u64 64 (by decide) wraps_u64' 8 _ _ (by omega) (by omega) (by omega) (by omega) (by omega) (by omega)]
  omega
theorem beN_lo {l : List UInt8} {k : Nat} (hk : k < 8) (hl : k < l.length) : beN (l.take (min (k + 1) 8)) = beN (l.take (min k 8)) * 256 + (l[k]).toNat := by
  rw [Nat.min_eq_left (by omega), Nat.min_eq_left (by omega), beN_take hl]
theorem beN_lo' (l : List UInt8) {k : Nat} (hk : k < 8) : beN ((l.drop 8).take (k + 1 - 8)) = beN ((l.drop 8).take (k - 8)) := by
  rw [show k + 1 - 8 = 0 by omega, show k - 8 = 0 by omega]
theorem beN_hi {l : List UInt8} {k : Nat} (hk : ¬ k < 8) (hl : k < l.length) : beN ((l.drop 8).take (k + 1 - 8)) = beN ((l.drop 8).take (k - 8)) * 256 + (l[k]).toNat := by
  rw [show k + 1 - 8 = (k - 8) + 1 by omega, beN_take (by rw [List.length_drop]; omega), List.getElem_drop]
  simp only [show 8 + (k - 8) = k by omega]
theorem beN_hi' (l : List UInt8) {k : Nat} (hk : ¬ k < 8) : beN (l.take (min (k + 1) 8)) = beN (l.take (min k 8)) := by
  rw [Nat.min_eq_right (by omega), Nat.min_eq_right (by omega)]

set_option maxRecDepth 100000 in
set_option maxHeartbeats 4000000 in
theorem rDigest_any (b : Nat) (s : Rd) (w : World) (h : Rb 57 b s w) (hl : s.1.length ≤ maxLen) :
    Calls Try.prog 39 #[.pointer (some ⟨b, 0, none⟩)] w fun e w' => e = .returned (dv (rDig s).1) ∧ Rb 57 b (rDig s).2 w' ∧ Kp b w w' := by
  obtain ⟨l, bad⟩ := s
  have hl' : l.length ≤ 9223372036854775807 := hl
  have hS : (bstr l).size = l.length := rfl
  have hlt_b := h.lt
  obtain ⟨w2, hw2⟩ : ∃ w2, (w.alloc (.cells #[.int .u64 0, .int .u64 0] 25)).alloc (.cells #[.int .u64 0, .int .u64 0] 25) = w2 := ⟨_, rfl⟩
  have hb2 : Below w.heap.size w w2 := by rw [← hw2]; exact ((Below.refl _ _).alloc (Nat.le_refl _) _).alloc (by simp) _
  have H2 := lid (h.below hb2)
  have H := lid h
  have z2 : w2.heap.size = w.heap.size + 2 := by rw [← hw2]; simp
  have E2 : w2.heap[w.heap.size]? = some (.cells #[.int .u64 0, .int .u64 0] 25 (0, 0)) := by rw [← hw2]; exact (Below.heap_alloc _ _ _ (by simp)).trans (heap_alloc_new _ _)
  have D2 : Db (w.heap.size + 1) 0 0 w2 := by rw [← hw2]; unfold Db; have := heap_alloc_new (w.alloc (.cells #[.int .u64 0, .int .u64 0] 25)) (.cells #[.int .u64 0, .int .u64 0] 25); rw [World.size_alloc] at this; exact this
  have HW := lid hw2
  clear hw2 h
  have c0 := H2.out.c0
  have c1 := H2.out.c1
  have f1 := H2.out.fz 1
  rw [← HW.out] at c0 c1 f1
  by_cases h16 : l.length < 16
  · have HV : Hid (rDig (l, bad) = ((0, 0), (l, true))) := lid (by unfold rDig; rw [if_pos h16])
    have t1 : decide ((l.length : Int) < 16) = true := by simp; omega
    clear hl'
    go_enter Try.func39, Try.ntmps39
    go_wp2_with fail
    refine bodyPost_ret (v := dv (0, 0)) (by simp [results, Try.results39, go_sem]) rfl ⟨by rw [HV.out], ?_, ?_⟩
    · rw [HV.out]
      exact ((H.out.set1 true).below (((Below.refl _ _).alloc (Nat.le_refl _) _).alloc (by simp) _))
    · exact ((Kp.refl b w).setCell 1 _).trans (Kp.of_below (by simp; omega) (((Below.refl _ _).alloc (Nat.le_refl _) _).alloc (by simp) _))
  · have HV : Hid (rDig (l, bad) = (digOf l, (l.drop 16, bad))) := lid (by unfold rDig; rw [if_neg h16])
    have t1 : decide ((l.length : Int) < 16) = false := by simp; omega
    go_enter Try.func39, Try.ntmps39
    go_wp2_with fail
    rw [HW.out]
    clear HW c0 c1 f1
    have K2 : Hid (Kp b w w2) := lid (Kp.of_below (by omega) hb2)
    go_loopw [4, 15] (fun _ i wr => ∃ k : Nat, k ≤ 16 ∧ i = .int .i64 k ∧ Hid (Db (w.heap.size + 1) (beN (l.take (min k 8))) (beN ((l.drop 8).take (k - 8))) wr) ∧ Hid (Kp (w.heap.size + 1) w2 wr)) (fun _ i _ => 16 - (intOf i).toNat)
    case atStart => exact ⟨0, by omega, rfl, lid (by simpa [beN] using D2), lid (Kp.refl _ _)⟩
    case round =>
      obtain ⟨k, hk, rfl, HD, HK⟩ := hrel
      have HR : Hid (Rb 57 b (l, bad) wr) := lid ((HK.out.2 b (by omega) (by omega)).trans H2.out)
      have hbl := HR.out.lt
      have c0 := HR.out.c0
      have hDl : w.heap.size + 1 < wr.heap.size := (Array.getElem?_eq_some_iff.1 HD.out).1
      by_cases hlt : k < 16
      · have hkl : k < l.length := by omega
        obtain ⟨c, hc⟩ : ∃ c, l[k] = c := ⟨_, rfl⟩
        obtain ⟨x, hx⟩ : ∃ x, beN (l.take (min k 8)) = x := ⟨_, rfl⟩
        obtain ⟨y, hy⟩ : ∃ x, beN ((l.drop 8).take (k - 8)) = x := ⟨_, rfl⟩
        rw [hx, hy] at HD
        have d0 : wr.cell? ⟨w.heap.size + 1, 0, none⟩ = some (.int .u64 x) := by rw [Lib.cell_of_heap HD.out]; rfl
        have d1 : wr.cell? ⟨w.heap.size + 1, 1, none⟩ = some (.int .u64 y) := by rw [Lib.cell_of_heap HD.out]; rfl
        have e0 : wr.frozen? ⟨w.heap.size + 1, 0, none⟩ = false := Lib.frozen_of_heap HD.out 0
        have e1 : wr.frozen? ⟨w.heap.size + 1, 1, none⟩ = false := Lib.frozen_of_heap HD.out 1
        have hbc : (bstr l)[k]'(by simpa using hkl) = c := by rw [← hc]; rfl
        by_cases h8 : k < 8
        · have k0 : k / 8 = 0 := by omega
          have k0' : (k : Int) / 8 = 0 := by omega
          have HX1 := lid (beN_lo (l := l) h8 hkl)
          have HX2 := lid (beN_lo' l h8)
          have hv : x < 256 ^ 7 := by rw [← hx]; exact beN_lt 7 _ (by rw [List.length_take]; omega)
          have hcw : IntKind.u64.wrap (c.toNat : Int) = (c.toNat : Int) := wraps_u64' _ (by omega) (by have := c.toNat_lt; omega)
          have hxw := shl_wrap hv
          have hob := shl_or hv c.toNat_lt
          rw [hc, hx] at HX1
          rw [hy] at HX2
          clear hv hx hy
          go_wp2_with fail
          refine wp_region_seqL 16 (fun w' => ∃ s : Since wr.heap.size wr, w' = s.world) [(0, true), (1, true), (2, true), (3, true), (4, true), (5, true), (6, true), (7, true), (8, true), (9, true), (10, true), (11, true), (12, true), (13, false), (14, true), (15, true), (16, false)] (by kernel_rfl) (by kernel_rfl) (by intro c d v a w h; cases d <;> exact h) (since (Below.refl _ _).drew) ?_
          repeat (first | (refine seqL_skip (by rfl) (by rfl) (by rfl) ?_; simp only [Act.put, List.setIfInBounds_toArray, List.set_cons_succ, List.set_cons_zero]) | (refine seqL_float (by rfl) (by rfl) (by rfl) (by rfl) ?_; intro K hK; go_big_quiet_op; go_big_quiet_on))
          refine seqL_chain (by rfl) ?_
          intro K hK
          go_wp2_with fail
          go_wp2_with fail
          refine hK.out _ _ (since (Below.refl _ _).drew) ?_
          clear hK K
          repeat (first | (refine seqL_skip (by rfl) (by rfl) (by rfl) ?_; simp only [Act.put, List.setIfInBounds_toArray, List.set_cons_succ, List.set_cons_zero]) | (refine seqL_float (by rfl) (by rfl) (by rfl) (by rfl) ?_; intro K hK; go_big_quiet_op; go_big_quiet_on))
          refine seqL_last (by rfl) (by rfl) ?_
          intro K hK
          go_wp2_with fail
          refine hK.out _ _ ?_
          clear hK K
          go_wp2_with fail
          go_roundw
          case rel => exact ⟨k + 1, by omega, by go_num, lid (by rw [HX1.out, HX2.out]; exact HD.out.set0 _), lid (HK.out.setCell 0 _).drew⟩
          case measure => simp [intOf]; omega
        · have k0 : k / 8 = 1 := by omega
          have k0' : (k : Int) / 8 = 1 := by omega
          have HX1 := lid (beN_hi (l := l) h8 hkl)
          have HX2 := lid (beN_hi' l h8)
          have hv : y < 256 ^ 7 := by rw [← hy]; exact beN_lt 7 _ (by rw [List.length_take]; omega)
          have hcw : IntKind.u64.wrap (c.toNat : Int) = (c.toNat : Int) := wraps_u64' _ (by omega) (by have := c.toNat_lt; omega)
          have hxw := shl_wrap hv
          have hob := shl_or hv c.toNat_lt
          rw [hc, hy] at HX1
          rw [hx] at HX2
          clear hv hx hy
          go_wp2_with fail
          refine wp_region_seqL 16 (fun w' => ∃ s : Since wr.heap.size wr, w' = s.world) [(0, true), (1, true), (2, true), (3, true), (4, true), (5, true), (6, true), (7, true), (8, true), (9, true), (10, true), (11, true), (12, true), (13, false), (14, true), (15, true), (16, false)] (by kernel_rfl) (by kernel_rfl) (by intro c d v a w h; cases d <;> exact h) (since (Below.refl _ _).drew) ?_
          repeat (first | (refine seqL_skip (by rfl) (by rfl) (by rfl) ?_; simp only [Act.put, List.setIfInBounds_toArray, List.set_cons_succ, List.set_cons_zero]) | (refine seqL_float (by rfl) (by rfl) (by rfl) (by rfl) ?_; intro K hK; go_big_quiet_op; go_big_quiet_on))
          refine seqL_chain (by rfl) ?_
          intro K hK
          go_wp2_with fail
          go_wp2_with fail
          refine hK.out _ _ (since (Below.refl _ _).drew) ?_
          clear hK K
          repeat (first | (refine seqL_skip (by rfl) (by rfl) (by rfl) ?_; simp only [Act.put, List.setIfInBounds_toArray, List.set_cons_succ, List.set_cons_zero]) | (refine seqL_float (by rfl) (by rfl) (by rfl) (by rfl) ?_; intro K hK; go_big_quiet_op; go_big_quiet_on))
          refine seqL_last (by rfl) (by rfl) ?_
          intro K hK
          go_wp2_with fail
          refine hK.out _ _ ?_
          clear hK K
          go_wp2_with fail
          go_roundw
          case rel => exact ⟨k + 1, by omega, by go_num, lid (by rw [HX1.out, HX2.out]; exact HD.out.set1 _), lid (HK.out.setCell 1 _).drew⟩
          case measure => simp [intOf]; omega
      · obtain rfl : k = 16 := by omega
        have HD' : Hid (Db (w.heap.size + 1) (digOf l).1.toNat (digOf l).2.toNat wr) := lid (by
          have h1 := beN_lt 8 (l.take 8) (by rw [List.length_take]; omega)
          have h2 := beN_lt 8 ((l.drop 8).take 8) (by rw [List.length_take]; omega)
          have e1 : (digOf l).1.toNat = beN (l.take 8) := by simp only [digOf]; rw [UInt64.toNat_ofNat', Nat.mod_eq_of_lt (by omega)]
          have e2 : (digOf l).2.toNat = beN ((l.drop 8).take 8) := by simp only [digOf]; rw [UInt64.toNat_ofNat', Nat.mod_eq_of_lt (by omega)]
          rw [e1, e2]
          exact HD.out)
        clear HD
        obtain ⟨d, hd⟩ : ∃ d, digOf l = d := ⟨_, rfl⟩
        rw [hd] at HD' HV
        have HB := lid (bstr_drop l 16)
        obtain ⟨w3, hw3⟩ : ∃ w3, wr.setCell ⟨b, 0, none⟩ (.string ((bstr l).extract 16 l.length)) = w3 := ⟨_, rfl⟩
        have hbD : w.heap.size + 1 ≠ b := by omega
        have hbE : w.heap.size ≠ b := by omega
        have D3 : w3.heap[w.heap.size + 1]? = some (.cells (d2cells d.1.toNat d.2.toNat) 25 (0, 0)) := by rw [← hw3]; exact (Below.heap_setCell _ _ _ _ hbD).trans HD'.out
        have E3 : w3.heap[w.heap.size]? = some (.cells #[.int .u64 0, .int .u64 0] 25 (0, 0)) := by rw [← hw3]; exact ((Below.heap_setCell _ _ _ _ hbE).trans (HK.out.2 w.heap.size (by omega) (by omega))).trans E2
        have R3 : Hid (Rb 57 b (l.drop 16, bad) w3) := lid (by rw [← hw3, ← HB.out]; exact HR.out.set0 _)
        have g0 := HR.out.fz 0
        have d0 : w3.cell? ⟨w.heap.size + 1, 0, none⟩ = some (.int .u64 d.1.toNat) := by rw [Lib.cell_of_heap D3]; rfl
        have d1 : w3.cell? ⟨w.heap.size + 1, 1, none⟩ = some (.int .u64 d.2.toNat) := by rw [Lib.cell_of_heap D3]; rfl
        have e0 : w3.cell? ⟨w.heap.size, 0, none⟩ = some (.int .u64 0) := by rw [Lib.cell_of_heap E3]; rfl
        have e1 : w3.cell? ⟨w.heap.size, 1, none⟩ = some (.int .u64 0) := by rw [Lib.cell_of_heap E3]; rfl
        have f0 : w3.frozen? ⟨w.heap.size, 0, none⟩ = false := Lib.frozen_of_heap E3 0
        have f1 : w3.frozen? ⟨w.heap.size, 1, none⟩ = false := Lib.frozen_of_heap E3 1
        have z3 : w.heap.size + 1 < w3.heap.size := (Array.getElem?_eq_some_iff.1 D3).1
        have K3 : Hid (Kp b w w3) := lid (by
          rw [← hw3]
          refine Kp.setCell ⟨?_, fun j hj hb => (HK.out.2 j (by omega) (by omega)).trans (K2.out.2 j hj hb)⟩ 0 _
          exact K2.out.1.trans (HK.out.1.mono (by omega)))
        clear D3 E3 HD' HK hd HB
        go_wp2_with fail
        refine bodyPost_ret (v := dv d) (by
          obtain ⟨z0, z1⟩ := two_set (.int .u64 d.1.toNat) (.int .u64 d.2.toNat) e0 e1
          simp [results, Try.results39, go_sem, z0, z1]) rfl ⟨by rw [HV.out], ?_, ?_⟩
        · rw [HV.out]
          exact ((Below.heap_setCell _ _ _ _ hbE.symm).trans ((Below.heap_setCell _ _ _ _ hbE.symm).trans R3.out))
        · refine ⟨(K3.out.1.setCell (p := ⟨w.heap.size, 0, none⟩) (Nat.le_of_lt hlt_b) _).setCell (p := ⟨w.heap.size, 1, none⟩) (Nat.le_of_lt hlt_b) _, fun j hj hb => ?_⟩
          exact (Below.heap_setCell _ _ _ _ (by simp; omega)).trans ((Below.heap_setCell _ _ _ _ (by simp; omega)).trans (K3.out.2 j hj hb))
end Go.Proofs.Ytmkdcnkbhnegnaa

namespace Go.Proofs.Ytmkdcnkbhnegnaa
open Go.RowKit

theorem mul_wrap {x : Nat} (hx : x < 256 ^ 7) : IntKind.u64.wrap (256 * (x : Int)) = 256 * (x : Int) := wraps_u64' _ (by omega) (by omega)
theorem mul_add_wrap {x c : Nat} (hx : x < 256 ^ 7) (hc : c < 256) : IntKind.u64.wrap ((x : Int) * 256 + (c : Int)) = (x : Int) * 256 + (c : Int) := wraps_u64' _ (by omega) (by omega)
set_option maxRecDepth 100000 in
set_option maxHeartbeats 4000000 in
theorem qDigest_any (b : Nat) (s : Rd) (w : World) (h : Rb 66 b s w) (hl : s.1.length ≤ maxLen) :
    Calls Try.prog 43 #[.pointer (some ⟨b, 0, none⟩)] w fun e w' => e = .returned (dv (qDig s).1) ∧ Rb 66 b (qDig s).2 w' ∧ Kp b w w' := by
  obtain ⟨l, bad⟩ := s
  have hl' : l.length ≤ 9223372036854775807 := hl
  have hS : (bstr l).size = l.length := rfl
  have hlt_b := h.lt
  obtain ⟨w2, hw2⟩ : ∃ w2, (w.alloc (.cells #[.int .u64 0, .int .u64 0] 25)).alloc (.cells #[.int .u64 0, .int .u64 0] 25) = w2 := ⟨_, rfl⟩
  have hb2 : Below w.heap.size w w2 := by rw [← hw2]; exact ((Below.refl _ _).alloc (Nat.le_refl _) _).alloc (by simp) _
  have H2 := lid (h.below hb2)
  have H := lid h
  have z2 : w2.heap.size = w.heap.size + 2 := by rw [← hw2]; simp
  have E2 : w2.heap[w.heap.size]? = some (.cells #[.int .u64 0, .int .u64 0] 25 (0, 0)) := by rw [← hw2]; exact (Below.heap_alloc _ _ _ (by simp)).trans (heap_alloc_new _ _)
  have D2 : Db (w.heap.size + 1) 0 0 w2 := by rw [← hw2]; unfold Db; have := heap_alloc_new (w.alloc (.cells #[.int .u64 0, .int .u64 0] 25)) (.cells #[.int .u64 0, .int .u64 0] 25); rw [World.size_alloc] at this; exact this
  have HW := lid hw2
  clear hw2 h
  have c0 := H2.out.c0
  have c1 := H2.out.c1
  have f1 := H2.out.fz 1
  rw [← HW.out] at c0 c1 f1
  cases bad with
  | true =>
    clear hl'
    have HV : Hid (qDig (l, true) = ((0, 0), (l, true))) := lid (by unfold qDig; rw [if_pos (.inl rfl)])
    go_enter Try.func43, Try.ntmps43
    go_wp2_with fail
    refine bodyPost_ret (v := dv (0, 0)) (by simp [results, Try.results43, go_sem]) rfl ⟨by rw [HV.out], ?_, ?_⟩
    · rw [HV.out]
      exact ((H.out.set1 true).below (((Below.refl _ _).alloc (Nat.le_refl _) _).alloc (by simp) _))
    · exact ((Kp.refl b w).setCell 1 _).trans (Kp.of_below (by simp; omega) (((Below.refl _ _).alloc (Nat.le_refl _) _).alloc (by simp) _))
  | false =>
  by_cases h16 : l.length < 16
  case pos =>
    clear hl'
    have HV : Hid (qDig (l, false) = ((0, 0), (l, true))) := lid (by unfold qDig; rw [if_pos (.inr h16)])
    have t1 : decide ((l.length : Int) < 16) = true := by simp; omega
    go_enter Try.func43, Try.ntmps43
    go_wp2_with fail
    refine bodyPost_ret (v := dv (0, 0)) (by simp [results, Try.results43, go_sem]) rfl ⟨by rw [HV.out], ?_, ?_⟩
    · rw [HV.out]
      exact ((H.out.set1 true).below (((Below.refl _ _).alloc (Nat.le_refl _) _).alloc (by simp) _))
    · exact ((Kp.refl b w).setCell 1 _).trans (Kp.of_below (by simp; omega) (((Below.refl _ _).alloc (Nat.le_refl _) _).alloc (by simp) _))
  case neg =>
    have HV : Hid (qDig (l, false) = (digOf l, (l.drop 16, false))) := lid (by unfold qDig; rw [if_neg (by simp; omega)])
    have t1 : decide ((l.length : Int) < 16) = false := by simp; omega
    go_enter Try.func43, Try.ntmps43
    go_wp2_with fail
    rw [HW.out]
    clear HW c0 c1 f1
    have K2 : Hid (Kp b w w2) := lid (Kp.of_below (by omega) hb2)
    go_loopw [4] (fun i wr => ∃ k : Nat, k ≤ 16 ∧ i = .int .i64 k ∧ Hid (Db (w.heap.size + 1) (beN (l.take (min k 8))) (beN ((l.drop 8).take (k - 8))) wr) ∧ Hid (Kp (w.heap.size + 1) w2 wr)) (fun i _ => 16 - (intOf i).toNat)
    case atStart => exact ⟨0, by omega, rfl, lid (by simpa [beN] using D2), lid (Kp.refl _ _)⟩
    case round =>
      obtain ⟨k, hk, rfl, HD, HK⟩ := hrel
      have HR : Hid (Rb 66 b (l, false) wr) := lid ((HK.out.2 b (by omega) (by omega)).trans H2.out)
      have hbl := HR.out.lt
      have c0 := HR.out.c0
      have hDl : w.heap.size + 1 < wr.heap.size := (Array.getElem?_eq_some_iff.1 HD.out).1
      by_cases hlt : k < 16
      · have hkl : k < l.length := by omega
        obtain ⟨c, hc⟩ : ∃ c, l[k] = c := ⟨_, rfl⟩
        obtain ⟨x, hx⟩ : ∃ x, beN (l.take (min k 8)) = x := ⟨_, rfl⟩
        obtain ⟨y, hy⟩ : ∃ x, beN ((l.drop 8).take (k - 8)) = x := ⟨_, rfl⟩
        rw [hx, hy] at HD
        have d0 : wr.cell? ⟨w.heap.size + 1, 0, none⟩ = some (.int .u64 x) := by rw [Lib.cell_of_heap HD.out]; rfl
        have d1 : wr.cell? ⟨w.heap.size + 1, 1, none⟩ = some (.int .u64 y) := by rw [Lib.cell_of_heap HD.out]; rfl
        have e0 : wr.frozen? ⟨w.heap.size + 1, 0, none⟩ = false := Lib.frozen_of_heap HD.out 0
        have e1 : wr.frozen? ⟨w.heap.size + 1, 1, none⟩ = false := Lib.frozen_of_heap HD.out 1
        have hbc : (bstr l)[k]'(by simpa using hkl) = c := by rw [← hc]; rfl
        by_cases h8 : k < 8
        · have k0 : k / 8 = 0 := by omega
          have k0' : (k : Int) / 8 = 0 := by omega
          have HX1 := lid (beN_lo (l := l) h8 hkl)
          have HX2 := lid (beN_lo' l h8)
          have hv : x < 256 ^ 7 := by rw [← hx]; exact beN_lt 7 _ (by rw [List.length_take]; omega)
          have hcw : IntKind.u64.wrap (c.toNat : Int) = (c.toNat : Int) := wraps_u64' _ (by omega) (by have := c.toNat_lt; omega)
          have hxw := shl_wrap hv
          have hxw' := mul_wrap hv
          have hob := mul_add_wrap hv c.toNat_lt
          rw [hc, hx] at HX1
          rw [hy] at HX2
          clear hv hx hy
          go_wp2_with fail
          refine wp_region_seqL 16 (fun w' => ∃ s : Since wr.heap.size wr, w' = s.world) [(0, true), (1, true), (2, true), (3, true), (4, true), (5, true), (6, true), (7, true), (8, true), (9, true), (10, true), (11, true), (12, true), (13, false), (14, true), (15, true), (16, false)] (by kernel_rfl) (by kernel_rfl) (by intro c d v a w h; cases d <;> exact h) (since (Below.refl _ _).drew) ?_
          repeat (first | (refine seqL_skip (by rfl) (by rfl) (by rfl) ?_; simp only [Act.put, List.setIfInBounds_toArray, List.set_cons_succ, List.set_cons_zero]) | (refine seqL_float (by rfl) (by rfl) (by rfl) (by rfl) ?_; intro K hK; go_big_quiet_op; go_big_quiet_on))
          refine seqL_chain (by rfl) ?_
          intro K hK
          go_wp2_with fail
          go_wp2_with fail
          refine hK.out _ _ (since (Below.refl _ _).drew) ?_
          clear hK K
          repeat (first | (refine seqL_skip (by rfl) (by rfl) (by rfl) ?_; simp only [Act.put, List.setIfInBounds_toArray, List.set_cons_succ, List.set_cons_zero]) | (refine seqL_float (by rfl) (by rfl) (by rfl) (by rfl) ?_; intro K hK; go_big_quiet_op; go_big_quiet_on))
          refine seqL_last (by rfl) (by rfl) ?_
          intro K hK
          go_wp2_with fail
          refine hK.out _ _ ?_
          clear hK K
          go_wp2_with fail
          go_roundw
          case rel => exact ⟨k + 1, by omega, by go_num, lid (by rw [HX1.out, HX2.out]; exact HD.out.set0 _), lid (HK.out.setCell 0 _).drew⟩
          case measure => simp [intOf]; omega
        · have k0 : k / 8 = 1 := by omega
          have k0' : (k : Int) / 8 = 1 := by omega
          have HX1 := lid (beN_hi (l := l) h8 hkl)
          have HX2 := lid (beN_hi' l h8)
          have hv : y < 256 ^ 7 := by rw [← hy]; exact beN_lt 7 _ (by rw [List.length_take]; omega)
          have hcw : IntKind.u64.wrap (c.toNat : Int) = (c.toNat : Int) := wraps_u64' _ (by omega) (by have := c.toNat_lt; omega)
          have hxw := shl_wrap hv
          have hxw' := mul_wrap hv
          have hob := mul_add_wrap hv c.toNat_lt
          rw [hc, hy] at HX1
          rw [hx] at HX2
          clear hv hx hy
          go_wp2_with fail
          refine wp_region_seqL 16 (fun w' => ∃ s : Since wr.heap.size wr, w' = s.world) [(0, true), (1, true), (2, true), (3, true), (4, true), (5, true), (6, true), (7, true), (8, true), (9, true), (10, true), (11, true), (12, true), (13, false), (14, true), (15, true), (16, false)] (by kernel_rfl) (by kernel_rfl) (by intro c d v a w h; cases d <;> exact h) (since (Below.refl _ _).drew) ?_
          repeat (first | (refine seqL_skip (by rfl) (by rfl) (by rfl) ?_; simp only [Act.put, List.setIfInBounds_toArray, List.set_cons_succ, List.set_cons_zero]) | (refine seqL_float (by rfl) (by rfl) (by rfl) (by rfl) ?_; intro K hK; go_big_quiet_op; go_big_quiet_on))
          refine seqL_chain (by rfl) ?_
          intro K hK
          go_wp2_with fail
          go_wp2_with fail
          refine hK.out _ _ (since (Below.refl _ _).drew) ?_
          clear hK K
          repeat (first | (refine seqL_skip (by rfl) (by rfl) (by rfl) ?_; simp only [Act.put, List.setIfInBounds_toArray, List.set_cons_succ, List.set_cons_zero]) | (refine seqL_float (by rfl) (by rfl) (by rfl) (by rfl) ?_; intro K hK; go_big_quiet_op; go_big_quiet_on))
          refine seqL_last (by rfl) (by rfl) ?_
          intro K hK
          go_wp2_with fail
          refine hK.out _ _ ?_
          clear hK K
          go_wp2_with fail
          go_roundw
          case rel => exact ⟨k + 1, by omega, by go_num, lid (by rw [HX1.out, HX2.out]; exact HD.out.set1 _), lid (HK.out.setCell 1 _).drew⟩
          case measure => simp [intOf]; omega
      · obtain rfl : k = 16 := by omega
        have HD' : Hid (Db (w.heap.size + 1) (digOf l).1.toNat (digOf l).2.toNat wr) := lid (by
          have h1 := beN_lt 8 (l.take 8) (by rw [List.length_take]; omega)
          have h2 := beN_lt 8 ((l.drop 8).take 8) (by rw [List.length_take]; omega)
          have e1 : (digOf l).1.toNat = beN (l.take 8) := by simp only [digOf]; rw [UInt64.toNat_ofNat', Nat.mod_eq_of_lt (by omega)]
          have e2 : (digOf l).2.toNat = beN ((l.drop 8).take 8) := by simp only [digOf]; rw [UInt64.toNat_ofNat', Nat.mod_eq_of_lt (by omega)]
          rw [e1, e2]
          exact HD.out)
        clear HD
        obtain ⟨d, hd⟩ : ∃ d, digOf l = d := ⟨_, rfl⟩
        rw [hd] at HD' HV
        have HB := lid (bstr_drop l 16)
        obtain ⟨w3, hw3⟩ : ∃ w3, wr.setCell ⟨b, 0, none⟩ (.string ((bstr l).extract 16 l.length)) = w3 := ⟨_, rfl⟩
        have hbD : w.heap.size + 1 ≠ b := by omega
        have hbE : w.heap.size ≠ b := by omega
        have D3 : w3.heap[w.heap.size + 1]? = some (.cells (d2cells d.1.toNat d.2.toNat) 25 (0, 0)) := by rw [← hw3]; exact (Below.heap_setCell _ _ _ _ hbD).trans HD'.out
        have E3 : w3.heap[w.heap.size]? = some (.cells #[.int .u64 0, .int .u64 0] 25 (0, 0)) := by rw [← hw3]; exact ((Below.heap_setCell _ _ _ _ hbE).trans (HK.out.2 w.heap.size (by omega) (by omega))).trans E2
        have R3 : Hid (Rb 66 b (l.drop 16, false) w3) := lid (by rw [← hw3, ← HB.out]; exact HR.out.set0 _)
        have g0 := HR.out.fz 0
        have d0 : w3.cell? ⟨w.heap.size + 1, 0, none⟩ = some (.int .u64 d.1.toNat) := by rw [Lib.cell_of_heap D3]; rfl
        have d1 : w3.cell? ⟨w.heap.size + 1, 1, none⟩ = some (.int .u64 d.2.toNat) := by rw [Lib.cell_of_heap D3]; rfl
        have e0 : w3.cell? ⟨w.heap.size, 0, none⟩ = some (.int .u64 0) := by rw [Lib.cell_of_heap E3]; rfl
        have e1 : w3.cell? ⟨w.heap.size, 1, none⟩ = some (.int .u64 0) := by rw [Lib.cell_of_heap E3]; rfl
        have f0 : w3.frozen? ⟨w.heap.size, 0, none⟩ = false := Lib.frozen_of_heap E3 0
        have f1 : w3.frozen? ⟨w.heap.size, 1, none⟩ = false := Lib.frozen_of_heap E3 1
        have z3 : w.heap.size + 1 < w3.heap.size := (Array.getElem?_eq_some_iff.1 D3).1
        have K3 : Hid (Kp b w w3) := lid (by
          rw [← hw3]
          refine Kp.setCell ⟨?_, fun j hj hb => (HK.out.2 j (by omega) (by omega)).trans (K2.out.2 j hj hb)⟩ 0 _
          exact K2.out.1.trans (HK.out.1.mono (by omega)))
        clear D3 E3 HD' HK hd HB
        go_wp2_with fail
        refine bodyPost_ret (v := dv d) (by
          obtain ⟨z0, z1⟩ := two_set (.int .u64 d.1.toNat) (.int .u64 d.2.toNat) e0 e1
          simp [results, Try.results43, go_sem, z0, z1]) rfl ⟨by rw [HV.out], ?_, ?_⟩
        · rw [HV.out]
          exact ((Below.heap_setCell _ _ _ _ hbE.symm).trans ((Below.heap_setCell _ _ _ _ hbE.symm).trans R3.out))
        · refine ⟨(K3.out.1.setCell (p := ⟨w.heap.size, 0, none⟩) (Nat.le_of_lt hlt_b) _).setCell (p := ⟨w.heap.size, 1, none⟩) (Nat.le_of_lt hlt_b) _, fun j hj hb => ?_⟩
          exact (Below.heap_setCell _ _ _ _ (by simp; omega)).trans ((Below.heap_setCell _ _ _ _ (by simp; omega)).trans (K3.out.2 j hj hb))
end Go.Proofs.Ytmkdcnkbhnegnaa

namespace Go.Proofs.Ytmkdcnkbhnegnaa
open Go.RowKit

deriving instance DecidableEq for Ob
theorem str_list_eq (a b : ByteArray) : (a.toList = b.toList) = (a = b) := by
  have := str_beq a b
  rw [Bool.eq_iff_iff] at this
  simpa using this
theorem u64_int_eq (a b : UInt64) : ((a.toNat : Int) = (b.toNat : Int)) = (a = b) := by
  apply propext
  rw [← UInt64.toNat_inj]
  omega
abbrev ev (r : Ent) : Value := .agg #[.string r.1, .bool r.2.1, .int .u64 r.2.2.1.toNat, .int .u64 r.2.2.2.toNat]
set_option maxRecDepth 100000 in
theorem quiet_neq_ent {C : World → Prop} {K : Act → Prop} {a : Act} {o : Oper} (r q : Ent) (v : Bool) (x y : Operand) (h : o.op = .binOp .neq 45 x y 45)
    (hx : a.eval x = ev r) (hy : a.eval y = ev q) (hv : (!decide (r = q)) = v) (hk : K (a.put o.dst (.bool v))) : o.quiet Try.prog a C K := by
  refine ⟨.bool v, fun w _ => ?_, hk⟩
  subst hv
  unfold Oper.quietAt execOp
  rw [h]
  simp only [hx, hy]
  simp [go_sem]
  obtain ⟨s1, b1, x1, y1⟩ := r
  obtain ⟨s2, b2, x2, y2⟩ := q
  have ex := u64_int_eq x1 x2
  have ey := u64_int_eq y1 y2
  simp only [Prod.mk.injEq, str_list_eq, ex, ey]
  by_cases h1 : s1 = s2
  · by_cases h2 : b1 = b2
    · by_cases h3 : x1 = x2
      · by_cases h4 : y1 = y2
        · subst h1 h2 h3 h4; simp
        · simp [h1, h2, h3, h4]
      · simp [h1, h2, h3]
    · simp [h1, h2]
  · simp [h1]
set_option maxRecDepth 100000 in
theorem quiet_neq_dg {C : World → Prop} {K : Act → Prop} {a : Act} {o : Oper} (r q : Dg) (v : Bool) (x y : Operand) (h : o.op = .binOp .neq 25 x y 25)
    (hx : a.eval x = dv r) (hy : a.eval y = dv q) (hv : (!decide (r = q)) = v) (hk : K (a.put o.dst (.bool v))) : o.quiet Try.prog a C K := by
  refine ⟨.bool v, fun w _ => ?_, hk⟩
  subst hv
  unfold Oper.quietAt execOp
  rw [h]
  simp only [hx, hy]
  simp [go_sem]
  obtain ⟨x1, y1⟩ := r
  obtain ⟨x2, y2⟩ := q
  have ex := u64_int_eq x1 x2
  have ey := u64_int_eq y1 y2
  simp only [Prod.mk.injEq]
  by_cases h3 : x1 = x2
  · by_cases h4 : y1 = y2
    · subst h3 h4; simp
    · have ny : ¬ (y1.toNat : Int) = (y2.toNat : Int) := by rw [ey]; exact h4
      simp [h3, h4, ny]
  · have nx : ¬ (x1.toNat : Int) = (x2.toNat : Int) := by rw [ex]; exact h3
    simp [h3, nx]

set_option maxRecDepth 100000 in
set_option maxHeartbeats 16000000 in
theorem SameO_any (a : Ob) (ae ap : Option Addr) (ne ce np cp : Nat) (b : Ob) (be bp : Option Addr) (me de mp dp : Nat) (w : World) (h : ObjA w ae ne ap np a) (k : ObjA w be me bp mp b) :
    Calls Try.prog 21 #[.agg (ocells a ae ne ce ap np cp), .agg (ocells b be me de bp mp dp)] w fun e w' => e = .returned (.bool (decide (a = b))) ∧ Below w.heap.size w w' := by
  have hb0 := ba w (Obj.cells (ocells a ae ne ce ap np cp) 28)
  have HO0 := OBox.new w a ae ne ce ap np cp 28
  obtain ⟨W1, hW1⟩ : ∃ W, w.alloc (Obj.cells (ocells a ae ne ce ap np cp) 28) = W := ⟨_, rfl⟩
  rw [hW1] at hb0 HO0
  have hb1 := ba W1 (Obj.cells (ocells b be me de bp mp dp) 28)
  have HO1 := OBox.new W1 b be me de bp mp dp 28
  obtain ⟨W, hW⟩ : ∃ W, W1.alloc (Obj.cells (ocells b be me de bp mp dp) 28) = W := ⟨_, rfl⟩
  rw [hW] at hb1 HO1
  have hw0 := hb0.trans (hb1.mono hb0.size)
  have l4 : W1.heap.size = w.heap.size + 1 := by rw [← hW1]; simp
  rw [l4] at HO1
  have HO := lid (HO0.below hb1)
  have HQ := lid HO1
  have HA := lid (h.below hw0)
  have HB := lid (k.below hw0)
  have HW1 := lid hW1
  have HW := lid hW
  have HNa := lid h.plen
  have HMa := lid h.elen
  have HNb := lid k.plen
  have HMb := lid k.elen
  have n1' : np ≤ 9223372036854775807 := h.pmax
  have n2' : ne ≤ 9223372036854775807 := h.emax
  have n3' : mp ≤ 9223372036854775807 := k.pmax
  have n4' : me ≤ 9223372036854775807 := k.emax
  obtain ⟨l0, c0, c1, c2, c3, c4, c5, c6, c7, c8⟩ := HO.out
  obtain ⟨m0, d0, d1, d2, d3, d4, d5, d6, d7, d8⟩ := HQ.out
  rw [← HW.out, ← HW1.out] at c0 c1 c2 c3 c4 c5 c6 c7 c8 d0 d1 d2 d3 d4 d5 d6 d7 d8
  clear hW hW1 HO0 HO1 h k l4 hb0 hb1
  by_cases qkind : a.kind = b.kind
  case neg =>
    have ukind : (a.kind == b.kind) = false := by simpa using qkind
    have HV : Hid (decide (a = b) = false) := lid (decide_eq_false (fun e => by rw [e] at qkind; exact qkind rfl))
    go_enter Try.func21, Try.ntmps21
    go_wp2_with fail
    rw [HW1.out, HW.out]
    go_ret
    exact ⟨ret_bool' HV.out.symm, hw0⟩
  have ukind : (a.kind == b.kind) = true := by simpa using qkind
  by_cases qdata : a.data = b.data
  case neg =>
    have udata : (a.data.toList == b.data.toList) = false := str_ne qdata
    have HV : Hid (decide (a = b) = false) := lid (decide_eq_false (fun e => by rw [e] at qdata; exact qdata rfl))
    go_enter Try.func21, Try.ntmps21
    go_wp2_with fail
    rw [HW1.out, HW.out]
    go_ret
    exact ⟨ret_bool' HV.out.symm, hw0⟩
  have udata : (a.data.toList == b.data.toList) = true := str_eq qdata
  by_cases qtree : a.tree = b.tree
  case neg =>
    have utree : (((a.tree.1.toNat : Int) == (b.tree.1.toNat : Int)) && ((a.tree.2.toNat : Int) == (b.tree.2.toNat : Int))) = false := (dg_beq _ _).trans (by simpa using qtree)
    have HV : Hid (decide (a = b) = false) := lid (decide_eq_false (fun e => by rw [e] at qtree; exact qtree rfl))
    go_enter Try.func21, Try.ntmps21
    go_wp2_with fail
    rw [HW1.out, HW.out]
    go_ret
    exact ⟨ret_bool' HV.out.symm, hw0⟩
  have utree : (((a.tree.1.toNat : Int) == (b.tree.1.toNat : Int)) && ((a.tree.2.toNat : Int) == (b.tree.2.toNat : Int))) = true := (dg_beq _ _).trans (by simpa using qtree)
  by_cases qauth : a.auth = b.auth
  case neg =>
    have uauth : (a.auth.toList == b.auth.toList) = false := str_ne qauth
    have HV : Hid (decide (a = b) = false) := lid (decide_eq_false (fun e => by rw [e] at qauth; exact qauth rfl))
    go_enter Try.func21, Try.ntmps21
    go_wp2_with fail
    rw [HW1.out, HW.out]
    go_ret
    exact ⟨ret_bool' HV.out.symm, hw0⟩
  have uauth : (a.auth.toList == b.auth.toList) = true := str_eq qauth
  by_cases qtime : a.time = b.time
  case neg =>
    have utime : (a.time == b.time) = false := by simpa using qtime
    have HV : Hid (decide (a = b) = false) := lid (decide_eq_false (fun e => by rw [e] at qtime; exact qtime rfl))
    go_enter Try.func21, Try.ntmps21
    go_wp2_with fail
    rw [HW1.out, HW.out]
    go_ret
    exact ⟨ret_bool' HV.out.symm, hw0⟩
  have utime : (a.time == b.time) = true := by simpa using qtime
  by_cases qmsg : a.msg = b.msg
  case neg =>
    have umsg : (a.msg.toList == b.msg.toList) = false := str_ne qmsg
    have HV : Hid (decide (a = b) = false) := lid (decide_eq_false (fun e => by rw [e] at qmsg; exact qmsg rfl))
    go_enter Try.func21, Try.ntmps21
    go_wp2_with fail
    rw [HW1.out, HW.out]
    go_ret
    exact ⟨ret_bool' HV.out.symm, hw0⟩
  have umsg : (a.msg.toList == b.msg.toList) = true := str_eq qmsg
  by_cases qne : ne = me
  case neg =>
    have une : ((ne : Int) == (me : Int)) = false := by simp; omega
    have une' : (ne == me) = false := by simp; omega
    have HV : Hid (decide (a = b) = false) := lid (decide_eq_false (fun e => by have h1 := HMa.out; have h2 := HMb.out; rw [e] at h1; omega))
    go_enter Try.func21, Try.ntmps21
    go_wp2_with fail
    rw [HW1.out, HW.out]
    go_ret
    exact ⟨ret_bool' HV.out.symm, hw0⟩
  have une : ((ne : Int) == (me : Int)) = true := by simp; omega
  have une' : (ne == me) = true := by simp; omega
  have HEne := lid qne
  clear qne
  by_cases qnp : np = mp
  case neg =>
    have unp : ((np : Int) == (mp : Int)) = false := by simp; omega
    have unp' : (np == mp) = false := by simp; omega
    have HV : Hid (decide (a = b) = false) := lid (decide_eq_false (fun e => by have h1 := HNa.out; have h2 := HNb.out; rw [e] at h1; omega))
    go_enter Try.func21, Try.ntmps21
    go_wp2_with fail
    rotate_left
    exfalso
    have := HEne.out
    omega
    rw [HW1.out, HW.out]
    go_ret
    exact ⟨ret_bool' HV.out.symm, hw0⟩
  have unp : ((np : Int) == (mp : Int)) = true := by simp; omega
  have unp' : (np == mp) = true := by simp; omega
  have HEnp := lid qnp
  clear qnp
  go_enter Try.func21, Try.ntmps21
  go_wp2_with fail
  all_goals try (exfalso; have h1 := HEne.out; have h2 := HEnp.out; omega)
  rw [HW1.out, HW.out]
  have HEQ : Hid (a.kind = b.kind ∧ a.data = b.data ∧ a.tree = b.tree ∧ a.auth = b.auth ∧ a.time = b.time ∧ a.msg = b.msg) := lid ⟨qkind, qdata, qtree, qauth, qtime, qmsg⟩
  clear qkind qdata qtree qauth qtime qmsg
  clear HW HW1 c0 c1 c2 c3 c4 c5 c6 c7 c8 d0 d1 d2 d3 d4 d5 d6 d7 d8 ukind udata utree uauth utime umsg une une' unp unp' l0 m0
  go_loopw [5] (fun i wr => ∃ k : Nat, k ≤ ne ∧ i = .int .i64 k ∧ Hid (a.ents.take k = b.ents.take k) ∧ Below W.heap.size W wr) (fun i _ => ne - (intOf i).toNat)
  case atStart => exact ⟨0, Nat.zero_le _, rfl, lid rfl, Below.refl _ _⟩
  case round =>
    obtain ⟨k, hk, rfl, HT, hb⟩ := hrel
    obtain ⟨l0, c0, c1, c2, c3, c4, c5, c6, c7, c8⟩ := HO.out.below hb
    obtain ⟨m0, d0, d1, d2, d3, d4, d5, d6, d7, d8⟩ := HQ.out.below hb
    clear c0 c1 c3 c4 c6 c7 c8 d0 d1 d3 d4 d6 d7 d8
    by_cases hlt : k < ne
    · have hkl : k < a.ents.length := by rw [HMa.out]; exact hlt
      have hkm : k < b.ents.length := by have := HEne.out; rw [HMb.out]; omega
      have hlt2 : k < me := by have := HEne.out; omega
      obtain ⟨b1, o1, rfl, hlb, hcell⟩ := (HA.out.es.below hb).at_ hlt
      obtain ⟨b2, o2, rfl, hlb2, hcell2⟩ := (HB.out.es.below hb).at_ hlt2
      have x0 := hcell (k * 4 + 0) _ (ecells_at hkl).1
      have x1 := hcell (k * 4 + 1) _ (ecells_at hkl).2.1
      have x2 := hcell (k * 4 + 2) _ (ecells_at hkl).2.2.1
      have x3 := hcell (k * 4 + 3) _ (ecells_at hkl).2.2.2
      have y0 := hcell2 (k * 4 + 0) _ (ecells_at hkm).1
      have y1 := hcell2 (k * 4 + 1) _ (ecells_at hkm).2.1
      have y2 := hcell2 (k * 4 + 2) _ (ecells_at hkm).2.2.1
      have y3 := hcell2 (k * 4 + 3) _ (ecells_at hkm).2.2.2
      rw [← Nat.add_assoc] at x1 x2 x3 y1 y2 y3
      rw [Nat.add_zero] at x0 y0
      have dk : decide ((k : Int) < (ne : Int)) = true := by simp; omega
      have HT1 := lid (List.take_succ_eq_append_getElem hkl)
      have HT2 := lid (List.take_succ_eq_append_getElem hkm)
      have HG : Hid (∀ (he : a = b), a.ents[k] = b.ents[k]) := lid (fun he => by subst he; rfl)
      clear hcell hcell2
      obtain ⟨r, hr⟩ : ∃ r, a.ents[k] = r := ⟨_, rfl⟩
      obtain ⟨s, hs⟩ : ∃ s, b.ents[k] = s := ⟨_, rfl⟩
      rw [hr] at x0 x1 x2 x3 HT1 HG
      rw [hs] at y0 y1 y2 y3 HT2 HG
      clear hr hs
      by_cases hrs : r = s
      · have HE : Hid ((!decide (r = s)) = false) := lid (by simp [hrs])
        have HRS := lid hrs
        clear hrs
        go_wp2_with fail
        refine wp_region_seq (fun w' => ∃ s : Since wr.heap.size wr, w' = s.world) [(0, true), (1, true), (2, true), (3, true), (4, true), (5, true), (6, true), (7, true), (8, true), (9, true), (10, true)] (by kernel_rfl) (by kernel_rfl) (by intro c d v a w h; cases d <;> exact h) (since (Below.refl _ _).drew) ?_
        iterate 10 (first | (refine seq_skip (by rfl) (by rfl) ?_; simp only [Act.put, List.setIfInBounds_toArray, List.set_cons_succ, List.set_cons_zero]) | (refine seq_float (by rfl) (by rfl) (by rfl) ?_; intro K hK; go_big_quiet_op; go_big_quiet_on))
        refine seq_float (by rfl) (by rfl) (by rfl) ?_; intro K hK
        refine quiet_neq_ent r s false _ _ rfl rfl rfl HE.out ?_
        simp only [Act.put, List.setIfInBounds_toArray, List.set_cons_succ, List.set_cons_zero]
        go_big_quiet_on
        refine seq_nil ?_
        go_wp2_with fail
        go_roundw
        case rel => exact ⟨k + 1, by omega, by go_num, lid (by rw [HT1.out, HT2.out, HT.out, HRS.out]), hb.drew⟩
        case measure => simp [intOf]; omega
      · have HE : Hid ((!decide (r = s)) = true) := lid (by simp [hrs])
        have HV : Hid (decide (a = b) = false) := lid (decide_eq_false (fun e => hrs (HG.out e)))
        clear hrs
        go_wp2_with fail
        refine wp_region_seq (fun w' => ∃ s : Since wr.heap.size wr, w' = s.world) [(0, true), (1, true), (2, true), (3, true), (4, true), (5, true), (6, true), (7, true), (8, true), (9, true), (10, true)] (by kernel_rfl) (by kernel_rfl) (by intro c d v a w h; cases d <;> exact h) (since (Below.refl _ _).drew) ?_
        iterate 10 (first | (refine seq_skip (by rfl) (by rfl) ?_; simp only [Act.put, List.setIfInBounds_toArray, List.set_cons_succ, List.set_cons_zero]) | (refine seq_float (by rfl) (by rfl) (by rfl) ?_; intro K hK; go_big_quiet_op; go_big_quiet_on))
        refine seq_float (by rfl) (by rfl) (by rfl) ?_; intro K hK
        refine quiet_neq_ent r s true _ _ rfl rfl rfl HE.out ?_
        simp only [Act.put, List.setIfInBounds_toArray, List.set_cons_succ, List.set_cons_zero]
        go_big_quiet_on
        refine seq_nil ?_
        go_wp2_with fail
        go_ret
        exact ⟨ret_bool' HV.out.symm, hw0.trans ((hb.drew).mono hw0.size)⟩
    · obtain rfl : k = ne := by omega
      have HTE : Hid (a.ents = b.ents) := lid (by have := HT.out; rwa [List.take_of_length_le (by rw [HMa.out]; exact Nat.le_refl _), List.take_of_length_le (by have := HEne.out; rw [HMb.out]; omega)] at this)
      clear HT
      have HOr := lid (HO.out.below hb)
      have HQr := lid (HQ.out.below hb)
      have HAr := lid (HA.out.below hb)
      have HBr := lid (HB.out.below hb)
      have hwr := hw0.trans (hb.mono hw0.size)
      clear HO HQ HA HB hw0 hb
      go_wp2_with fail
      clear c2 c5 d2 d5 l0 m0
      obtain ⟨V, rfl⟩ : ∃ V, V = wr := ⟨_, rfl⟩
      go_loopw [6] (fun i wr => ∃ k : Nat, k ≤ np ∧ i = .int .i64 k ∧ Hid (a.pars.take k = b.pars.take k) ∧ Below V.heap.size V wr) (fun i _ => np - (intOf i).toNat)
      case atStart => exact ⟨0, Nat.zero_le _, rfl, lid rfl, Below.refl _ _⟩
      case round =>
        clear hk hlt
        obtain ⟨k, hk, rfl, HT, hb⟩ := hrel
        obtain ⟨l0, c0, c1, c2, c3, c4, c5, c6, c7, c8⟩ := HOr.out.below hb
        obtain ⟨m0, d0, d1, d2, d3, d4, d5, d6, d7, d8⟩ := HQr.out.below hb
        clear c0 c1 c2 c3 c4 c6 c7 c8 d0 d1 d2 d3 d4 d6 d7 d8
        by_cases hlt : k < np
        · have hkl : k < a.pars.length := by rw [HNa.out]; exact hlt
          have hkm : k < b.pars.length := by have := HEnp.out; rw [HNb.out]; omega
          rcases HAr.out.ps.below hb with h | ⟨b1, o1, rfl, hlb, hcell⟩
          · exfalso; omega
          rcases HBr.out.ps.below hb with h | ⟨b2, o2, rfl, hlb2, hcell2⟩
          · exfalso; omega
          have hlt2 : k < mp := by have := HEnp.out; omega
          obtain ⟨x0, x1⟩ := hcell.at hkl
          obtain ⟨y0, y1⟩ := hcell2.at hkm
          have dk : decide ((k : Int) < (np : Int)) = true := by simp; omega
          have HT1 := lid (List.take_succ_eq_append_getElem hkl)
          have HT2 := lid (List.take_succ_eq_append_getElem hkm)
          have HG : Hid (∀ (he : a = b), a.pars[k] = b.pars[k]) := lid (fun he => by subst he; rfl)
          clear hcell hcell2
          obtain ⟨r, hr⟩ : ∃ r, a.pars[k] = r := ⟨_, rfl⟩
          obtain ⟨s, hs⟩ : ∃ s, b.pars[k] = s := ⟨_, rfl⟩
          rw [hr] at x0 x1 HT1 HG
          rw [hs] at y0 y1 HT2 HG
          clear hr hs
          by_cases hrs : r = s
          · have HE : Hid ((!decide (r = s)) = false) := lid (by simp [hrs])
            have HRS := lid hrs
            clear hrs
            go_wp2_with fail
            refine wp_region_seq (fun w' => ∃ s : Since wr.heap.size wr, w' = s.world) [(0, true), (1, true), (2, true), (3, true), (4, true), (5, true), (6, true), (7, true), (8, true), (9, true), (10, true)] (by kernel_rfl) (by kernel_rfl) (by intro c d v a w h; cases d <;> exact h) (since (Below.refl _ _).drew) ?_
            iterate 10 (first | (refine seq_skip (by rfl) (by rfl) ?_; simp only [Act.put, List.setIfInBounds_toArray, List.set_cons_succ, List.set_cons_zero]) | (refine seq_float (by rfl) (by rfl) (by rfl) ?_; intro K hK; go_big_quiet_op; go_big_quiet_on))
            refine seq_float (by rfl) (by rfl) (by rfl) ?_; intro K hK
            refine quiet_neq_dg r s false _ _ rfl rfl rfl HE.out ?_
            simp only [Act.put, List.setIfInBounds_toArray, List.set_cons_succ, List.set_cons_zero]
            go_big_quiet_on
            refine seq_nil ?_
            go_wp2_with fail
            go_roundw
            case rel => exact ⟨k + 1, by omega, by go_num, lid (by rw [HT1.out, HT2.out, HT.out, HRS.out]), hb.drew⟩
            case measure => simp [intOf]; omega
          · have HE : Hid ((!decide (r = s)) = true) := lid (by simp [hrs])
            have HV : Hid (decide (a = b) = false) := lid (decide_eq_false (fun e => hrs (HG.out e)))
            clear hrs
            go_wp2_with fail
            refine wp_region_seq (fun w' => ∃ s : Since wr.heap.size wr, w' = s.world) [(0, true), (1, true), (2, true), (3, true), (4, true), (5, true), (6, true), (7, true), (8, true), (9, true), (10, true)] (by kernel_rfl) (by kernel_rfl) (by intro c d v a w h; cases d <;> exact h) (since (Below.refl _ _).drew) ?_
            iterate 10 (first | (refine seq_skip (by rfl) (by rfl) ?_; simp only [Act.put, List.setIfInBounds_toArray, List.set_cons_succ, List.set_cons_zero]) | (refine seq_float (by rfl) (by rfl) (by rfl) ?_; intro K hK; go_big_quiet_op; go_big_quiet_on))
            refine seq_float (by rfl) (by rfl) (by rfl) ?_; intro K hK
            refine quiet_neq_dg r s true _ _ rfl rfl rfl HE.out ?_
            simp only [Act.put, List.setIfInBounds_toArray, List.set_cons_succ, List.set_cons_zero]
            go_big_quiet_on
            refine seq_nil ?_
            go_wp2_with fail
            go_ret
            exact ⟨ret_bool' HV.out.symm, hwr.trans ((hb.drew).mono hwr.size)⟩
        · obtain rfl : k = np := by omega
          have HV : Hid (decide (a = b) = true) := lid (decide_eq_true (by
            have hp := HT.out
            rw [List.take_of_length_le (by rw [HNa.out]; exact Nat.le_refl _), List.take_of_length_le (by have := HEnp.out; rw [HNb.out]; omega)] at hp
            obtain ⟨q1, q2, q3, q4, q5, q6⟩ := HEQ.out
            have q7 := HTE.out
            obtain ⟨a1, a2, a3, a4, a5, a6, a7, a8⟩ := a
            obtain ⟨b1, b2, b3, b4, b5, b6, b7, b8⟩ := b
            simp only at q1 q2 q3 q4 q5 q6 q7 hp
            subst q1 q2 q3 q4 q5 q6 q7 hp
            rfl))
          go_wp2_with fail
          go_ret
          exact ⟨ret_bool' HV.out.symm, hwr.trans (hb.mono hwr.size)⟩
end Go.Proofs.Ytmkdcnkbhnegnaa

namespace Go.Proofs.Ytmkdcnkbhnegnaa
open Go.RowKit

/-- Four cells of an entry in block k. -/
def Eb (k : Nat) (a : ByteArray) (q : Bool) (x y : Nat) (w : World) : Prop := w.heap[k]? = some (.cells #[.string a, .bool q, .int .u64 x, .int .u64 y] 45 (0, 0))
section
variable {k : Nat} {a : ByteArray} {q : Bool} {x y : Nat} {w w' : World}
theorem Eb.kp {b : Nat} (h : Eb k a q x y w) (hk : Kp b w w') (hb : k ≠ b) : Eb k a q x y w' := (hk.2 k (Array.getElem?_eq_some_iff.1 h).1 hb).trans h
theorem Eb.lt (h : Eb k a q x y w) : k < w.heap.size := (Array.getElem?_eq_some_iff.1 h).1
theorem Eb.c0 (h : Eb k a q x y w) : w.cell? ⟨k, 0, none⟩ = some (.string a) := by rw [Lib.cell_of_heap h]; rfl
theorem Eb.c1 (h : Eb k a q x y w) : w.cell? ⟨k, 1, none⟩ = some (.bool q) := by rw [Lib.cell_of_heap h]; rfl
theorem Eb.c2 (h : Eb k a q x y w) : w.cell? ⟨k, 2, none⟩ = some (.int .u64 x) := by rw [Lib.cell_of_heap h]; rfl
theorem Eb.c3 (h : Eb k a q x y w) : w.cell? ⟨k, 3, none⟩ = some (.int .u64 y) := by rw [Lib.cell_of_heap h]; rfl
theorem Eb.fz (h : Eb k a q x y w) (o : Nat) : w.frozen? ⟨k, o, none⟩ = false := Lib.frozen_of_heap h o
theorem Eb.set0 (h : Eb k a q x y w) (v : ByteArray) : Eb k v q x y (w.setCell ⟨k, 0, none⟩ (.string v)) := heap_setCell_same w k 0 _ _ _ h
theorem Eb.set1 (h : Eb k a q x y w) (v : Bool) : Eb k a v x y (w.setCell ⟨k, 1, none⟩ (.bool v)) := heap_setCell_same w k 1 _ _ _ h
theorem Eb.set2 (h : Eb k a q x y w) (v : Nat) : Eb k a q v y (w.setCell ⟨k, 2, none⟩ (.int .u64 v)) := heap_setCell_same w k 2 _ _ _ h
theorem Eb.set3 (h : Eb k a q x y w) (v : Nat) : Eb k a q x v (w.setCell ⟨k, 3, none⟩ (.int .u64 v)) := heap_setCell_same w k 3 _ _ _ h
theorem Eb.other {j o : Nat} {u : Value} (h : Eb k a q x y w) (hj : k ≠ j) : Eb k a q x y (w.setCell ⟨j, o, none⟩ u) := (Below.heap_setCell _ _ _ _ hj).trans h
theorem Eb.new (w : World) (a : ByteArray) (q : Bool) (x y : Nat) : Eb w.heap.size a q x y (w.alloc (.cells #[.string a, .bool q, .int .u64 x, .int .u64 y] 45)) := heap_alloc_new _ _
theorem Rb.other {t : TypeId} {b j o : Nat} {s : Rd} {u : Value} (h : Rb t b s w) (hj : b ≠ j) : Rb t b s (w.setCell ⟨j, o, none⟩ u) := (Below.heap_setCell _ _ _ _ hj).trans h
/-- A store into a block that is younger. -/
theorem Kp.young {b j o : Nat} {u : Value} (h : Kp b w w') (hj : w.heap.size ≤ j) (hb : b ≤ w.heap.size) : Kp b w (w'.setCell ⟨j, o, none⟩ u) :=
  ⟨h.1.setCell (p := ⟨j, o, none⟩) (Nat.le_trans hb hj) _, fun i hi hib => (Below.heap_setCell _ _ _ _ (by simp; omega)).trans (h.2 i hi hib)⟩
end
theorem rStr_len {s : Rd} : (rStr s).2.1.length ≤ s.1.length := by unfold rStr; simp only [List.length_drop]; omega
theorem rNum_len {s : Rd} : (rNum s).2.1.length ≤ s.1.length := by unfold rNum; simp only [List.length_drop]; omega
theorem rDig_len {s : Rd} : (rDig s).2.1.length ≤ s.1.length := by
  unfold rDig
  split
  · exact Nat.le_refl _
  · simp only [List.length_drop]; omega

set_option maxRecDepth 100000 in
set_option maxHeartbeats 8000000 in
theorem rEntry_any (b : Nat) (s : Rd) (w : World) (h : Rb 57 b s w) (hl : s.1.length ≤ maxLen) :
    Calls Try.prog 38 #[.pointer (some ⟨b, 0, none⟩)] w fun e w' => e = .returned (ev (rEnt s).1) ∧ Rb 57 b (rEnt s).2 w' ∧ Kp b w w' := by
  have HL0 := lid hl
  have hlt := h.lt
  have hbw : b ≤ w.heap.size := Nat.le_of_lt hlt
  obtain ⟨w0, hw0⟩ : ∃ w0, w.alloc (.cells #[.string ⟨#[]⟩, .bool false, .int .u64 0, .int .u64 0] 45) = w0 := ⟨_, rfl⟩
  have hb0 : Below w.heap.size w w0 := by rw [← hw0]; exact ba _ _
  have R0 := lid (h.below hb0)
  have E0 := lid (show Eb w.heap.size ⟨#[]⟩ false 0 0 w0 by rw [← hw0]; exact Eb.new _ _ _ _ _)
  have K0 := lid (Kp.of_below hbw hb0)
  have z0 : w0.heap.size = w.heap.size + 1 := by rw [← hw0]; simp
  have HW := lid hw0
  have C1 := lid (rString_any b s w0 R0.out hl)
  have HE : Hid (rEnt s = rEnt3 (rStr s).1 (rNum (rStr s).2)) := lid rfl
  have L1 := lid (Nat.le_trans (rStr_len (s := s)) hl)
  clear hw0 h hl hb0
  obtain ⟨r1, hr1⟩ : ∃ r, rStr s = r := ⟨_, rfl⟩
  rw [hr1] at C1 HE L1
  obtain ⟨a, s1⟩ := r1
  have C2 := lid (fun w (h : Rb 57 b s1 w) => rNumber_any b s1 w h L1.out)
  have L2 := lid (Nat.le_trans (rNum_len (s := s1)) L1.out)
  simp only at HE
  obtain ⟨r2, hr2⟩ : ∃ r, rNum s1 = r := ⟨_, rfl⟩
  rw [hr2] at C2 HE L2
  obtain ⟨d, l2, bad⟩ := r2
  clear hr1 hr2
  go_enter Try.func38, Try.ntmps38
  go_wp2_with fail
  rw [HW.out]
  clear HW
  (with_reducible refine (C1.out).mono ?_); rintro e w1 ⟨rfl, hR1, hK1⟩
  have E1 := lid (E0.out.kp hK1 (by omega))
  have K1 := lid (K0.out.trans hK1)
  have z1 : w.heap.size < w1.heap.size := by have := hK1.size; omega
  have R1 := lid hR1
  have hb1 := hR1.lt
  clear C1 hR1 hK1 E0 K0 R0
  obtain ⟨w2, hw2⟩ : ∃ w2, w1.alloc (.cells #[.string (bstr a), .bool false, .int .u64 0, .int .u64 0] 45) = w2 := ⟨_, rfl⟩
  have hb2 : Below w1.heap.size w1 w2 := by rw [← hw2]; exact ba _ _
  have z2 : w2.heap.size = w1.heap.size + 1 := by rw [← hw2]; simp
  have G2 := lid (show Eb w1.heap.size (bstr a) false 0 0 w2 by rw [← hw2]; exact Eb.new _ _ _ _ _)
  have R2 := lid (R1.out.below hb2)
  have E2 := lid (E1.out.kp (Kp.of_below (Nat.le_of_lt hb1) hb2) (by omega))
  have K2 := lid (K1.out.trans (Kp.of_below (Nat.le_of_lt hb1) hb2))
  obtain ⟨g, hg⟩ : ∃ g, w1.heap.size = g := ⟨_, rfl⟩
  rw [hg] at G2 z1 hb1
  have HW2 := lid hw2
  have HG := lid hg
  clear hb2 R1 E1 K1 hw2 hg
  go_wp2_with fail
  rw [HW2.out, HG.out]
  clear HW2 HG
  (with_reducible refine (C2.out _ R2.out).mono ?_); rintro e w3 ⟨rfl, hR3, hK3⟩
  have E3 := lid (E2.out.kp hK3 (by omega))
  have G3 := lid (G2.out.kp hK3 (by omega))
  have K3 := lid (K2.out.trans hK3)
  have R3 := lid hR3
  clear C2 hR3 hK3 E2 G2 K2 R2 z2
  cases bad with
  | true =>
    have c1 := R3.out.c1
    have f1 := R3.out.fz 1
    have hlb := R3.out.lt
    replace HE : Hid (rEnt s = ((bstr a, decide (d = 1), (rDig (l2, true)).1), (rDig (l2, true)).2)) := lid (by rw [HE.out]; unfold rEnt3; simp only [Bool.true_or])
    have hq : ((d : Int) == 1) = decide (d = 1) := by rw [Bool.eq_iff_iff]; simp; omega
    obtain ⟨q, hqq⟩ : ∃ q, decide (d = 1) = q := ⟨_, rfl⟩
    rw [hqq] at hq HE
    obtain ⟨w4, hw4⟩ : ∃ w4, w3.setCell ⟨b, 1, none⟩ (.bool true) = w4 := ⟨_, rfl⟩
    have R4 := lid (show Rb 57 b (l2, true) w4 by rw [← hw4]; exact R3.out.set1 true)
    have E4 := lid (show Eb w.heap.size ⟨#[]⟩ false 0 0 w4 by rw [← hw4]; exact E3.out.other (by omega))
    have G4 := lid (show Eb g (bstr a) false 0 0 w4 by rw [← hw4]; exact G3.out.other (by omega))
    have K4 : Hid (Kp b w w4) := lid (by rw [← hw4]; exact K3.out.setCell 1 _)
    have g1 := G4.out.c1
    have gf1 := G4.out.fz 1
    obtain ⟨w5, hw5⟩ : ∃ w5, w4.setCell ⟨g, 1, none⟩ (.bool q) = w5 := ⟨_, rfl⟩
    have R5 := lid (show Rb 57 b (l2, true) w5 by rw [← hw5]; exact R4.out.other (by omega))
    have E5 := lid (show Eb w.heap.size ⟨#[]⟩ false 0 0 w5 by rw [← hw5]; exact E4.out.other (by omega))
    have G5 := lid (show Eb g (bstr a) q 0 0 w5 by rw [← hw5]; exact G4.out.set1 q)
    have K5 : Hid (Kp b w w5) := lid (by rw [← hw5]; exact K4.out.young (Nat.le_of_lt z1) hbw)
    have hlg := G4.out.lt
    clear R3 E3 G3 K3 R4 E4 G4 K4 hqq
    go_wp2_with fail
    clear hw4 hw5 c1 f1 g1 gf1 hq hlg hlb
    (with_reducible refine (rDigest_any b (l2, true) w5 R5.out L2.out).mono ?_); rintro e w6 ⟨rfl, hR6, hK6⟩
    have E6 := lid (E5.out.kp hK6 (by omega))
    have G6 := lid (G5.out.kp hK6 (by omega))
    have K6 := lid (K5.out.trans hK6)
    have R6 := lid hR6
    clear hR6 hK6 E5 G5 K5 R5
    obtain ⟨r3, hr3⟩ : ∃ r, rDig (l2, true) = r := ⟨_, rfl⟩
    rw [hr3] at HE R6 ⊢
    obtain ⟨dg, s3⟩ := r3
    simp only at HE R6 ⊢
    clear hr3
    have g2 := G6.out.c2
    have g3 := G6.out.c3
    have gf2 := G6.out.fz 2
    have gf3 := G6.out.fz 3
    obtain ⟨w7, hw7⟩ : ∃ w7, (w6.setCell ⟨g, 2, none⟩ (.int .u64 dg.1.toNat)).setCell ⟨g, 3, none⟩ (.int .u64 dg.2.toNat) = w7 := ⟨_, rfl⟩
    have R7 := lid (show Rb 57 b s3 w7 by rw [← hw7]; exact (R6.out.other (by omega)).other (by omega))
    have E7 := lid (show Eb w.heap.size ⟨#[]⟩ false 0 0 w7 by rw [← hw7]; exact (E6.out.other (by omega)).other (by omega))
    have G7 := lid (show Eb g (bstr a) q dg.1.toNat dg.2.toNat w7 by rw [← hw7]; exact (G6.out.set2 _).set3 _)
    have K7 : Hid (Kp b w w7) := lid (by rw [← hw7]; exact (K6.out.young (Nat.le_of_lt z1) hbw).young (Nat.le_of_lt z1) hbw)
    have m0 := G7.out.c0
    have m1 := G7.out.c1
    have m2 := G7.out.c2
    have m3 := G7.out.c3
    have n0 := E7.out.c0
    have n1 := E7.out.c1
    have n2 := E7.out.c2
    have n3 := E7.out.c3
    have p0 := E7.out.fz 0
    have p1 := E7.out.fz 1
    have p2 := E7.out.fz 2
    have p3 := E7.out.fz 3
    have hlg := G7.out.lt
    have hlg6 := G6.out.lt
    clear R6 E6 G6 K6
    go_wp2_with fail
    have X : Eb w.heap.size (bstr a) q dg.1.toNat dg.2.toNat ((((w7.setCell ⟨w.heap.size, 0, none⟩ (.string (bstr a))).setCell ⟨w.heap.size, 1, none⟩ (.bool q)).setCell ⟨w.heap.size, 2, none⟩ (.int .u64 dg.1.toNat)).setCell ⟨w.heap.size, 3, none⟩ (.int .u64 dg.2.toNat)) := (((E7.out.set0 _).set1 _).set2 _).set3 _
    have x0 := X.c0
    have x1 := X.c1
    have x2 := X.c2
    have x3 := X.c3
    refine bodyPost_ret (v := ev (bstr a, q, dg)) (by simp [results, Try.results38, go_sem, x0, x1, x2, x3]) rfl ⟨by rw [HE.out], ?_, ?_⟩
    · rw [HE.out]
      exact (((R7.out.other (by omega)).other (by omega)).other (by omega)).other (by omega)
    · exact (((K7.out.young (Nat.le_refl _) hbw).young (Nat.le_refl _) hbw).young (Nat.le_refl _) hbw).young (Nat.le_refl _) hbw
  | false =>
    have c1 := R3.out.c1
    have f1 := R3.out.fz 1
    have hlb := R3.out.lt
    have hv : decide ((1 : Int) < (d : Int)) = decide (1 < d) := by rw [Bool.eq_iff_iff]; simp; omega
    obtain ⟨v, hvv⟩ : ∃ v, decide (1 < d) = v := ⟨_, rfl⟩
    rw [hvv] at hv
    replace HE : Hid (rEnt s = ((bstr a, decide (d = 1), (rDig (l2, v)).1), (rDig (l2, v)).2)) := lid (by rw [HE.out]; unfold rEnt3; simp only [Bool.false_or, hvv])
    clear hvv
    have hq : ((d : Int) == 1) = decide (d = 1) := by rw [Bool.eq_iff_iff]; simp; omega
    obtain ⟨q, hqq⟩ : ∃ q, decide (d = 1) = q := ⟨_, rfl⟩
    rw [hqq] at hq HE
    obtain ⟨w4, hw4⟩ : ∃ w4, w3.setCell ⟨b, 1, none⟩ (.bool v) = w4 := ⟨_, rfl⟩
    have R4 := lid (show Rb 57 b (l2, v) w4 by rw [← hw4]; exact R3.out.set1 v)
    have E4 := lid (show Eb w.heap.size ⟨#[]⟩ false 0 0 w4 by rw [← hw4]; exact E3.out.other (by omega))
    have G4 := lid (show Eb g (bstr a) false 0 0 w4 by rw [← hw4]; exact G3.out.other (by omega))
    have K4 : Hid (Kp b w w4) := lid (by rw [← hw4]; exact K3.out.setCell 1 _)
    have g1 := G4.out.c1
    have gf1 := G4.out.fz 1
    obtain ⟨w5, hw5⟩ : ∃ w5, w4.setCell ⟨g, 1, none⟩ (.bool q) = w5 := ⟨_, rfl⟩
    have R5 := lid (show Rb 57 b (l2, v) w5 by rw [← hw5]; exact R4.out.other (by omega))
    have E5 := lid (show Eb w.heap.size ⟨#[]⟩ false 0 0 w5 by rw [← hw5]; exact E4.out.other (by omega))
    have G5 := lid (show Eb g (bstr a) q 0 0 w5 by rw [← hw5]; exact G4.out.set1 q)
    have K5 : Hid (Kp b w w5) := lid (by rw [← hw5]; exact K4.out.young (Nat.le_of_lt z1) hbw)
    have hlg := G4.out.lt
    clear R3 E3 G3 K3 R4 E4 G4 K4 hqq
    go_wp2_with fail
    clear hw4 hw5 c1 f1 g1 gf1 hq hlg hlb
    (with_reducible refine (rDigest_any b (l2, v) w5 R5.out L2.out).mono ?_); rintro e w6 ⟨rfl, hR6, hK6⟩
    have E6 := lid (E5.out.kp hK6 (by omega))
    have G6 := lid (G5.out.kp hK6 (by omega))
    have K6 := lid (K5.out.trans hK6)
    have R6 := lid hR6
    clear hR6 hK6 E5 G5 K5 R5
    obtain ⟨r3, hr3⟩ : ∃ r, rDig (l2, v) = r := ⟨_, rfl⟩
    rw [hr3] at HE R6 ⊢
    obtain ⟨dg, s3⟩ := r3
    simp only at HE R6 ⊢
    clear hr3
    have g2 := G6.out.c2
    have g3 := G6.out.c3
    have gf2 := G6.out.fz 2
    have gf3 := G6.out.fz 3
    obtain ⟨w7, hw7⟩ : ∃ w7, (w6.setCell ⟨g, 2, none⟩ (.int .u64 dg.1.toNat)).setCell ⟨g, 3, none⟩ (.int .u64 dg.2.toNat) = w7 := ⟨_, rfl⟩
    have R7 := lid (show Rb 57 b s3 w7 by rw [← hw7]; exact (R6.out.other (by omega)).other (by omega))
    have E7 := lid (show Eb w.heap.size ⟨#[]⟩ false 0 0 w7 by rw [← hw7]; exact (E6.out.other (by omega)).other (by omega))
    have G7 := lid (show Eb g (bstr a) q dg.1.toNat dg.2.toNat w7 by rw [← hw7]; exact (G6.out.set2 _).set3 _)
    have K7 : Hid (Kp b w w7) := lid (by rw [← hw7]; exact (K6.out.young (Nat.le_of_lt z1) hbw).young (Nat.le_of_lt z1) hbw)
    have m0 := G7.out.c0
    have m1 := G7.out.c1
    have m2 := G7.out.c2
    have m3 := G7.out.c3
    have n0 := E7.out.c0
    have n1 := E7.out.c1
    have n2 := E7.out.c2
    have n3 := E7.out.c3
    have p0 := E7.out.fz 0
    have p1 := E7.out.fz 1
    have p2 := E7.out.fz 2
    have p3 := E7.out.fz 3
    have hlg := G7.out.lt
    have hlg6 := G6.out.lt
    clear R6 E6 G6 K6
    go_wp2_with fail
    have X : Eb w.heap.size (bstr a) q dg.1.toNat dg.2.toNat ((((w7.setCell ⟨w.heap.size, 0, none⟩ (.string (bstr a))).setCell ⟨w.heap.size, 1, none⟩ (.bool q)).setCell ⟨w.heap.size, 2, none⟩ (.int .u64 dg.1.toNat)).setCell ⟨w.heap.size, 3, none⟩ (.int .u64 dg.2.toNat)) := (((E7.out.set0 _).set1 _).set2 _).set3 _
    have x0 := X.c0
    have x1 := X.c1
    have x2 := X.c2
    have x3 := X.c3
    refine bodyPost_ret (v := ev (bstr a, q, dg)) (by simp [results, Try.results38, go_sem, x0, x1, x2, x3]) rfl ⟨by rw [HE.out], ?_, ?_⟩
    · rw [HE.out]
      exact (((R7.out.other (by omega)).other (by omega)).other (by omega)).other (by omega)
    · exact (((K7.out.young (Nat.le_refl _) hbw).young (Nat.le_refl _) hbw).young (Nat.le_refl _) hbw).young (Nat.le_refl _) hbw
end Go.Proofs.Ytmkdcnkbhnegnaa

namespace Go.Proofs.Ytmkdcnkbhnegnaa
open Go.RowKit

theorem info_ent : (Try.prog.info? 45).map (fun i => (i.zero, i.size, i.bytes)) = some (some (.agg #[.string ⟨#[]⟩, .bool false, .int .u64 0, .int .u64 0]), 4, 40) := by kernel_rfl
theorem ecells_snoc (l : List Ent) (e : Ent) : ecells (l ++ [e]) = ecells l ++ [.string e.1, .bool e.2.1, .int .u64 e.2.2.1.toNat, .int .u64 e.2.2.2.toNat] := by simp [ecells]
theorem Kp.grown {b : Nat} {w w1 w2 : World} {row : Option Nat} (h : Kp b w w1) (hg : w1.grownBy w2 row) (hb : b ≤ w1.heap.size) (hr : ∀ k, row = some k → w.heap.size ≤ k ∧ b ≤ k) : Kp b w w2 :=
  ⟨h.1.grown hg hb (fun k hk => (hr k hk).2), fun j hj hjb => (hg.block j (Nat.lt_of_lt_of_le hj h.size) (fun e => by have := (hr j e.symm).1; omega)).trans (h.2 j hj hjb)⟩
theorem own_kp {w w' : World} {base : Nat} {e : TypeId} {size : Nat} {v : Value} {n b : Nat} {xs : List Value} (h : w.ownsRow base e size v n xs) (hk : Kp b w w') (hb : b < base) : w'.ownsRow base e size v n xs :=
  own_block h fun g hg => hk.2 g (h.lt g hg).2 (by have := (h.lt g hg).1; omega)
theorem Rb.grown {t : TypeId} {b : Nat} {s : Rd} {w w' : World} {row : Option Nat} (h : Rb t b s w) (hg : w.grownBy w' row) (hr : row ≠ some b) : Rb t b s w' := (hg.block b h.lt (fun e => hr e.symm)).trans h
theorem many_bad {α : Type} {f : Rd → α × Rd} {n : Nat} {s : Rd} (h : s.2 = true) : many f n s = ([], s) := by
  cases n with
  | zero => rfl
  | succ n => unfold many; rw [if_pos h]
theorem many_next {α : Type} {f : Rd → α × Rd} {n : Nat} {s : Rd} (h : s.2 = false) : many f (n + 1) s = ((f s).1 :: (many f n (f s).2).1, (many f n (f s).2).2) := by rw [many, if_neg (by rw [h]; decide)]
theorem rEnt_len {s : Rd} : (rEnt s).2.1.length ≤ s.1.length := by
  unfold rEnt rEnt3
  exact Nat.le_trans (rDig_len (s := (_, _))) (Nat.le_trans rNum_len rStr_len)

set_option maxRecDepth 100000 in
set_option maxHeartbeats 8000000 in
theorem rListE_any (b : Nat) (s : Rd) (w : World) (h : Rb 57 b s w) (hl : s.1.length ≤ maxLen) :
    Calls Try.prog 37 #[.pointer (some ⟨b, 0, none⟩), .int .i64 200, .func (.func 38) #[.pointer (some ⟨b, 0, none⟩)] #[]] w fun e w' => ∃ v, e = .returned v ∧ w'.ownsRow w.heap.size 45 4 v (rList rEnt 200 s).1.length (ecells (rList rEnt 200 s).1) ∧ Rb 57 b (rList rEnt 200 s).2 w' ∧ Kp b w w' := by
  have hlt0 := h.lt
  have hbw : b ≤ w.heap.size := Nat.le_of_lt hlt0
  have C1 := lid (rNumber_any b s w h hl)
  have L1 := lid (Nat.le_trans (rNum_len (s := s)) hl)
  have HN := lid (getI_le s.1)
  have HE : Hid (rList rEnt 200 s = many rEnt (rNum s).1 ((rNum s).2.1, (rNum s).2.2 || decide (200 < (rNum s).1))) := lid rfl
  obtain ⟨r, hr⟩ : ∃ r, rNum s = r := ⟨_, rfl⟩
  have hn : r.1 ≤ 1099511627776 := by rw [← hr]; exact HN.out.2
  rw [hr] at C1 L1 HE
  obtain ⟨n, l1, bad⟩ := r
  simp only at hn
  have hn' : n ≤ 9223372036854775807 := by omega
  clear hr HN h hl hn
  go_enter Try.func37, Try.ntmps37
  go_wp2_with fail
  (with_reducible refine (C1.out).mono ?_); rintro e w1 ⟨rfl, hR1, hK1⟩
  have R1 := lid hR1
  have K1 := lid hK1
  have hb1 := hR1.lt
  have z1 := hK1.size
  clear C1 hR1 hK1
  have c1 : w1.cell? ⟨b, 1, none⟩ = some (.bool bad) := R1.out.c1
  have f1 := R1.out.fz 1
  obtain ⟨v, hv⟩ : ∃ v, (bad || decide (200 < n)) = v := ⟨_, rfl⟩
  have HB : Hid (v = false → n ≤ 200) := lid (by rintro rfl; simp at hv; omega)
  replace HE : Hid (rList rEnt 200 s = many rEnt n (l1, bad || decide (200 < n))) := HE
  rw [hv] at HE
  obtain ⟨w2, hw2⟩ : ∃ w2, w1.setCell ⟨b, 1, none⟩ (.bool v) = w2 := ⟨_, rfl⟩
  have R2 := lid (show Rb 57 b (l1, v) w2 by rw [← hw2]; exact R1.out.set1 v)
  have K2 : Hid (Kp b w w2) := lid (by rw [← hw2]; exact K1.out.setCell 1 _)
  have hm : decide ((200 : Int) < (n : Int)) = decide (200 < n) := by rw [Bool.eq_iff_iff]; simp; omega
  have h2 : Hid (w1.setCell ⟨b, 1, none⟩ (.bool v) = w2) := lid hw2
  clear hw2
  have EX : Hid (∀ (L : List Ent) (sk : Rd) (k : Nat) (u : Value) (wr : World), wr.ownsRow w.heap.size 45 4 u k (ecells L) → Rb 57 b sk wr → Kp b w wr → L.length = k → many rEnt n (l1, v) = (L, sk) →
      ∃ v, Ending.returned u = .returned v ∧ wr.ownsRow w.heap.size 45 4 v (rList rEnt 200 s).1.length (ecells (rList rEnt 200 s).1) ∧ Rb 57 b (rList rEnt 200 s).2 wr ∧ Kp b w wr) := lid (by
    intro L sk k u wr h1 h2 h3 h4 h5
    rw [HE.out, h5]
    subst h4
    exact ⟨_, rfl, h1, h2, h3⟩)
  clear HE
  cases bad with
  | true =>
    have hvt : v = true := by rw [← hv]; rfl
    rw [hvt] at h2
    clear hvt
    clear hv hm
    go_wp2_with fail
    rw [h2.out]
    clear h2 c1 f1 R1 K1 hb1
    go_loopw [8, 9] (fun u i wr => ∃ (k : Nat) (sk : Rd) (L : List Ent), k ≤ n ∧ i = .int .i64 k ∧ Hid (wr.ownsRow w.heap.size 45 4 u k (ecells L)) ∧ Hid (Rb 57 b sk wr) ∧ Hid (Kp b w wr) ∧ Hid (many rEnt n (l1, v) = (L ++ (many rEnt (n - k) sk).1, (many rEnt (n - k) sk).2)) ∧ Hid (L.length = k) ∧ Hid (sk.2 = false → n ≤ 200) ∧ Hid (sk.1.length ≤ maxLen)) (fun _ i _ => n - (intOf i).toNat)
    case atStart => exact ⟨0, (l1, v), [], Nat.zero_le _, rfl, lid (World.ownsRow_nil _ _ _ _), R2, K2, lid (by simp), lid rfl, HB, L1⟩
    case round =>
      clear R2 K2 HB L1
      obtain ⟨k, sk, L, hk, rfl, HO, HR, HK, HM, HL, HB, HS⟩ := hrel
      obtain ⟨lk, bk⟩ := sk
      have hlb := HR.out.lt
      have c1 : wr.cell? ⟨b, 1, none⟩ = some (.bool bk) := HR.out.c1
      have zk := HK.out.size
      by_cases hlt : k < n
      · have dk : decide ((k : Int) < (n : Int)) = true := by simp; omega
        cases bk with
        | true =>
          have HX : Hid (many rEnt n (l1, v) = (L, (lk, true))) := lid (by rw [HM.out, many_bad rfl, List.append_nil])
          go_wp2_with fail
          go_ret
          exact EX.out L _ k _ _ HO.out HR.out HK.out HL.out HX.out
        | false =>
          have hn2 : n ≤ 200 := HB.out rfl
          have HX := lid (many_next (f := rEnt) (n := n - (k + 1)) (s := (lk, false)) rfl)
          have HK1 : Hid (n - k = n - (k + 1) + 1) := lid (by omega)
          have HL3 := lid (Nat.le_trans (rEnt_len (s := (lk, false))) HS.out)
          have CG := lid (rEntry_any b (lk, false) wr HR.out HS.out)
          obtain ⟨g, hg⟩ : ∃ g, rEnt (lk, false) = g := ⟨_, rfl⟩
          rw [hg] at CG HX HL3
          obtain ⟨x, sx⟩ := g
          clear hg
          go_wp2_with fail
          clear c1
          (with_reducible refine (CG.out).mono ?_); rintro e w3 ⟨rfl, hR3, hK3⟩
          have HO3 := lid (own_kp HO.out hK3 hlt0)
          have HR3 := lid hR3
          have HK3 := lid (HK.out.trans hK3)
          have z3 : w.heap.size ≤ w3.heap.size := by have := hK3.size; omega
          have hb3 := hR3.lt
          clear CG hR3 hK3 HR HK HO
          go_wp2_with (at_builtin; go_must (refine wpList_append_newG #[.string x.1, .bool x.2.1, .int .u64 x.2.2.1.toNat, .int .u64 x.2.2.2.toNat] rfl _ _ 22 rfl w.heap.size 45 (.agg #[.string ⟨#[]⟩, .bool false, .int .u64 0, .int .u64 0]) 4 40 info_ent Try.underlying22 rfl (by decide) _ k _ HO3.out rfl rfl rfl (by simp [Value.oneCell']) (by unfold maxLen; omega) (by omega) z3 ?_))
          intro v' w4 hown' hgrow
          have HO4 : Hid (w4.ownsRow w.heap.size 45 4 v' (k + 1) (ecells (L ++ [x]))) := lid (by rw [ecells_snoc]; exact hown')
          have HR4 : Hid (Rb 57 b sx w4) := lid ((HR3.out.below (ba _ _)).grown hgrow (fun e => by have := ownsRow_row HO3.out b e; omega))
          have HK4 : Hid (Kp b w w4) := lid ((HK3.out.trans (Kp.of_below (Nat.le_of_lt hb3) (ba _ _))).grown hgrow (by rw [World.size_alloc]; omega) (fun j hj => by have := ownsRow_row HO3.out j hj; omega))
          obtain ⟨ao, cap, rfl⟩ := own_slice hown'
          clear hown' hgrow HO3 HR3 HK3
          go_wp2_with fail
          go_roundw
          case rel => exact ⟨k + 1, sx, L ++ [x], by omega, by go_num, HO4, HR4, HK4, lid (by rw [HM.out, HK1.out, HX.out]; simp), lid (by simp [HL.out]), lid (fun _ => hn2), HL3⟩
          case measure => simp [intOf]; omega
      · obtain rfl : k = n := by omega
        have HX : Hid (many rEnt k (l1, v) = (L, (lk, bk))) := lid (by rw [HM.out, Nat.sub_self, many, List.append_nil])
        have dk : decide ((k : Int) < (k : Int)) = false := by simp
        go_wp2_with fail
        go_ret
        exact EX.out L _ k _ _ HO.out HR.out HK.out HL.out HX.out
  | false =>
    rw [Bool.false_or] at hv
    rw [hv] at hm
    clear hv
    go_wp2_with fail
    rw [h2.out]
    clear h2 c1 f1 R1 K1 hb1
    go_loopw [8, 9] (fun u i wr => ∃ (k : Nat) (sk : Rd) (L : List Ent), k ≤ n ∧ i = .int .i64 k ∧ Hid (wr.ownsRow w.heap.size 45 4 u k (ecells L)) ∧ Hid (Rb 57 b sk wr) ∧ Hid (Kp b w wr) ∧ Hid (many rEnt n (l1, v) = (L ++ (many rEnt (n - k) sk).1, (many rEnt (n - k) sk).2)) ∧ Hid (L.length = k) ∧ Hid (sk.2 = false → n ≤ 200) ∧ Hid (sk.1.length ≤ maxLen)) (fun _ i _ => n - (intOf i).toNat)
    case atStart => exact ⟨0, (l1, v), [], Nat.zero_le _, rfl, lid (World.ownsRow_nil _ _ _ _), R2, K2, lid (by simp), lid rfl, HB, L1⟩
    case round =>
      clear R2 K2 HB L1
      obtain ⟨k, sk, L, hk, rfl, HO, HR, HK, HM, HL, HB, HS⟩ := hrel
      obtain ⟨lk, bk⟩ := sk
      have hlb := HR.out.lt
      have c1 : wr.cell? ⟨b, 1, none⟩ = some (.bool bk) := HR.out.c1
      have zk := HK.out.size
      by_cases hlt : k < n
      · have dk : decide ((k : Int) < (n : Int)) = true := by simp; omega
        cases bk with
        | true =>
          have HX : Hid (many rEnt n (l1, v) = (L, (lk, true))) := lid (by rw [HM.out, many_bad rfl, List.append_nil])
          go_wp2_with fail
          go_ret
          exact EX.out L _ k _ _ HO.out HR.out HK.out HL.out HX.out
        | false =>
          have hn2 : n ≤ 200 := HB.out rfl
          have HX := lid (many_next (f := rEnt) (n := n - (k + 1)) (s := (lk, false)) rfl)
          have HK1 : Hid (n - k = n - (k + 1) + 1) := lid (by omega)
          have HL3 := lid (Nat.le_trans (rEnt_len (s := (lk, false))) HS.out)
          have CG := lid (rEntry_any b (lk, false) wr HR.out HS.out)
          obtain ⟨g, hg⟩ : ∃ g, rEnt (lk, false) = g := ⟨_, rfl⟩
          rw [hg] at CG HX HL3
          obtain ⟨x, sx⟩ := g
          clear hg
          go_wp2_with fail
          clear c1
          (with_reducible refine (CG.out).mono ?_); rintro e w3 ⟨rfl, hR3, hK3⟩
          have HO3 := lid (own_kp HO.out hK3 hlt0)
          have HR3 := lid hR3
          have HK3 := lid (HK.out.trans hK3)
          have z3 : w.heap.size ≤ w3.heap.size := by have := hK3.size; omega
          have hb3 := hR3.lt
          clear CG hR3 hK3 HR HK HO
          go_wp2_with (at_builtin; go_must (refine wpList_append_newG #[.string x.1, .bool x.2.1, .int .u64 x.2.2.1.toNat, .int .u64 x.2.2.2.toNat] rfl _ _ 22 rfl w.heap.size 45 (.agg #[.string ⟨#[]⟩, .bool false, .int .u64 0, .int .u64 0]) 4 40 info_ent Try.underlying22 rfl (by decide) _ k _ HO3.out rfl rfl rfl (by simp [Value.oneCell']) (by unfold maxLen; omega) (by omega) z3 ?_))
          intro v' w4 hown' hgrow
          have HO4 : Hid (w4.ownsRow w.heap.size 45 4 v' (k + 1) (ecells (L ++ [x]))) := lid (by rw [ecells_snoc]; exact hown')
          have HR4 : Hid (Rb 57 b sx w4) := lid ((HR3.out.below (ba _ _)).grown hgrow (fun e => by have := ownsRow_row HO3.out b e; omega))
          have HK4 : Hid (Kp b w w4) := lid ((HK3.out.trans (Kp.of_below (Nat.le_of_lt hb3) (ba _ _))).grown hgrow (by rw [World.size_alloc]; omega) (fun j hj => by have := ownsRow_row HO3.out j hj; omega))
          obtain ⟨ao, cap, rfl⟩ := own_slice hown'
          clear hown' hgrow HO3 HR3 HK3
          go_wp2_with fail
          go_roundw
          case rel => exact ⟨k + 1, sx, L ++ [x], by omega, by go_num, HO4, HR4, HK4, lid (by rw [HM.out, HK1.out, HX.out]; simp), lid (by simp [HL.out]), lid (fun _ => hn2), HL3⟩
          case measure => simp [intOf]; omega
      · obtain rfl : k = n := by omega
        have HX : Hid (many rEnt k (l1, v) = (L, (lk, bk))) := lid (by rw [HM.out, Nat.sub_self, many, List.append_nil])
        have dk : decide ((k : Int) < (k : Int)) = false := by simp
        go_wp2_with fail
        go_ret
        exact EX.out L _ k _ _ HO.out HR.out HK.out HL.out HX.out
set_option maxRecDepth 100000 in
set_option maxHeartbeats 8000000 in
theorem rListD_any (b : Nat) (s : Rd) (w : World) (h : Rb 57 b s w) (hl : s.1.length ≤ maxLen) :
    Calls Try.prog 40 #[.pointer (some ⟨b, 0, none⟩), .int .i64 8, .func (.func 39) #[.pointer (some ⟨b, 0, none⟩)] #[]] w fun e w' => ∃ v, e = .returned v ∧ w'.ownsRow w.heap.size 25 2 v (rList rDig 8 s).1.length (dcells (rList rDig 8 s).1) ∧ Rb 57 b (rList rDig 8 s).2 w' ∧ Kp b w w' := by
  have hlt0 := h.lt
  have hbw : b ≤ w.heap.size := Nat.le_of_lt hlt0
  have C1 := lid (rNumber_any b s w h hl)
  have L1 := lid (Nat.le_trans (rNum_len (s := s)) hl)
  have HN := lid (getI_le s.1)
  have HE : Hid (rList rDig 8 s = many rDig (rNum s).1 ((rNum s).2.1, (rNum s).2.2 || decide (8 < (rNum s).1))) := lid rfl
  obtain ⟨r, hr⟩ : ∃ r, rNum s = r := ⟨_, rfl⟩
  have hn : r.1 ≤ 1099511627776 := by rw [← hr]; exact HN.out.2
  rw [hr] at C1 L1 HE
  obtain ⟨n, l1, bad⟩ := r
  simp only at hn
  have hn' : n ≤ 9223372036854775807 := by omega
  clear hr HN h hl hn
  go_enter Try.func40, Try.ntmps40
  go_wp2_with fail
  (with_reducible refine (C1.out).mono ?_); rintro e w1 ⟨rfl, hR1, hK1⟩
  have R1 := lid hR1
  have K1 := lid hK1
  have hb1 := hR1.lt
  have z1 := hK1.size
  clear C1 hR1 hK1
  have c1 : w1.cell? ⟨b, 1, none⟩ = some (.bool bad) := R1.out.c1
  have f1 := R1.out.fz 1
  obtain ⟨v, hv⟩ : ∃ v, (bad || decide (8 < n)) = v := ⟨_, rfl⟩
  have HB : Hid (v = false → n ≤ 8) := lid (by rintro rfl; simp at hv; omega)
  replace HE : Hid (rList rDig 8 s = many rDig n (l1, bad || decide (8 < n))) := HE
  rw [hv] at HE
  obtain ⟨w2, hw2⟩ : ∃ w2, w1.setCell ⟨b, 1, none⟩ (.bool v) = w2 := ⟨_, rfl⟩
  have R2 := lid (show Rb 57 b (l1, v) w2 by rw [← hw2]; exact R1.out.set1 v)
  have K2 : Hid (Kp b w w2) := lid (by rw [← hw2]; exact K1.out.setCell 1 _)
  have hm : decide ((8 : Int) < (n : Int)) = decide (8 < n) := by rw [Bool.eq_iff_iff]; simp; omega
  have h2 : Hid (w1.setCell ⟨b, 1, none⟩ (.bool v) = w2) := lid hw2
  clear hw2
  have EX : Hid (∀ (L : List Dg) (sk : Rd) (k : Nat) (u : Value) (wr : World), wr.ownsRow w.heap.size 25 2 u k (dcells L) → Rb 57 b sk wr → Kp b w wr → L.length = k → many rDig n (l1, v) = (L, sk) →
      ∃ v, Ending.returned u = .returned v ∧ wr.ownsRow w.heap.size 25 2 v (rList rDig 8 s).1.length (dcells (rList rDig 8 s).1) ∧ Rb 57 b (rList rDig 8 s).2 wr ∧ Kp b w wr) := lid (by
    intro L sk k u wr h1 h2 h3 h4 h5
    rw [HE.out, h5]
    subst h4
    exact ⟨_, rfl, h1, h2, h3⟩)
  clear HE
  cases bad with
  | true =>
    have hvt : v = true := by rw [← hv]; rfl
    rw [hvt] at h2
    clear hvt
    clear hv hm
    go_wp2_with fail
    rw [h2.out]
    clear h2 c1 f1 R1 K1 hb1
    go_loopw [8, 9] (fun u i wr => ∃ (k : Nat) (sk : Rd) (L : List Dg), k ≤ n ∧ i = .int .i64 k ∧ Hid (wr.ownsRow w.heap.size 25 2 u k (dcells L)) ∧ Hid (Rb 57 b sk wr) ∧ Hid (Kp b w wr) ∧ Hid (many rDig n (l1, v) = (L ++ (many rDig (n - k) sk).1, (many rDig (n - k) sk).2)) ∧ Hid (L.length = k) ∧ Hid (sk.2 = false → n ≤ 8) ∧ Hid (sk.1.length ≤ maxLen)) (fun _ i _ => n - (intOf i).toNat)
    case atStart => exact ⟨0, (l1, v), [], Nat.zero_le _, rfl, lid (World.ownsRow_nil _ _ _ _), R2, K2, lid (by simp), lid rfl, HB, L1⟩
    case round =>
      clear R2 K2 HB L1
      obtain ⟨k, sk, L, hk, rfl, HO, HR, HK, HM, HL, HB, HS⟩ := hrel
      obtain ⟨lk, bk⟩ := sk
      have hlb := HR.out.lt
      have c1 : wr.cell? ⟨b, 1, none⟩ = some (.bool bk) := HR.out.c1
      have zk := HK.out.size
      by_cases hlt : k < n
      · have dk : decide ((k : Int) < (n : Int)) = true := by simp; omega
        cases bk with
        | true =>
          have HX : Hid (many rDig n (l1, v) = (L, (lk, true))) := lid (by rw [HM.out, many_bad rfl, List.append_nil])
          go_wp2_with fail
          go_ret
          exact EX.out L _ k _ _ HO.out HR.out HK.out HL.out HX.out
        | false =>
          have hn2 : n ≤ 8 := HB.out rfl
          have HX := lid (many_next (f := rDig) (n := n - (k + 1)) (s := (lk, false)) rfl)
          have HK1 : Hid (n - k = n - (k + 1) + 1) := lid (by omega)
          have HL3 := lid (Nat.le_trans (rDig_len (s := (lk, false))) HS.out)
          have CG := lid (rDigest_any b (lk, false) wr HR.out HS.out)
          obtain ⟨g, hg⟩ : ∃ g, rDig (lk, false) = g := ⟨_, rfl⟩
          rw [hg] at CG HX HL3
          obtain ⟨x, sx⟩ := g
          clear hg
          go_wp2_with fail
          clear c1
          (with_reducible refine (CG.out).mono ?_); rintro e w3 ⟨rfl, hR3, hK3⟩
          have HO3 := lid (own_kp HO.out hK3 hlt0)
          have HR3 := lid hR3
          have HK3 := lid (HK.out.trans hK3)
          have z3 : w.heap.size ≤ w3.heap.size := by have := hK3.size; omega
          have hb3 := hR3.lt
          clear CG hR3 hK3 HR HK HO
          go_wp2_with (at_builtin; go_must (refine wpList_append_newG #[.int .u64 x.1.toNat, .int .u64 x.2.toNat] rfl _ _ 26 rfl w.heap.size 25 (.agg #[.int .u64 0, .int .u64 0]) 2 16 info_dgo Try.underlying26 rfl (by decide) _ k _ HO3.out rfl rfl rfl (by simp [Value.oneCell']) (by unfold maxLen; omega) (by omega) z3 ?_))
          intro v' w4 hown' hgrow
          have HO4 : Hid (w4.ownsRow w.heap.size 25 2 v' (k + 1) (dcells (L ++ [x]))) := lid (by rw [dcells_snoc]; exact hown')
          have HR4 : Hid (Rb 57 b sx w4) := lid ((HR3.out.below (ba _ _)).grown hgrow (fun e => by have := ownsRow_row HO3.out b e; omega))
          have HK4 : Hid (Kp b w w4) := lid ((HK3.out.trans (Kp.of_below (Nat.le_of_lt hb3) (ba _ _))).grown hgrow (by rw [World.size_alloc]; omega) (fun j hj => by have := ownsRow_row HO3.out j hj; omega))
          obtain ⟨ao, cap, rfl⟩ := own_slice hown'
          clear hown' hgrow HO3 HR3 HK3
          go_wp2_with fail
          go_roundw
          case rel => exact ⟨k + 1, sx, L ++ [x], by omega, by go_num, HO4, HR4, HK4, lid (by rw [HM.out, HK1.out, HX.out]; simp), lid (by simp [HL.out]), lid (fun _ => hn2), HL3⟩
          case measure => simp [intOf]; omega
      · obtain rfl : k = n := by omega
        have HX : Hid (many rDig k (l1, v) = (L, (lk, bk))) := lid (by rw [HM.out, Nat.sub_self, many, List.append_nil])
        have dk : decide ((k : Int) < (k : Int)) = false := by simp
        go_wp2_with fail
        go_ret
        exact EX.out L _ k _ _ HO.out HR.out HK.out HL.out HX.out
  | false =>
    rw [Bool.false_or] at hv
    rw [hv] at hm
    clear hv
    go_wp2_with fail
    rw [h2.out]
    clear h2 c1 f1 R1 K1 hb1
    go_loopw [8, 9] (fun u i wr => ∃ (k : Nat) (sk : Rd) (L : List Dg), k ≤ n ∧ i = .int .i64 k ∧ Hid (wr.ownsRow w.heap.size 25 2 u k (dcells L)) ∧ Hid (Rb 57 b sk wr) ∧ Hid (Kp b w wr) ∧ Hid (many rDig n (l1, v) = (L ++ (many rDig (n - k) sk).1, (many rDig (n - k) sk).2)) ∧ Hid (L.length = k) ∧ Hid (sk.2 = false → n ≤ 8) ∧ Hid (sk.1.length ≤ maxLen)) (fun _ i _ => n - (intOf i).toNat)
    case atStart => exact ⟨0, (l1, v), [], Nat.zero_le _, rfl, lid (World.ownsRow_nil _ _ _ _), R2, K2, lid (by simp), lid rfl, HB, L1⟩
    case round =>
      clear R2 K2 HB L1
      obtain ⟨k, sk, L, hk, rfl, HO, HR, HK, HM, HL, HB, HS⟩ := hrel
      obtain ⟨lk, bk⟩ := sk
      have hlb := HR.out.lt
      have c1 : wr.cell? ⟨b, 1, none⟩ = some (.bool bk) := HR.out.c1
      have zk := HK.out.size
      by_cases hlt : k < n
      · have dk : decide ((k : Int) < (n : Int)) = true := by simp; omega
        cases bk with
        | true =>
          have HX : Hid (many rDig n (l1, v) = (L, (lk, true))) := lid (by rw [HM.out, many_bad rfl, List.append_nil])
          go_wp2_with fail
          go_ret
          exact EX.out L _ k _ _ HO.out HR.out HK.out HL.out HX.out
        | false =>
          have hn2 : n ≤ 8 := HB.out rfl
          have HX := lid (many_next (f := rDig) (n := n - (k + 1)) (s := (lk, false)) rfl)
          have HK1 : Hid (n - k = n - (k + 1) + 1) := lid (by omega)
          have HL3 := lid (Nat.le_trans (rDig_len (s := (lk, false))) HS.out)
          have CG := lid (rDigest_any b (lk, false) wr HR.out HS.out)
          obtain ⟨g, hg⟩ : ∃ g, rDig (lk, false) = g := ⟨_, rfl⟩
          rw [hg] at CG HX HL3
          obtain ⟨x, sx⟩ := g
          clear hg
          go_wp2_with fail
          clear c1
          (with_reducible refine (CG.out).mono ?_); rintro e w3 ⟨rfl, hR3, hK3⟩
          have HO3 := lid (own_kp HO.out hK3 hlt0)
          have HR3 := lid hR3
          have HK3 := lid (HK.out.trans hK3)
          have z3 : w.heap.size ≤ w3.heap.size := by have := hK3.size; omega
          have hb3 := hR3.lt
          clear CG hR3 hK3 HR HK HO
          go_wp2_with (at_builtin; go_must (refine wpList_append_newG #[.int .u64 x.1.toNat, .int .u64 x.2.toNat] rfl _ _ 26 rfl w.heap.size 25 (.agg #[.int .u64 0, .int .u64 0]) 2 16 info_dgo Try.underlying26 rfl (by decide) _ k _ HO3.out rfl rfl rfl (by simp [Value.oneCell']) (by unfold maxLen; omega) (by omega) z3 ?_))
          intro v' w4 hown' hgrow
          have HO4 : Hid (w4.ownsRow w.heap.size 25 2 v' (k + 1) (dcells (L ++ [x]))) := lid (by rw [dcells_snoc]; exact hown')
          have HR4 : Hid (Rb 57 b sx w4) := lid ((HR3.out.below (ba _ _)).grown hgrow (fun e => by have := ownsRow_row HO3.out b e; omega))
          have HK4 : Hid (Kp b w w4) := lid ((HK3.out.trans (Kp.of_below (Nat.le_of_lt hb3) (ba _ _))).grown hgrow (by rw [World.size_alloc]; omega) (fun j hj => by have := ownsRow_row HO3.out j hj; omega))
          obtain ⟨ao, cap, rfl⟩ := own_slice hown'
          clear hown' hgrow HO3 HR3 HK3
          go_wp2_with fail
          go_roundw
          case rel => exact ⟨k + 1, sx, L ++ [x], by omega, by go_num, HO4, HR4, HK4, lid (by rw [HM.out, HK1.out, HX.out]; simp), lid (by simp [HL.out]), lid (fun _ => hn2), HL3⟩
          case measure => simp [intOf]; omega
      · obtain rfl : k = n := by omega
        have HX : Hid (many rDig k (l1, v) = (L, (lk, bk))) := lid (by rw [HM.out, Nat.sub_self, many, List.append_nil])
        have dk : decide ((k : Int) < (k : Int)) = false := by simp
        go_wp2_with fail
        go_ret
        exact EX.out L _ k _ _ HO.out HR.out HK.out HL.out HX.out
end Go.Proofs.Ytmkdcnkbhnegnaa
