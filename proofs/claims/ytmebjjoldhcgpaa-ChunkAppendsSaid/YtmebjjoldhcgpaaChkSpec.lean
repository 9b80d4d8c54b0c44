/-
  Plain functions for chunks: the hash of a window, where chunks are cut, and that the chunks divide the data. No program in sight.
-/
import Derived.WalkKit
namespace Go.Proofs.Ytmebjjoldhcgpaa

def powF : Nat → UInt32
  | 0 => 1
  | k + 1 => powF k * 16777619
def byteW (c : UInt8) : UInt32 := UInt32.ofNat c.toNat
/-- One byte more (and, from v bytes on, one byte less at the other end). -/
def stepH (s : List UInt8) (v : Nat) (h : UInt32) (i : Nat) : UInt32 :=
  if v ≤ i then h * 16777619 + byteW (s.getD i 0) + 1 - (byteW (s.getD (i - v) 0) + 1) * powF v else h * 16777619 + byteW (s.getD i 0) + 1
/-- The hash behind i bytes. -/
def rollH (s : List UInt8) (v : Nat) : Nat → UInt32
  | 0 => 0
  | i + 1 => stepH s v (rollH s v i) i
def divB (b : Nat) (h : UInt32) : Bool := ((h ^^^ (h >>> 15)) &&& (1 <<< UInt32.ofNat b - 1)) == 0
/-- Is there an end behind byte i, of a chunk that begins at st? -/
def cutAt (s : List UInt8) (l m v b st i : Nat) : Bool := (decide (l ≤ i + 1 - st) && divB b (rollH s v (i + 1))) || decide (i + 1 - st = m) || decide (i + 1 = s.length)
/-- The chunks that end within the first bytes, and where the next one begins. -/
def scan (s : List UInt8) (l m v b : Nat) : Nat → List (Nat × Nat) × Nat
  | 0 => ([], 0)
  | i + 1 => if cutAt s l m v b (scan s l m v b i).2 i then ((scan s l m v b i).1 ++ [((scan s l m v b i).2, i + 1)], i + 1) else scan s l m v b i
def cuts (s : List UInt8) (l m v b : Nat) : List (Nat × Nat) := (scan s l m v b s.length).1

section
variable {s : List UInt8} {l m v b : Nat}
theorem scan_cut {i : Nat} (h : cutAt s l m v b (scan s l m v b i).2 i = true) : scan s l m v b (i + 1) = ((scan s l m v b i).1 ++ [((scan s l m v b i).2, i + 1)], i + 1) := by rw [scan, if_pos h]
theorem scan_no {i : Nat} (h : cutAt s l m v b (scan s l m v b i).2 i = false) : scan s l m v b (i + 1) = scan s l m v b i := by rw [scan, if_neg (by simp [h])]
theorem scan_le (k : Nat) : (scan s l m v b k).2 ≤ k := by
  induction k with
  | zero => exact Nat.le_refl _
  | succ k ih =>
    cases h : cutAt s l m v b (scan s l m v b k).2 k with
    | true => rw [scan_cut h]; exact Nat.le_refl _
    | false => rw [scan_no h]; omega
theorem scan_prefix (k j : Nat) : ∃ t, (scan s l m v b (k + j)).1 = (scan s l m v b k).1 ++ t := by
  induction j with
  | zero => exact ⟨[], by simp⟩
  | succ j ih =>
    obtain ⟨t, ht⟩ := ih
    cases h : cutAt s l m v b (scan s l m v b (k + j)).2 (k + j) with
    | true => exact ⟨t ++ [((scan s l m v b (k + j)).2, k + j + 1)], by rw [← Nat.add_assoc, scan_cut h, ht]; simp⟩
    | false => exact ⟨t, by rw [← Nat.add_assoc, scan_no h, ht]⟩
theorem scan_len (k : Nat) : (scan s l m v b k).1.length ≤ k := by
  induction k with
  | zero => exact Nat.le_refl _
  | succ k ih =>
    cases h : cutAt s l m v b (scan s l m v b k).2 k with
    | true => rw [scan_cut h]; simp; omega
    | false => rw [scan_no h]; omega
/-- What is open is shorter than the greatest chunk. -/
theorem scan_open (hm : 1 ≤ m) (k : Nat) : k - (scan s l m v b k).2 < m := by
  induction k with
  | zero => simp [scan]; omega
  | succ k ih =>
    have hle := scan_le (s := s) (l := l) (m := m) (v := v) (b := b) k
    cases h : cutAt s l m v b (scan s l m v b k).2 k with
    | true => rw [scan_cut h]; simp; omega
    | false =>
      rw [scan_no h]
      have : ¬ k + 1 - (scan s l m v b k).2 = m := by
        intro e
        simp [cutAt, e] at h
      omega
/-- Each chunk has bytes, at most m of them, and at least l except where the data ends. -/
theorem scan_sizes (hm : 1 ≤ m) (hlm : l ≤ m) (k : Nat) : ∀ x ∈ (scan s l m v b k).1, x.1 < x.2 ∧ x.2 ≤ k ∧ x.2 - x.1 ≤ m ∧ (l ≤ x.2 - x.1 ∨ x.2 = s.length) := by
  induction k with
  | zero => intro x hx; simp [scan] at hx
  | succ k ih =>
    have hle := scan_le (s := s) (l := l) (m := m) (v := v) (b := b) k
    have hop := scan_open (s := s) (l := l) (v := v) (b := b) hm k
    cases h : cutAt s l m v b (scan s l m v b k).2 k with
    | true =>
      rw [scan_cut h]
      intro x hx
      rcases List.mem_append.1 hx with hx | hx
      · obtain ⟨h1, h2, h3, h4⟩ := ih x hx
        exact ⟨h1, by omega, h3, h4⟩
      · obtain rfl := List.mem_singleton.1 hx
        refine ⟨by simp only []; omega, Nat.le_refl _, by simp only []; omega, ?_⟩
        simp only [cutAt, Bool.or_eq_true, Bool.and_eq_true, decide_eq_true_eq] at h
        rcases h with (h | h) | h
        · exact .inl h.1
        · left; simp only []; omega
        · exact .inr h
    | false =>
      rw [scan_no h]
      intro x hx
      obtain ⟨h1, h2, h3, h4⟩ := ih x hx
      exact ⟨h1, by omega, h3, h4⟩
/-- A piece of data. -/
def piece (s : List UInt8) (x : Nat × Nat) : List UInt8 := (s.drop x.1).take (x.2 - x.1)
theorem scan_join (k : Nat) (hk : k ≤ s.length) : (scan s l m v b k).1.flatMap (piece s) = s.take (scan s l m v b k).2 := by
  induction k with
  | zero => simp [scan]
  | succ k ih =>
    have hle := scan_le (s := s) (l := l) (m := m) (v := v) (b := b) k
    cases h : cutAt s l m v b (scan s l m v b k).2 k with
    | true =>
      rw [scan_cut h, List.flatMap_append, ih (by omega)]
      simp only [List.flatMap_cons, List.flatMap_nil, List.append_nil, piece]
      rw [show k + 1 = (scan s l m v b k).2 + (k + 1 - (scan s l m v b k).2) by omega, List.take_add]
      simp
    | false => rw [scan_no h, ih (by omega)]
theorem scan_end : (scan s l m v b s.length).2 = s.length := by
  cases hs : s.length with
  | zero => rfl
  | succ k =>
    have h : cutAt s l m v b (scan s l m v b k).2 k = true := by simp [cutAt, hs]
    rw [scan_cut h]
theorem cuts_join : (cuts s l m v b).flatMap (piece s) = s := by
  rw [cuts, scan_join _ (Nat.le_refl _), scan_end, List.take_length]
/-- All chunks but the last one end ahead of the data's end. -/
theorem scan_before (k : Nat) (hk : k < s.length) : ∀ x ∈ (scan s l m v b k).1, x.2 < s.length := by
  induction k with
  | zero => intro x hx; simp [scan] at hx
  | succ k ih =>
    cases h : cutAt s l m v b (scan s l m v b k).2 k with
    | true =>
      rw [scan_cut h]
      intro x hx
      rcases List.mem_append.1 hx with hx | hx
      · exact ih (by omega) x hx
      · obtain rfl := List.mem_singleton.1 hx; exact hk
    | false => rw [scan_no h]; exact ih (by omega)
theorem cuts_last : ∀ (i : Nat) (x : Nat × Nat), (cuts s l m v b)[i]? = some x → i + 1 < (cuts s l m v b).length → x.2 < s.length := by
  intro i x hx hi
  unfold cuts at hx hi
  cases hs : s.length with
  | zero => rw [hs] at hx; simp [scan] at hx
  | succ k =>
    have h : cutAt s l m v b (scan s l m v b k).2 k = true := by simp [cutAt, hs]
    rw [hs, scan_cut h] at hx hi
    simp at hi
    rw [List.getElem?_append_left hi] at hx
    have := scan_before (l := l) (m := m) (v := v) (b := b) k (by omega) x (List.mem_of_getElem? hx)
    omega
end
end Go.Proofs.Ytmebjjoldhcgpaa
