/-
  Plain laws: long numbers as lists of digits, the least first. No program in sight.
-/
import Derived.WalkKit
namespace Go.Proofs.Ytmlkegopbdfiaaa

section
variable (B : Nat)
/-- The value. -/
def lval : List Nat → Nat
  | [] => 0
  | d :: ds => d + B * lval ds
/-- Each digit times f, the carry c coming in: the digits and the carry going out. -/
def mulGo (f : Nat) : List Nat → Nat → List Nat × Nat
  | [], c => ([], c)
  | d :: ds, c => ((c + d * f) % B :: (mulGo f ds ((c + d * f) / B)).1, (mulGo f ds ((c + d * f) / B)).2)
def mulL (l : List Nat) (f : Nat) : List Nat := if (mulGo B f l 0).2 = 0 then (mulGo B f l 0).1 else (mulGo B f l 0).1 ++ [(mulGo B f l 0).2]
/-- Digits, the last of them not 0. -/
def Norm (l : List Nat) : Prop := (∀ d ∈ l, d < B) ∧ ∃ i t, l = i ++ [t] ∧ t ≠ 0
variable {B}

theorem lval_append (a b : List Nat) : lval B (a ++ b) = lval B a + B ^ a.length * lval B b := by
  induction a with
  | nil => simp [lval]
  | cons d a ih =>
    rw [List.cons_append, lval, ih, lval, List.length_cons, Nat.pow_succ, Nat.mul_add, ← Nat.mul_assoc, Nat.mul_comm (B ^ a.length) B]
    omega
theorem mulGo_length (f : Nat) (l : List Nat) : ∀ c, (mulGo B f l c).1.length = l.length := by
  induction l with
  | nil => intro c; rfl
  | cons d l ih => intro c; simp [mulGo, ih]
theorem mulGo_val (_hB : 0 < B) (f : Nat) (l : List Nat) : ∀ c, lval B (mulGo B f l c).1 + B ^ l.length * (mulGo B f l c).2 = lval B l * f + c := by
  induction l with
  | nil => intro c; simp [mulGo, lval]
  | cons d l ih =>
    intro c
    have h := ih ((c + d * f) / B)
    have hd := Nat.mod_add_div (c + d * f) B
    simp only [mulGo, lval, List.length_cons, Nat.pow_succ]
    generalize (mulGo B f l ((c + d * f) / B)).1 = p at *
    generalize (mulGo B f l ((c + d * f) / B)).2 = q at *
    generalize (c + d * f) / B = x at *
    generalize (c + d * f) % B = y at *
    have e1 : B * lval B p + B ^ l.length * B * q = B * (lval B p + B ^ l.length * q) := by rw [Nat.mul_add, Nat.mul_comm (B ^ l.length) B, Nat.mul_assoc]
    have e2 : (d + B * lval B l) * f = d * f + B * (lval B l * f) := by rw [Nat.add_mul, Nat.mul_assoc]
    rw [e2, Nat.add_assoc, e1, h, Nat.mul_add]
    omega
theorem mulGo_digits (hB : 0 < B) (f : Nat) (l : List Nat) : ∀ c, ∀ d ∈ (mulGo B f l c).1, d < B := by
  induction l with
  | nil => intro c d h; cases h
  | cons x l ih =>
    intro c d h
    simp only [mulGo, List.mem_cons] at h
    rcases h with rfl | h
    · exact Nat.mod_lt _ hB
    · exact ih _ d h
theorem mulGo_carry (hB : 0 < B) (f : Nat) (l : List Nat) (hl : ∀ d ∈ l, d < B) : ∀ c, c ≤ f → (mulGo B f l c).2 ≤ f := by
  induction l with
  | nil => intro c h; exact h
  | cons x l ih =>
    intro c h
    have hx := hl x (by simp)
    refine ih (fun d hd => hl d (by simp [hd])) _ ?_
    have : c + x * f ≤ B * f := by
      have : x * f ≤ (B - 1) * f := Nat.mul_le_mul_right f (by omega)
      have e : B * f = (B - 1) * f + f := by
        conv => lhs; rw [show B = B - 1 + 1 by omega]
        rw [Nat.add_mul, Nat.one_mul]
      omega
    calc (c + x * f) / B ≤ B * f / B := Nat.div_le_div_right this
      _ = f := Nat.mul_div_cancel_left f hB
/-- One digit more. -/
theorem mulGo_snoc (f : Nat) (l : List Nat) (d : Nat) : ∀ c, mulGo B f (l ++ [d]) c = ((mulGo B f l c).1 ++ [((mulGo B f l c).2 + d * f) % B], ((mulGo B f l c).2 + d * f) / B) := by
  induction l with
  | nil => intro c; rfl
  | cons x l ih => intro c; simp [mulGo, ih]

theorem mulL_val (hB : 0 < B) (l : List Nat) (f : Nat) : lval B (mulL B l f) = lval B l * f := by
  have h := mulGo_val hB f l 0
  have hl := mulGo_length (B := B) f l 0
  unfold mulL
  split
  · rename_i h0
    rw [h0] at h
    omega
  · rw [lval_append, hl]
    simp only [lval]
    omega
theorem lval_lt (l : List Nat) (hl : ∀ d ∈ l, d < B) : lval B l < B ^ l.length := by
  induction l with
  | nil => simp [lval]
  | cons d l ih =>
    have hd := hl d (by simp)
    have := ih (fun x hx => hl x (by simp [hx]))
    rw [lval, List.length_cons, Nat.pow_succ, Nat.mul_comm (B ^ l.length) B]
    have : B * (lval B l + 1) ≤ B * B ^ l.length := Nat.mul_le_mul_left B this
    rw [Nat.mul_add] at this
    omega
theorem norm_ge {l : List Nat} (h : Norm B l) : 0 < l.length ∧ B ^ (l.length - 1) ≤ lval B l := by
  obtain ⟨_, i, t, rfl, ht⟩ := h
  refine ⟨by simp, ?_⟩
  rw [lval_append]
  simp only [List.length_append, List.length_cons, List.length_nil, Nat.zero_add, Nat.add_sub_cancel, lval]
  have : B ^ i.length * 1 ≤ B ^ i.length * (t + B * 0) := Nat.mul_le_mul_left _ (by omega)
  omega
theorem norm_of_ge (_hB : 1 < B) {l : List Nat} (hl : ∀ d ∈ l, d < B) (h0 : 0 < l.length) (h : B ^ (l.length - 1) ≤ lval B l) : Norm B l := by
  refine ⟨hl, l.dropLast, l.getLast (List.length_pos_iff.1 h0), (List.dropLast_concat_getLast _).symm, ?_⟩
  intro e
  have hd := (List.dropLast_concat_getLast (List.length_pos_iff.1 h0)).symm
  rw [e] at hd
  have hv : lval B l = lval B l.dropLast := by
    conv => lhs; rw [hd]
    rw [lval_append]
    simp [lval]
  have := lval_lt l.dropLast (fun d hm => hl d ((List.dropLast_sublist l).subset hm))
  rw [List.length_dropLast] at this
  omega
theorem mulL_norm (hB : 1 < B) {l : List Nat} {f : Nat} (hl : Norm B l) (hf : 1 ≤ f) (hfB : f < B) : Norm B (mulL B l f) := by
  have hc := mulGo_carry (by omega) f l hl.1 0 (by omega)
  have hd := mulGo_digits (B := B) (by omega) f l 0
  have hlen := mulGo_length (B := B) f l 0
  obtain ⟨h0, hge⟩ := norm_ge hl
  have hv := mulL_val (B := B) (by omega) l f
  unfold mulL at hv ⊢
  split
  · rename_i hz
    rw [if_pos hz] at hv
    refine norm_of_ge hB hd (by omega) ?_
    rw [hv, hlen]
    exact Nat.le_trans hge (Nat.le_mul_of_pos_right _ hf)
  · rename_i hz
    refine ⟨?_, _, _, rfl, hz⟩
    intro d hm
    rcases List.mem_append.1 hm with hm | hm
    · exact hd d hm
    · obtain rfl := List.mem_singleton.1 hm
      omega
theorem mulL_length (l : List Nat) (f : Nat) : (mulL B l f).length ≤ l.length + 1 := by
  unfold mulL
  split <;> simp [mulGo_length]

/-- Comparison of digits. -/
theorem lval_len (hB : 1 < B) {a b : List Nat} (ha : Norm B a) (hb : Norm B b) (h : a.length < b.length) : lval B a < lval B b := by
  have h1 := lval_lt a ha.1
  obtain ⟨_, h2⟩ := norm_ge hb
  have : B ^ a.length ≤ B ^ (b.length - 1) := Nat.pow_le_pow_right (by omega) (by omega)
  omega
theorem lval_split (l : List Nat) (i : Nat) (h : i < l.length) : lval B l = lval B (l.take i) + B ^ i * (l[i] + B * lval B (l.drop (i + 1))) := by
  conv => lhs; rw [← List.take_append_drop i l]
  rw [lval_append, List.length_take, Nat.min_eq_left (by omega), List.drop_eq_getElem_cons h, lval]
theorem lval_first (_hB : 1 < B) {a b : List Nat} (ha : ∀ d ∈ a, d < B) (_hb : ∀ d ∈ b, d < B) {i : Nat} (hia : i < a.length) (hib : i < b.length) (he : a.drop (i + 1) = b.drop (i + 1)) (hlt : a[i] < b[i]) : lval B a < lval B b := by
  rw [lval_split a i hia, lval_split b i hib, he]
  have h1 := lval_lt (a.take i) (fun d hm => ha d (List.mem_of_mem_take hm))
  rw [List.length_take, Nat.min_eq_left (by omega)] at h1
  generalize lval B (b.drop (i + 1)) = r
  have : B ^ i * (a[i] + B * r + 1) ≤ B ^ i * (b[i] + B * r) := Nat.mul_le_mul_left _ (by omega)
  rw [Nat.mul_add _ _ 1] at this
  omega
end
end Go.Proofs.Ytmlkegopbdfiaaa
