/-
  A tree's own proofs verify.
-/
import Derived.Test.YtbghpjedldhnhaaLedHolds
import Derived.Test.YtbghpjedldhnhaaLedHead
namespace Go.Proofs.Ytbghpjedldhnhaa
open Go.RowKit

theorem own_proof (m : Nat) : ∀ (l : List Dg) (i : Nat) (h : i < l.length), l.length ≤ m → resultD l.length i (l[i]) (proofD l i) = (rootD l, true) := by
  induction m with
  | zero => intro l i h hm; omega
  | succ m ih =>
    intro l i h hm
    by_cases h2 : 2 ≤ l.length
    · have hlt := halfN_lt h2
      have hpos := halfN_pos l.length
      have hne : l.length ≠ 1 := by omega
      rw [rootD_more h2]
      by_cases hi : i < halfN l.length
      · have h1 : i < (l.take (halfN l.length)).length := by simp; omega
        have := ih (l.take (halfN l.length)) i h1 (by simp; omega)
        rw [List.length_take, Nat.min_eq_left (by omega), List.getElem_take] at this
        rw [proofD_lo h2 hi, resultD_lo hne hi, this]
      · have h1 : i - halfN l.length < (l.drop (halfN l.length)).length := by simp; omega
        have := ih (l.drop (halfN l.length)) (i - halfN l.length) h1 (by simp; omega)
        rw [List.length_drop, List.getElem_drop] at this
        have e : l[halfN l.length + (i - halfN l.length)]'(by omega) = l[i] := by congr 1; omega
        rw [e] at this
        rw [proofD_hi h2 hi, resultD_hi hne hi, this]
    · match l, h, h2 with
      | [d], h, _ =>
        have : i = 0 := by simp at h; exact h
        subst this
        rw [proofD_few (by simp), rootD_one]
        show resultD 1 0 d [] = _
        rw [resultD_one]
        rfl
      | _ :: _ :: _, _, h2 => exact absurd (by simp) h2

theorem own_verify (l : List Dg) (i : Nat) (h : i < l.length) (hm : l.length ≤ 10000) : verifyD (rootD l) l.length i (l[i]) (proofD l i) = true := by
  rw [verifyD_in _ _ _ (by omega)]
  have := own_proof l.length l i h (Nat.le_refl _)
  show ((resultD ((l.length : Nat) : Int).toNat ((i : Nat) : Int).toNat _ _).2 && _) = true
  rw [Int.toNat_natCast, Int.toNat_natCast, this]
  simp

theorem chk_mem {p : Option Int} {l : List Rec} (h : chkGo p l = 0) : ∀ r ∈ l, recB r = true := by
  induction l generalizing p with
  | nil => intro r hr; cases hr
  | cons a l ih =>
    intro r hr
    cases hB : recB a with
    | false => cases p <;> simp [chkGo, hB] at h
    | true =>
      have h' : ∃ q, chkGo q l = 0 := by
        cases p with
        | none => simp only [chkGo, hB, if_true] at h; exact ⟨_, h⟩
        | some p =>
          simp only [chkGo, hB, if_true] at h
          split at h
          · cases h
          · exact ⟨_, h⟩
      obtain ⟨q, h'⟩ := h'
      cases hr with
      | head => exact hB
      | tail _ hr => exact ih h' r hr

theorem own_holds {l : List Rec} (h : checkL l = 0) (i : Nat) (hi : i < l.length) : proveE l i = ((proveE l i).1, 0) ∧ holdsB (headD l) l.length i (l[i]) (proveE l i).1 = true := by
  have hl := check_len h
  have e : proveE l i = (proofD (l.map recD) i, 0) := by
    unfold proveE
    rw [if_pos h]
    unfold proofE
    rw [if_neg (by simp; omega)]
    simp
  have hB : recB (l[i]) = true := by
    unfold checkL at h
    rw [if_pos hl] at h
    exact chk_mem h _ (List.getElem_mem hi)
  refine ⟨by rw [e], ?_⟩
  rw [e]
  unfold holdsB headD
  rw [hB, if_pos h]
  have := own_verify (l.map recD) i (by simpa using hi) (by simpa using hl)
  simp only [List.getElem_map, List.length_map] at this
  rw [Bool.true_and]
  exact this
end Go.Proofs.Ytbghpjedldhnhaa
