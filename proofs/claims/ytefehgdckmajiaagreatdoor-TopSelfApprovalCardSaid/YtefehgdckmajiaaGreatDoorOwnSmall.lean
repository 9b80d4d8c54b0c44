/-
  How long what an owners file says can be; plain.
-/
import Derived.Test.YtefehgdckmajiaaGreatDoorOwnOf
import Derived.Test.YtefehgdckmajiaaGreatDoorOwnJoin
namespace Go.Proofs.YtefehgdckmajiaaGreatDoor
open Go.RowKit

def smallG (g : List ByteArray) : Prop := g.length ≤ 20 ∧ ∀ x ∈ g, x.size ≤ 60000
def StrN (N : Nat) (s : RdS) : Prop := ∀ r ∈ s.all, ∀ g ∈ r.2, ∀ x ∈ g, x.size ≤ N
theorem readF_str {N : Nat} {s s' : RdS} {x : ByteArray} (h : readF s x = some s') (hs : StrN N s) (hx : x.size ≤ N) : StrN N s' := by
  have key : ∀ (l : List Rl) (p : ByteArray) (gs : List (List ByteArray)), (∀ r ∈ l, ∀ g ∈ r.2, ∀ x ∈ g, x.size ≤ N) → (∀ g ∈ gs, ∀ x ∈ g, x.size ≤ N) → ∀ r ∈ l ++ [(p, gs)], ∀ g ∈ r.2, ∀ x ∈ g, x.size ≤ N := by
    intro l p gs h1 h2 r hr g hg x hx
    rcases List.mem_append.1 hr with hr | hr
    · exact h1 r hr g hg x hx
    · simp only [List.mem_singleton] at hr
      subst hr
      exact h2 g hg x hx
  cases s with
  | rule l =>
    rw [readF] at h
    split at h
    · cases h; exact key l _ [] hs (fun g hg => by cases hg)
    · split at h
      · cases h; exact hs
      · cases h
  | pre l =>
    rw [readF] at h
    split at h
    · cases h; exact key l _ [] hs (fun g hg => by cases hg)
    · cases h
  | groups l p =>
    rw [readF] at h
    split at h
    · cases h
      exact key l _ _ (fun r hr => hs r (List.mem_append_left _ hr)) (fun g hg x hx => by simp only [List.nil_append, List.mem_singleton] at hg; subst hg; cases hx)
    · cases h
  | group l p gs =>
    have h0 : ∀ g ∈ gs, ∀ x ∈ g, x.size ≤ N := fun g hg => hs (p, gs ++ [[]]) (by simp [RdS.all]) g (List.mem_append_left _ hg)
    rw [readF] at h
    split at h
    · cases h
      refine key l _ _ (fun r hr => hs r (List.mem_append_left _ hr)) (fun g hg y hy => ?_)
      rcases List.mem_append.1 hg with hg | hg
      · exact h0 g hg y hy
      · simp only [List.mem_singleton] at hg
        subst hg
        simp only [List.mem_singleton] at hy
        subst hy
        exact hx
    · cases h
  | person l p gs g0 =>
    have h0 : ∀ g ∈ gs ++ [g0], ∀ x ∈ g, x.size ≤ N := fun g hg => hs (p, gs ++ [g0]) (by simp [RdS.all]) g hg
    rw [readF] at h
    split at h
    · cases h
      refine key l _ _ (fun r hr => hs r (List.mem_append_left _ hr)) (fun g hg y hy => ?_)
      rcases List.mem_append.1 hg with hg | hg
      · exact h0 g hg y hy
      · simp only [List.mem_singleton] at hg
        subst hg
        cases hy
    · split at h
      · cases h
        refine key l _ _ (fun r hr => hs r (List.mem_append_left _ hr)) (fun g hg y hy => ?_)
        rcases List.mem_append.1 hg with hg | hg
        · exact h0 g (List.mem_append_left _ hg) y hy
        · simp only [List.mem_singleton] at hg
          subst hg
          rcases List.mem_append.1 hy with hy | hy
          · exact h0 g0 (by simp) y hy
          · simp only [List.mem_singleton] at hy
            subst hy
            exact hx
      · split at h
        · cases h; exact hs
        · cases h
theorem readGo_str {N : Nat} : ∀ {l : List (List UInt8)} {s s' : RdS}, readGo s l = some s' → StrN N s → (∀ x ∈ l, x.length ≤ N) → StrN N s'
  | [], s, s', h, hs, _ => by cases h; exact hs
  | x :: l, s, s', h, hs, hl => by
    rw [readGo] at h
    split at h
    · rename_i s2 h2
      exact readGo_str h (readF_str h2 hs (hl x (by simp))) (fun y hy => hl y (by simp [hy]))
    · cases h
theorem rulesGo_ok : ∀ {l : List Rl} {m : List ByteArray}, rulesGo m l = 0 → ∀ r ∈ l, chkRl r = 0
  | [], m, _ => fun r hr => by cases hr
  | a :: l, m, h => by
    rw [rulesGo] at h
    split at h
    · rename_i h1
      split at h
      · cases h
      · intro r hr
        rcases List.mem_cons.1 hr with rfl | hr
        · exact h1
        · exact rulesGo_ok h r hr
    · rename_i h1
      exact absurd h h1
theorem chkRl_len {r : Rl} (h : chkRl r = 0) : ∀ g ∈ r.2, g.length ≤ 20 := by
  unfold chkRl at h
  split at h
  · cases h
  · split at h
    · cases h
    · split at h
      · cases h
      · rename_i h3
        intro g hg
        have : longG r.2 = false := by
          cases hl : longG r.2 with
          | false => rfl
          | true => exact absurd (.inr hl) h3
        exact long_at this hg
theorem parseF_small {s : ByteArray} {l : List Rl} (h : parseF s = some l) (hs : s.size ≤ 60000) : ∀ r ∈ l, ∀ g ∈ r.2, smallG g := by
  unfold parseF at h
  split at h
  · rename_i l2 h2
    split at h
    · rename_i h3
      cases h
      have h4 : StrN 60000 (.rule l) := readGo_str h2 (fun r hr => by cases hr) (fun x hx => by
        have := wordsL_len hx
        have e : s.data.toList.length = s.size := rfl
        omega)
      have h5 : ∀ r ∈ l, chkRl r = 0 := by
        unfold chkL at h3
        split at h3
        · cases h3
        · exact rulesGo_ok h3
      intro r hr g hg
      exact ⟨chkRl_len (h5 r hr) g hg, fun x hx => h4 r hr g hg x hx⟩
    · cases h
  · cases h
theorem rulesF_small {fs : List Fl} (hs : ∀ f ∈ fs, f.2.size ≤ 60000) : ∀ e ∈ rulesF fs, ∀ r ∈ e.2, ∀ g ∈ r.2, smallG g := by
  intro e he
  unfold rulesF at he
  obtain ⟨f, hf, he⟩ := List.mem_flatMap.1 he
  unfold ruleE at he
  split at he
  · split at he
    · rename_i l hl
      simp only [List.mem_singleton] at he
      subst he
      exact parseF_small hl (hs f hf)
    · cases he
  · cases he
theorem rulesAt_mem (R : List (ByteArray × List Rl)) (x : ByteArray) : rulesAt R x = [] ∨ ∃ e ∈ R, e.2 = rulesAt R x := by
  unfold rulesAt
  suffices h : ∀ (a : List Rl), (R.foldl (fun a t => if t.1 = x then t.2 else a) a = a ∨ ∃ e ∈ R, e.2 = R.foldl (fun a t => if t.1 = x then t.2 else a) a) from h []
  induction R with
  | nil => intro a; exact .inl rfl
  | cons t R ih =>
    intro a
    rw [List.foldl_cons]
    rcases ih (if t.1 = x then t.2 else a) with h | ⟨e, he, h⟩
    · rw [h]
      split
      · exact .inr ⟨t, by simp, rfl⟩
      · exact .inl rfl
    · exact .inr ⟨e, by simp [he], h⟩
theorem ownF_small {fs : List Fl} (hs : ∀ f ∈ fs, f.2.size ≤ 60000) (p : ByteArray) : ∀ g ∈ ownF (rulesAt (rulesF fs)) p, smallG g := by
  have key : ∀ x, ∀ r ∈ rulesAt (rulesF fs) x, ∀ g ∈ r.2, smallG g := by
    intro x r hr
    rcases rulesAt_mem (rulesF fs) x with h | ⟨e, he, h⟩
    · rw [h] at hr; cases hr
    · rw [← h] at hr
      exact rulesF_small hs e he r hr
  unfold ownF
  generalize dirsL p.data.toList = D
  induction D with
  | nil => intro g hg; cases hg
  | cons x D ih =>
    intro g hg
    rw [ownGo] at hg
    split at hg
    · rename_i b hb
      rw [List.getD_eq_getElem?_getD] at hg
      cases hr : (rulesAt (rulesF fs) (bstr x.1))[b]? with
      | none => rw [hr] at hg; cases hg
      | some r =>
        rw [hr] at hg
        exact key _ r (List.mem_of_getElem? hr) g hg
    · exact ih g hg
theorem chkRl_groups {r : Rl} (h : chkRl r = 0) : r.2.length ≤ 8 := by
  unfold chkRl at h
  split at h
  · cases h
  · split at h
    · cases h
    · split at h
      · cases h
      · rename_i h3
        omega
theorem parseF_groups {s : ByteArray} {l : List Rl} (h : parseF s = some l) : ∀ r ∈ l, r.2.length ≤ 8 := by
  unfold parseF at h
  split at h
  · split at h
    · rename_i h3
      cases h
      unfold chkL at h3
      split at h3
      · cases h3
      · exact fun r hr => chkRl_groups (rulesGo_ok h3 r hr)
    · cases h
  · cases h
theorem rulesF_groups {fs : List Fl} : ∀ e ∈ rulesF fs, ∀ r ∈ e.2, r.2.length ≤ 8 := by
  intro e he
  unfold rulesF at he
  obtain ⟨f, hf, he⟩ := List.mem_flatMap.1 he
  unfold ruleE at he
  split at he
  · split at he
    · rename_i l hl
      simp only [List.mem_singleton] at he
      subst he
      exact parseF_groups hl
    · cases he
  · cases he
theorem ownF_len {fs : List Fl} (p : ByteArray) : (ownF (rulesAt (rulesF fs)) p).length ≤ 8 := by
  have key : ∀ x, ∀ r ∈ rulesAt (rulesF fs) x, r.2.length ≤ 8 := by
    intro x r hr
    rcases rulesAt_mem (rulesF fs) x with h | ⟨e, he, h⟩
    · rw [h] at hr; cases hr
    · rw [← h] at hr
      exact rulesF_groups e he r hr
  unfold ownF
  generalize dirsL p.data.toList = D
  induction D with
  | nil => exact Nat.zero_le _
  | cons x D ih =>
    rw [ownGo]
    split
    · rename_i b hb
      rw [List.getD_eq_getElem?_getD]
      cases hr : (rulesAt (rulesF fs) (bstr x.1))[b]? with
      | none => exact Nat.zero_le _
      | some r => exact key _ r (List.mem_of_getElem? hr)
    · exact ih
theorem join_len (sep : List UInt8) : ∀ (l : List (List UInt8)) (N : Nat), (∀ x ∈ l, x.length ≤ N) → (Lib.join l sep).length ≤ l.length * (N + sep.length)
  | [], N, _ => by simp [Lib.join]
  | [x], N, h => by
    rw [Lib.join_one]
    have := h x (by simp)
    simp
    omega
  | x :: y :: l, N, h => by
    have h1 := h x (by simp)
    have h2 := join_len sep (y :: l) N (fun z hz => h z (by simp [hz]))
    have e : Lib.join (x :: y :: l) sep = x ++ (sep ++ Lib.join (y :: l) sep) := by
      rw [Lib.join_cons, Lib.join_cons]
      simp [Lib.joinTail]
    rw [e]
    simp only [List.length_append, List.length_cons] at h2 ⊢
    rw [Nat.add_mul (l.length + 1) 1]
    omega
theorem joinB_small {g : List ByteArray} (h : smallG g) : (joinB g).size ≤ 1300000 := by
  have := join_len [32] (g.map (·.data.toList)) 60000 (fun x hx => by
    obtain ⟨y, hy, rfl⟩ := List.mem_map.1 hx
    exact h.2 y hy)
  have h1 := h.1
  have h2 : (g.map (·.data.toList)).length * (60000 + 1) ≤ 20 * 60001 := Nat.mul_le_mul (by simpa using h1) (Nat.le_refl _)
  show (Lib.join (g.map (·.data.toList)) [32]).toArray.size ≤ _
  rw [List.size_toArray]
  simp only [List.length_cons, List.length_nil] at this
  omega
end Go.Proofs.YtefehgdckmajiaaGreatDoor
