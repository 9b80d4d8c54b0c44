/-
  What comes out of a search's run: a smallest bad set, a set of which no element can be left out.
-/
import Derived.Test.YtnjcoejnknpfoaaMinTrace
namespace Go.Proofs.Ytnjcoejnknpfoaa
/-- Numbers from 0 to n - 1, ascending. -/
def Asc (n : Nat) (s : List Int) : Prop := s.Pairwise (· < ·) ∧ ∀ x ∈ s, 0 ≤ x ∧ x < n
instance (n : Nat) (s : List Int) : Decidable (Asc n s) := inferInstanceAs (Decidable (_ ∧ _))
theorem upto_asc (n : Nat) : Asc n (upto n) := by
  unfold upto
  refine ⟨List.pairwise_map.2 (List.pairwise_lt_range.imp (fun h => by omega)), fun x hx => ?_⟩
  obtain ⟨i, hi, rfl⟩ := List.mem_map.1 hx
  have := List.mem_range.1 hi
  omega
theorem Asc.sub {n : Nat} {s t : List Int} (h : Asc n t) (hs : s.Sublist t) : Asc n s := ⟨h.1.sublist hs, fun x hx => h.2 x (hs.subset hx)⟩
theorem Asc.nodup {n : Nat} {s : List Int} (h : Asc n s) : s.Nodup := h.1.imp (fun h e => by omega)
theorem trF_out (f : List Int → Bool) (n : Nat) : ∀ (l A : List (List Int)), (trF f n l A).2 = (l.find? f).getD (upto n)
  | [], A => rfl
  | s :: r, A => by
    rw [trF, List.find?_cons]
    cases hf : f s with
    | true => rfl
    | false => exact trF_out f n r _
theorem trF_mem (f : List Int → Bool) (n : Nat) : ∀ (l A : List (List Int)), ∀ s ∈ (trF f n l A).1, s ∈ A ∨ s ∈ l
  | [], A, s, h => .inl h
  | t :: r, A, s, h => by
    rw [trF] at h
    split at h
    · rcases mem_memA.1 h with h | rfl
      · exact .inl h
      · exact .inr (by simp)
    · rcases trF_mem f n r _ s h with h | h
      · rcases mem_memA.1 h with h | rfl
        · exact .inl h
        · exact .inr (by simp)
      · exact .inr (List.mem_cons_of_mem _ h)
theorem fromK_asc : ∀ n < 6, ∀ s ∈ fromK n 0, Asc n s ∧ s.length < n := by decide +kernel
/-- All sets, the smallest ones first, the whole one last. -/
def allSets (n : Nat) : List (List Int) := fromK n 0 ++ [upto n]
theorem less_before : ∀ n < 6, ∀ i < (allSets n).length, ∀ x ∈ (allSets n)[i]?.getD [], ∃ j < i, (allSets n)[j]? = some (lessI ((allSets n)[i]?.getD []) x) := by decide +kernel
theorem find_all {f : List Int → Bool} {n : Nat} (h : f (upto n) = true) : (allSets n).find? f = some (((fromK n 0).find? f).getD (upto n)) := by
  unfold allSets
  rw [List.find?_append]
  cases hq : (fromK n 0).find? f with
  | some s => rfl
  | none => simp [h]
theorem TrO.sub {f : List Int → Bool} {now r : List Int} {ch : Bool} {A T : List (List Int)} {R : List Int} (h : TrO f now ch r A T R) : R.Sublist now := by
  have hl : ∀ (l : List Int) (x : Int), (lessI l x).Sublist l := fun l x => List.filter_sublist
  induction h with
  | bad _ _ ih => exact ih.trans (hl _ _)
  | good _ _ ih => exact ih
  | again _ ih => exact ih
  | fin => exact List.Sublist.refl _
theorem TrO.hit {f : List Int → Bool} {now r : List Int} {ch : Bool} {A T : List (List Int)} {R : List Int} (h : TrO f now ch r A T R) : f now = true → f R = true := by
  induction h with
  | bad hf _ ih => exact fun _ => ih hf
  | good _ _ ih => exact ih
  | again _ ih => exact ih
  | fin => exact fun h => h
theorem TrO.min {f : List Int → Bool} {now r : List Int} {ch : Bool} {A T : List (List Int)} {R : List Int} (h : TrO f now ch r A T R) : (ch = false → ∀ x ∈ now, x ∉ r → f (lessI now x) = false) → ∀ x ∈ R, f (lessI R x) = false := by
  induction h with
  | bad _ _ ih => exact fun _ => ih (fun e => by cases e)
  | @good now ch x r A T R hf _ ih =>
    intro hm
    refine ih (fun e y hy hyr => ?_)
    by_cases hx : y = x
    · subst hx
      exact hf
    · exact hm e y hy (by simp [hx, hyr])
  | again _ ih => exact fun _ => ih (fun _ x hx hn => absurd hx hn)
  | fin => exact fun hm x hx => hm rfl x hx (by simp)
theorem TrO.short {f : List Int → Bool} {now r : List Int} {ch : Bool} {A T : List (List Int)} {R : List Int} (h : TrO f now ch r A T R) : now.Nodup → r.Nodup → (∀ y ∈ r, y ∈ now) → ∀ s ∈ T, s ∈ A ∨ s.length < now.length := by
  induction h with
  | @bad now ch x r A T R hf h ih =>
    intro hd hr hin s hs
    have hx := hin x (by simp)
    obtain ⟨hxr, hr'⟩ := List.nodup_cons.1 hr
    have hl : (lessI now x).length < now.length := lessI_lt hx
    rcases ih (lessI_nodup hd) hr' (fun y hy => mem_lessI.2 ⟨hin y (by simp [hy]), fun e => hxr (e ▸ hy)⟩) s hs with h1 | h1
    · rcases mem_memA.1 h1 with h1 | rfl
      · exact .inl h1
      · exact .inr hl
    · exact .inr (by omega)
  | @good now ch x r A T R hf h ih =>
    intro hd hr hin s hs
    have hx := hin x (by simp)
    rcases ih hd (List.nodup_cons.1 hr).2 (fun y hy => hin y (by simp [hy])) s hs with h1 | h1
    · rcases mem_memA.1 h1 with h1 | rfl
      · exact .inl h1
      · exact .inr (lessI_lt hx)
    · exact .inr h1
  | again _ ih => exact fun hd _ _ => ih hd hd (fun y h => h)
  | fin => exact fun _ _ _ s hs => .inl hs
/-- The whole set is never asked. -/
theorem Trc.short {f : List Int → Bool} {n : Nat} {T : List (List Int)} {R : List Int} (h : Trc f n T R) : ∀ s ∈ T, s.length < n := by
  intro s hs
  unfold Trc at h
  split at h
  · rename_i h5
    have := trF_mem f n (fromK n 0) [] s (by rw [h]; exact hs)
    rcases this with h1 | h1
    · cases h1
    · exact (fromK_asc n (by omega) s h1).2
  · rcases h.short (upto_nodup n) List.nodup_nil (by simp) s hs with h1 | h1
    · cases h1
    · rwa [upto_length] at h1
/-- The result is ascending. -/
theorem Trc.asc {f : List Int → Bool} {n : Nat} {T : List (List Int)} {R : List Int} (h : Trc f n T R) : Asc n R := by
  unfold Trc at h
  split at h
  · rename_i h5
    have e := trF_out f n (fromK n 0) []
    rw [h] at e
    simp only at e
    rw [e]
    cases hq : (fromK n 0).find? f with
    | none => exact upto_asc n
    | some s => exact (fromK_asc n (by omega) s (List.mem_of_find?_eq_some hq)).1
  · exact (upto_asc n).sub h.sub
/-- The result is bad. -/
theorem Trc.hit {f : List Int → Bool} {n : Nat} {T : List (List Int)} {R : List Int} (h : Trc f n T R) (hf : f (upto n) = true) : f R = true := by
  unfold Trc at h
  split at h
  · have e := trF_out f n (fromK n 0) []
    rw [h] at e
    simp only at e
    rw [e]
    exact List.find?_some (find_all hf)
  · exact h.hit hf
/-- With few elements it is the first bad set. -/
theorem Trc.first {f : List Int → Bool} {n : Nat} {T : List (List Int)} {R : List Int} (h : Trc f n T R) (h5 : n ≤ 5) (hf : f (upto n) = true) : (allSets n).find? f = some R := by
  unfold Trc at h
  rw [if_pos h5] at h
  have e := trF_out f n (fromK n 0) []
  rw [h] at e
  simp only at e
  rw [find_all hf, e]
/-- No element can be left out. -/
theorem Trc.min {f : List Int → Bool} {n : Nat} {T : List (List Int)} {R : List Int} (h : Trc f n T R) (hf : f (upto n) = true) : ∀ x ∈ R, f (lessI R x) = false := by
  by_cases h5 : n ≤ 5
  · have h1 := h.first h5 hf
    intro x hx
    obtain ⟨i, hi, he, hb⟩ := List.find?_eq_some_iff_getElem.1 h1 |>.2
    have hg : (allSets n)[i]?.getD [] = R := by rw [List.getElem?_eq_getElem hi, he]; rfl
    obtain ⟨j, hj, hj2⟩ := less_before n (by omega) i hi x (by rw [hg]; exact hx)
    rw [hg] at hj2
    have h2 := hb j hj
    rw [List.getElem?_eq_getElem (by omega)] at hj2
    have h3 := Option.some.inj hj2
    rw [h3] at h2
    simpa using h2
  · unfold Trc at h
    rw [if_neg h5] at h
    exact h.min (fun e => by cases e)
end Go.Proofs.Ytnjcoejnknpfoaa
