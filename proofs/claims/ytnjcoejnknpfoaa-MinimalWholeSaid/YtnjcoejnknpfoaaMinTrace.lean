/-
  A search's run with an oracle, as plain lists: what is asked, and what comes out.
-/
import Derived.Test.YtnjcoejnknpfoaaMinMany
namespace Go.Proofs.Ytnjcoejnknpfoaa
/-- A question and its answer. -/
def ans (f : List Int → Bool) (s : List Int) : Kn := (s, f s)
/-- What is asked is remembered. -/
def memA (A : List (List Int)) (s : List Int) : List (List Int) := if s ∈ A then A else A ++ [s]
theorem look_ans (f : List Int → Bool) (A : List (List Int)) (s : List Int) : lookL (A.map (ans f)) s = if s ∈ A then some (f s) else none := by
  induction A with
  | nil => rfl
  | cons t A ih =>
    unfold lookL at *
    simp only [List.map_cons, List.find?_cons]
    by_cases h : t = s
    · subst h; simp [ans]
    · rw [decide_eq_false (by simpa [ans] using h)]
      simp only
      rw [ih]
      by_cases hs : s ∈ A
      · rw [if_pos hs, if_pos (List.mem_cons_of_mem _ hs)]
      · rw [if_neg hs, if_neg (by simp [hs, Ne.symm h])]
/-- One question of a run that stops behind i answers of T. -/
theorem ask_run {f : List Int → Bool} {A T : List (List Int)} {s : List Int} {i : Nat} (hp : memA A s <+: T) (hi : A.length ≤ i) :
    ask1 ((T.take i).map (ans f)) A.length s = if (memA A s).length ≤ i then some (f s, (memA A s).length) else none := by
  have hA : A <+: T := List.IsPrefix.trans (by unfold memA; split; exact List.prefix_refl _; exact List.prefix_append _ _) hp
  have hAT := hA.length_le
  have ht : ((T.take i).map (ans f)).take A.length = A.map (ans f) := by
    rw [← List.map_take, List.take_take, Nat.min_eq_left hi, ← List.prefix_iff_eq_take.1 hA]
  unfold ask1
  rw [ht, look_ans]
  unfold memA at *
  by_cases hs : s ∈ A
  · simp only [if_pos hs]
    rw [if_pos hi]
  · simp only [if_neg hs] at hp ⊢
    have hl := hp.length_le
    rw [List.length_append, List.length_singleton] at hl ⊢
    by_cases h1 : A.length + 1 ≤ i
    · rw [if_pos h1]
      have hg : ((T.take i).map (ans f))[A.length]? = some (ans f s) := by
        rw [List.getElem?_map, List.getElem?_take, if_pos (by omega)]
        have := List.prefix_iff_getElem?.1 hp A.length (by simp)
        rw [this]
        simp
      rw [hg]
      simp [ans]
    · rw [if_neg h1]
      have hg : ((T.take i).map (ans f))[A.length]? = none := by
        rw [List.getElem?_eq_none]
        rw [List.length_map, List.length_take]
        omega
      rw [hg]
theorem memA_mono (A : List (List Int)) (s : List Int) : A <+: memA A s := by
  unfold memA
  split
  · exact List.prefix_refl _
  · exact List.prefix_append _ _
theorem memA_len (A : List (List Int)) (s : List Int) : (memA A s).length ≤ A.length + 1 := by
  unfold memA
  split <;> simp
theorem memA_nodup {A : List (List Int)} (h : A.Nodup) (s : List Int) : (memA A s).Nodup := by
  unfold memA
  split
  · exact h
  · rename_i hs
    rw [List.nodup_append]
    refine ⟨h, by simp, fun a ha b hb => ?_⟩
    rw [List.mem_singleton.1 hb]
    rintro rfl
    exact hs ha
theorem mem_memA {A : List (List Int)} {s t : List Int} : t ∈ memA A s ↔ t ∈ A ∨ t = s := by
  unfold memA
  split
  · rename_i hs
    constructor
    · exact .inl
    · rintro (h | rfl)
      · exact h
      · exact hs
  · simp
/-- Where a search has come to behind i answers. -/
def stAt (T : List (List Int)) (R : List Int) (i : Nat) : St := if h : i < T.length then ⟨T[i], false, i⟩ else ⟨R, true, T.length⟩
/-- All sets in order: what is asked, and the result. -/
def trF (f : List Int → Bool) (n : Nat) : List (List Int) → List (List Int) → List (List Int) × List Int
  | [], A => (A, upto n)
  | s :: r, A => if f s then (memA A s, s) else trF f n r (memA A s)
theorem trF_prefix (f : List Int → Bool) (n : Nat) : ∀ (l A : List (List Int)), A <+: (trF f n l A).1
  | [], A => List.prefix_refl _
  | s :: r, A => by
    rw [trF]
    split
    · exact memA_mono A s
    · exact (memA_mono A s).trans (trF_prefix f n r (memA A s))
theorem trF_run (f : List Int → Bool) (n i : Nat) : ∀ (l A : List (List Int)), A.length ≤ i → runF (((trF f n l A).1.take i).map (ans f)) n l A.length = stAt (trF f n l A).1 (trF f n l A).2 i
  | [], A, hi => by
    show St.mk _ _ _ = _
    unfold stAt
    rw [trF, dif_neg (by simpa using hi)]
  | s :: r, A, hi => by
    have hq := ask_run (f := f) (A := A) (T := (trF f n (s :: r) A).1) (s := s) (i := i) (by
      rw [trF]
      split
      · exact List.prefix_refl _
      · exact trF_prefix f n r _) hi
    have hstop : ¬ (memA A s).length ≤ i → stAt (trF f n (s :: r) A).1 (trF f n (s :: r) A).2 i = ⟨s, false, A.length⟩ := fun hn => by
      have hs : ¬ s ∈ A := fun hs => hn (by unfold memA; rw [if_pos hs]; exact hi)
      have hm : memA A s = A ++ [s] := by unfold memA; rw [if_neg hs]
      have hii : i = A.length := by rw [hm, List.length_append, List.length_singleton] at hn; omega
      subst hii
      have hpx : A ++ [s] <+: (trF f n (s :: r) A).1 := by
        rw [trF, hm]
        split
        · exact List.prefix_refl _
        · exact trF_prefix f n r _
      have hl := hpx.length_le
      rw [List.length_append, List.length_singleton] at hl
      unfold stAt
      rw [dif_pos (by omega)]
      have := List.prefix_iff_getElem?.1 hpx A.length (by simp)
      rw [List.getElem?_eq_getElem (by omega)] at this
      have := Option.some.inj this
      rw [this]
      simp
    by_cases hm : (memA A s).length ≤ i
    · rw [if_pos hm] at hq
      rw [runF, hq]
      cases hf : f s with
      | true =>
        simp only
        have e : trF f n (s :: r) A = (memA A s, s) := by rw [trF, if_pos hf]
        rw [e]
        unfold stAt
        rw [dif_neg (by simpa using hm)]
      | false =>
        simp only
        have e : trF f n (s :: r) A = trF f n r (memA A s) := by rw [trF, if_neg (by simp [hf])]
        rw [e]
        exact trF_run f n i r (memA A s) hm
    · rw [if_neg hm] at hq
      rw [runF, hq, hstop hm]
/-- One element after the other left out: what is asked, and the result. -/
inductive TrO (f : List Int → Bool) : List Int → Bool → List Int → List (List Int) → List (List Int) → List Int → Prop
  | bad {now ch x r A T R} : f (lessI now x) = true → TrO f (lessI now x) true r (memA A (lessI now x)) T R → TrO f now ch (x :: r) A T R
  | good {now ch x r A T R} : f (lessI now x) = false → TrO f now ch r (memA A (lessI now x)) T R → TrO f now ch (x :: r) A T R
  | again {now A T R} : TrO f now false now A T R → TrO f now true [] A T R
  | fin {now A} : TrO f now false [] A A now
theorem TrO.prefix {f : List Int → Bool} {now r : List Int} {ch : Bool} {A T : List (List Int)} {R : List Int} (h : TrO f now ch r A T R) : A <+: T := by
  induction h with
  | bad _ _ ih => exact (memA_mono _ _).trans ih
  | good _ _ ih => exact (memA_mono _ _).trans ih
  | again _ ih => exact ih
  | fin => exact List.prefix_refl _
theorem stop_at {A T : List (List Int)} {s R : List Int} {i : Nat} (hp : memA A s <+: T) (hi : A.length ≤ i) (hn : ¬ (memA A s).length ≤ i) : stAt T R i = ⟨s, false, A.length⟩ := by
  have hs : ¬ s ∈ A := fun hs => hn (by unfold memA; rw [if_pos hs]; exact hi)
  have hm : memA A s = A ++ [s] := by unfold memA; rw [if_neg hs]
  have hii : i = A.length := by rw [hm, List.length_append, List.length_singleton] at hn; omega
  subst hii
  rw [hm] at hp
  have hl := hp.length_le
  rw [List.length_append, List.length_singleton] at hl
  unfold stAt
  rw [dif_pos (by omega)]
  have := List.prefix_iff_getElem?.1 hp A.length (by simp)
  rw [List.getElem?_eq_getElem (by omega)] at this
  have := Option.some.inj this
  rw [this]
  simp
theorem TrO.run {f : List Int → Bool} {now r : List Int} {ch : Bool} {A T : List (List Int)} {R : List Int} (h : TrO f now ch r A T R) : ∀ i, A.length ≤ i → OutR ((T.take i).map (ans f)) now ch r A.length (stAt T R i) := by
  induction h with
  | @bad now ch x r A T R hf h ih =>
    intro i hi
    have hq := ask_run (f := f) (i := i) h.prefix hi
    by_cases hm : (memA A (lessI now x)).length ≤ i
    · rw [if_pos hm, hf] at hq
      exact OutR.bad hq (ih i hm)
    · rw [if_neg hm] at hq
      rw [stop_at h.prefix hi hm]
      exact OutR.stop hq
  | @good now ch x r A T R hf h ih =>
    intro i hi
    have hq := ask_run (f := f) (i := i) h.prefix hi
    by_cases hm : (memA A (lessI now x)).length ≤ i
    · rw [if_pos hm, hf] at hq
      exact OutR.good hq (ih i hm)
    · rw [if_neg hm] at hq
      rw [stop_at h.prefix hi hm]
      exact OutR.stop hq
  | again _ ih => exact fun i hi => OutR.again (ih i hi)
  | @fin now A =>
    intro i hi
    unfold stAt
    rw [dif_neg (by omega)]
    exact OutR.fin
theorem lessI_le (l : List Int) (x : Int) : (lessI l x).length ≤ l.length := List.length_filter_le _ _
theorem trO_ex (f : List Int → Bool) : ∀ (M : Nat) (now : List Int) (ch : Bool), 2 * now.length + (if ch then 1 else 0) ≤ M → now.Nodup → ∀ (r : List Int), r.Nodup → (∀ y ∈ r, y ∈ now) → ∀ A, ∃ T R, TrO f now ch r A T R := by
  intro M
  induction M with
  | zero =>
    intro now ch hM hd r hr hin A
    have hn : now = [] := List.eq_nil_of_length_eq_zero (by omega)
    subst hn
    cases r with
    | nil =>
      cases ch with
      | true => simp at hM
      | false => exact ⟨_, _, TrO.fin⟩
    | cons x r => cases hin x (by simp)
  | succ M ih =>
    intro now ch hM hd r
    induction r with
    | nil =>
      intro _ _ A
      cases ch with
      | true =>
        obtain ⟨T, R, h⟩ := ih now false (by simp at hM ⊢; omega) hd now hd (fun y h => h) A
        exact ⟨T, R, TrO.again h⟩
      | false => exact ⟨_, _, TrO.fin⟩
    | cons x r ihr =>
      intro hr hin A
      have hx := hin x (by simp)
      obtain ⟨hxr, hr'⟩ := List.nodup_cons.1 hr
      cases hf : f (lessI now x) with
      | true =>
        have hl := lessI_lt hx
        obtain ⟨T, R, h⟩ := ih (lessI now x) true (by simp only [if_true]; omega) (lessI_nodup hd) r hr' (fun y hy => mem_lessI.2 ⟨hin y (by simp [hy]), fun e => hxr (e ▸ hy)⟩) (memA A (lessI now x))
        exact ⟨T, R, TrO.bad hf h⟩
      | false =>
        obtain ⟨T, R, h⟩ := ihr hr' (fun y hy => hin y (by simp [hy])) (memA A (lessI now x))
        exact ⟨T, R, TrO.good hf h⟩
/-- The run of a search with n elements. -/
def Trc (f : List Int → Bool) (n : Nat) (T : List (List Int)) (R : List Int) : Prop := if n ≤ 5 then trF f n (fromK n 0) [] = (T, R) else TrO f (upto n) true [] [] T R
theorem trc_ex (f : List Int → Bool) (n : Nat) : ∃ T R, Trc f n T R := by
  unfold Trc
  by_cases h : n ≤ 5
  · simp only [if_pos h]
    exact ⟨_, _, rfl⟩
  · simp only [if_neg h]
    exact trO_ex f _ (upto n) true (Nat.le_refl _) (upto_nodup n) [] (by simp) (by simp) []
/-- Behind i answers the search is where the run was. -/
theorem Trc.leads {f : List Int → Bool} {n : Nat} {T : List (List Int)} {R : List Int} (h : Trc f n T R) (i : Nat) : Leads ((T.take i).map (ans f)) n (stAt T R i) := by
  unfold Trc at h
  unfold Leads
  by_cases h5 : n ≤ 5
  · rw [if_pos h5] at h ⊢
    have := trF_run f n i (fromK n 0) [] (Nat.zero_le _)
    rw [h] at this
    exact this.symm
  · rw [if_neg h5] at h ⊢
    exact h.run i (Nat.zero_le _)
theorem trF_nodup (f : List Int → Bool) (n : Nat) : ∀ (l A : List (List Int)), A.Nodup → (trF f n l A).1.Nodup
  | [], A, h => h
  | s :: r, A, h => by
    rw [trF]
    split
    · exact memA_nodup h s
    · exact trF_nodup f n r _ (memA_nodup h s)
theorem TrO.nodup {f : List Int → Bool} {now r : List Int} {ch : Bool} {A T : List (List Int)} {R : List Int} (h : TrO f now ch r A T R) : A.Nodup → T.Nodup := by
  induction h with
  | bad _ _ ih => exact fun hA => ih (memA_nodup hA _)
  | good _ _ ih => exact fun hA => ih (memA_nodup hA _)
  | again _ ih => exact ih
  | fin => exact fun h => h
/-- No set is asked twice. -/
theorem Trc.nodup {f : List Int → Bool} {n : Nat} {T : List (List Int)} {R : List Int} (h : Trc f n T R) : T.Nodup := by
  unfold Trc at h
  split at h
  · have := trF_nodup f n (fromK n 0) [] List.nodup_nil
    rwa [h] at this
  · exact h.nodup List.nodup_nil
theorem trF_len (f : List Int → Bool) (n : Nat) : ∀ (l A : List (List Int)), (trF f n l A).1.length ≤ A.length + l.length
  | [], A => by simp [trF]
  | s :: r, A => by
    have := memA_len A s
    rw [trF]
    split
    · simp only [List.length_cons]; omega
    · have := trF_len f n r (memA A s)
      simp only [List.length_cons]; omega
def tri (m : Nat) : Nat := m * (m + 1) / 2
theorem tri_succ (m : Nat) : tri (m + 1) = tri m + (m + 1) := by
  unfold tri
  rw [show (m + 1) * (m + 1 + 1) = m * (m + 1) + (m + 1) * 2 by rw [Nat.mul_add (m + 1)]; simp [Nat.mul_add, Nat.add_mul]; omega, Nat.add_mul_div_right _ _ (by decide)]
/-- Sets that are still to be asked. -/
def cand (A : List (List Int)) (now : List Int) : Nat := now.countP fun x => !decide (lessI now x ∈ A)
theorem cand_le (A : List (List Int)) (now : List Int) : cand A now ≤ now.length := List.countP_le_length
theorem cand_step {A : List (List Int)} {now : List Int} {x : Int} (h : x ∈ now) : (memA A (lessI now x)).length + cand (memA A (lessI now x)) now ≤ A.length + cand A now := by
  by_cases hs : lessI now x ∈ A
  · have : memA A (lessI now x) = A := by unfold memA; rw [if_pos hs]
    rw [this]
    exact Nat.le_refl _
  · have e : memA A (lessI now x) = A ++ [lessI now x] := by unfold memA; rw [if_neg hs]
    have hlt : cand (memA A (lessI now x)) now < cand A now := by
      obtain ⟨a, b, rfl⟩ := List.append_of_mem h
      unfold cand
      have hmono : ∀ l : List Int, l.countP (fun y => !decide (lessI (a ++ x :: b) y ∈ memA A (lessI (a ++ x :: b) x))) ≤ l.countP (fun y => !decide (lessI (a ++ x :: b) y ∈ A)) := fun l => by
        refine List.countP_mono_left (fun y _ hy => ?_)
        simp only [Bool.not_eq_true', decide_eq_false_iff_not] at hy ⊢
        exact fun h2 => hy (mem_memA.2 (.inl h2))
      have h1 := hmono a
      have h2 := hmono b
      rw [List.countP_append, List.countP_append, List.countP_cons_of_neg (by simp [mem_memA]), List.countP_cons_of_pos (by simpa using hs)]
      omega
    rw [e, List.length_append, List.length_singleton, ← e]
    omega
theorem TrO.len {f : List Int → Bool} {now r : List Int} {ch : Bool} {A T : List (List Int)} {R : List Int} (h : TrO f now ch r A T R) : now.Nodup → r.Nodup → (∀ y ∈ r, y ∈ now) → T.length ≤ A.length + cand A now + tri (now.length - 1) := by
  induction h with
  | @bad now ch x r A T R hf h ih =>
    intro hd hr hin
    have hx := hin x (by simp)
    obtain ⟨hxr, hr'⟩ := List.nodup_cons.1 hr
    have h1 := ih (lessI_nodup hd) hr' (fun y hy => mem_lessI.2 ⟨hin y (by simp [hy]), fun e => hxr (e ▸ hy)⟩)
    have h2 := cand_step (A := A) hx
    have h3 := cand_le (memA A (lessI now x)) (lessI now x)
    have h4 : (lessI now x).length < now.length := lessI_lt hx
    have h5 : (lessI now x).length + tri ((lessI now x).length - 1) ≤ tri (now.length - 1) := by
      rcases Nat.eq_zero_or_pos (lessI now x).length with h0 | h0
      · rw [h0]
        exact Nat.zero_le _
      · have e : (lessI now x).length = ((lessI now x).length - 1) + 1 := by omega
        have h6 : tri (lessI now x).length = tri ((lessI now x).length - 1) + (lessI now x).length := by
          rw [e, tri_succ]
          simp
        have h7 : tri (lessI now x).length ≤ tri (now.length - 1) := by
          unfold tri
          exact Nat.div_le_div_right (Nat.mul_le_mul (by omega) (by omega))
        omega
    omega
  | @good now ch x r A T R hf h ih =>
    intro hd hr hin
    have hx := hin x (by simp)
    have h1 := ih hd (List.nodup_cons.1 hr).2 (fun y hy => hin y (by simp [hy]))
    have h2 := cand_step (A := A) hx
    omega
  | again _ ih => exact fun hd _ _ => ih hd hd (fun y h => h)
  | fin => exact fun _ _ _ => by omega
theorem fromK_len : ∀ n < 6, (fromK n 0).length = 2 ^ n - 1 := by decide +kernel
/-- Questions are few. -/
theorem Trc.len {f : List Int → Bool} {n : Nat} {T : List (List Int)} {R : List Int} (h : Trc f n T R) : T.length ≤ if n ≤ 5 then 2 ^ n - 1 else n * (n + 1) / 2 := by
  unfold Trc at h
  split at h
  · rename_i h5
    rw [if_pos h5, ← fromK_len n (by omega)]
    have := trF_len f n (fromK n 0) []
    rw [h] at this
    simpa using this
  · rename_i h5
    rw [if_neg h5]
    have h1 := h.len (upto_nodup n) List.nodup_nil (by simp)
    have h2 := cand_le [] (upto n)
    rw [upto_length] at h1 h2
    have e : n = (n - 1) + 1 := by omega
    have h6 : tri n = tri (n - 1) + n := by
      rw [e, tri_succ]
      simp
    show T.length ≤ tri n
    simp only [List.length_nil] at h1
    omega
theorem Trc.len60 {f : List Int → Bool} {n : Nat} {T : List (List Int)} {R : List Int} (h : Trc f n T R) (hn : n ≤ 10) : T.length ≤ 55 := by
  have := h.len
  split at this
  · rename_i h5
    have h2 : 2 ^ n ≤ 2 ^ 5 := Nat.pow_le_pow_right (by decide) h5
    omega
  · have h2 : n * (n + 1) ≤ 10 * 11 := Nat.mul_le_mul hn (by omega)
    omega
end Go.Proofs.Ytnjcoejnknpfoaa
