/-
  TopNoRewriting: if a proof says that a ledger continues another one, though its first records are different ones, two different strings with the same digest are among those that are hashed.
-/
import Derived.Test.YtbghpjedldhnhaaTopBase
import Derived.Test.YtbghpjedldhnhaaLedExtends
import Derived.Lib.AppendZeros
import Derived.Test.YtbghpjedldhnhaaLedGrowOwn
import Derived.Maps.OwnSet
import Derived.Maps.Views
import Derived.DeepKeys4
import Derived.Test.YtbghpjedldhnhaaDigBox
import Derived.Test.YtbghpjedldhnhaaMixF
import Derived.Test.YtbghpjedldhnhaaLedHead
import Derived.Test.YtbghpjedldhnhaaSl
import Derived.Test.YtbghpjedldhnhaaLawLed
import Derived.Test.YtbghpjedldhnhaaLawDig
namespace Go.Proofs.Ytbghpjedldhnhaa
open Go.RowKit

def Clash2 (S : List (List UInt8)) : Prop := ∃ x y, x ∈ S ∧ y ∈ S ∧ x ≠ y ∧ ofU x = ofU y
theorem Clash2.mono {S T : List (List UInt8)} (h : Clash2 S) (hs : ∀ x ∈ S, x ∈ T) : Clash2 T := by
  obtain ⟨x, y, h1, h2, h3, h4⟩ := h
  exact ⟨x, y, hs x h1, hs y h2, h3, h4⟩
/-- The strings that are hashed for the root of texts. -/
def strB (l : List (List UInt8)) : List (List UInt8) :=
  if _h : 2 ≤ l.length then strB (l.take (halfN l.length)) ++ strB (l.drop (halfN l.length)) ++ [nodeS (ofU ((strB (l.take (halfN l.length))).getLastD [])) (ofU ((strB (l.drop (halfN l.length))).getLastD []))]
  else match l with
    | [] => [[]]
    | t :: _ => [t, leafS (ofU t)]
termination_by l.length
decreasing_by all_goals (have := halfN_lt _h; have := halfN_pos l.length; simp; omega)
theorem strB_nil : strB [] = [[]] := by rw [strB]; simp
theorem strB_one (t : List UInt8) : strB [t] = [t, leafS (ofU t)] := by rw [strB]; simp
theorem strB_more {l : List (List UInt8)} (h : 2 ≤ l.length) : strB l = strB (l.take (halfN l.length)) ++ strB (l.drop (halfN l.length)) ++ [nodeS (ofU ((strB (l.take (halfN l.length))).getLastD [])) (ofU ((strB (l.drop (halfN l.length))).getLastD []))] := by rw [strB, dif_pos h]
theorem strB_len (m : Nat) : ∀ l : List (List UInt8), l.length ≤ m → 1 ≤ (strB l).length ∧ (strB l).length ≤ 3 * l.length + 1 ∧ (1 ≤ l.length → (strB l).length + 1 ≤ 3 * l.length) := by
  induction m with
  | zero =>
    intro l h
    obtain rfl := List.eq_nil_of_length_eq_zero (by omega : l.length = 0)
    rw [strB_nil]
    simp
  | succ m ih =>
    intro l h
    by_cases h2 : 2 ≤ l.length
    · have hk0 := halfN_pos l.length
      have hk1 := halfN_lt h2
      have a := ih (l.take (halfN l.length)) (by simp; omega)
      have b := ih (l.drop (halfN l.length)) (by simp; omega)
      rw [strB_more h2]
      simp at a b ⊢
      omega
    · match l, h2 with
      | [], _ => rw [strB_nil]; simp
      | [t], _ => rw [strB_one]; simp
      | _ :: _ :: _, h2 => simp at h2
theorem pair_node (a b : Dg) : ofU (nodeS a b) = pairD a b := rfl
theorem strB_last (m : Nat) : ∀ l : List (List UInt8), l.length ≤ m → ofU ((strB l).getLastD []) = rootD (l.map ofU) := by
  induction m with
  | zero =>
    intro l h
    obtain rfl := List.eq_nil_of_length_eq_zero (by omega : l.length = 0)
    rw [strB_nil]
    show ofU [] = _
    rw [List.map_nil, rootD_nil]
  | succ m ih =>
    intro l h
    by_cases h2 : 2 ≤ l.length
    · have hk0 := halfN_pos l.length
      have hk1 := halfN_lt h2
      rw [strB_more h2, List.getLastD_concat, ih _ (by simp; omega), ih _ (by simp; omega), rootD_more (l := l.map ofU) (by simpa using h2), List.length_map, List.map_take, List.map_drop, pair_node]
    · match l, h2 with
      | [], _ => rw [strB_nil]; show ofU [] = _; rw [List.map_nil, rootD_nil]
      | [t], _ => rw [strB_one]; show ofU (leafS _) = _; rw [List.map_cons, List.map_nil, rootD_one]; rfl
      | _ :: _ :: _, h2 => simp at h2
theorem strB_top {l : List (List UInt8)} (h : 2 ≤ l.length) : nodeS (rootD ((l.map ofU).take (halfN l.length))) (rootD ((l.map ofU).drop (halfN l.length))) ∈ strB l := by
  rw [strB_more h, strB_last _ _ (Nat.le_refl _), strB_last _ _ (Nat.le_refl _), List.map_take, List.map_drop]
  simp
theorem strB_take {l : List (List UInt8)} (h : 2 ≤ l.length) : ∀ x ∈ strB (l.take (halfN l.length)), x ∈ strB l := fun x hx => by
  rw [strB_more h]
  simp [hx]
theorem strB_drop {l : List (List UInt8)} (h : 2 ≤ l.length) : ∀ x ∈ strB (l.drop (halfN l.length)), x ∈ strB l := fun x hx => by
  rw [strB_more h]
  simp [hx]
theorem roots_clash (m : Nat) : ∀ A B : List (List UInt8), A.length ≤ m → A.length = B.length → rootD (A.map ofU) = rootD (B.map ofU) → A ≠ B → Clash2 (strB A ++ strB B) := by
  induction m with
  | zero =>
    intro A B h hl _ hne
    exact absurd ((List.eq_nil_of_length_eq_zero (by omega : A.length = 0)).trans (List.eq_nil_of_length_eq_zero (by omega : B.length = 0)).symm) hne
  | succ m ih =>
    intro A B h hl he hne
    by_cases h2 : 2 ≤ A.length
    · have h2' : 2 ≤ B.length := by omega
      have hk0 := halfN_pos A.length
      have hk1 := halfN_lt h2
      have tA := strB_top h2
      have tB := strB_top h2'
      rw [rootD_more (l := A.map ofU) (by simpa using h2), rootD_more (l := B.map ofU) (by simpa using h2'), List.length_map, List.length_map, ← pair_node, ← pair_node] at he
      by_cases hn : nodeS (rootD ((A.map ofU).take (halfN A.length))) (rootD ((A.map ofU).drop (halfN A.length))) = nodeS (rootD ((B.map ofU).take (halfN B.length))) (rootD ((B.map ofU).drop (halfN B.length)))
      · obtain ⟨e1, e2⟩ := nodeS_inj hn
        rw [← List.map_take, ← List.map_take] at e1
        rw [← List.map_drop, ← List.map_drop] at e2
        by_cases ht : A.take (halfN A.length) = B.take (halfN B.length)
        · by_cases hd : A.drop (halfN A.length) = B.drop (halfN B.length)
          · exact absurd (by rw [← List.take_append_drop (halfN A.length) A, ht, hd, List.take_append_drop]) hne
          · refine (ih _ _ (by simp; omega) (by simp [hl]) e2 hd).mono fun x hx => ?_
            rcases List.mem_append.1 hx with hx | hx
            · exact List.mem_append.2 (.inl (strB_drop h2 x hx))
            · exact List.mem_append.2 (.inr (strB_drop h2' x hx))
        · refine (ih _ _ (by simp; omega) (by simp [hl]) e1 ht).mono fun x hx => ?_
          rcases List.mem_append.1 hx with hx | hx
          · exact List.mem_append.2 (.inl (strB_take h2 x hx))
          · exact List.mem_append.2 (.inr (strB_take h2' x hx))
      · exact ⟨_, _, List.mem_append.2 (.inl tA), List.mem_append.2 (.inr tB), hn, he⟩
    · match A, B, h2, hl with
      | [], [], _, _ => exact absurd rfl hne
      | [t], [u], _, _ =>
        rw [List.map_cons, List.map_nil, List.map_cons, List.map_nil, rootD_one, rootD_one] at he
        rw [strB_one, strB_one]
        by_cases hd : ofU t = ofU u
        · exact ⟨t, u, by simp, by simp, fun e => hne (by rw [e]), hd⟩
        · exact ⟨leafS (ofU t), leafS (ofU u), by simp, by simp, fun e => hd (leafS_inj e), he⟩
      | _ :: _ :: _, _, h2, _ => simp at h2
/-- The strings that are hashed when a growth proof is checked, and the two roots. -/
def prB (n m : Nat) (old : Dg) (p : List Dg) (whole : Bool) : List (List UInt8) × Dg × Dg :=
  if n = m ∧ whole = true then ([], old, old)
  else if _h : p.length = 0 then ([], old, old)
  else if n = m then ([], p.getLastD (0, 0), p.getLastD (0, 0))
  else if n ≤ halfN m then ((prB n (halfN m) old p.dropLast whole).1 ++ [nodeS (prB n (halfN m) old p.dropLast whole).2.2 (p.getLastD (0, 0))], (prB n (halfN m) old p.dropLast whole).2.1, ofU (nodeS (prB n (halfN m) old p.dropLast whole).2.2 (p.getLastD (0, 0))))
  else ((prB (n - halfN m) (m - halfN m) old p.dropLast false).1 ++ [nodeS (p.getLastD (0, 0)) (prB (n - halfN m) (m - halfN m) old p.dropLast false).2.1, nodeS (p.getLastD (0, 0)) (prB (n - halfN m) (m - halfN m) old p.dropLast false).2.2], ofU (nodeS (p.getLastD (0, 0)) (prB (n - halfN m) (m - halfN m) old p.dropLast false).2.1), ofU (nodeS (p.getLastD (0, 0)) (prB (n - halfN m) (m - halfN m) old p.dropLast false).2.2))
termination_by p.length
decreasing_by all_goals (simp; omega)
theorem prB_whole (n : Nat) (old : Dg) (p : List Dg) : prB n n old p true = ([], old, old) := by rw [prB, if_pos ⟨rfl, rfl⟩]
theorem prB_nil (n m : Nat) (old : Dg) (whole : Bool) : prB n m old [] whole = ([], old, old) := by
  rw [prB]
  split
  · rfl
  · rw [dif_pos (show ([] : List Dg).length = 0 from rfl)]
theorem prB_same (n : Nat) (old : Dg) (q : List Dg) (e : Dg) : prB n n old (q ++ [e]) false = ([], e, e) := by
  rw [prB, if_neg (by simp), dif_neg (by simp), if_pos rfl]
  simp
theorem prB_lo {n m : Nat} (h : n ≠ m) (hk : n ≤ halfN m) (whole : Bool) (old : Dg) (q : List Dg) (e : Dg) : prB n m old (q ++ [e]) whole = ((prB n (halfN m) old q whole).1 ++ [nodeS (prB n (halfN m) old q whole).2.2 e], (prB n (halfN m) old q whole).2.1, ofU (nodeS (prB n (halfN m) old q whole).2.2 e)) := by
  rw [prB, if_neg (fun x => h x.1), dif_neg (by simp), if_neg h, if_pos hk]
  simp
theorem prB_hi {n m : Nat} (h : n ≠ m) (hk : ¬ n ≤ halfN m) (whole : Bool) (old : Dg) (q : List Dg) (e : Dg) : prB n m old (q ++ [e]) whole = ((prB (n - halfN m) (m - halfN m) old q false).1 ++ [nodeS e (prB (n - halfN m) (m - halfN m) old q false).2.1, nodeS e (prB (n - halfN m) (m - halfN m) old q false).2.2], ofU (nodeS e (prB (n - halfN m) (m - halfN m) old q false).2.1), ofU (nodeS e (prB (n - halfN m) (m - halfN m) old q false).2.2)) := by
  rw [prB, if_neg (fun x => h x.1), dif_neg (by simp), if_neg h, if_neg hk]
  simp
theorem prB_len (m0 : Nat) : ∀ (p : List Dg) (n m : Nat) (old : Dg) (whole : Bool), p.length ≤ m0 → (prB n m old p whole).1.length ≤ 2 * p.length := by
  induction m0 with
  | zero =>
    intro p n m old whole h
    obtain rfl := List.eq_nil_of_length_eq_zero (by omega : p.length = 0)
    rw [prB_nil]
    simp
  | succ m0 ih =>
    intro p n m old whole h
    rcases List.eq_nil_or_concat p with rfl | ⟨q, e, hqe⟩
    · rw [prB_nil]; simp
    · rw [List.concat_eq_append] at hqe
      subst hqe
      have hq : q.length ≤ m0 := by simp at h; omega
      by_cases hne : n = m
      · subst hne
        cases whole with
        | true => rw [prB_whole]; simp
        | false => rw [prB_same]; simp
      · by_cases hk : n ≤ halfN m
        · rw [prB_lo hne hk]
          have := ih q n (halfN m) old whole hq
          simp
          omega
        · rw [prB_hi hne hk]
          have := ih q (n - halfN m) (m - halfN m) old false hq
          simp
          omega
theorem pr_roots (m0 : Nat) : ∀ (p : List Dg) (n m : Nat) (old : Dg) (whole : Bool), p.length ≤ m0 → (rootsD fstL n m whole old p).2.2 = true → (prB n m old p whole).2.1 = (rootsD fstL n m whole old p).1 ∧ (prB n m old p whole).2.2 = (rootsD fstL n m whole old p).2.1 := by
  induction m0 with
  | zero =>
    intro p n m old whole h hok
    obtain rfl := List.eq_nil_of_length_eq_zero (by omega : p.length = 0)
    by_cases hw : n = m ∧ whole = true
    · obtain ⟨rfl, rfl⟩ := hw
      rw [prB_nil, rootsD_whole]
      exact ⟨rfl, rfl⟩
    · rw [rootsD_nil _ hw] at hok
      cases hok
  | succ m0 ih =>
    intro p n m old whole h hok
    by_cases hw : n = m ∧ whole = true
    · obtain ⟨rfl, rfl⟩ := hw
      rw [prB_whole, rootsD_whole]
      exact ⟨rfl, rfl⟩
    rcases List.eq_nil_or_concat p with rfl | ⟨q, e, hqe⟩
    · rw [rootsD_nil _ hw] at hok
      cases hok
    · rw [List.concat_eq_append] at hqe
      subst hqe
      have hq : q.length ≤ m0 := by simp at h; omega
      by_cases hne : n = m
      · subst hne
        cases whole with
        | true => exact absurd ⟨rfl, rfl⟩ hw
        | false =>
          rw [rootsD_same] at hok ⊢
          have h0 : q.length = 0 := of_decide_eq_true hok
          obtain rfl := List.eq_nil_of_length_eq_zero h0
          rw [prB_same]
          exact ⟨rfl, rfl⟩
      · by_cases hk : n ≤ halfN m
        · rw [rootsD_lo _ hne hk] at hok ⊢
          rw [prB_lo hne hk]
          have i := ih q n (halfN m) old whole hq
          generalize rootsD fstL n (halfN m) whole old q = R at *
          generalize prB n (halfN m) old q whole = Q at *
          obtain ⟨r1, r2, r3⟩ := R
          obtain ⟨q1, q2, q3⟩ := Q
          simp only at hok i ⊢
          obtain ⟨i1, i2⟩ := i hok
          rw [pair_node, i1, i2]
          exact ⟨rfl, rfl⟩
        · rw [rootsD_hi _ hne hk] at hok ⊢
          rw [prB_hi hne hk]
          have i := ih q (n - halfN m) (m - halfN m) old false hq
          generalize rootsD fstL (n - halfN m) (m - halfN m) false old q = R at *
          generalize prB (n - halfN m) (m - halfN m) old q false = Q at *
          obtain ⟨r1, r2, r3⟩ := R
          obtain ⟨q1, q2, q3⟩ := Q
          simp only at hok i ⊢
          obtain ⟨i1, i2⟩ := i hok
          rw [pair_node, pair_node, i1, i2]
          exact ⟨rfl, rfl⟩
theorem grow_clash (m0 : Nat) : ∀ (p : List Dg) (n m : Nat) (old : Dg) (whole : Bool) (A B : List (List UInt8)), p.length ≤ m0 → A.length = n → B.length = m → 1 ≤ n → n ≤ m → (rootsD fstL n m whole old p).2.2 = true → (rootsD fstL n m whole old p).1 = rootD (A.map ofU) → (rootsD fstL n m whole old p).2.1 = rootD (B.map ofU) → A ≠ B.take n →
    Clash2 ((prB n m old p whole).1 ++ (strB A ++ strB B)) := by
  have eqcase : ∀ (p : List Dg) (n : Nat) (old : Dg) (whole : Bool) (A B : List (List UInt8)) (f : Dg), A.length = n → B.length = n → f = rootD (A.map ofU) → f = rootD (B.map ofU) → A ≠ B.take n → Clash2 ((prB n n old p whole).1 ++ (strB A ++ strB B)) := by
    intro p n old whole A B f hA hB h1 h2 hne
    rw [List.take_of_length_le (by omega)] at hne
    exact (roots_clash n A B (by omega) (by omega) (h1.symm.trans h2) hne).mono fun x hx => List.mem_append.2 (.inr hx)
  induction m0 with
  | zero =>
    intro p n m old whole A B h hA hB h1 hnm hok e1 e2 hne
    obtain rfl := List.eq_nil_of_length_eq_zero (by omega : p.length = 0)
    by_cases hw : n = m ∧ whole = true
    · obtain ⟨rfl, rfl⟩ := hw
      rw [rootsD_whole] at e1 e2
      exact eqcase _ _ _ _ _ _ _ hA hB e1 e2 hne
    · rw [rootsD_nil _ hw] at hok
      cases hok
  | succ m0 ih =>
    intro p n m old whole A B h hA hB h1 hnm hok e1 e2 hne
    by_cases hw : n = m ∧ whole = true
    · obtain ⟨rfl, rfl⟩ := hw
      rw [rootsD_whole] at e1 e2
      exact eqcase _ _ _ _ _ _ _ hA hB e1 e2 hne
    rcases List.eq_nil_or_concat p with rfl | ⟨q, e, hqe⟩
    · rw [rootsD_nil _ hw] at hok
      cases hok
    rw [List.concat_eq_append] at hqe
    subst hqe
    have hq : q.length ≤ m0 := by simp at h; omega
    by_cases hnm' : n = m
    · subst hnm'
      cases whole with
      | true => exact absurd ⟨rfl, rfl⟩ hw
      | false =>
        rw [rootsD_same] at e1 e2
        exact eqcase _ _ _ _ _ _ _ hA hB e1 e2 hne
    have h2 : 2 ≤ B.length := by omega
    have hk0 := halfN_pos m
    have hk1 : halfN m < m := halfN_lt (by omega)
    have hk2 := halfN_ge (n := m) (by omega)
    have tB := strB_top h2
    have rB := rootD_more (l := B.map ofU) (by simpa using h2)
    rw [List.length_map] at rB
    rw [hB] at tB rB
    by_cases hk : n ≤ halfN m
    · rw [rootsD_lo _ hnm' hk] at hok e1 e2
      have pr := pr_roots q.length q n (halfN m) old whole (Nat.le_refl _)
      have IH := fun a b => ih q n (halfN m) old whole A (B.take (halfN m)) hq hA (by simp; omega) h1 hk a b
      rw [prB_lo hnm' hk]
      generalize rootsD fstL n (halfN m) whole old q = R at *
      generalize prB n (halfN m) old q whole = Q at *
      obtain ⟨r1, r2, r3⟩ := R
      obtain ⟨q1, q2, q3⟩ := Q
      simp only at hok e1 e2 pr IH ⊢
      obtain ⟨rfl, rfl⟩ := pr hok
      by_cases hs : nodeS q3 e = nodeS (rootD ((B.map ofU).take (halfN m))) (rootD ((B.map ofU).drop (halfN m)))
      · obtain ⟨s1, s2⟩ := nodeS_inj hs
        rw [← List.map_take] at s1
        refine (IH hok e1 s1 (by rw [List.take_take, Nat.min_eq_left hk]; exact hne)).mono fun x hx => ?_
        rcases List.mem_append.1 hx with hx | hx
        · simp [hx]
        · rcases List.mem_append.1 hx with hx | hx
          · simp [hx]
          · have := strB_take h2 x (by rw [hB]; exact hx)
            simp [this]
      · refine ⟨_, _, ?_, ?_, hs, by rw [pair_node, pair_node]; exact e2.trans rB⟩
        · simp
        · simp [tB]
    · rw [rootsD_hi _ hnm' hk] at hok e1 e2
      have pr := pr_roots q.length q (n - halfN m) (m - halfN m) old false (Nat.le_refl _)
      have IH := fun a b c d => ih q (n - halfN m) (m - halfN m) old false (A.drop (halfN m)) (B.drop (halfN m)) hq (by simp; omega) (by simp; omega) (by omega) (by omega) a b c d
      rw [prB_hi hnm' hk]
      generalize rootsD fstL (n - halfN m) (m - halfN m) false old q = R at *
      generalize prB (n - halfN m) (m - halfN m) old q false = Q at *
      obtain ⟨r1, r2, r3⟩ := R
      obtain ⟨q1, q2, q3⟩ := Q
      simp only at hok e1 e2 pr IH ⊢
      obtain ⟨rfl, rfl⟩ := pr hok
      have hh : halfN m = halfN n := halfN_eq rfl (by omega) (by omega)
      have h2A : 2 ≤ A.length := by omega
      have tA := strB_top h2A
      have rA := rootD_more (l := A.map ofU) (by simpa using h2A)
      rw [List.length_map] at rA
      rw [hA, ← hh] at tA rA
      by_cases hs : nodeS e q3 = nodeS (rootD ((B.map ofU).take (halfN m))) (rootD ((B.map ofU).drop (halfN m)))
      · by_cases ht : nodeS e q2 = nodeS (rootD ((A.map ofU).take (halfN m))) (rootD ((A.map ofU).drop (halfN m)))
        · obtain ⟨s1, s2⟩ := nodeS_inj hs
          obtain ⟨t1, t2⟩ := nodeS_inj ht
          rw [← List.map_take] at s1 t1
          rw [← List.map_drop] at s2 t2
          by_cases hx : A.take (halfN m) = B.take (halfN m)
          · refine (IH hok t2 s2 ?_).mono fun x hx => ?_
            · intro he
              apply hne
              rw [← List.take_append_drop (halfN m) A, hx, he, ← List.drop_take]
              have := List.take_append_drop (halfN m) (B.take n)
              rw [List.take_take, Nat.min_eq_left (by omega)] at this
              exact this
            · rcases List.mem_append.1 hx with hx | hx
              · simp [hx]
              · rcases List.mem_append.1 hx with hx | hx
                · have := strB_drop h2A x (by rw [hA, ← hh]; exact hx)
                  simp [this]
                · have := strB_drop h2 x (by rw [hB]; exact hx)
                  simp [this]
          · refine (roots_clash (halfN m) (A.take (halfN m)) (B.take (halfN m)) (by simp; omega) (by simp; omega) (t1.symm.trans s1) hx).mono fun x hx => ?_
            rcases List.mem_append.1 hx with hx | hx
            · have := strB_take h2A x (by rw [hA, ← hh]; exact hx)
              simp [this]
            · have := strB_take h2 x (by rw [hB]; exact hx)
              simp [this]
        · refine ⟨_, _, ?_, ?_, ht, by rw [pair_node, pair_node]; exact e1.trans rA⟩
          · simp
          · simp [tA]
      · refine ⟨_, _, ?_, ?_, hs, by rw [pair_node, pair_node]; exact e2.trans rB⟩
        · simp
        · simp [tB]
end Go.Proofs.Ytbghpjedldhnhaa

namespace Go.Proofs.Ytbghpjedldhnhaa
open Go.RowKit

set_option maxRecDepth 100000 in
set_option maxHeartbeats 4000000 in
theorem Grow_nil (n : Nat) (w : World) (h0 : 0 < n) (h1 : n ≤ 100000) :
    Calls Try.prog 27 #[.slice none 0 0, .int .i64 n] w fun e w' => ∃ v', e = .returned v' ∧ w'.ownsRow w.heap.size 9 1 v' 0 [] ∧ Below w.heap.size w w' := by
  obtain ⟨i, hi, hz0, hz1, hz2⟩ := info_parts info_txt
  have d0 : decide ((n : Int) < 0) = false := by simp
  have d1 : decide ((0 : Int) < (n : Int)) = true := by simp; omega
  have HR := Lib.run_append_nil_zeros (P := Try.prog) w 37 3 37 9 i (.string ⟨#[]⟩) .i64 .i64 Try.underlying37 Try.underlying3 hi hz0 n h0 (by omega) (by omega) (by rw [hz2]; omega)
  have hg := grownCap_ge w n 0 9
  have hm := grownCap_le_maxLen w n 0 9 (by simp only [maxLen]; omega)
  generalize hG : grownCap w n 0 9 = G at *
  have hown : (w.drew.alloc (.cells (Builtin.zeroCells (Value.string ⟨#[]⟩).cells n ++ Builtin.zeroCells (Value.string ⟨#[]⟩).cells (G - n)) 9)).ownsRow w.heap.size 9 1 (.slice (some ⟨w.heap.size, 0, none⟩) 0 G) 0 [] :=
    World.ownsRow_made w.drew _ G (Nat.le_refl _) hm (by rw [Array.size_append, size_zeroCells, size_zeroCells]; simp [Value.cells]; omega)
  have hb : Below w.heap.size w (w.drew.alloc (.cells (Builtin.zeroCells (Value.string ⟨#[]⟩).cells n ++ Builtin.zeroCells (Value.string ⟨#[]⟩).cells (G - n)) 9)) := (Below.refl _ _).drew.alloc (Nat.le_refl _) _
  generalize w.drew.alloc (.cells (Builtin.zeroCells (Value.string ⟨#[]⟩).cells n ++ Builtin.zeroCells (Value.string ⟨#[]⟩).cells (G - n)) 9) = W at *
  clear hi hz0 hz1 hz2 hG
  go_enter Try.func27, Try.ntmps27
  go_wp2_with (at_builtin; go_must (refine Lib.wpList_append_run _ rfl _ _ 37 3 rfl _ _ rfl rfl _ _ HR ?_))
  go_wp2_with fail
  go_ret
  exact ⟨_, rfl, hown, hb⟩

/-- A row of strings that lies in a slice. -/
abbrev SRow := Option Addr × Nat × List (List UInt8)
def RowIn (w : World) (x : SRow) : Prop := Sl w 1 x.1 x.2.2.length (bcells x.2.2) ∧ (x.1 = none → x.2.1 = 0)
theorem RowIn.below {w w' : World} {x : SRow} (h : RowIn w x) (hb : Below w.heap.size w w') : RowIn w' x := ⟨h.1.below hb, h.2⟩
def joinS (R : List SRow) : List (List UInt8) := R.flatMap fun x => x.2.2
theorem joinS_take {R : List SRow} {k : Nat} (h : k < R.length) : joinS (R.take (k + 1)) = joinS (R.take k) ++ (R[k]).2.2 := by
  unfold joinS
  rw [List.take_succ_eq_append_getElem h, List.flatMap_append]
  congr 1
  simp
theorem joinS_le (R : List SRow) (k : Nat) : (joinS (R.take k)).length ≤ (joinS R).length := by
  have := congrArg joinS (List.take_append_drop k R)
  have h2 : joinS (R.take k ++ R.drop k) = joinS (R.take k) ++ joinS (R.drop k) := by unfold joinS; rw [List.flatMap_append]
  rw [h2] at this
  rw [← this, List.length_append]
  omega
theorem bcells_one (L : List (List UInt8)) : ∀ u ∈ bcells L, u.oneCell' = true := by
  intro u hu
  simp only [bcells, List.mem_map] at hu
  obtain ⟨r, _, rfl⟩ := hu
  rfl

set_option maxRecDepth 100000 in
set_option maxHeartbeats 8000000 in
theorem Concat_any (R : List SRow) (b : Nat) (w : World) (hb : b < w.heap.size) (hc : ∀ j (h : j < R.length), w.cell? ⟨b, j, none⟩ = some (.slice (R[j]).1 (R[j]).2.2.length (R[j]).2.1)) (hr : ∀ x ∈ R, RowIn w x) (hR : R.length ≤ 10) (hn : (joinS R).length ≤ 100000) (h0 : 0 < (joinS R).length) :
    Calls Try.prog 13 #[.slice (some ⟨b, 0, none⟩) R.length R.length] w fun e w' => ∃ v', e = .returned v' ∧ w'.ownsRow w.heap.size 9 1 v' (joinS R).length (bcells (joinS R)) ∧ Below w.heap.size w w' := by
  have HC := lid hc
  have HR := lid hr
  have HJ := lid (joinS_le R)
  have HT := lid (fun k (h : k < R.length) => joinS_take h)
  have HA : Hid (joinS (R.take R.length) = joinS R) := lid (by rw [List.take_length])
  obtain ⟨N, hN⟩ : ∃ N, (joinS R).length = N := ⟨_, rfl⟩
  obtain ⟨r, hrr⟩ : ∃ r, R.length = r := ⟨_, rfl⟩
  have HNN := lid hN
  have Hr := lid hrr
  rw [hN] at hn h0
  rw [hrr] at hR
  clear hc hr
  rw [hN, hrr]
  go_enter Try.func13, Try.ntmps13
  go_wp2_with fail
  go_loopw [3, 5, 11] (fun s _ i wr => ∃ (k : Nat), k ≤ r ∧ i = .int .i64 k ∧ s = .int .i64 ((joinS (R.take k)).length : Nat) ∧ wr = w) (fun _ _ i _ => r - (intOf i).toNat)
  case atStart => exact ⟨0, Nat.zero_le _, rfl, rfl, rfl⟩
  case round =>
    obtain ⟨k, hk, rfl, rfl, rfl⟩ := hrel
    by_cases hlt : k < r
    · have hkl : k < R.length := by rw [Hr.out]; exact hlt
      have c0 := HC.out k hkl
      have HS := lid (HT.out k hkl)
      have hl1 : (joinS (R.take (k + 1))).length ≤ N := by have := HJ.out (k + 1); rw [HNN.out] at this; exact this
      have hl2 : (joinS (R.take (k + 1))).length = (joinS (R.take k)).length + (R[k]).2.2.length := by rw [HS.out, List.length_append]
      obtain ⟨J0, hJ0⟩ : ∃ J0, (joinS (R.take k)).length = J0 := ⟨_, rfl⟩
      obtain ⟨m, hm⟩ : ∃ m, (R[k]).2.2.length = m := ⟨_, rfl⟩
      rw [hJ0, hm] at hl2
      rw [hm] at c0
      rw [hJ0]
      rw [hl2] at hl1
      have HL2 := lid hl2
      generalize (R[k]).2.1 = cp at *
      generalize (R[k]).1 = ao at *
      clear hJ0 hm hl2
      have dneg : decide ((J0 : Int) + (m : Int) < 0) = false := by simp; omega
      go_wp2_with fail
      go_roundw
      case rel => exact ⟨k + 1, by omega, by go_num, by rw [HL2.out]; go_num, trivial⟩
      case measure => simp [intOf]; omega
    · obtain rfl : k = r := by omega
      have HE : Hid ((joinS (R.take k)).length = N) := lid (by rw [← Hr.out, HA.out, HNN.out])
      rw [HE.out]
      go_wp2_with fail
      obtain ⟨w0, rfl⟩ : ∃ w0, w0 = wr := ⟨_, rfl⟩
      (with_reducible refine (Grow_nil N w0 h0 hn).mono ?_); rintro e w1 ⟨v1, rfl, hown1, hb1⟩
      go_wp2_with fail
      go_loopw [6, 8, 27] (fun v _ i w2 => ∃ (c : Nat), c ≤ k ∧ i = .int .i64 c ∧ Hid (w2.ownsRow w0.heap.size 9 1 v (joinS (R.take c)).length (bcells (joinS (R.take c)))) ∧ Below w0.heap.size w0 w2) (fun _ _ i _ => k - (intOf i).toNat)
      case atStart => exact ⟨0, Nat.zero_le _, rfl, lid hown1, hb1⟩
      case round =>
        obtain ⟨c, hc, rfl, HO, hb2⟩ := hrel
        by_cases hlt : c < k
        · have hcl : c < R.length := by rw [Hr.out]; exact hlt
          have c0 := (bc hb2 hb c).trans (HC.out c hcl)
          have hbr : b < wr.heap.size := by have := hb2.size; omega
          have HS := lid (HT.out c hcl)
          have HIN := lid ((HR.out (R[c]) (List.getElem_mem hcl)).below hb2)
          have hl1 : (joinS (R.take (c + 1))).length ≤ N := by have := HJ.out (c + 1); rw [HNN.out] at this; exact this
          have hl2 : (joinS (R.take (c + 1))).length = (joinS (R.take c)).length + (R[c]).2.2.length := by rw [HS.out, List.length_append]
          have dk : decide ((c : Int) < (k : Int)) = true := by simp; omega
          obtain ⟨x, hx⟩ : ∃ x, R[c] = x := ⟨_, rfl⟩
          rw [hx] at c0 HS HIN hl2
          obtain ⟨ao, cp, L⟩ := x
          simp only at c0 hl2
          rw [hl2] at hl1
          have HO' := HO.out
          obtain ⟨J, hJ⟩ : ∃ J, joinS (R.take c) = J := ⟨_, rfl⟩
          rw [hJ] at HS HO' hl1
          have HS2 : Hid (joinS (R.take (c + 1)) = J ++ L) := lid HS.out
          clear hx HS hl2 hJ HO
          go_wp2_with (at_builtin; go_must (refine wpList_append_sl rfl _ _ 37 rfl w0.heap.size 9 (.string ⟨#[]⟩) 1 16 info_txt Try.underlying37 rfl (by decide) _ _ _ HO' rfl ao L.length cp (bcells L) rfl HIN.out.1 HIN.out.2 (bcells_one L) (by simp only [maxLen]; omega) (by omega) hb2.size ?_))
          intro v5 w5 hown5 hb5
          go_wp2_with fail
          go_roundw
          case rel => exact ⟨c + 1, by omega, by go_num, lid (by rw [HS2.out, List.length_append, bcells_append]; exact hown5), hb2.trans hb5⟩
          case measure => simp [intOf]; omega
        · obtain rfl : c = k := by omega
          have hfin := HO.out
          rw [← Hr.out, HA.out, HNN.out] at hfin
          go_wp2_with fail
          go_ret
          exact ⟨_, rfl, hfin, hb2⟩
end Go.Proofs.Ytbghpjedldhnhaa

namespace Go.Proofs.Ytbghpjedldhnhaa
open Go.RowKit

theorem rcells_drop (l : List Rec) (k : Nat) : (rcells l).drop (k * 4) = rcells (l.drop k) := by
  induction l generalizing k with
  | nil => simp [rcells]
  | cons d l ih =>
    cases k with
    | zero => simp [rcells]
    | succ k =>
      have := ih k
      rw [show (k + 1) * 4 = k * 4 + 4 by omega]
      simpa [rcells] using this
theorem LedA.drop {w : World} {b o n cap : Nat} {l : List Rec} (h : LedA w (some ⟨b, o, none⟩) n cap l) {k : Nat} (hk : k < n) (hc : n ≤ cap) : LedA w (some ⟨b, o + k * 4, none⟩) (n - k) (cap - k) (l.drop k) := by
  have hs := h.sl.drop (k := k) (c := cap) (by omega) hc
  rw [if_neg (by omega), rcells_drop] at hs
  refine ⟨by rw [List.length_drop, h.len], ?_, fun r hr => h.sizes r (List.mem_of_mem_drop hr), by have := h.max; omega⟩
  have e : (some (⟨b, o, none⟩ : Addr)).map (·.add (k * 4)) = some ⟨b, o + k * 4, none⟩ := by rw [Option.map_some, Addr.add_lit]
  rw [e] at hs
  exact hs
theorem strB_size (m : Nat) : ∀ l : List (List UInt8), l.length ≤ m → (∀ t ∈ l, (bstr t).size ≤ maxLen) → ∀ x ∈ strB l, (bstr x).size ≤ maxLen := by
  have hn : ∀ a b : Dg, (bstr (nodeS a b)).size ≤ maxLen := fun a b => by simp [nodeS, bytesU_length, maxLen]
  have hf : ∀ a : Dg, (bstr (leafS a)).size ≤ maxLen := fun a => by simp [leafS, bytesU_length, maxLen]
  induction m with
  | zero =>
    intro l h ht x hx
    obtain rfl := List.eq_nil_of_length_eq_zero (by omega : l.length = 0)
    rw [strB_nil] at hx
    rw [List.mem_singleton.1 hx]
    simp
  | succ m ih =>
    intro l h ht x hx
    by_cases h2 : 2 ≤ l.length
    · have hk0 := halfN_pos l.length
      have hk1 := halfN_lt h2
      rw [strB_more h2] at hx
      rcases List.mem_append.1 hx with hx | hx
      · rcases List.mem_append.1 hx with hx | hx
        · exact ih _ (by simp; omega) (fun t h => ht t (List.mem_of_mem_take h)) x hx
        · exact ih _ (by simp; omega) (fun t h => ht t (List.mem_of_mem_drop h)) x hx
      · rw [List.mem_singleton.1 hx]
        exact hn _ _
    · match l, h2 with
      | [], _ => rw [strB_nil] at hx; rw [List.mem_singleton.1 hx]; simp
      | [t], _ =>
        rw [strB_one] at hx
        rcases List.mem_cons.1 hx with rfl | hx
        · exact ht _ (by simp)
        · rw [List.mem_singleton.1 hx]
          exact hf _
      | _ :: _ :: _, h2 => simp at h2
theorem texts_size (l : List Rec) : ∀ t ∈ l.map recL, (bstr t).size ≤ maxLen := by
  intro t ht
  obtain ⟨r, _, rfl⟩ := List.mem_map.1 ht
  exact recL_len _

set_option maxRecDepth 100000 in
set_option maxHeartbeats 16000000 in
theorem Strings_any (m : Nat) : ∀ (l : List Rec) (n cap : Nat) (ao : Option Addr) (w : World), n ≤ m → n ≤ 1000 → n ≤ cap → LedA w ao n cap l →
    Calls Try.prog 14 #[.slice ao n cap] w fun e w' => ∃ v', e = .returned v' ∧ w'.ownsRow w.heap.size 9 1 v' (strB (l.map recL)).length (bcells (strB (l.map recL))) ∧ Below w.heap.size w w' := by
  have nilcase : ∀ (l : List Rec) (cap : Nat) (ao : Option Addr) (w : World), LedA w ao 0 cap l →
      Calls Try.prog 14 #[.slice ao 0 cap] w fun e w' => ∃ v', e = .returned v' ∧ w'.ownsRow w.heap.size 9 1 v' (strB (l.map recL)).length (bcells (strB (l.map recL))) ∧ Below w.heap.size w w' := by
    intro l cap ao w h
    obtain rfl := List.eq_nil_of_length_eq_zero h.len
    have HV := lid strB_nil
    rw [List.map_nil]
    clear h
    go_enter Try.func14, Try.ntmps14
    go_wp2_with fail
    go_ret
    refine ⟨_, rfl, ?_, ba _ _⟩
    rw [HV.out]
    exact World.ownsRow_lit w #[.string ⟨#[]⟩] 1 (Nat.le_refl _) (by simp [maxLen]) rfl
  induction m with
  | zero =>
    intro l n cap ao w hm _ _ h
    obtain rfl : n = 0 := by omega
    exact nilcase l cap ao w h
  | succ m ih =>
    intro l n cap ao w hm hn hcap h
    by_cases h0 : n = 0
    · subst h0
      exact nilcase l cap ao w h
    have HA := lid h
    have HN := lid h.len
    obtain ⟨b, o, rfl, hlb, hcell⟩ := h.sl.at_ (k := 0) (by omega)
    by_cases h1 : n = 1
    · subst h1
      have hkl : 0 < l.length := by rw [HN.out]; omega
      have x0 := hcell (0 * 4 + 0) _ (rcells_at hkl).1
      have x1 := hcell (0 * 4 + 1) _ (rcells_at hkl).2.1
      have x2 := hcell (0 * 4 + 2) _ (rcells_at hkl).2.2.1
      have x3 := hcell (0 * 4 + 3) _ (rcells_at hkl).2.2.2
      have HRS := lid (h.sizes _ (List.getElem_mem hkl))
      have hl1 : l = [l[0]] := by
        match l, HN.out with
        | [r], _ => rfl
      obtain ⟨r, hr⟩ : ∃ r, l[0] = r := ⟨_, rfl⟩
      rw [hr] at x0 x1 x2 x3 HRS hl1
      subst hl1
      have HV := lid (strB_one (recL r))
      rw [List.map_cons, List.map_nil]
      have HT := lid (fun w => refText_any r w HRS.out)
      have HS : (bstr (recL r)).size ≤ maxLen := recL_len _
      obtain ⟨t, a, b1, d⟩ := r
      generalize recL (t, a, b1, d) = tx at *
      simp only [Nat.zero_mul, Nat.zero_add, Nat.add_zero] at x0 x1 x2 x3
      clear hcell hr h ih
      go_enter Try.func14, Try.ntmps14
      go_wp2_with fail
      (with_reducible refine (HT.out _).mono ?_); rintro e w1 ⟨rfl, hb1⟩
      go_wp2_with fail
      (with_reducible refine (of_b tx _ HS).mono ?_); rintro e w2 ⟨rfl, hb2⟩
      have hw2 := hb1.trans (hb2.mono hb1.size)
      go_wp2_with fail
      (with_reducible refine (leaf_b (ofU tx) _).mono ?_); rintro e w3 ⟨rfl, hb3⟩
      have hw3 := hw2.trans (hb3.mono hw2.size)
      go_wp2_with fail
      go_ret
      refine ⟨_, rfl, ?_, hw3.trans ((ba _ _).mono hw3.size)⟩
      rw [HV.out]
      exact World.ownsRow_lit w3 #[.string (bstr tx), .string (bstr (leafS (ofU tx)))] 2 hw3.size (by simp [maxLen]) rfl
    · have h2 : 2 ≤ n := by omega
      have IH := lid ih
      have hk0 := halfN_pos n
      have hk1 : halfN n < n := halfN_lt h2
      have hn6 : n ≤ 1099511627776 := by omega
      have CA : Hid (∀ w1, Below w.heap.size w w1 → Calls Try.prog 14 #[.slice (some ⟨b, o, none⟩) (halfN n) cap] w1 fun e w' => ∃ v', e = .returned v' ∧ w'.ownsRow w1.heap.size 9 1 v' (strB ((l.map recL).take (halfN n))).length (bcells (strB ((l.map recL).take (halfN n)))) ∧ Below w1.heap.size w1 w') := lid fun w1 hb1 => by
        have := IH.out (l.take (halfN n)) (halfN n) cap (some ⟨b, o, none⟩) w1 (by omega) (by omega) (by omega) ((HA.out.below hb1).take (by omega))
        rw [List.map_take] at this
        exact this
      have CB : Hid (∀ w1, Below w.heap.size w w1 → Calls Try.prog 14 #[.slice (some ⟨b, o + halfN n * 4, none⟩) (n - halfN n) (cap - halfN n)] w1 fun e w' => ∃ v', e = .returned v' ∧ w'.ownsRow w1.heap.size 9 1 v' (strB ((l.map recL).drop (halfN n))).length (bcells (strB ((l.map recL).drop (halfN n)))) ∧ Below w1.heap.size w1 w') := lid fun w1 hb1 => by
        have := IH.out (l.drop (halfN n)) (n - halfN n) (cap - halfN n) (some ⟨b, o + halfN n * 4, none⟩) w1 (by omega) (by omega) (by omega) ((HA.out.below hb1).drop hk1 hcap)
        rw [List.map_drop] at this
        exact this
      have HV0 := strB_more (l := l.map recL) (by rw [List.length_map, HN.out]; exact h2)
      rw [List.length_map, HN.out] at HV0
      have SA := strB_size ((l.map recL).take (halfN n)).length _ (Nat.le_refl _) (fun t ht => texts_size l t (List.mem_of_mem_take ht))
      have SB := strB_size ((l.map recL).drop (halfN n)).length _ (Nat.le_refl _) (fun t ht => texts_size l t (List.mem_of_mem_drop ht))
      have LA := strB_len ((l.map recL).take (halfN n)).length _ (Nat.le_refl _)
      have LB := strB_len ((l.map recL).drop (halfN n)).length _ (Nat.le_refl _)
      have la : ((l.map recL).take (halfN n)).length ≤ 1000 := by simp; have := HN.out; omega
      have lb : ((l.map recL).drop (halfN n)).length ≤ 1000 := by simp; have := HN.out; omega
      obtain ⟨A, hA⟩ : ∃ A, strB ((l.map recL).take (halfN n)) = A := ⟨_, rfl⟩
      obtain ⟨B, hB⟩ : ∃ B, strB ((l.map recL).drop (halfN n)) = B := ⟨_, rfl⟩
      rw [hA] at CA HV0 SA LA
      rw [hB] at CB HV0 SB LB
      have a1 : A.length ≤ 3001 := by omega
      have b1 : B.length ≤ 3001 := by omega
      have a0 := LA.1
      have b0 := LB.1
      clear hA hB LA LB la lb hcell h ih
      rcases List.eq_nil_or_concat A with rfl | ⟨A, za, hz⟩
      · simp at a0
      rw [List.concat_eq_append] at hz
      subst hz
      rcases List.eq_nil_or_concat B with rfl | ⟨B, zb, hz⟩
      · simp at b0
      rw [List.concat_eq_append] at hz
      subst hz
      rw [List.getLastD_concat, List.getLastD_concat] at HV0
      have HV := lid HV0
      have CZA := lid (fun w => of_b za w (SA za (by simp)))
      have CZB := lid (fun w => of_b zb w (SB zb (by simp)))
      have a2 : A.length ≤ 3001 := by simp at a1; omega
      have b2 : B.length ≤ 3001 := by simp at b1; omega
      have n0 : ((n : Int) == 0) = false := by simp; omega
      have n1 : ((n : Int) == 1) = false := by simp; omega
      clear HV0 SA SB a0 b0 a1 b1 h0 h1
      go_enter Try.func14, Try.ntmps14
      go_wp2_with fail
      (with_reducible refine (refLeft56_any n _ h2 hn6).mono ?_); rintro e w1 ⟨rfl, rfl⟩
      go_wp2_with fail
      refine wp_region_seq (fun w' => ∃ s : Since w.heap.size w, w' = s.world) [(0, true), (1, true), (2, true), (4, true), (5, true), (6, true), (3, false), (7, false), (8, false), (9, false)] (by kernel_rfl) (by kernel_rfl) (by intro c d v a w h; cases d <;> exact h) (since (Below.refl _ _).drew) ?_
      repeat (first | (refine seq_skip (by rfl) (by rfl) ?_; simp only [Act.put, List.setIfInBounds_toArray, List.set_cons_succ, List.set_cons_zero]) | (refine seq_float (by rfl) (by rfl) (by rfl) ?_; intro K hK; go_big_quiet_op; go_big_quiet_on))
      refine seq_chain (by rfl) ?_
      intro K hK
      go_wp2_with fail
      (with_reducible refine (CA.out _ (Below.refl _ _).drew).mono ?_); rintro e w1 ⟨v1, rfl, own1, hb1⟩
      have hw1 : Below w.heap.size w w1 := (Below.refl _ _).drew.trans hb1
      go_wp2_with fail
      refine hK.out _ _ (since hw1) ?_
      clear hK K
      repeat (first | (refine seq_skip (by rfl) (by rfl) ?_; simp only [Act.put, List.setIfInBounds_toArray, List.set_cons_succ, List.set_cons_zero]) | (refine seq_float (by rfl) (by rfl) (by rfl) ?_; intro K hK; go_big_quiet_op; go_big_quiet_on))
      refine seq_chain (by rfl) ?_
      intro K hK
      go_wp2_with fail
      (with_reducible refine (CB.out _ hw1).mono ?_); rintro e w2 ⟨v2, rfl, own2, hb2⟩
      have hw2 := hw1.trans (hb2.mono hw1.size)
      go_wp2_with fail
      refine hK.out _ _ (since hw2) ?_
      clear hK K
      repeat (first | (refine seq_skip (by rfl) (by rfl) ?_; simp only [Act.put, List.setIfInBounds_toArray, List.set_cons_succ, List.set_cons_zero]) | (refine seq_float (by rfl) (by rfl) (by rfl) ?_; intro K hK; go_big_quiet_op; go_big_quiet_on))
      refine seq_chain (by rfl) ?_
      intro K hK
      go_wp2_with fail
      refine hK.out _ _ (since hw2) ?_
      clear hK K
      repeat (first | (refine seq_skip (by rfl) (by rfl) ?_; simp only [Act.put, List.setIfInBounds_toArray, List.set_cons_succ, List.set_cons_zero]) | (refine seq_float (by rfl) (by rfl) (by rfl) ?_; intro K hK; go_big_quiet_op; go_big_quiet_on))
      refine seq_chain (by rfl) ?_
      intro K hK
      go_wp2_with fail
      refine hK.out _ _ (since hw2) ?_
      clear hK K
      repeat (first | (refine seq_skip (by rfl) (by rfl) ?_; simp only [Act.put, List.setIfInBounds_toArray, List.set_cons_succ, List.set_cons_zero]) | (refine seq_float (by rfl) (by rfl) (by rfl) ?_; intro K hK; go_big_quiet_op; go_big_quiet_on))
      refine seq_nil ?_
      obtain ⟨ao1, c1, rfl, hc1, _, s1⟩ := Sl.of_own own1
      obtain ⟨ao2, c2, rfl, hc2, _, s2⟩ := Sl.of_own own2
      have s1' := s1.below hb2
      rw [List.length_append, show ([za] : List (List UInt8)).length = 1 from rfl] at s1' hc1
      rw [List.length_append, show ([zb] : List (List UInt8)).length = 1 from rfl] at s2 hc2
      have hl1 : (A ++ [za]).length = A.length + 1 := by simp
      have hl2 : (B ++ [zb]).length = B.length + 1 := by simp
      rw [hl1, hl2]
      obtain ⟨g1, o1, rfl, hg1, e1⟩ := s1'.at_ (k := A.length) (by omega)
      obtain ⟨g2, o2, rfl, hg2, e2⟩ := s2.at_ (k := B.length) (by omega)
      have z1 := e1 A.length _ (bcells_at (L := A ++ [za]) (k := A.length) (a := za) (by simp))
      have z2 := e2 B.length _ (bcells_at (L := B ++ [zb]) (k := B.length) (a := zb) (by simp))
      have HS1 := lid s1'
      have HS2 := lid s2
      clear own1 own2 s1 s1' s2 e1 e2 hl1 hl2
      go_wp2_with fail
      refine wp_region_seq (fun w' => ∃ s : Since w2.heap.size w2, w' = s.world) [(0, true), (1, true), (4, true), (5, true), (6, true), (7, true), (8, true), (9, true), (11, true), (12, true), (13, true), (14, true), (15, true), (16, true), (2, false), (3, false), (10, false), (17, false), (18, false), (19, false), (20, false), (21, false)] (by kernel_rfl) (by kernel_rfl) (by intro c d v a w h; cases d <;> exact h) (since (Below.refl _ _).drew) ?_
      repeat (first | (refine seq_skip (by rfl) (by rfl) ?_; simp only [Act.put, List.setIfInBounds_toArray, List.set_cons_succ, List.set_cons_zero]) | (refine seq_float (by rfl) (by rfl) (by rfl) ?_; intro K hK; go_big_quiet_op; go_big_quiet_on))
      refine seq_chain (by rfl) ?_
      intro K hK
      go_wp2_with fail
      obtain ⟨W4, hW4⟩ : ∃ W4, (w2.alloc (Obj.cells #[.slice (some ⟨g1, o1, none⟩) (A.length + 1) c1, .slice (some ⟨g2, o2, none⟩) (B.length + 1) c2] 37)).drew = W4 := ⟨_, rfl⟩
      have h4 : Below w2.heap.size w2 W4 := by rw [← hW4]; exact ((Below.refl _ _).alloc (Nat.le_refl _) _).drew
      have hk4 : W4.heap[w2.heap.size]? = some (.cells #[.slice (some ⟨g1, o1, none⟩) (A.length + 1) c1, .slice (some ⟨g2, o2, none⟩) (B.length + 1) c2] 37 (0, 0)) := by rw [← hW4]; exact heap_alloc_new w2 _
      have CC0 := (Concat_any [(some ⟨g1, o1, none⟩, c1, A ++ [za]), (some ⟨g2, o2, none⟩, c2, B ++ [zb])] w2.heap.size W4 (Array.getElem?_eq_some_iff.1 hk4).1 (by
        intro j hj
        match j, hj with
        | 0, _ => rw [cell_of_row _ _ _ _ _ _ hk4]; simp
        | 1, _ => rw [cell_of_row _ _ _ _ _ _ hk4]; simp) (by
        intro x hx
        rcases List.mem_cons.1 hx with rfl | hx
        · exact ⟨by simpa using HS1.out.below h4, by intro h; cases h⟩
        · rw [List.mem_singleton.1 hx]
          exact ⟨by simpa using HS2.out.below h4, by intro h; cases h⟩) (by simp) (by simp [joinS]; omega) (by simp [joinS]; omega))
      have HJ : Hid (joinS [(some ⟨g1, o1, none⟩, c1, A ++ [za]), (some ⟨g2, o2, none⟩, c2, B ++ [zb])] = A ++ [za] ++ (B ++ [zb])) := lid (by simp [joinS])
      rw [HJ.out] at CC0
      have CC1 : Calls Try.prog 13 #[.slice (some ⟨w2.heap.size, 0, none⟩) 2 2] W4 _ := CC0
      have CC := lid CC1
      clear CC0 CC1
      rw [hW4]
      clear hW4 hk4
      refine hK.out _ _ (since h4) ?_
      clear hK K
      repeat (first | (refine seq_skip (by rfl) (by rfl) ?_; simp only [Act.put, List.setIfInBounds_toArray, List.set_cons_succ, List.set_cons_zero]) | (refine seq_float (by rfl) (by rfl) (by rfl) ?_; intro K hK; go_big_quiet_op; go_big_quiet_on))
      refine seq_chain (by rfl) ?_
      intro K hK
      go_wp2_with fail
      (with_reducible refine (CC.out).mono ?_); rintro e w5 ⟨v5, rfl, own5, hb5⟩
      have h5 := h4.trans (hb5.mono h4.size)
      have own5' := lid (ownsRow_base own5 h4.size)
      clear own5
      go_wp2_with fail
      refine hK.out _ _ (since h5) ?_
      clear hK K
      repeat (first | (refine seq_skip (by rfl) (by rfl) ?_; simp only [Act.put, List.setIfInBounds_toArray, List.set_cons_succ, List.set_cons_zero]) | (refine seq_float (by rfl) (by rfl) (by rfl) ?_; intro K hK; go_big_quiet_op; go_big_quiet_on))
      refine seq_chain (by rfl) ?_
      intro K hK
      go_wp2_with fail
      (with_reducible refine (CZA.out _).mono ?_); rintro e w6 ⟨rfl, hb6⟩
      have h6 := h5.trans (hb6.mono h5.size)
      go_wp2_with fail
      refine hK.out _ _ (since h6) ?_
      clear hK K
      repeat (first | (refine seq_skip (by rfl) (by rfl) ?_; simp only [Act.put, List.setIfInBounds_toArray, List.set_cons_succ, List.set_cons_zero]) | (refine seq_float (by rfl) (by rfl) (by rfl) ?_; intro K hK; go_big_quiet_op; go_big_quiet_on))
      refine seq_chain (by rfl) ?_
      intro K hK
      go_wp2_with fail
      (with_reducible refine (CZB.out _).mono ?_); rintro e w7 ⟨rfl, hb7⟩
      have h7 := h6.trans (hb7.mono h6.size)
      go_wp2_with fail
      refine hK.out _ _ (since h7) ?_
      clear hK K
      repeat (first | (refine seq_skip (by rfl) (by rfl) ?_; simp only [Act.put, List.setIfInBounds_toArray, List.set_cons_succ, List.set_cons_zero]) | (refine seq_float (by rfl) (by rfl) (by rfl) ?_; intro K hK; go_big_quiet_op; go_big_quiet_on))
      refine seq_chain (by rfl) ?_
      intro K hK
      go_wp2_with fail
      (with_reducible refine (node_b (ofU za) (ofU zb) _).mono ?_); rintro e w8 ⟨rfl, hb8⟩
      have h8 := h7.trans (hb8.mono h7.size)
      have own8 := ownsRow_below (ownsRow_below (ownsRow_below own5'.out hb6) hb7) hb8
      have hw8 := hw2.trans (h8.mono hw2.size)
      go_wp2_with fail
      refine hK.out _ _ (since h8) ?_
      clear hK K
      repeat (first | (refine seq_skip (by rfl) (by rfl) ?_; simp only [Act.put, List.setIfInBounds_toArray, List.set_cons_succ, List.set_cons_zero]) | (refine seq_float (by rfl) (by rfl) (by rfl) ?_; intro K hK; go_big_quiet_op; go_big_quiet_on))
      refine seq_chain (by rfl) ?_
      intro K hK
      go_wp2_with fail
      refine hK.out _ _ (since (h8.alloc h8.size _)) ?_
      clear hK K
      repeat (first | (refine seq_skip (by rfl) (by rfl) ?_; simp only [Act.put, List.setIfInBounds_toArray, List.set_cons_succ, List.set_cons_zero]) | (refine seq_float (by rfl) (by rfl) (by rfl) ?_; intro K hK; go_big_quiet_op; go_big_quiet_on))
      refine seq_chain (by rfl) ?_
      intro K hK
      go_wp2_with (at_builtin; go_must (refine wpList_append_new #[.string (bstr (nodeS (ofU za) (ofU zb)))] rfl _ _ 37 rfl w2.heap.size 9 (.string ⟨#[]⟩) 1 16 info_txt Try.underlying37 rfl (by decide) _ _ _ own8 rfl rfl rfl (by simp [Value.oneCell']) (by simp [maxLen]; omega) (by simp; omega) h8.size ?_))
      intro v9 w9 own9 hb9 _
      have h9 := h8.trans hb9
      have hw9 := hw2.trans (h9.mono hw2.size)
      go_wp2_with fail
      refine hK.out _ _ (since h9) ?_
      clear hK K
      repeat (first | (refine seq_skip (by rfl) (by rfl) ?_; simp only [Act.put, List.setIfInBounds_toArray, List.set_cons_succ, List.set_cons_zero]) | (refine seq_float (by rfl) (by rfl) (by rfl) ?_; intro K hK; go_big_quiet_op; go_big_quiet_on))
      refine seq_chain (by rfl) ?_
      intro K hK
      go_wp2_with fail
      refine hK.out _ _ (since h9) ?_
      clear hK K
      repeat (first | (refine seq_skip (by rfl) (by rfl) ?_; simp only [Act.put, List.setIfInBounds_toArray, List.set_cons_succ, List.set_cons_zero]) | (refine seq_float (by rfl) (by rfl) (by rfl) ?_; intro K hK; go_big_quiet_op; go_big_quiet_on))
      refine seq_nil ?_
      go_wp2_with fail
      go_ret
      refine ⟨v9, rfl, ?_, hw9⟩
      have own9' := ownsRow_base own9 hw2.size
      rw [HV.out, bcells_append, List.length_append, show A ++ [za] ++ (B ++ [zb]) = A ++ za :: (B ++ [zb]) by simp, show (A ++ za :: (B ++ [zb])).length = A.length + (B.length + 1 + 1) by simp]
      exact own9'
end Go.Proofs.Ytbghpjedldhnhaa

namespace Go.Proofs.Ytbghpjedldhnhaa
open Go.RowKit

theorem kdig : Maps.Keyed Try.prog 32 := Maps.Keyed.of_law (deep_law_laid (m := 3) (by kernel_rfl) (by decide) (of_decide_eq_true (by kernel_rfl)) (by kernel_rfl) (by kernel_rfl))
theorem cells_dgk : Try.prog.cellsOf 32 = 2 := by kernel_rfl
theorem cells_u64k : Try.prog.cellsOf 30 = 1 := by kernel_rfl
theorem u64_wf (x : UInt64) : (Lit.int .u64 (x.toNat : Int)).wf = true := by
  have := x.toNat_lt
  simp [Lit.wf, IntKind.min, IntKind.max, IntKind.bits, IntKind.signed]
  omega
theorem key_dig (d : Dg) : ∃ l, keyOf Try.prog 32 (dv d) = some l := by
  obtain ⟨n, hn⟩ : ∃ n, Try.prog.types.size + 1 = n + 2 := ⟨Try.prog.types.size - 1, by have : decide (1 ≤ Try.prog.types.size) = true := by kernel_rfl
                                                                                        have := of_decide_eq_true this
                                                                                        omega⟩
  unfold keyOf
  rw [Try.underlying32, hn]
  simp only
  rw [show Try.prog.keyType 32 = true from by kernel_rfl]
  simp [Value.cells, Value.formed, Try.underlying32, cells_dgk, Program.keyLits, cells_u64k, Try.underlying30, List.range, List.range.loop, u64_wf]
noncomputable def keyD (d : Dg) : Lit := (key_dig d).choose
theorem keyD_spec (d : Dg) : keyOf Try.prog 32 (dv d) = some (keyD d) := (key_dig d).choose_spec
theorem keyD_inj {a b : Dg} (h : keyD a = keyD b) : a = b := by
  have h1 := keyD_spec a
  rw [h] at h1
  have := kdig.inj h1 (keyD_spec b)
  simp at this
  exact Prod.ext (UInt64.toNat_inj.1 (by have := this.1; omega)) (UInt64.toNat_inj.1 (by have := this.2; omega))
theorem keyD_key (d : Dg) : WideAt.IsKeyLit (keyD d) := kdig.key (keyD_spec d)
/-- What the map holds of some strings. -/
def MapOf (D : DataW Unit) (S : List (List UInt8)) : Prop :=
  Maps.IsMap D ∧ (∀ s ∈ S, Maps.has D (keyD (ofU s)) = true ∧ D.atKey (keyD (ofU s)) (.lit (.string [])) = .lit (.string s)) ∧ (∀ d, Maps.has D (keyD d) = true → ∃ s ∈ S, ofU s = d)
theorem mapOf_nil : MapOf (.map []) [] := ⟨Maps.isMap_empty, fun s h => (by cases h), fun d h => (by simp [Maps.has] at h)⟩
theorem MapOf.found {D : DataW Unit} {S : List (List UInt8)} (h : MapOf D S) {d : Dg} (hd : Maps.has D (keyD d) = true) : ∃ s ∈ S, ofU s = d ∧ D.atKey (keyD d) (.lit (.string [])) = .lit (.string s) := by
  obtain ⟨s, hs, e⟩ := h.2.2 d hd
  refine ⟨s, hs, e, ?_⟩
  have := (h.2.1 s hs).2
  rwa [e] at this
theorem MapOf.put {D : DataW Unit} {S : List (List UInt8)} (h : MapOf D S) (s : List UInt8) (hn : ∀ t ∈ S, ofU t = ofU s → t = s) : MapOf (D.put (keyD (ofU s)) (.lit (.string s))) (S ++ [s]) := by
  obtain ⟨h0, h1, h2⟩ := h
  have put_s : Maps.has (D.put (keyD (ofU s)) (.lit (.string s))) (keyD (ofU s)) = true ∧ (D.put (keyD (ofU s)) (.lit (.string s))).atKey (keyD (ofU s)) (.lit (.string [])) = .lit (.string s) :=
    ⟨Maps.has_put_same h0 (keyD_key _) _, Maps.atKey_put_same h0 (keyD_key _) _ _⟩
  refine ⟨h0.put _ _, fun t ht => ?_, fun d hd => ?_⟩
  · rcases List.mem_append.1 ht with ht | ht
    · by_cases e : ofU t = ofU s
      · obtain rfl := hn t ht e
        exact put_s
      · have hk : keyD (ofU t) ≠ keyD (ofU s) := fun hh => e (keyD_inj hh)
        rw [Maps.has_put_other hk, Maps.atKey_put_other hk]
        exact h1 t ht
    · obtain rfl := List.mem_singleton.1 ht
      exact put_s
  · by_cases e : d = ofU s
    · exact ⟨s, by simp, e.symm⟩
    · have hk : keyD d ≠ keyD (ofU s) := fun hh => e (keyD_inj hh)
      rw [Maps.has_put_other hk] at hd
      obtain ⟨t, ht, et⟩ := h2 d hd
      exact ⟨t, List.mem_append.2 (.inl ht), et⟩
theorem MapOf.one {D : DataW Unit} {S : List (List UInt8)} (h : MapOf D S) {x y : List UInt8} (hx : x ∈ S) (hy : y ∈ S) (e : ofU x = ofU y) : x = y := by
  have a := (h.2.1 x hx).2
  have b := (h.2.1 y hy).2
  rw [e, b] at a
  simpa using a.symm
theorem plainElem_string_inv {P : Program} {e : TypeId} (he : P.underlying e = some .string) {v : Value} {z : DataW Unit × List MemPlace} (h : plainElem P e v = some z) : ∃ s : ByteArray, v = .string s ∧ z = (.lit (.string s.data.toList), []) := by
  unfold plainElem at h
  rw [he] at h
  cases v <;> simp at h
  exact ⟨_, rfl, h.2.symm⟩
theorem zero_string (w : World) : (zeroValue 9).run Try.prog w = .ok (.string ⟨#[]⟩) w := by kernel_rfl

theorem pe_zero : plainElem (H := Unit) Try.prog 9 (.string ⟨#[]⟩) = some (.lit (.string []), []) := plainElem_string Try.underlying9 (s := ⟨#[]⟩) (by decide)

set_option maxRecDepth 100000 in
set_option maxHeartbeats 8000000 in
theorem Collide_any (L : List (List UInt8)) (n cap : Nat) (ao : Option Addr) (w : World) (hn : L.length = n) (hm : n ≤ 100000) (hs : Sl w 1 ao n (bcells L)) (hz : ∀ x ∈ L, (bstr x).size ≤ maxLen) (hc : Clash2 L) :
    Calls Try.prog 12 #[.slice ao n cap] w fun e w' => e = .returned (.bool true) ∧ Below w.heap.size w w' := by
  have HN := lid hn
  have HS := lid hs
  have HZ := lid hz
  have HC := lid hc
  have HM := lid (World.ownsMap_made (H := Unit) w Try.prog 32 (plainElem Try.prog 9))
  clear hn hs hz hc
  have hmm := @run_makeMap Try.prog
  go_enter Try.func12, Try.ntmps12
  go_wp2_with fail
  go_loopw [5, 6, 7, 11] (fun _ _ _ i wr => ∃ (k : Nat) (D : DataW Unit), k ≤ n ∧ i = .int .i64 k ∧ Hid (wr.ownsMap Try.prog 32 (plainElem Try.prog 9) w.heap.size k D) ∧ Hid (MapOf D (L.take k)) ∧ Below w.heap.size w wr) (fun _ _ _ i _ => n - (intOf i).toNat)
  case atStart => exact ⟨0, .map [], Nat.zero_le _, rfl, HM, lid mapOf_nil, ba _ _⟩
  case round =>
    obtain ⟨k, D, hk, rfl, HO, HD, hb⟩ := hrel
    by_cases hlt : k < n
    · have hkl : k < L.length := by rw [HN.out]; exact hlt
      obtain ⟨b1, o1, rfl, hlb, hcell⟩ := (HS.out.below hb).at_ hlt
      obtain ⟨s, hsk⟩ : ∃ s, L[k] = s := ⟨_, rfl⟩
      have x0 := hcell k _ (bcells_at (L := L) (k := k) (a := s) (by rw [List.getElem?_eq_getElem hkl, hsk]))
      have HT : Hid (L.take (k + 1) = L.take k ++ [s]) := lid (by rw [List.take_succ_eq_append_getElem hkl, hsk])
      have CO := lid (fun w => of_b s w (HZ.out s (by rw [← hsk]; exact List.getElem_mem hkl)))
      have HSZ := lid (HZ.out s (by rw [← hsk]; exact List.getElem_mem hkl))
      clear hcell hsk
      go_wp2_with fail
      (with_reducible refine (CO.out _).mono ?_); rintro e w1 ⟨rfl, hb1⟩
      have hown1 := World.ownsMap.kept HO.out (grown_of_below hb1 none) (by simp)
      have HPS := lid (show plainElem (H := Unit) Try.prog 9 (.string (bstr s)) = some (.lit (.string s), []) by
        have := plainElem_string (H := Unit) Try.underlying9 HSZ.out
        rwa [show (bstr s).data.toList = s by simp] at this)
      cases hh : Maps.has D (keyD (ofU s)) with
      | true =>
        obtain ⟨t, ht, het, hat⟩ := HD.out.found hh
        have HH := lid hh
        have HAT := lid hat
        clear hh hat
        go_wp2_with (at_lookup; go_must (refine wpList_lookup_own_ok _ rfl _ _ 62 rfl 32 9 kdig Try.underlying62 (plainElem Try.prog 9) (zero_string _) (.lit (.string [])) [] pe_zero w.heap.size k D rfl hown1 _ (keyD (ofU s)) rfl (keyD_spec _) ?_))
        intro v ps hv
        obtain ⟨tv, hvt, hz⟩ := plainElem_string_inv Try.underlying9 hv
        rw [HAT.out] at hz
        have htv : tv = bstr t := by
          simp only [Prod.mk.injEq, DataW.lit.injEq, Lit.string.injEq] at hz
          exact bytes_ext (by rw [show (bstr t).data.toList = t by simp]; exact hz.1.symm)
        rw [hvt, htv, HH.out]
        clear hv hz hvt htv
        by_cases hts : t = s
        · subst hts
          have HU := lid (fun x (hx : x ∈ L.take k) (e : ofU x = ofU t) => HD.out.one hx ht e)
          have e1 := str_eq (rfl : bstr t = bstr t)
          go_wp2_with fail
          (with_reducible refine (CO.out _).mono ?_); rintro e w2 ⟨rfl, hb2⟩
          have hb12 := hb1.trans (hb2.mono hb1.size)
          have hown2 := World.ownsMap.kept HO.out (grown_of_below hb12 none) (by simp)
          go_wp2_with (at_mapUpdate; go_must (refine wpList_mapUpdate_own _ rfl _ _ _ 62 rfl 32 9 kdig Try.underlying62 (plainElem Try.prog 9) w.heap.size k D rfl hown2 (by simp only [maxLen]; omega) _ _ (keyD (ofU t)) rfl rfl (keyD_spec _) (.lit (.string t)) [] HPS.out ?_))
          intro w3 hown3 hg3
          go_wp2_with fail
          go_roundw
          case rel => exact ⟨k + 1, _, by omega, by go_num, lid hown3, lid (by rw [HT.out]; exact HD.out.put t HU.out), (hb.trans (hb12.mono hb.size)).grown hg3 (by have := hb.size; have := hb12.size; omega) (fun j hj => by cases hj; exact Nat.le_refl _)⟩
          case measure => simp [intOf]; omega
        · have e1 := str_ne (fun e => hts (bstr_inj e))
          clear hts
          go_wp2_with fail
          go_ret
          exact ⟨rfl, hb.trans (hb1.mono hb.size)⟩
      | false =>
        have HH := lid hh
        have HU := lid (fun x (hx : x ∈ L.take k) (e : ofU x = ofU s) => show x = s by
          have := (HD.out.2.1 x hx).1
          rw [e, HH.out] at this
          cases this)
        clear hh
        go_wp2_with (at_lookup; go_must (refine wpList_lookup_own_ok _ rfl _ _ 62 rfl 32 9 kdig Try.underlying62 (plainElem Try.prog 9) (zero_string _) (.lit (.string [])) [] pe_zero w.heap.size k D rfl hown1 _ (keyD (ofU s)) rfl (keyD_spec _) ?_))
        intro v ps hv
        rw [HH.out]
        obtain ⟨tv, hvt, _⟩ := plainElem_string_inv Try.underlying9 hv
        rw [hvt]
        clear hv hvt
        go_wp2_with fail
        (with_reducible refine (CO.out _).mono ?_); rintro e w2 ⟨rfl, hb2⟩
        have hb12 := hb1.trans (hb2.mono hb1.size)
        have hown2 := World.ownsMap.kept HO.out (grown_of_below hb12 none) (by simp)
        go_wp2_with (at_mapUpdate; go_must (refine wpList_mapUpdate_own _ rfl _ _ _ 62 rfl 32 9 kdig Try.underlying62 (plainElem Try.prog 9) w.heap.size k D rfl hown2 (by simp only [maxLen]; omega) _ _ (keyD (ofU s)) rfl rfl (keyD_spec _) (.lit (.string s)) [] HPS.out ?_))
        intro w3 hown3 hg3
        go_wp2_with fail
        go_roundw
        case rel => exact ⟨k + 1, _, by omega, by go_num, lid hown3, lid (by rw [HT.out]; exact HD.out.put s HU.out), (hb.trans (hb12.mono hb.size)).grown hg3 (by have := hb.size; have := hb12.size; omega) (fun j hj => by cases hj; exact Nat.le_refl _)⟩
        case measure => simp [intOf]; omega
    · obtain rfl : k = n := by omega
      exfalso
      have h := HD.out
      rw [List.take_of_length_le (by rw [HN.out]; exact Nat.le_refl _)] at h
      obtain ⟨x, y, hx, hy, hne, he⟩ := HC.out
      exact hne (h.one hx hy he)
end Go.Proofs.Ytbghpjedldhnhaa

namespace Go.Proofs.Ytbghpjedldhnhaa
open Go.RowKit

/-- One block is as in W. -/
def KeepK (k : Nat) (W w' : World) : Prop := w'.heap[k]? = W.heap[k]?
theorem KeepK.refl (k : Nat) (W : World) : KeepK k W W := rfl
theorem KeepK.drew {k : Nat} {W w' : World} (h : KeepK k W w') : KeepK k W w'.drew := h
theorem KeepK.below {k B : Nat} {W w1 w2 : World} (h : KeepK k W w1) (hb : Below B w1 w2) (hk : k < B) : KeepK k W w2 := (hb.block k hk).trans h
theorem KeepK.setCell {k : Nat} {W w' : World} (h : KeepK k W w') {p : Addr} (hp : k ≠ p.block) (u : Value) : KeepK k W (w'.setCell p u) := (Below.heap_setCell _ _ _ _ hp).trans h
theorem KeepK.grown {k : Nat} {W w1 w2 : World} {row : Option Nat} (h : KeepK k W w1) (hg : w1.grownBy w2 row) (hk : k < w1.heap.size) (hne : some k ≠ row) : KeepK k W w2 := (hg.block k hk hne).trans h
def SinceK (k : Nat) (W : World) : Type := { w' : World // KeepK k W w' }
instance {k : Nat} {W : World} : Nonempty (SinceK k W) := ⟨⟨W, rfl⟩⟩
def SinceK.world {k : Nat} {W : World} (x : SinceK k W) : World := x.1
theorem SinceK.cell {k : Nat} {W : World} {o : Nat} {v : Option Value} (hv : W.cell? ⟨k, o, none⟩ = v) : ∀ x : SinceK k W, x.world.cell? ⟨k, o, none⟩ = v := fun x => by
  rw [← hv]
  exact World.cell?_of_block (w := W) (a := ⟨k, o, none⟩) x.2
theorem sincek {k : Nat} {W w' : World} (h : KeepK k W w') : ∃ x : SinceK k W, w' = x.world := ⟨⟨w', h⟩, rfl⟩

/-- The results as read. -/
theorem res_pr {fn : Func} (hf : fn.results = #[.tmp 10, .cell 11 32, .cell 12 32]) (t : Array Value) (w : World) (k1 k2 : Nat) (v : Value) (a b : Dg) (h10 : t.getD 10 undef = v) (h11 : t.getD 11 undef = .pointer (some ⟨k1, 0, none⟩)) (h12 : t.getD 12 undef = .pointer (some ⟨k2, 0, none⟩))
    (e0 : w.cell? ⟨k1, 0, none⟩ = some (.int .u64 a.1.toNat)) (e1 : w.cell? ⟨k1, 1, none⟩ = some (.int .u64 a.2.toNat)) (e2 : w.cell? ⟨k2, 0, none⟩ = some (.int .u64 b.1.toNat)) (e3 : w.cell? ⟨k2, 1, none⟩ = some (.int .u64 b.2.toNat)) :
    (results fn t).run Try.prog w = .ok (.tuple #[v, dv a, dv b]) w := by
  rw [Array.getD_eq_getD_getElem?] at h10 h11 h12
  unfold results
  rw [hf]
  simp [go_sem, h10, h11, h12, e0, e1, e2, e3, asAddr]
theorem own_set {w : World} {base : Nat} {e : TypeId} {size : Nat} {v : Value} {n : Nat} {xs : List Value} (h : w.ownsRow base e size v n xs) {X : Nat} (hX : X < base) (j : Nat) (u : Value) : (w.setCell ⟨X, j, none⟩ u).ownsRow base e size v n xs := by
  refine ⟨h.1, h.2.imp id ?_⟩
  rintro ⟨g, cap, cur, h0, h1, h2, h3⟩
  exact ⟨g, cap, cur, h0, h1, (Below.heap_setCell _ _ _ _ (by show g ≠ X; omega)).trans h2, h3⟩
theorem own_not {w : World} {base : Nat} {e : TypeId} {size : Nat} {v : Value} {n : Nat} {xs : List Value} (h : w.ownsRow base e size v n xs) {k : Nat} (hk : k < base) : v.ownBlock ≠ some k := fun hh => by have := ownsRow_row h k hh; omega
theorem own_not' {w : World} {base : Nat} {e : TypeId} {size : Nat} {v : Value} {n : Nat} {xs : List Value} (h : w.ownsRow base e size v n xs) : v.ownBlock ≠ some w.heap.size := fun hh => by have := (h.lt _ hh).2; omega

/-- What is known while one function is called, its three results are taken and two boxes made, in any order. -/
def RN (c : Nat) (A B : Value) (n : Nat) (xs : List Value) (B0 : Nat) (W : World) (s : Nat → Bool) (vs : List Value) (w : World) : Prop :=
  ∃ x m p q o u v vv, vs = [x, m, p, q, o, u, v] ∧ Below B0 W w ∧ (s c = true → x = .tuple #[vv, A, B] ∧ w.ownsRow B0 9 1 vv n xs) ∧ (s (c + 1) = true → m = .tuple #[vv, A, B]) ∧ (s (c + 2) = true → p = vv) ∧ (s (c + 3) = true → q = A) ∧ (s (c + 4) = true → o = B) ∧
    (s (c + 5) = true → ∃ k, u = .pointer (some ⟨k, 0, none⟩) ∧ B0 ≤ k ∧ Two w k ∧ (s c = true → vv.ownBlock ≠ some k)) ∧ (s (c + 6) = true → ∃ k, v = .pointer (some ⟨k, 0, none⟩) ∧ B0 ≤ k ∧ Two w k ∧ (s c = true → vv.ownBlock ≠ some k)) ∧ (s (c + 5) = true → s (c + 6) = true → u ≠ v) ∧ (s c = false → s (c + 1) = false ∧ s (c + 2) = false)
section
variable {c : Nat} {A B : Value} {n : Nat} {xs : List Value} {B0 : Nat} {W w w' : World} {s : Nat → Bool} {x m p q o u v : Value}
theorem RN.seven {vs : List Value} (h : RN c A B n xs B0 W s vs w) : ∃ x m p q o u v, vs = [x, m, p, q, o, u, v] := by
  obtain ⟨x, m, p, q, o, u, v, vv, e, _⟩ := h
  exact ⟨x, m, p, q, o, u, v, e⟩
theorem RN.old {vs : List Value} (h : RN c A B n xs B0 W s vs w) : Below B0 W w := by
  obtain ⟨x, m, p, q, o, u, v, vv, e, hb, _⟩ := h
  exact hb
theorem RN.start (c : Nat) (A B : Value) (n : Nat) (xs : List Value) (W : World) (s : Nat → Bool) (h0 : s c = false) (h1 : s (c + 1) = false) (h2 : s (c + 2) = false) (h3 : s (c + 3) = false) (h4 : s (c + 4) = false) (h5 : s (c + 5) = false) (h6 : s (c + 6) = false) :
    RN c A B n xs W.heap.size W s [undef, undef, undef, undef, undef, undef, undef] W.drew :=
  ⟨_, _, _, _, _, _, _, undef, rfl, (Below.refl _ _).drew, (by simp [h0]), (by simp [h1]), (by simp [h2]), (by simp [h3]), (by simp [h4]), (by simp [h5]), (by simp [h6]), (by simp [h5]), fun _ => ⟨h1, h2⟩⟩
theorem RN.e0 (h : RN c A B n xs B0 W s [x, m, p, q, o, u, v] w) (hc : s c = true) : ∃ vv, x = .tuple #[vv, A, B] := by
  obtain ⟨_, _, _, _, _, _, _, vv, e, h0, i0, _⟩ := h
  cases e
  exact ⟨vv, (i0 hc).1⟩
theorem RN.e1 (h : RN c A B n xs B0 W s [x, m, p, q, o, u, v] w) (hc : s (c + 1) = true) : ∃ vv, m = .tuple #[vv, A, B] := by
  obtain ⟨_, _, _, _, _, _, _, vv, e, h0, i0, i1, _⟩ := h
  cases e
  exact ⟨vv, i1 hc⟩
theorem RN.call (h : RN c A B n xs B0 W s [x, m, p, q, o, u, v] w) (hc : s c = false) (hB : B0 ≤ w.heap.size) {v' : Value} (hown : w'.ownsRow w.heap.size 9 1 v' n xs) (hb : Below w.heap.size w w') : RN c A B n xs B0 W (upd s c) [.tuple #[v', A, B], m, p, q, o, u, v] w' := by
  obtain ⟨_, _, _, _, _, _, _, vv, e, h0, i0, i1, i2, i3, i4, i5, i6, i7, i8⟩ := h
  cases e
  obtain ⟨j1, j2⟩ := i8 hc
  refine ⟨_, _, _, _, _, _, _, v', rfl, h0.trans (hb.mono hB), fun _ => ⟨rfl, ownsRow_base hown hB⟩, by simp [upd, j1], by simp [upd, j2], by simpa [upd] using i3, by simpa [upd] using i4, ?_, ?_, by simpa [upd] using i7, by simp⟩
  · intro hs
    obtain ⟨k, e, hk, ht, _⟩ := i5 (by simpa [upd] using hs)
    exact ⟨k, e, hk, ht.below hb ht.lt, fun _ => own_not hown ht.lt⟩
  · intro hs
    obtain ⟨k, e, hk, ht, _⟩ := i6 (by simpa [upd] using hs)
    exact ⟨k, e, hk, ht.below hb ht.lt, fun _ => own_not hown ht.lt⟩
theorem RN.put1 {vv : Value} (h : RN c A B n xs B0 W s [.tuple #[vv, A, B], m, p, q, o, u, v] w) (hc : s c = true) : RN c A B n xs B0 W (upd s (c + 1)) [.tuple #[vv, A, B], .tuple #[vv, A, B], p, q, o, u, v] w := by
  obtain ⟨_, _, _, _, _, _, _, v2, e, h0, i0, i1, i2, i3, i4, i5, i6, i7, i8⟩ := h
  cases e
  have e2 := (i0 hc).1
  exact ⟨_, _, _, _, _, _, _, v2, rfl, h0, by simpa [upd] using i0, fun _ => e2, by simpa [upd] using i2, by simpa [upd] using i3, by simpa [upd] using i4, by simpa [upd] using i5, by simpa [upd] using i6, by simpa [upd] using i7, fun h => (by rw [show s c = false by simpa [upd] using h] at hc; cases hc)⟩
theorem RN.put2 {vv : Value} (h : RN c A B n xs B0 W s [x, .tuple #[vv, A, B], p, q, o, u, v] w) (h1 : s (c + 1) = true) : RN c A B n xs B0 W (upd s (c + 2)) [x, .tuple #[vv, A, B], vv, q, o, u, v] w := by
  obtain ⟨_, _, _, _, _, _, _, v2, e, h0, i0, i1, i2, i3, i4, i5, i6, i7, i8⟩ := h
  cases e
  have e2 := i1 h1
  simp only [Value.tuple.injEq, Array.mk.injEq, List.cons.injEq, and_true] at e2
  exact ⟨_, _, _, _, _, _, _, v2, rfl, h0, by simpa [upd] using i0, by simpa [upd] using i1, fun _ => e2, by simpa [upd] using i3, by simpa [upd] using i4, by simpa [upd] using i5, by simpa [upd] using i6, by simpa [upd] using i7, fun h => (by rw [(i8 (by simpa [upd] using h)).1] at h1; cases h1)⟩
theorem RN.put3 (h : RN c A B n xs B0 W s [x, m, p, q, o, u, v] w) : RN c A B n xs B0 W (upd s (c + 3)) [x, m, p, A, o, u, v] w := by
  obtain ⟨_, _, _, _, _, _, _, v2, e, h0, i0, i1, i2, i3, i4, i5, i6, i7, i8⟩ := h
  cases e
  exact ⟨_, _, _, _, _, _, _, v2, rfl, h0, by simpa [upd] using i0, by simpa [upd] using i1, by simpa [upd] using i2, fun _ => rfl, by simpa [upd] using i4, by simpa [upd] using i5, by simpa [upd] using i6, by simpa [upd] using i7, by simpa [upd] using i8⟩
theorem RN.put4 (h : RN c A B n xs B0 W s [x, m, p, q, o, u, v] w) : RN c A B n xs B0 W (upd s (c + 4)) [x, m, p, q, B, u, v] w := by
  obtain ⟨_, _, _, _, _, _, _, v2, e, h0, i0, i1, i2, i3, i4, i5, i6, i7, i8⟩ := h
  cases e
  exact ⟨_, _, _, _, _, _, _, v2, rfl, h0, by simpa [upd] using i0, by simpa [upd] using i1, by simpa [upd] using i2, by simpa [upd] using i3, fun _ => rfl, by simpa [upd] using i5, by simpa [upd] using i6, by simpa [upd] using i7, by simpa [upd] using i8⟩
theorem RN.new5 (h : RN c A B n xs B0 W s [x, m, p, q, o, u, v] w) (hB : B0 ≤ w.heap.size) (c0 c1 : Value) (t : TypeId) : RN c A B n xs B0 W (upd s (c + 5)) [x, m, p, q, o, .pointer (some ⟨w.heap.size, 0, none⟩), v] (w.alloc (.cells #[c0, c1] t)) := by
  obtain ⟨_, _, _, _, _, _, _, v2, e, h0, i0, i1, i2, i3, i4, i5, i6, i7, i8⟩ := h
  cases e
  have j0 : s c = true → x = .tuple #[v2, A, B] ∧ (w.alloc (.cells #[c0, c1] t)).ownsRow B0 9 1 v2 n xs := fun hs => ⟨(i0 hs).1, (i0 hs).2.alloc _⟩
  have hnew : ∃ k, Value.pointer (some ⟨w.heap.size, 0, none⟩) = .pointer (some ⟨k, 0, none⟩) ∧ B0 ≤ k ∧ Two (w.alloc (.cells #[c0, c1] t)) k ∧ (upd s (c + 5) c = true → v2.ownBlock ≠ some k) :=
    ⟨_, rfl, hB, Two.new w c0 c1 t, fun hs => own_not' (i0 (by simpa [upd] using hs)).2⟩
  have hold : ∀ z : Value, (s (c + 6) = true → ∃ k, z = .pointer (some ⟨k, 0, none⟩) ∧ B0 ≤ k ∧ Two w k ∧ (s c = true → v2.ownBlock ≠ some k)) → (upd s (c + 5) (c + 6) = true → ∃ k, z = .pointer (some ⟨k, 0, none⟩) ∧ B0 ≤ k ∧ Two (w.alloc (.cells #[c0, c1] t)) k ∧ (upd s (c + 5) c = true → v2.ownBlock ≠ some k)) := fun z hz hs => by
    obtain ⟨k, e, hk, ht, hn⟩ := hz (by simpa [upd] using hs)
    exact ⟨k, e, hk, ht.below (ba w _) ht.lt, fun hs => hn (by simpa [upd] using hs)⟩
  refine ⟨_, _, _, _, _, _, _, v2, rfl, h0.trans ((ba w _).mono hB), by simpa [upd] using j0, by simpa [upd] using i1, by simpa [upd] using i2, by simpa [upd] using i3, by simpa [upd] using i4, fun _ => hnew, hold _ i6, ?_, by simpa [upd] using i8⟩
  intro _ hs
  obtain ⟨k, e, hk, ht, _⟩ := i6 (by simpa [upd] using hs)
  rw [e]
  intro hh
  simp at hh
  have := ht.lt
  omega
theorem RN.new6 (h : RN c A B n xs B0 W s [x, m, p, q, o, u, v] w) (hB : B0 ≤ w.heap.size) (c0 c1 : Value) (t : TypeId) : RN c A B n xs B0 W (upd s (c + 6)) [x, m, p, q, o, u, .pointer (some ⟨w.heap.size, 0, none⟩)] (w.alloc (.cells #[c0, c1] t)) := by
  obtain ⟨_, _, _, _, _, _, _, v2, e, h0, i0, i1, i2, i3, i4, i5, i6, i7, i8⟩ := h
  cases e
  have j0 : s c = true → x = .tuple #[v2, A, B] ∧ (w.alloc (.cells #[c0, c1] t)).ownsRow B0 9 1 v2 n xs := fun hs => ⟨(i0 hs).1, (i0 hs).2.alloc _⟩
  have hnew : ∃ k, Value.pointer (some ⟨w.heap.size, 0, none⟩) = .pointer (some ⟨k, 0, none⟩) ∧ B0 ≤ k ∧ Two (w.alloc (.cells #[c0, c1] t)) k ∧ (upd s (c + 6) c = true → v2.ownBlock ≠ some k) :=
    ⟨_, rfl, hB, Two.new w c0 c1 t, fun hs => own_not' (i0 (by simpa [upd] using hs)).2⟩
  have hold : ∀ z : Value, (s (c + 5) = true → ∃ k, z = .pointer (some ⟨k, 0, none⟩) ∧ B0 ≤ k ∧ Two w k ∧ (s c = true → v2.ownBlock ≠ some k)) → (upd s (c + 6) (c + 5) = true → ∃ k, z = .pointer (some ⟨k, 0, none⟩) ∧ B0 ≤ k ∧ Two (w.alloc (.cells #[c0, c1] t)) k ∧ (upd s (c + 6) c = true → v2.ownBlock ≠ some k)) := fun z hz hs => by
    obtain ⟨k, e, hk, ht, hn⟩ := hz (by simpa [upd] using hs)
    exact ⟨k, e, hk, ht.below (ba w _) ht.lt, fun hs => hn (by simpa [upd] using hs)⟩
  refine ⟨_, _, _, _, _, _, _, v2, rfl, h0.trans ((ba w _).mono hB), by simpa [upd] using j0, by simpa [upd] using i1, by simpa [upd] using i2, by simpa [upd] using i3, by simpa [upd] using i4, hold _ i5, fun _ => hnew, ?_, by simpa [upd] using i8⟩
  intro hs _
  obtain ⟨k, e, hk, ht, _⟩ := i5 (by simpa [upd] using hs)
  rw [e]
  intro hh
  simp at hh
  have := ht.lt
  omega
theorem RN.all {vs : List Value} (h : RN c A B n xs B0 W s vs w) (h0 : s c = true) (h1 : s (c + 1) = true) (h2 : s (c + 2) = true) (h3 : s (c + 3) = true) (h4 : s (c + 4) = true) (h5 : s (c + 5) = true) (h6 : s (c + 6) = true) : ∃ vv k8 k9, vs = [.tuple #[vv, A, B], .tuple #[vv, A, B], vv, A, B, .pointer (some ⟨k8, 0, none⟩), .pointer (some ⟨k9, 0, none⟩)] ∧ w.ownsRow B0 9 1 vv n xs ∧ B0 ≤ k8 ∧ B0 ≤ k9 ∧ k8 ≠ k9 ∧ Two w k8 ∧ Two w k9 ∧ vv.ownBlock ≠ some k8 ∧ vv.ownBlock ≠ some k9 := by
  obtain ⟨x, m, p, q, o, u, v, vv, e, hb, i0, i1, i2, i3, i4, i5, i6, i7, i8⟩ := h
  obtain ⟨k8, ek8, b8, t8, n8⟩ := i5 h5
  obtain ⟨k9, ek9, b9, t9, n9⟩ := i6 h6
  have hne := i7 h5 h6
  rw [ek8, ek9] at hne
  exact ⟨vv, k8, k9, by rw [e, (i0 h0).1, i1 h1, i2 h2, i3 h3, i4 h4, ek8, ek9], (i0 h0).2, b8, b9, fun e => hne (by rw [e]), t8, t9, n8 h0, n9 h0⟩
end

theorem sl_new {w : World} {k : Nat} {us : Array Value} {t : TypeId} {n : Nat} (h : w.heap[k]? = some (.cells us t (0, 0))) (hu : us.size = n) : Sl w 1 (some ⟨k, 0, none⟩) n us.toList := by
  refine ⟨by simpa using hu, .inr ⟨k, 0, rfl, (Array.getElem?_eq_some_iff.1 h).1, fun j u hu => ?_⟩⟩
  rw [Nat.zero_add, cell_of_row _ _ _ _ _ _ h]
  simpa using hu
theorem node_ok (a b : Dg) : (bstr (nodeS a b)).size ≤ maxLen := by simp [nodeS, bytesU_length, maxLen]
theorem own_other {w : World} {base : Nat} {e : TypeId} {size : Nat} {v : Value} {n : Nat} {xs : List Value} (h : w.ownsRow base e size v n xs) {X : Nat} (hX : v.ownBlock ≠ some X) (j : Nat) (u : Value) : (w.setCell ⟨X, j, none⟩ u).ownsRow base e size v n xs := by
  refine ⟨h.1, h.2.imp id ?_⟩
  rintro ⟨g, cap, cur, rfl, h1, h2, h3⟩
  exact ⟨g, cap, cur, rfl, h1, (Below.heap_setCell _ _ _ _ (by show g ≠ X; intro e; exact hX (by rw [← e]; rfl))).trans h2, h3⟩

set_option maxRecDepth 100000 in
set_option maxHeartbeats 32000000 in
theorem TopProof_any (q0 : Nat) : ∀ (p : List Dg) (n m : Nat) (whole : Bool) (old : Dg) (ao : Option Addr) (len cap : Nat) (w : World), p.length = len → len ≤ q0 → len ≤ cap → len ≤ 1000 → 1 ≤ n → n ≤ m → m ≤ 10000 → DSl w ao p →
    Calls Try.prog 11 #[.int .i64 n, .int .i64 m, dv old, .slice ao len cap, .bool whole] w fun e w' => ∃ v', e = .returned (.tuple #[v', dv (prB n m old p whole).2.1, dv (prB n m old p whole).2.2]) ∧ w'.ownsRow w.heap.size 9 1 v' (prB n m old p whole).1.length (bcells (prB n m old p whole).1) ∧ Below w.heap.size w w' := by
  induction q0 with
  | zero =>
    intro p n m whole old ao len cap w hp hq hcap hq1 h1 hnm hm hs
    obtain rfl : len = 0 := by omega
    obtain rfl := List.eq_nil_of_length_eq_zero hp
    clear hs hp
    obtain ⟨W, hW⟩ : ∃ W, ((w.alloc (Obj.cells #[Value.int .u64 old.1.toNat, Value.int .u64 old.2.toNat] 32)).alloc (Obj.cells #[Value.int .u64 0, Value.int .u64 0] 32)).alloc (Obj.cells #[Value.int .u64 0, Value.int .u64 0] 32) = W := ⟨_, rfl⟩
    have hw0 : Below w.heap.size w W := by rw [← hW]; exact (((Below.refl _ _).alloc (Nat.le_refl _) _).alloc (by simp) _).alloc (by simp <;> omega) _
    have O : DBox W w.heap.size old := by rw [← hW]; exact ((DBox.new w old _).below (ba _ _) (by simp)).below (ba _ _) (by simp <;> omega)
    have T1 : Two W (w.heap.size + 1) := by rw [← hW]; exact (by have := Two.new (w.alloc (Obj.cells #[Value.int .u64 old.1.toNat, Value.int .u64 old.2.toNat] 32)) (.int .u64 0) (.int .u64 0) 32; rw [World.size_alloc] at this; exact this.below (ba _ _) (by simp <;> omega))
    have T2 : Two W (w.heap.size + 2) := by rw [← hW]; exact (by have := Two.new ((w.alloc (Obj.cells #[Value.int .u64 old.1.toNat, Value.int .u64 old.2.toNat] 32)).alloc (Obj.cells #[Value.int .u64 0, Value.int .u64 0] 32)) (.int .u64 0) (.int .u64 0) 32; rw [World.size_alloc, World.size_alloc] at this; exact this)
    have hsz : w.heap.size + 3 = W.heap.size := by rw [← hW, World.size_alloc, World.size_alloc, World.size_alloc]
    have HW := lid hW
    clear hW
    by_cases hnm' : n = m
    · subst hnm'
      have dd : ((n : Int) == (n : Int)) = true := by simp
      cases whole with
      | true =>
        have HV := lid (prB_nil n n old true)
        obtain ⟨O0, O1, O2⟩ := O
        go_enter Try.func11, Try.ntmps11
        go_wp2_with fail
        rw [HW.out]
        clear HW
        have O1k := SinceK.cell (k := w.heap.size) (W := W) O1
        have O2k := SinceK.cell (k := w.heap.size) (W := W) O2
        clear O1 O2
        refine wp_region_seq (fun w' => ∃ s : SinceK w.heap.size W, w' = s.world) [(0, true), (1, true), (2, false), (3, false), (4, false)] (by kernel_rfl) (by kernel_rfl) (by intro c d v a w h; cases d <;> exact h) (sincek (KeepK.refl _ _).drew) ?_
        repeat (first | (refine seq_skip (by rfl) (by rfl) ?_; simp only [Act.put, List.setIfInBounds_toArray, List.set_cons_succ, List.set_cons_zero]) | (refine seq_float (by rfl) (by rfl) (by rfl) ?_; intro K hK; go_big_quiet_op; go_big_quiet_on))
        refine seq_chain (by rfl) ?_
        intro K hK
        go_wp2_with fail
        refine hK.out _ _ (sincek (KeepK.refl _ _).drew) ?_
        clear hK K
        repeat (first | (refine seq_skip (by rfl) (by rfl) ?_; simp only [Act.put, List.setIfInBounds_toArray, List.set_cons_succ, List.set_cons_zero]) | (refine seq_float (by rfl) (by rfl) (by rfl) ?_; intro K hK; go_big_quiet_op; go_big_quiet_on))
        have hs0 := hw0
        have hk0 : KeepK w.heap.size W W := KeepK.refl _ _
        obtain ⟨y0, y1, ya0, ya1, za0, za1⟩ := T1.cells
        refine seq_chain (by rfl) ?_
        intro K hK
        go_wp2_with fail
        obtain ⟨W8, hW8⟩ : ∃ W8, (W.setCell ⟨w.heap.size + 1, 0, none⟩ (.int .u64 old.1.toNat)).setCell ⟨w.heap.size + 1, 1, none⟩ (.int .u64 old.2.toNat) = W8 := ⟨_, rfl⟩
        have hX : DBox W8 (w.heap.size + 1) old := by rw [← hW8]; exact T1.set old
        have T2' : Two W8 (w.heap.size + 2) := by rw [← hW8]; exact (T2.other _ _ (by simp)).other _ _ (by simp)
        have hs8 := (hs0.setCell (p := ⟨w.heap.size + 1, 0, none⟩) (by show w.heap.size ≤ w.heap.size + 1; omega) (.int .u64 old.1.toNat)).setCell (p := ⟨w.heap.size + 1, 1, none⟩) (by show w.heap.size ≤ w.heap.size + 1; omega) (.int .u64 old.2.toNat)
        have hk8 := (hk0.setCell (p := ⟨w.heap.size + 1, 0, none⟩) (by show w.heap.size ≠ w.heap.size + 1; omega) (.int .u64 old.1.toNat)).setCell (p := ⟨w.heap.size + 1, 1, none⟩) (by show w.heap.size ≠ w.heap.size + 1; omega) (.int .u64 old.2.toNat)
        rw [hW8] at hs8 hk8 ⊢
        clear hW8 T1 T2 ya0 ya1 za0 za1 hs0 hk0
        refine hK.out _ _ (sincek hk8.drew) ?_
        clear hK K
        repeat (first | (refine seq_skip (by rfl) (by rfl) ?_; simp only [Act.put, List.setIfInBounds_toArray, List.set_cons_succ, List.set_cons_zero]) | (refine seq_float (by rfl) (by rfl) (by rfl) ?_; intro K hK; go_big_quiet_op; go_big_quiet_on))
        obtain ⟨y0', y1', yb0, yb1, zb0, zb1⟩ := T2'.cells
        refine seq_chain (by rfl) ?_
        intro K hK
        go_wp2_with fail
        obtain ⟨W9, hW9⟩ : ∃ W9, (W8.setCell ⟨w.heap.size + 2, 0, none⟩ (.int .u64 old.1.toNat)).setCell ⟨w.heap.size + 2, 1, none⟩ (.int .u64 old.2.toNat) = W9 := ⟨_, rfl⟩
        have hX9 : DBox W9 (w.heap.size + 1) old := by rw [← hW9]; exact (hX.other _ _ (by simp)).other _ _ (by simp)
        have hY9 : DBox W9 (w.heap.size + 2) old := by rw [← hW9]; exact T2'.set old
        have hs9 := (hs8.setCell (p := ⟨w.heap.size + 2, 0, none⟩) (by show w.heap.size ≤ w.heap.size + 2; omega) (.int .u64 old.1.toNat)).setCell (p := ⟨w.heap.size + 2, 1, none⟩) (by show w.heap.size ≤ w.heap.size + 2; omega) (.int .u64 old.2.toNat)
        have hk9 := (hk8.setCell (p := ⟨w.heap.size + 2, 0, none⟩) (by show w.heap.size ≠ w.heap.size + 2; omega) (.int .u64 old.1.toNat)).setCell (p := ⟨w.heap.size + 2, 1, none⟩) (by show w.heap.size ≠ w.heap.size + 2; omega) (.int .u64 old.2.toNat)
        rw [hW9] at hs9 hk9 ⊢
        clear hW9 T2' yb0 yb1 zb0 zb1 hX hs8 hk8
        refine hK.out _ _ (sincek hk9.drew) ?_
        clear hK K
        repeat (first | (refine seq_skip (by rfl) (by rfl) ?_; simp only [Act.put, List.setIfInBounds_toArray, List.set_cons_succ, List.set_cons_zero]) | (refine seq_float (by rfl) (by rfl) (by rfl) ?_; intro K hK; go_big_quiet_op; go_big_quiet_on))
        refine seq_nil ?_
        obtain ⟨-, e0, e1⟩ := hX9
        obtain ⟨-, e2, e3⟩ := hY9
        go_wp2_with fail
        refine bodyPost_ret (v := .tuple #[.slice none 0 0, dv old, dv old]) (res_pr Try.results11 _ _ (w.heap.size + 1) (w.heap.size + 2) _ _ _ rfl rfl rfl (by simpa using e0) (by simpa using e1) (by simpa using e2) (by simpa using e3)) rfl ⟨.slice none 0 0, by rw [HV.out], ?_, ?_⟩
        · rw [HV.out]
          exact World.ownsRow_nil _ _ _ _
        · exact hs9.drew
      | false =>
        have HV := lid (prB_nil n n old false)
        obtain ⟨O0, O1, O2⟩ := O
        go_enter Try.func11, Try.ntmps11
        go_wp2_with fail
        rw [HW.out]
        clear HW
        have O1k := SinceK.cell (k := w.heap.size) (W := W) O1
        have O2k := SinceK.cell (k := w.heap.size) (W := W) O2
        clear O1 O2
        refine wp_region_seq (fun w' => ∃ s : SinceK w.heap.size W, w' = s.world) [(0, true), (1, true), (2, false), (3, false), (4, false)] (by kernel_rfl) (by kernel_rfl) (by intro c d v a w h; cases d <;> exact h) (sincek (KeepK.refl _ _).drew) ?_
        repeat (first | (refine seq_skip (by rfl) (by rfl) ?_; simp only [Act.put, List.setIfInBounds_toArray, List.set_cons_succ, List.set_cons_zero]) | (refine seq_float (by rfl) (by rfl) (by rfl) ?_; intro K hK; go_big_quiet_op; go_big_quiet_on))
        refine seq_chain (by rfl) ?_
        intro K hK
        go_wp2_with fail
        refine hK.out _ _ (sincek (KeepK.refl _ _).drew) ?_
        clear hK K
        repeat (first | (refine seq_skip (by rfl) (by rfl) ?_; simp only [Act.put, List.setIfInBounds_toArray, List.set_cons_succ, List.set_cons_zero]) | (refine seq_float (by rfl) (by rfl) (by rfl) ?_; intro K hK; go_big_quiet_op; go_big_quiet_on))
        have hs0 := hw0
        have hk0 : KeepK w.heap.size W W := KeepK.refl _ _
        obtain ⟨y0, y1, ya0, ya1, za0, za1⟩ := T1.cells
        refine seq_chain (by rfl) ?_
        intro K hK
        go_wp2_with fail
        obtain ⟨W8, hW8⟩ : ∃ W8, (W.setCell ⟨w.heap.size + 1, 0, none⟩ (.int .u64 old.1.toNat)).setCell ⟨w.heap.size + 1, 1, none⟩ (.int .u64 old.2.toNat) = W8 := ⟨_, rfl⟩
        have hX : DBox W8 (w.heap.size + 1) old := by rw [← hW8]; exact T1.set old
        have T2' : Two W8 (w.heap.size + 2) := by rw [← hW8]; exact (T2.other _ _ (by simp)).other _ _ (by simp)
        have hs8 := (hs0.setCell (p := ⟨w.heap.size + 1, 0, none⟩) (by show w.heap.size ≤ w.heap.size + 1; omega) (.int .u64 old.1.toNat)).setCell (p := ⟨w.heap.size + 1, 1, none⟩) (by show w.heap.size ≤ w.heap.size + 1; omega) (.int .u64 old.2.toNat)
        have hk8 := (hk0.setCell (p := ⟨w.heap.size + 1, 0, none⟩) (by show w.heap.size ≠ w.heap.size + 1; omega) (.int .u64 old.1.toNat)).setCell (p := ⟨w.heap.size + 1, 1, none⟩) (by show w.heap.size ≠ w.heap.size + 1; omega) (.int .u64 old.2.toNat)
        rw [hW8] at hs8 hk8 ⊢
        clear hW8 T1 T2 ya0 ya1 za0 za1 hs0 hk0
        refine hK.out _ _ (sincek hk8.drew) ?_
        clear hK K
        repeat (first | (refine seq_skip (by rfl) (by rfl) ?_; simp only [Act.put, List.setIfInBounds_toArray, List.set_cons_succ, List.set_cons_zero]) | (refine seq_float (by rfl) (by rfl) (by rfl) ?_; intro K hK; go_big_quiet_op; go_big_quiet_on))
        obtain ⟨y0', y1', yb0, yb1, zb0, zb1⟩ := T2'.cells
        refine seq_chain (by rfl) ?_
        intro K hK
        go_wp2_with fail
        obtain ⟨W9, hW9⟩ : ∃ W9, (W8.setCell ⟨w.heap.size + 2, 0, none⟩ (.int .u64 old.1.toNat)).setCell ⟨w.heap.size + 2, 1, none⟩ (.int .u64 old.2.toNat) = W9 := ⟨_, rfl⟩
        have hX9 : DBox W9 (w.heap.size + 1) old := by rw [← hW9]; exact (hX.other _ _ (by simp)).other _ _ (by simp)
        have hY9 : DBox W9 (w.heap.size + 2) old := by rw [← hW9]; exact T2'.set old
        have hs9 := (hs8.setCell (p := ⟨w.heap.size + 2, 0, none⟩) (by show w.heap.size ≤ w.heap.size + 2; omega) (.int .u64 old.1.toNat)).setCell (p := ⟨w.heap.size + 2, 1, none⟩) (by show w.heap.size ≤ w.heap.size + 2; omega) (.int .u64 old.2.toNat)
        have hk9 := (hk8.setCell (p := ⟨w.heap.size + 2, 0, none⟩) (by show w.heap.size ≠ w.heap.size + 2; omega) (.int .u64 old.1.toNat)).setCell (p := ⟨w.heap.size + 2, 1, none⟩) (by show w.heap.size ≠ w.heap.size + 2; omega) (.int .u64 old.2.toNat)
        rw [hW9] at hs9 hk9 ⊢
        clear hW9 T2' yb0 yb1 zb0 zb1 hX hs8 hk8
        refine hK.out _ _ (sincek hk9.drew) ?_
        clear hK K
        repeat (first | (refine seq_skip (by rfl) (by rfl) ?_; simp only [Act.put, List.setIfInBounds_toArray, List.set_cons_succ, List.set_cons_zero]) | (refine seq_float (by rfl) (by rfl) (by rfl) ?_; intro K hK; go_big_quiet_op; go_big_quiet_on))
        refine seq_nil ?_
        obtain ⟨-, e0, e1⟩ := hX9
        obtain ⟨-, e2, e3⟩ := hY9
        go_wp2_with fail
        refine bodyPost_ret (v := .tuple #[.slice none 0 0, dv old, dv old]) (res_pr Try.results11 _ _ (w.heap.size + 1) (w.heap.size + 2) _ _ _ rfl rfl rfl (by simpa using e0) (by simpa using e1) (by simpa using e2) (by simpa using e3)) rfl ⟨.slice none 0 0, by rw [HV.out], ?_, ?_⟩
        · rw [HV.out]
          exact World.ownsRow_nil _ _ _ _
        · exact hs9.drew
    · have dd : ((n : Int) == (m : Int)) = false := by simp; omega
      have dd' : (n == m) = false := by simpa using hnm'
      have HV := lid (prB_nil n m old whole)
      obtain ⟨O0, O1, O2⟩ := O
      go_enter Try.func11, Try.ntmps11
      go_wp2_with fail
      rw [HW.out]
      clear HW
      have O1k := SinceK.cell (k := w.heap.size) (W := W) O1
      have O2k := SinceK.cell (k := w.heap.size) (W := W) O2
      clear O1 O2
      refine wp_region_seq (fun w' => ∃ s : SinceK w.heap.size W, w' = s.world) [(0, true), (1, true), (2, false), (3, false), (4, false)] (by kernel_rfl) (by kernel_rfl) (by intro c d v a w h; cases d <;> exact h) (sincek (KeepK.refl _ _).drew) ?_
      repeat (first | (refine seq_skip (by rfl) (by rfl) ?_; simp only [Act.put, List.setIfInBounds_toArray, List.set_cons_succ, List.set_cons_zero]) | (refine seq_float (by rfl) (by rfl) (by rfl) ?_; intro K hK; go_big_quiet_op; go_big_quiet_on))
      refine seq_chain (by rfl) ?_
      intro K hK
      go_wp2_with fail
      refine hK.out _ _ (sincek (KeepK.refl _ _).drew) ?_
      clear hK K
      repeat (first | (refine seq_skip (by rfl) (by rfl) ?_; simp only [Act.put, List.setIfInBounds_toArray, List.set_cons_succ, List.set_cons_zero]) | (refine seq_float (by rfl) (by rfl) (by rfl) ?_; intro K hK; go_big_quiet_op; go_big_quiet_on))
      have hs0 := hw0
      have hk0 : KeepK w.heap.size W W := KeepK.refl _ _
      obtain ⟨y0, y1, ya0, ya1, za0, za1⟩ := T1.cells
      refine seq_chain (by rfl) ?_
      intro K hK
      go_wp2_with fail
      obtain ⟨W8, hW8⟩ : ∃ W8, (W.setCell ⟨w.heap.size + 1, 0, none⟩ (.int .u64 old.1.toNat)).setCell ⟨w.heap.size + 1, 1, none⟩ (.int .u64 old.2.toNat) = W8 := ⟨_, rfl⟩
      have hX : DBox W8 (w.heap.size + 1) old := by rw [← hW8]; exact T1.set old
      have T2' : Two W8 (w.heap.size + 2) := by rw [← hW8]; exact (T2.other _ _ (by simp)).other _ _ (by simp)
      have hs8 := (hs0.setCell (p := ⟨w.heap.size + 1, 0, none⟩) (by show w.heap.size ≤ w.heap.size + 1; omega) (.int .u64 old.1.toNat)).setCell (p := ⟨w.heap.size + 1, 1, none⟩) (by show w.heap.size ≤ w.heap.size + 1; omega) (.int .u64 old.2.toNat)
      have hk8 := (hk0.setCell (p := ⟨w.heap.size + 1, 0, none⟩) (by show w.heap.size ≠ w.heap.size + 1; omega) (.int .u64 old.1.toNat)).setCell (p := ⟨w.heap.size + 1, 1, none⟩) (by show w.heap.size ≠ w.heap.size + 1; omega) (.int .u64 old.2.toNat)
      rw [hW8] at hs8 hk8 ⊢
      clear hW8 T1 T2 ya0 ya1 za0 za1 hs0 hk0
      refine hK.out _ _ (sincek hk8.drew) ?_
      clear hK K
      repeat (first | (refine seq_skip (by rfl) (by rfl) ?_; simp only [Act.put, List.setIfInBounds_toArray, List.set_cons_succ, List.set_cons_zero]) | (refine seq_float (by rfl) (by rfl) (by rfl) ?_; intro K hK; go_big_quiet_op; go_big_quiet_on))
      obtain ⟨y0', y1', yb0, yb1, zb0, zb1⟩ := T2'.cells
      refine seq_chain (by rfl) ?_
      intro K hK
      go_wp2_with fail
      obtain ⟨W9, hW9⟩ : ∃ W9, (W8.setCell ⟨w.heap.size + 2, 0, none⟩ (.int .u64 old.1.toNat)).setCell ⟨w.heap.size + 2, 1, none⟩ (.int .u64 old.2.toNat) = W9 := ⟨_, rfl⟩
      have hX9 : DBox W9 (w.heap.size + 1) old := by rw [← hW9]; exact (hX.other _ _ (by simp)).other _ _ (by simp)
      have hY9 : DBox W9 (w.heap.size + 2) old := by rw [← hW9]; exact T2'.set old
      have hs9 := (hs8.setCell (p := ⟨w.heap.size + 2, 0, none⟩) (by show w.heap.size ≤ w.heap.size + 2; omega) (.int .u64 old.1.toNat)).setCell (p := ⟨w.heap.size + 2, 1, none⟩) (by show w.heap.size ≤ w.heap.size + 2; omega) (.int .u64 old.2.toNat)
      have hk9 := (hk8.setCell (p := ⟨w.heap.size + 2, 0, none⟩) (by show w.heap.size ≠ w.heap.size + 2; omega) (.int .u64 old.1.toNat)).setCell (p := ⟨w.heap.size + 2, 1, none⟩) (by show w.heap.size ≠ w.heap.size + 2; omega) (.int .u64 old.2.toNat)
      rw [hW9] at hs9 hk9 ⊢
      clear hW9 T2' yb0 yb1 zb0 zb1 hX hs8 hk8
      refine hK.out _ _ (sincek hk9.drew) ?_
      clear hK K
      repeat (first | (refine seq_skip (by rfl) (by rfl) ?_; simp only [Act.put, List.setIfInBounds_toArray, List.set_cons_succ, List.set_cons_zero]) | (refine seq_float (by rfl) (by rfl) (by rfl) ?_; intro K hK; go_big_quiet_op; go_big_quiet_on))
      refine seq_nil ?_
      obtain ⟨-, e0, e1⟩ := hX9
      obtain ⟨-, e2, e3⟩ := hY9
      go_wp2_with fail
      refine bodyPost_ret (v := .tuple #[.slice none 0 0, dv old, dv old]) (res_pr Try.results11 _ _ (w.heap.size + 1) (w.heap.size + 2) _ _ _ rfl rfl rfl (by simpa using e0) (by simpa using e1) (by simpa using e2) (by simpa using e3)) rfl ⟨.slice none 0 0, by rw [HV.out], ?_, ?_⟩
      · rw [HV.out]
        exact World.ownsRow_nil _ _ _ _
      · exact hs9.drew
  | succ q0 ih =>
    intro p n m whole old ao len cap w hp hq hcap hq1 h1 hnm hm hs
    rcases List.eq_nil_or_concat p with rfl | ⟨q, e, hqe⟩
    · obtain rfl : len = 0 := hp.symm
      clear hs hp
      obtain ⟨W, hW⟩ : ∃ W, ((w.alloc (Obj.cells #[Value.int .u64 old.1.toNat, Value.int .u64 old.2.toNat] 32)).alloc (Obj.cells #[Value.int .u64 0, Value.int .u64 0] 32)).alloc (Obj.cells #[Value.int .u64 0, Value.int .u64 0] 32) = W := ⟨_, rfl⟩
      have hw0 : Below w.heap.size w W := by rw [← hW]; exact (((Below.refl _ _).alloc (Nat.le_refl _) _).alloc (by simp) _).alloc (by simp <;> omega) _
      have O : DBox W w.heap.size old := by rw [← hW]; exact ((DBox.new w old _).below (ba _ _) (by simp)).below (ba _ _) (by simp <;> omega)
      have T1 : Two W (w.heap.size + 1) := by rw [← hW]; exact (by have := Two.new (w.alloc (Obj.cells #[Value.int .u64 old.1.toNat, Value.int .u64 old.2.toNat] 32)) (.int .u64 0) (.int .u64 0) 32; rw [World.size_alloc] at this; exact this.below (ba _ _) (by simp <;> omega))
      have T2 : Two W (w.heap.size + 2) := by rw [← hW]; exact (by have := Two.new ((w.alloc (Obj.cells #[Value.int .u64 old.1.toNat, Value.int .u64 old.2.toNat] 32)).alloc (Obj.cells #[Value.int .u64 0, Value.int .u64 0] 32)) (.int .u64 0) (.int .u64 0) 32; rw [World.size_alloc, World.size_alloc] at this; exact this)
      have hsz : w.heap.size + 3 = W.heap.size := by rw [← hW, World.size_alloc, World.size_alloc, World.size_alloc]
      have HW := lid hW
      clear hW
      by_cases hnm' : n = m
      · subst hnm'
        have dd : ((n : Int) == (n : Int)) = true := by simp
        cases whole with
        | true =>
          have HV := lid (prB_nil n n old true)
          obtain ⟨O0, O1, O2⟩ := O
          go_enter Try.func11, Try.ntmps11
          go_wp2_with fail
          rw [HW.out]
          clear HW
          have O1k := SinceK.cell (k := w.heap.size) (W := W) O1
          have O2k := SinceK.cell (k := w.heap.size) (W := W) O2
          clear O1 O2
          refine wp_region_seq (fun w' => ∃ s : SinceK w.heap.size W, w' = s.world) [(0, true), (1, true), (2, false), (3, false), (4, false)] (by kernel_rfl) (by kernel_rfl) (by intro c d v a w h; cases d <;> exact h) (sincek (KeepK.refl _ _).drew) ?_
          repeat (first | (refine seq_skip (by rfl) (by rfl) ?_; simp only [Act.put, List.setIfInBounds_toArray, List.set_cons_succ, List.set_cons_zero]) | (refine seq_float (by rfl) (by rfl) (by rfl) ?_; intro K hK; go_big_quiet_op; go_big_quiet_on))
          refine seq_chain (by rfl) ?_
          intro K hK
          go_wp2_with fail
          refine hK.out _ _ (sincek (KeepK.refl _ _).drew) ?_
          clear hK K
          repeat (first | (refine seq_skip (by rfl) (by rfl) ?_; simp only [Act.put, List.setIfInBounds_toArray, List.set_cons_succ, List.set_cons_zero]) | (refine seq_float (by rfl) (by rfl) (by rfl) ?_; intro K hK; go_big_quiet_op; go_big_quiet_on))
          have hs0 := hw0
          have hk0 : KeepK w.heap.size W W := KeepK.refl _ _
          obtain ⟨y0, y1, ya0, ya1, za0, za1⟩ := T1.cells
          refine seq_chain (by rfl) ?_
          intro K hK
          go_wp2_with fail
          obtain ⟨W8, hW8⟩ : ∃ W8, (W.setCell ⟨w.heap.size + 1, 0, none⟩ (.int .u64 old.1.toNat)).setCell ⟨w.heap.size + 1, 1, none⟩ (.int .u64 old.2.toNat) = W8 := ⟨_, rfl⟩
          have hX : DBox W8 (w.heap.size + 1) old := by rw [← hW8]; exact T1.set old
          have T2' : Two W8 (w.heap.size + 2) := by rw [← hW8]; exact (T2.other _ _ (by simp)).other _ _ (by simp)
          have hs8 := (hs0.setCell (p := ⟨w.heap.size + 1, 0, none⟩) (by show w.heap.size ≤ w.heap.size + 1; omega) (.int .u64 old.1.toNat)).setCell (p := ⟨w.heap.size + 1, 1, none⟩) (by show w.heap.size ≤ w.heap.size + 1; omega) (.int .u64 old.2.toNat)
          have hk8 := (hk0.setCell (p := ⟨w.heap.size + 1, 0, none⟩) (by show w.heap.size ≠ w.heap.size + 1; omega) (.int .u64 old.1.toNat)).setCell (p := ⟨w.heap.size + 1, 1, none⟩) (by show w.heap.size ≠ w.heap.size + 1; omega) (.int .u64 old.2.toNat)
          rw [hW8] at hs8 hk8 ⊢
          clear hW8 T1 T2 ya0 ya1 za0 za1 hs0 hk0
          refine hK.out _ _ (sincek hk8.drew) ?_
          clear hK K
          repeat (first | (refine seq_skip (by rfl) (by rfl) ?_; simp only [Act.put, List.setIfInBounds_toArray, List.set_cons_succ, List.set_cons_zero]) | (refine seq_float (by rfl) (by rfl) (by rfl) ?_; intro K hK; go_big_quiet_op; go_big_quiet_on))
          obtain ⟨y0', y1', yb0, yb1, zb0, zb1⟩ := T2'.cells
          refine seq_chain (by rfl) ?_
          intro K hK
          go_wp2_with fail
          obtain ⟨W9, hW9⟩ : ∃ W9, (W8.setCell ⟨w.heap.size + 2, 0, none⟩ (.int .u64 old.1.toNat)).setCell ⟨w.heap.size + 2, 1, none⟩ (.int .u64 old.2.toNat) = W9 := ⟨_, rfl⟩
          have hX9 : DBox W9 (w.heap.size + 1) old := by rw [← hW9]; exact (hX.other _ _ (by simp)).other _ _ (by simp)
          have hY9 : DBox W9 (w.heap.size + 2) old := by rw [← hW9]; exact T2'.set old
          have hs9 := (hs8.setCell (p := ⟨w.heap.size + 2, 0, none⟩) (by show w.heap.size ≤ w.heap.size + 2; omega) (.int .u64 old.1.toNat)).setCell (p := ⟨w.heap.size + 2, 1, none⟩) (by show w.heap.size ≤ w.heap.size + 2; omega) (.int .u64 old.2.toNat)
          have hk9 := (hk8.setCell (p := ⟨w.heap.size + 2, 0, none⟩) (by show w.heap.size ≠ w.heap.size + 2; omega) (.int .u64 old.1.toNat)).setCell (p := ⟨w.heap.size + 2, 1, none⟩) (by show w.heap.size ≠ w.heap.size + 2; omega) (.int .u64 old.2.toNat)
          rw [hW9] at hs9 hk9 ⊢
          clear hW9 T2' yb0 yb1 zb0 zb1 hX hs8 hk8
          refine hK.out _ _ (sincek hk9.drew) ?_
          clear hK K
          repeat (first | (refine seq_skip (by rfl) (by rfl) ?_; simp only [Act.put, List.setIfInBounds_toArray, List.set_cons_succ, List.set_cons_zero]) | (refine seq_float (by rfl) (by rfl) (by rfl) ?_; intro K hK; go_big_quiet_op; go_big_quiet_on))
          refine seq_nil ?_
          obtain ⟨-, e0, e1⟩ := hX9
          obtain ⟨-, e2, e3⟩ := hY9
          go_wp2_with fail
          refine bodyPost_ret (v := .tuple #[.slice none 0 0, dv old, dv old]) (res_pr Try.results11 _ _ (w.heap.size + 1) (w.heap.size + 2) _ _ _ rfl rfl rfl (by simpa using e0) (by simpa using e1) (by simpa using e2) (by simpa using e3)) rfl ⟨.slice none 0 0, by rw [HV.out], ?_, ?_⟩
          · rw [HV.out]
            exact World.ownsRow_nil _ _ _ _
          · exact hs9.drew
        | false =>
          have HV := lid (prB_nil n n old false)
          obtain ⟨O0, O1, O2⟩ := O
          go_enter Try.func11, Try.ntmps11
          go_wp2_with fail
          rw [HW.out]
          clear HW
          have O1k := SinceK.cell (k := w.heap.size) (W := W) O1
          have O2k := SinceK.cell (k := w.heap.size) (W := W) O2
          clear O1 O2
          refine wp_region_seq (fun w' => ∃ s : SinceK w.heap.size W, w' = s.world) [(0, true), (1, true), (2, false), (3, false), (4, false)] (by kernel_rfl) (by kernel_rfl) (by intro c d v a w h; cases d <;> exact h) (sincek (KeepK.refl _ _).drew) ?_
          repeat (first | (refine seq_skip (by rfl) (by rfl) ?_; simp only [Act.put, List.setIfInBounds_toArray, List.set_cons_succ, List.set_cons_zero]) | (refine seq_float (by rfl) (by rfl) (by rfl) ?_; intro K hK; go_big_quiet_op; go_big_quiet_on))
          refine seq_chain (by rfl) ?_
          intro K hK
          go_wp2_with fail
          refine hK.out _ _ (sincek (KeepK.refl _ _).drew) ?_
          clear hK K
          repeat (first | (refine seq_skip (by rfl) (by rfl) ?_; simp only [Act.put, List.setIfInBounds_toArray, List.set_cons_succ, List.set_cons_zero]) | (refine seq_float (by rfl) (by rfl) (by rfl) ?_; intro K hK; go_big_quiet_op; go_big_quiet_on))
          have hs0 := hw0
          have hk0 : KeepK w.heap.size W W := KeepK.refl _ _
          obtain ⟨y0, y1, ya0, ya1, za0, za1⟩ := T1.cells
          refine seq_chain (by rfl) ?_
          intro K hK
          go_wp2_with fail
          obtain ⟨W8, hW8⟩ : ∃ W8, (W.setCell ⟨w.heap.size + 1, 0, none⟩ (.int .u64 old.1.toNat)).setCell ⟨w.heap.size + 1, 1, none⟩ (.int .u64 old.2.toNat) = W8 := ⟨_, rfl⟩
          have hX : DBox W8 (w.heap.size + 1) old := by rw [← hW8]; exact T1.set old
          have T2' : Two W8 (w.heap.size + 2) := by rw [← hW8]; exact (T2.other _ _ (by simp)).other _ _ (by simp)
          have hs8 := (hs0.setCell (p := ⟨w.heap.size + 1, 0, none⟩) (by show w.heap.size ≤ w.heap.size + 1; omega) (.int .u64 old.1.toNat)).setCell (p := ⟨w.heap.size + 1, 1, none⟩) (by show w.heap.size ≤ w.heap.size + 1; omega) (.int .u64 old.2.toNat)
          have hk8 := (hk0.setCell (p := ⟨w.heap.size + 1, 0, none⟩) (by show w.heap.size ≠ w.heap.size + 1; omega) (.int .u64 old.1.toNat)).setCell (p := ⟨w.heap.size + 1, 1, none⟩) (by show w.heap.size ≠ w.heap.size + 1; omega) (.int .u64 old.2.toNat)
          rw [hW8] at hs8 hk8 ⊢
          clear hW8 T1 T2 ya0 ya1 za0 za1 hs0 hk0
          refine hK.out _ _ (sincek hk8.drew) ?_
          clear hK K
          repeat (first | (refine seq_skip (by rfl) (by rfl) ?_; simp only [Act.put, List.setIfInBounds_toArray, List.set_cons_succ, List.set_cons_zero]) | (refine seq_float (by rfl) (by rfl) (by rfl) ?_; intro K hK; go_big_quiet_op; go_big_quiet_on))
          obtain ⟨y0', y1', yb0, yb1, zb0, zb1⟩ := T2'.cells
          refine seq_chain (by rfl) ?_
          intro K hK
          go_wp2_with fail
          obtain ⟨W9, hW9⟩ : ∃ W9, (W8.setCell ⟨w.heap.size + 2, 0, none⟩ (.int .u64 old.1.toNat)).setCell ⟨w.heap.size + 2, 1, none⟩ (.int .u64 old.2.toNat) = W9 := ⟨_, rfl⟩
          have hX9 : DBox W9 (w.heap.size + 1) old := by rw [← hW9]; exact (hX.other _ _ (by simp)).other _ _ (by simp)
          have hY9 : DBox W9 (w.heap.size + 2) old := by rw [← hW9]; exact T2'.set old
          have hs9 := (hs8.setCell (p := ⟨w.heap.size + 2, 0, none⟩) (by show w.heap.size ≤ w.heap.size + 2; omega) (.int .u64 old.1.toNat)).setCell (p := ⟨w.heap.size + 2, 1, none⟩) (by show w.heap.size ≤ w.heap.size + 2; omega) (.int .u64 old.2.toNat)
          have hk9 := (hk8.setCell (p := ⟨w.heap.size + 2, 0, none⟩) (by show w.heap.size ≠ w.heap.size + 2; omega) (.int .u64 old.1.toNat)).setCell (p := ⟨w.heap.size + 2, 1, none⟩) (by show w.heap.size ≠ w.heap.size + 2; omega) (.int .u64 old.2.toNat)
          rw [hW9] at hs9 hk9 ⊢
          clear hW9 T2' yb0 yb1 zb0 zb1 hX hs8 hk8
          refine hK.out _ _ (sincek hk9.drew) ?_
          clear hK K
          repeat (first | (refine seq_skip (by rfl) (by rfl) ?_; simp only [Act.put, List.setIfInBounds_toArray, List.set_cons_succ, List.set_cons_zero]) | (refine seq_float (by rfl) (by rfl) (by rfl) ?_; intro K hK; go_big_quiet_op; go_big_quiet_on))
          refine seq_nil ?_
          obtain ⟨-, e0, e1⟩ := hX9
          obtain ⟨-, e2, e3⟩ := hY9
          go_wp2_with fail
          refine bodyPost_ret (v := .tuple #[.slice none 0 0, dv old, dv old]) (res_pr Try.results11 _ _ (w.heap.size + 1) (w.heap.size + 2) _ _ _ rfl rfl rfl (by simpa using e0) (by simpa using e1) (by simpa using e2) (by simpa using e3)) rfl ⟨.slice none 0 0, by rw [HV.out], ?_, ?_⟩
          · rw [HV.out]
            exact World.ownsRow_nil _ _ _ _
          · exact hs9.drew
      · have dd : ((n : Int) == (m : Int)) = false := by simp; omega
        have dd' : (n == m) = false := by simpa using hnm'
        have HV := lid (prB_nil n m old whole)
        obtain ⟨O0, O1, O2⟩ := O
        go_enter Try.func11, Try.ntmps11
        go_wp2_with fail
        rw [HW.out]
        clear HW
        have O1k := SinceK.cell (k := w.heap.size) (W := W) O1
        have O2k := SinceK.cell (k := w.heap.size) (W := W) O2
        clear O1 O2
        refine wp_region_seq (fun w' => ∃ s : SinceK w.heap.size W, w' = s.world) [(0, true), (1, true), (2, false), (3, false), (4, false)] (by kernel_rfl) (by kernel_rfl) (by intro c d v a w h; cases d <;> exact h) (sincek (KeepK.refl _ _).drew) ?_
        repeat (first | (refine seq_skip (by rfl) (by rfl) ?_; simp only [Act.put, List.setIfInBounds_toArray, List.set_cons_succ, List.set_cons_zero]) | (refine seq_float (by rfl) (by rfl) (by rfl) ?_; intro K hK; go_big_quiet_op; go_big_quiet_on))
        refine seq_chain (by rfl) ?_
        intro K hK
        go_wp2_with fail
        refine hK.out _ _ (sincek (KeepK.refl _ _).drew) ?_
        clear hK K
        repeat (first | (refine seq_skip (by rfl) (by rfl) ?_; simp only [Act.put, List.setIfInBounds_toArray, List.set_cons_succ, List.set_cons_zero]) | (refine seq_float (by rfl) (by rfl) (by rfl) ?_; intro K hK; go_big_quiet_op; go_big_quiet_on))
        have hs0 := hw0
        have hk0 : KeepK w.heap.size W W := KeepK.refl _ _
        obtain ⟨y0, y1, ya0, ya1, za0, za1⟩ := T1.cells
        refine seq_chain (by rfl) ?_
        intro K hK
        go_wp2_with fail
        obtain ⟨W8, hW8⟩ : ∃ W8, (W.setCell ⟨w.heap.size + 1, 0, none⟩ (.int .u64 old.1.toNat)).setCell ⟨w.heap.size + 1, 1, none⟩ (.int .u64 old.2.toNat) = W8 := ⟨_, rfl⟩
        have hX : DBox W8 (w.heap.size + 1) old := by rw [← hW8]; exact T1.set old
        have T2' : Two W8 (w.heap.size + 2) := by rw [← hW8]; exact (T2.other _ _ (by simp)).other _ _ (by simp)
        have hs8 := (hs0.setCell (p := ⟨w.heap.size + 1, 0, none⟩) (by show w.heap.size ≤ w.heap.size + 1; omega) (.int .u64 old.1.toNat)).setCell (p := ⟨w.heap.size + 1, 1, none⟩) (by show w.heap.size ≤ w.heap.size + 1; omega) (.int .u64 old.2.toNat)
        have hk8 := (hk0.setCell (p := ⟨w.heap.size + 1, 0, none⟩) (by show w.heap.size ≠ w.heap.size + 1; omega) (.int .u64 old.1.toNat)).setCell (p := ⟨w.heap.size + 1, 1, none⟩) (by show w.heap.size ≠ w.heap.size + 1; omega) (.int .u64 old.2.toNat)
        rw [hW8] at hs8 hk8 ⊢
        clear hW8 T1 T2 ya0 ya1 za0 za1 hs0 hk0
        refine hK.out _ _ (sincek hk8.drew) ?_
        clear hK K
        repeat (first | (refine seq_skip (by rfl) (by rfl) ?_; simp only [Act.put, List.setIfInBounds_toArray, List.set_cons_succ, List.set_cons_zero]) | (refine seq_float (by rfl) (by rfl) (by rfl) ?_; intro K hK; go_big_quiet_op; go_big_quiet_on))
        obtain ⟨y0', y1', yb0, yb1, zb0, zb1⟩ := T2'.cells
        refine seq_chain (by rfl) ?_
        intro K hK
        go_wp2_with fail
        obtain ⟨W9, hW9⟩ : ∃ W9, (W8.setCell ⟨w.heap.size + 2, 0, none⟩ (.int .u64 old.1.toNat)).setCell ⟨w.heap.size + 2, 1, none⟩ (.int .u64 old.2.toNat) = W9 := ⟨_, rfl⟩
        have hX9 : DBox W9 (w.heap.size + 1) old := by rw [← hW9]; exact (hX.other _ _ (by simp)).other _ _ (by simp)
        have hY9 : DBox W9 (w.heap.size + 2) old := by rw [← hW9]; exact T2'.set old
        have hs9 := (hs8.setCell (p := ⟨w.heap.size + 2, 0, none⟩) (by show w.heap.size ≤ w.heap.size + 2; omega) (.int .u64 old.1.toNat)).setCell (p := ⟨w.heap.size + 2, 1, none⟩) (by show w.heap.size ≤ w.heap.size + 2; omega) (.int .u64 old.2.toNat)
        have hk9 := (hk8.setCell (p := ⟨w.heap.size + 2, 0, none⟩) (by show w.heap.size ≠ w.heap.size + 2; omega) (.int .u64 old.1.toNat)).setCell (p := ⟨w.heap.size + 2, 1, none⟩) (by show w.heap.size ≠ w.heap.size + 2; omega) (.int .u64 old.2.toNat)
        rw [hW9] at hs9 hk9 ⊢
        clear hW9 T2' yb0 yb1 zb0 zb1 hX hs8 hk8
        refine hK.out _ _ (sincek hk9.drew) ?_
        clear hK K
        repeat (first | (refine seq_skip (by rfl) (by rfl) ?_; simp only [Act.put, List.setIfInBounds_toArray, List.set_cons_succ, List.set_cons_zero]) | (refine seq_float (by rfl) (by rfl) (by rfl) ?_; intro K hK; go_big_quiet_op; go_big_quiet_on))
        refine seq_nil ?_
        obtain ⟨-, e0, e1⟩ := hX9
        obtain ⟨-, e2, e3⟩ := hY9
        go_wp2_with fail
        refine bodyPost_ret (v := .tuple #[.slice none 0 0, dv old, dv old]) (res_pr Try.results11 _ _ (w.heap.size + 1) (w.heap.size + 2) _ _ _ rfl rfl rfl (by simpa using e0) (by simpa using e1) (by simpa using e2) (by simpa using e3)) rfl ⟨.slice none 0 0, by rw [HV.out], ?_, ?_⟩
        · rw [HV.out]
          exact World.ownsRow_nil _ _ _ _
        · exact hs9.drew
    rw [List.concat_eq_append] at hqe
    subst hqe
    have IH := lid ih
    obtain rfl : q.length + 1 = len := by simpa using hp
    clear ih hp
    obtain ⟨W, hW⟩ : ∃ W, ((w.alloc (Obj.cells #[Value.int .u64 old.1.toNat, Value.int .u64 old.2.toNat] 32)).alloc (Obj.cells #[Value.int .u64 0, Value.int .u64 0] 32)).alloc (Obj.cells #[Value.int .u64 0, Value.int .u64 0] 32) = W := ⟨_, rfl⟩
    have hw0 : Below w.heap.size w W := by rw [← hW]; exact (((Below.refl _ _).alloc (Nat.le_refl _) _).alloc (by simp) _).alloc (by simp <;> omega) _
    have O : DBox W w.heap.size old := by rw [← hW]; exact ((DBox.new w old _).below (ba _ _) (by simp)).below (ba _ _) (by simp <;> omega)
    have T1 : Two W (w.heap.size + 1) := by rw [← hW]; exact (by have := Two.new (w.alloc (Obj.cells #[Value.int .u64 old.1.toNat, Value.int .u64 old.2.toNat] 32)) (.int .u64 0) (.int .u64 0) 32; rw [World.size_alloc] at this; exact this.below (ba _ _) (by simp <;> omega))
    have T2 : Two W (w.heap.size + 2) := by rw [← hW]; exact (by have := Two.new ((w.alloc (Obj.cells #[Value.int .u64 old.1.toNat, Value.int .u64 old.2.toNat] 32)).alloc (Obj.cells #[Value.int .u64 0, Value.int .u64 0] 32)) (.int .u64 0) (.int .u64 0) 32; rw [World.size_alloc, World.size_alloc] at this; exact this)
    have hsz : w.heap.size + 3 = W.heap.size := by rw [← hW, World.size_alloc, World.size_alloc, World.size_alloc]
    have HW := lid hW
    clear hW
    by_cases hw : n = m ∧ whole = true
    · obtain ⟨rfl, rfl⟩ := hw
      clear hs
      have HV := lid (prB_whole n old (q ++ [e]))
      obtain ⟨O0, O1, O2⟩ := O
      go_enter Try.func11, Try.ntmps11
      go_wp2_with fail
      rw [HW.out]
      clear HW
      have O1k := SinceK.cell (k := w.heap.size) (W := W) O1
      have O2k := SinceK.cell (k := w.heap.size) (W := W) O2
      clear O1 O2
      refine wp_region_seq (fun w' => ∃ s : SinceK w.heap.size W, w' = s.world) [(0, true), (1, true), (2, false), (3, false), (4, false)] (by kernel_rfl) (by kernel_rfl) (by intro c d v a w h; cases d <;> exact h) (sincek (KeepK.refl _ _).drew) ?_
      repeat (first | (refine seq_skip (by rfl) (by rfl) ?_; simp only [Act.put, List.setIfInBounds_toArray, List.set_cons_succ, List.set_cons_zero]) | (refine seq_float (by rfl) (by rfl) (by rfl) ?_; intro K hK; go_big_quiet_op; go_big_quiet_on))
      refine seq_chain (by rfl) ?_
      intro K hK
      go_wp2_with fail
      refine hK.out _ _ (sincek (KeepK.refl _ _).drew) ?_
      clear hK K
      repeat (first | (refine seq_skip (by rfl) (by rfl) ?_; simp only [Act.put, List.setIfInBounds_toArray, List.set_cons_succ, List.set_cons_zero]) | (refine seq_float (by rfl) (by rfl) (by rfl) ?_; intro K hK; go_big_quiet_op; go_big_quiet_on))
      have hs0 := hw0
      have hk0 : KeepK w.heap.size W W := KeepK.refl _ _
      obtain ⟨y0, y1, ya0, ya1, za0, za1⟩ := T1.cells
      refine seq_chain (by rfl) ?_
      intro K hK
      go_wp2_with fail
      obtain ⟨W8, hW8⟩ : ∃ W8, (W.setCell ⟨w.heap.size + 1, 0, none⟩ (.int .u64 old.1.toNat)).setCell ⟨w.heap.size + 1, 1, none⟩ (.int .u64 old.2.toNat) = W8 := ⟨_, rfl⟩
      have hX : DBox W8 (w.heap.size + 1) old := by rw [← hW8]; exact T1.set old
      have T2' : Two W8 (w.heap.size + 2) := by rw [← hW8]; exact (T2.other _ _ (by simp)).other _ _ (by simp)
      have hs8 := (hs0.setCell (p := ⟨w.heap.size + 1, 0, none⟩) (by show w.heap.size ≤ w.heap.size + 1; omega) (.int .u64 old.1.toNat)).setCell (p := ⟨w.heap.size + 1, 1, none⟩) (by show w.heap.size ≤ w.heap.size + 1; omega) (.int .u64 old.2.toNat)
      have hk8 := (hk0.setCell (p := ⟨w.heap.size + 1, 0, none⟩) (by show w.heap.size ≠ w.heap.size + 1; omega) (.int .u64 old.1.toNat)).setCell (p := ⟨w.heap.size + 1, 1, none⟩) (by show w.heap.size ≠ w.heap.size + 1; omega) (.int .u64 old.2.toNat)
      rw [hW8] at hs8 hk8 ⊢
      clear hW8 T1 T2 ya0 ya1 za0 za1 hs0 hk0
      refine hK.out _ _ (sincek hk8.drew) ?_
      clear hK K
      repeat (first | (refine seq_skip (by rfl) (by rfl) ?_; simp only [Act.put, List.setIfInBounds_toArray, List.set_cons_succ, List.set_cons_zero]) | (refine seq_float (by rfl) (by rfl) (by rfl) ?_; intro K hK; go_big_quiet_op; go_big_quiet_on))
      obtain ⟨y0', y1', yb0, yb1, zb0, zb1⟩ := T2'.cells
      refine seq_chain (by rfl) ?_
      intro K hK
      go_wp2_with fail
      obtain ⟨W9, hW9⟩ : ∃ W9, (W8.setCell ⟨w.heap.size + 2, 0, none⟩ (.int .u64 old.1.toNat)).setCell ⟨w.heap.size + 2, 1, none⟩ (.int .u64 old.2.toNat) = W9 := ⟨_, rfl⟩
      have hX9 : DBox W9 (w.heap.size + 1) old := by rw [← hW9]; exact (hX.other _ _ (by simp)).other _ _ (by simp)
      have hY9 : DBox W9 (w.heap.size + 2) old := by rw [← hW9]; exact T2'.set old
      have hs9 := (hs8.setCell (p := ⟨w.heap.size + 2, 0, none⟩) (by show w.heap.size ≤ w.heap.size + 2; omega) (.int .u64 old.1.toNat)).setCell (p := ⟨w.heap.size + 2, 1, none⟩) (by show w.heap.size ≤ w.heap.size + 2; omega) (.int .u64 old.2.toNat)
      have hk9 := (hk8.setCell (p := ⟨w.heap.size + 2, 0, none⟩) (by show w.heap.size ≠ w.heap.size + 2; omega) (.int .u64 old.1.toNat)).setCell (p := ⟨w.heap.size + 2, 1, none⟩) (by show w.heap.size ≠ w.heap.size + 2; omega) (.int .u64 old.2.toNat)
      rw [hW9] at hs9 hk9 ⊢
      clear hW9 T2' yb0 yb1 zb0 zb1 hX hs8 hk8
      refine hK.out _ _ (sincek hk9.drew) ?_
      clear hK K
      repeat (first | (refine seq_skip (by rfl) (by rfl) ?_; simp only [Act.put, List.setIfInBounds_toArray, List.set_cons_succ, List.set_cons_zero]) | (refine seq_float (by rfl) (by rfl) (by rfl) ?_; intro K hK; go_big_quiet_op; go_big_quiet_on))
      refine seq_nil ?_
      obtain ⟨-, e0, e1⟩ := hX9
      obtain ⟨-, e2, e3⟩ := hY9
      go_wp2_with fail
      refine bodyPost_ret (v := .tuple #[.slice none 0 0, dv old, dv old]) (res_pr Try.results11 _ _ (w.heap.size + 1) (w.heap.size + 2) _ _ _ rfl rfl rfl (by simpa using e0) (by simpa using e1) (by simpa using e2) (by simpa using e3)) rfl ⟨.slice none 0 0, by rw [HV.out], ?_, ?_⟩
      · rw [HV.out]
        exact World.ownsRow_nil _ _ _ _
      · exact hs9.drew
    obtain ⟨pb, po, rfl, hpb, hpcs⟩ : ∃ b off, ao = some ⟨b, off, none⟩ ∧ b < w.heap.size ∧ DCells w b off (q ++ [e]) := hs.resolve_left (by simp)
    obtain ⟨ce0, ce1⟩ := hpcs q.length (by simp)
    rw [List.getElem_concat_length rfl] at ce0 ce1
    have hsq : DSl w (some ⟨pb, po, none⟩) q := .inr ⟨pb, po, rfl, hpb, by have := hpcs.take q.length; rwa [List.take_left' rfl] at this⟩
    have cL0 := (bc hw0 hpb (po + q.length * 2)).trans ce0
    have cL1 := (bc hw0 hpb (po + q.length * 2 + 1)).trans ce1
    rw [← HW.out] at cL0 cL1
    have HS := lid (hsq.below hw0)
    have hq0 : ((q.length : Int) + 1 == 0) = false := by simp; omega
    clear hpcs ce0 ce1 hsq hs
    by_cases hne : n = m
    · subst hne
      cases whole with
      | true => exact absurd ⟨rfl, rfl⟩ hw
      | false =>
        clear hw
        have HV := lid (prB_same n old q e)
        go_enter Try.func11, Try.ntmps11
        go_wp2_with fail
        rw [HW.out]
        clear HW
        obtain ⟨WE, hWE⟩ : ∃ WE, W.alloc (Obj.cells #[.int .u64 e.1.toNat, .int .u64 e.2.toNat] 32) = WE := ⟨_, rfl⟩
        have hbE : Below W.heap.size W WE := by rw [← hWE]; exact ba _ _
        have E13 : DBox WE W.heap.size e := by rw [← hWE]; exact DBox.new W e _
        replace hw0 := hw0.trans (hbE.mono hw0.size)
        have hszE : w.heap.size + 4 = WE.heap.size := by rw [← hWE, World.size_alloc]; omega
        rw [hWE]
        clear hWE cL0 cL1
        replace O := O.below hbE (by omega)
        replace T1 := T1.below hbE (by omega)
        replace T2 := T2.below hbE (by omega)
        replace HS := lid (HS.out.below hbE)
        clear hbE
        obtain ⟨E0, E1, E2⟩ := E13
        have E1k := SinceK.cell (k := W.heap.size) (W := WE) E1
        have E2k := SinceK.cell (k := W.heap.size) (W := WE) E2
        clear E1 E2
        refine wp_region_seq (fun w' => ∃ s : SinceK W.heap.size WE, w' = s.world) [(0, true), (1, true), (2, false), (3, false), (4, false)] (by kernel_rfl) (by kernel_rfl) (by intro c d v a w h; cases d <;> exact h) (sincek (KeepK.refl _ _).drew) ?_
        repeat (first | (refine seq_skip (by rfl) (by rfl) ?_; simp only [Act.put, List.setIfInBounds_toArray, List.set_cons_succ, List.set_cons_zero]) | (refine seq_float (by rfl) (by rfl) (by rfl) ?_; intro K hK; go_big_quiet_op; go_big_quiet_on))
        refine seq_chain (by rfl) ?_
        intro K hK
        go_wp2_with fail
        refine hK.out _ _ (sincek (KeepK.refl _ _).drew) ?_
        clear hK K
        repeat (first | (refine seq_skip (by rfl) (by rfl) ?_; simp only [Act.put, List.setIfInBounds_toArray, List.set_cons_succ, List.set_cons_zero]) | (refine seq_float (by rfl) (by rfl) (by rfl) ?_; intro K hK; go_big_quiet_op; go_big_quiet_on))
        have hs0 := hw0
        have hk0 : KeepK W.heap.size WE WE := KeepK.refl _ _
        obtain ⟨y0, y1, ya0, ya1, za0, za1⟩ := T1.cells
        refine seq_chain (by rfl) ?_
        intro K hK
        go_wp2_with fail
        obtain ⟨W8, hW8⟩ : ∃ W8, (WE.setCell ⟨w.heap.size + 1, 0, none⟩ (.int .u64 e.1.toNat)).setCell ⟨w.heap.size + 1, 1, none⟩ (.int .u64 e.2.toNat) = W8 := ⟨_, rfl⟩
        have hX : DBox W8 (w.heap.size + 1) e := by rw [← hW8]; exact T1.set e
        have T2' : Two W8 (w.heap.size + 2) := by rw [← hW8]; exact (T2.other _ _ (by simp)).other _ _ (by simp)
        have hs8 := (hs0.setCell (p := ⟨w.heap.size + 1, 0, none⟩) (by show w.heap.size ≤ w.heap.size + 1; omega) (.int .u64 e.1.toNat)).setCell (p := ⟨w.heap.size + 1, 1, none⟩) (by show w.heap.size ≤ w.heap.size + 1; omega) (.int .u64 e.2.toNat)
        have hk8 := (hk0.setCell (p := ⟨w.heap.size + 1, 0, none⟩) (by show W.heap.size ≠ w.heap.size + 1; omega) (.int .u64 e.1.toNat)).setCell (p := ⟨w.heap.size + 1, 1, none⟩) (by show W.heap.size ≠ w.heap.size + 1; omega) (.int .u64 e.2.toNat)
        rw [hW8] at hs8 hk8 ⊢
        clear hW8 T1 T2 ya0 ya1 za0 za1 hs0 hk0
        refine hK.out _ _ (sincek hk8.drew) ?_
        clear hK K
        repeat (first | (refine seq_skip (by rfl) (by rfl) ?_; simp only [Act.put, List.setIfInBounds_toArray, List.set_cons_succ, List.set_cons_zero]) | (refine seq_float (by rfl) (by rfl) (by rfl) ?_; intro K hK; go_big_quiet_op; go_big_quiet_on))
        obtain ⟨y0', y1', yb0, yb1, zb0, zb1⟩ := T2'.cells
        refine seq_chain (by rfl) ?_
        intro K hK
        go_wp2_with fail
        obtain ⟨W9, hW9⟩ : ∃ W9, (W8.setCell ⟨w.heap.size + 2, 0, none⟩ (.int .u64 e.1.toNat)).setCell ⟨w.heap.size + 2, 1, none⟩ (.int .u64 e.2.toNat) = W9 := ⟨_, rfl⟩
        have hX9 : DBox W9 (w.heap.size + 1) e := by rw [← hW9]; exact (hX.other _ _ (by simp)).other _ _ (by simp)
        have hY9 : DBox W9 (w.heap.size + 2) e := by rw [← hW9]; exact T2'.set e
        have hs9 := (hs8.setCell (p := ⟨w.heap.size + 2, 0, none⟩) (by show w.heap.size ≤ w.heap.size + 2; omega) (.int .u64 e.1.toNat)).setCell (p := ⟨w.heap.size + 2, 1, none⟩) (by show w.heap.size ≤ w.heap.size + 2; omega) (.int .u64 e.2.toNat)
        have hk9 := (hk8.setCell (p := ⟨w.heap.size + 2, 0, none⟩) (by show W.heap.size ≠ w.heap.size + 2; omega) (.int .u64 e.1.toNat)).setCell (p := ⟨w.heap.size + 2, 1, none⟩) (by show W.heap.size ≠ w.heap.size + 2; omega) (.int .u64 e.2.toNat)
        rw [hW9] at hs9 hk9 ⊢
        clear hW9 T2' yb0 yb1 zb0 zb1 hX hs8 hk8
        refine hK.out _ _ (sincek hk9.drew) ?_
        clear hK K
        repeat (first | (refine seq_skip (by rfl) (by rfl) ?_; simp only [Act.put, List.setIfInBounds_toArray, List.set_cons_succ, List.set_cons_zero]) | (refine seq_float (by rfl) (by rfl) (by rfl) ?_; intro K hK; go_big_quiet_op; go_big_quiet_on))
        refine seq_nil ?_
        obtain ⟨-, e0, e1⟩ := hX9
        obtain ⟨-, e2, e3⟩ := hY9
        go_wp2_with fail
        refine bodyPost_ret (v := .tuple #[.slice none 0 0, dv e, dv e]) (res_pr Try.results11 _ _ (w.heap.size + 1) (w.heap.size + 2) _ _ _ rfl rfl rfl (by simpa using e0) (by simpa using e1) (by simpa using e2) (by simpa using e3)) rfl ⟨.slice none 0 0, by rw [HV.out], ?_, ?_⟩
        · rw [HV.out]
          exact World.ownsRow_nil _ _ _ _
        · exact hs9.drew
    clear hw
    have hm2 : 2 ≤ m := by omega
    have hm6 : m ≤ 1099511627776 := by omega
    have hk0 := halfN_pos m
    have hk1 : halfN m < m := halfN_lt hm2
    have dne : ((n : Int) == (m : Int)) = false := by simp; omega
    have dne' : (n == m) = false := by simpa using hne
    by_cases hk : n ≤ halfN m
    · have HC0 : ∀ w1, DSl w1 (some ⟨pb, po, none⟩) q → Calls Try.prog 11 #[.int .i64 ((n : Nat) : Int), .int .i64 ((halfN m : Nat) : Int), dv old, .slice (some ⟨pb, po, none⟩) q.length cap, .bool whole] w1 fun e w' => ∃ v', e = .returned (.tuple #[v', dv (prB n (halfN m) old q whole).2.1, dv (prB n (halfN m) old q whole).2.2]) ∧ w'.ownsRow w1.heap.size 9 1 v' (prB n (halfN m) old q whole).1.length (bcells (prB n (halfN m) old q whole).1) ∧ Below w1.heap.size w1 w' := fun w1 h1 => by
        have h := IH.out q n (halfN m) whole old (some ⟨pb, po, none⟩) q.length cap w1 rfl (by omega) (by omega) (by omega) (by omega) (by omega) (by omega) h1
        exact h
      have HV0 := prB_lo hne hk whole old q e
      have HLN := prB_len q.length q n (halfN m) old whole (Nat.le_refl _)
      generalize prB n (halfN m) old q whole = Q at *
      obtain ⟨L, a, b⟩ := Q
      simp only at HC0 HV0 HLN
      have HC := lid HC0
      have HV := lid HV0
      have hL : L.length ≤ 2000 := by omega
      have hki : (n : Int) ≤ ((halfN m : Nat) : Int) := by omega
      have hkd : decide (n ≤ halfN m) = true := by simpa using hk
      clear HC0 HV0 HLN hk
      go_enter Try.func11, Try.ntmps11
      go_wp2_with fail
      rw [HW.out]
      clear HW
      obtain ⟨WE, hWE⟩ : ∃ WE, W.alloc (Obj.cells #[.int .u64 e.1.toNat, .int .u64 e.2.toNat] 32) = WE := ⟨_, rfl⟩
      have hbE : Below W.heap.size W WE := by rw [← hWE]; exact ba _ _
      have E13 : DBox WE W.heap.size e := by rw [← hWE]; exact DBox.new W e _
      replace hw0 := hw0.trans (hbE.mono hw0.size)
      have hszE : w.heap.size + 4 = WE.heap.size := by rw [← hWE, World.size_alloc]; omega
      rw [hWE]
      clear hWE cL0 cL1
      replace O := O.below hbE (by omega)
      replace T1 := T1.below hbE (by omega)
      replace T2 := T2.below hbE (by omega)
      replace HS := lid (HS.out.below hbE)
      clear hbE
      obtain ⟨lO, o0, o1⟩ := O
      have lO' : w.heap.size < WE.heap.size := by omega
      (with_reducible refine (refLeft56_any m _ hm2 hm6).mono ?_); rintro e w2 ⟨rfl, rfl⟩
      go_wp2_with fail
      refine wp_region_mixF (fun w' => ∃ s : Since WE.heap.size WE, w' = s.world) [(0, true), (1, true), (2, true), (3, true), (4, true), (5, true), (6, true), (7, true), (8, true)] [(9, []), (14, []), (15, [])] [(10, [9]), (11, [10]), (12, [10]), (13, [10])] [(16, false), (17, false), (18, false)] (by kernel_rfl) (by kernel_rfl) (by intro c d v a w h; cases d <;> exact h) (since (Below.refl _ _).drew) ?_
      repeat (first | (refine seq_skip (by rfl) (by rfl) ?_; simp only [Act.put, List.setIfInBounds_toArray, List.set_cons_succ, List.set_cons_zero]) | (refine seq_float (by rfl) (by rfl) (by rfl) ?_; intro K hK; go_big_quiet_op; go_big_quiet_on))
      refine seq_nil (mixF_go [63, 53, 64, 65, 66, 16, 17] [undef, undef, undef, undef, undef, undef, undef] (RN 9 (dv a) (dv b) L.length (bcells L) WE.heap.size WE) rfl (by simp only [putAll, Act.put, List.setIfInBounds_toArray, List.set_cons_succ, List.set_cons_zero]) (fun s h g => RN.start _ _ _ _ _ _ _ (h (9, []) (by simp)) (g (10, [9]) (by simp)) (g (11, [10]) (by simp)) (g (12, [10]) (by simp)) (g (13, [10]) (by simp)) (h (14, []) (by simp)) (h (15, []) (by simp))) ⟨?_, ?_, ?_, trivial⟩ ⟨?_, ?_, ?_, ?_, trivial⟩ ?_)
      · intro s vs w1 _ hnot hneed _ hR
        obtain ⟨x1, x2, x3, x4, x5, x6, x7, rfl⟩ := hR.seven
        have hB1 := hR.old
        simp only [putAll, Act.put, List.setIfInBounds_toArray, List.set_cons_succ, List.set_cons_zero]
        refine mix_op (by rfl) ?_
        intro K hK
        go_wp2_with fail
        (with_reducible refine (HC.out _ (HS.out.below hB1)).mono ?_); rintro e w2 ⟨v', rfl, hown, hb2⟩
        go_wp2_with fail
        exact hK.out _ _ ⟨since (hB1.trans (hb2.mono hB1.size)), [.tuple #[v', dv a, dv b], x2, x3, x4, x5, x6, x7], rfl, by simp only [putAll, Act.put, List.setIfInBounds_toArray, List.set_cons_succ, List.set_cons_zero], hR.call hnot hB1.size hown hb2⟩
      · intro s vs w1 _ _ _ _ hR
        obtain ⟨x1, x2, x3, x4, x5, x6, x7, rfl⟩ := hR.seven
        have hB1 := hR.old
        simp only [putAll, Act.put, List.setIfInBounds_toArray, List.set_cons_succ, List.set_cons_zero]
        refine mix_op (by rfl) ?_
        intro K hK
        go_wp2_with fail
        exact hK.out _ _ ⟨since (hB1.trans ((ba _ _).mono hB1.size)), [x1, x2, x3, x4, x5, .pointer (some ⟨w1.heap.size, 0, none⟩), x7], rfl, by simp only [putAll, Act.put, List.setIfInBounds_toArray, List.set_cons_succ, List.set_cons_zero], hR.new5 hB1.size _ _ _⟩
      · intro s vs w1 _ _ _ _ hR
        obtain ⟨x1, x2, x3, x4, x5, x6, x7, rfl⟩ := hR.seven
        have hB1 := hR.old
        simp only [putAll, Act.put, List.setIfInBounds_toArray, List.set_cons_succ, List.set_cons_zero]
        refine mix_op (by rfl) ?_
        intro K hK
        go_wp2_with fail
        exact hK.out _ _ ⟨since (hB1.trans ((ba _ _).mono hB1.size)), [x1, x2, x3, x4, x5, x6, .pointer (some ⟨w1.heap.size, 0, none⟩)], rfl, by simp only [putAll, Act.put, List.setIfInBounds_toArray, List.set_cons_succ, List.set_cons_zero], hR.new6 hB1.size _ _ _⟩
      · intro s vs w1 _ _ hneed _ hR
        obtain ⟨x1, x2, x3, x4, x5, x6, x7, rfl⟩ := hR.seven
        obtain ⟨vv, rfl⟩ := hR.e0 (hneed 9 (by simp))
        refine mix_read (by rfl) (by rfl) (by rfl) ?_
        intro K hK
        simp only [putAll, Act.put, List.setIfInBounds_toArray, List.set_cons_succ, List.set_cons_zero]
        go_big_quiet_op
        go_big_quiet_on
        exact ⟨[.tuple #[vv, dv a, dv b], .tuple #[vv, dv a, dv b], x3, x4, x5, x6, x7], rfl, by simp only [putAll, Act.put, List.setIfInBounds_toArray, List.set_cons_succ, List.set_cons_zero], hR.put1 (hneed 9 (by simp))⟩
      · intro s vs w1 _ _ hneed _ hR
        obtain ⟨x1, x2, x3, x4, x5, x6, x7, rfl⟩ := hR.seven
        obtain ⟨vv, rfl⟩ := hR.e1 (hneed 10 (by simp))
        refine mix_read (by rfl) (by rfl) (by rfl) ?_
        intro K hK
        simp only [putAll, Act.put, List.setIfInBounds_toArray, List.set_cons_succ, List.set_cons_zero]
        go_big_quiet_op
        go_big_quiet_on
        exact ⟨[x1, .tuple #[vv, dv a, dv b], vv, x4, x5, x6, x7], rfl, by simp only [putAll, Act.put, List.setIfInBounds_toArray, List.set_cons_succ, List.set_cons_zero], hR.put2 (hneed 10 (by simp))⟩
      · intro s vs w1 _ _ hneed _ hR
        obtain ⟨x1, x2, x3, x4, x5, x6, x7, rfl⟩ := hR.seven
        obtain ⟨vv, rfl⟩ := hR.e1 (hneed 10 (by simp))
        refine mix_read (by rfl) (by rfl) (by rfl) ?_
        intro K hK
        simp only [putAll, Act.put, List.setIfInBounds_toArray, List.set_cons_succ, List.set_cons_zero]
        go_big_quiet_op
        go_big_quiet_on
        exact ⟨[x1, .tuple #[vv, dv a, dv b], x3, dv a, x5, x6, x7], rfl, by simp only [putAll, Act.put, List.setIfInBounds_toArray, List.set_cons_succ, List.set_cons_zero], hR.put3⟩
      · intro s vs w1 _ _ hneed _ hR
        obtain ⟨x1, x2, x3, x4, x5, x6, x7, rfl⟩ := hR.seven
        obtain ⟨vv, rfl⟩ := hR.e1 (hneed 10 (by simp))
        refine mix_read (by rfl) (by rfl) (by rfl) ?_
        intro K hK
        simp only [putAll, Act.put, List.setIfInBounds_toArray, List.set_cons_succ, List.set_cons_zero]
        go_big_quiet_op
        go_big_quiet_on
        exact ⟨[x1, .tuple #[vv, dv a, dv b], x3, x4, dv b, x6, x7], rfl, by simp only [putAll, Act.put, List.setIfInBounds_toArray, List.set_cons_succ, List.set_cons_zero], hR.put4⟩
      · intro s vs w1 _ hall hallf _ hR
        have hB1 := hR.old
        obtain ⟨vv, k8, k9, rfl, hown, hk8, hk9, hne89, T8, T9, hn8, hn9⟩ := hR.all (hall (9, []) (by simp)) (hallf (10, [9]) (by simp)) (hallf (11, [10]) (by simp)) (hallf (12, [10]) (by simp)) (hallf (13, [10]) (by simp)) (hall (14, []) (by simp)) (hall (15, []) (by simp))
        simp only [putAll, Act.put, List.setIfInBounds_toArray, List.set_cons_succ, List.set_cons_zero]
        clear hall hallf hR
        refine seq_chain (by rfl) ?_
        intro K hK
        go_wp2_with fail
        refine hK.out _ _ (since hB1) ?_
        clear hK K
        repeat (first | (refine seq_skip (by rfl) (by rfl) ?_; simp only [Act.put, List.setIfInBounds_toArray, List.set_cons_succ, List.set_cons_zero]) | (refine seq_float (by rfl) (by rfl) (by rfl) ?_; intro K hK; go_big_quiet_op; go_big_quiet_on))
        obtain ⟨a0, a1, xa0, xa1, va0, va1⟩ := T8.cells
        refine seq_chain (by rfl) ?_
        intro K hK
        go_wp2_with fail
        obtain ⟨W5, hW5⟩ : ∃ W5, (w1.setCell ⟨k8, 0, none⟩ (.int .u64 a.1.toNat)).setCell ⟨k8, 1, none⟩ (.int .u64 a.2.toNat) = W5 := ⟨_, rfl⟩
        have hA8 : DBox W5 k8 a := by rw [← hW5]; exact T8.set a
        have T9' : Two W5 k9 := by rw [← hW5]; exact (T9.other _ _ (Ne.symm hne89)).other _ _ (Ne.symm hne89)
        have hB5 : Below WE.heap.size WE W5 := by rw [← hW5]; exact (hB1.setCell (p := ⟨k8, 0, none⟩) hk8 _).setCell (p := ⟨k8, 1, none⟩) hk8 _
        have hown5 : W5.ownsRow WE.heap.size 9 1 vv L.length (bcells L) := by rw [← hW5]; exact own_other (own_other hown hn8 0 _) hn8 1 _
        rw [hW5]
        clear hW5 hB1 T8 T9 xa0 xa1 va0 va1 hown
        refine hK.out _ _ (since hB5) ?_
        clear hK K
        repeat (first | (refine seq_skip (by rfl) (by rfl) ?_; simp only [Act.put, List.setIfInBounds_toArray, List.set_cons_succ, List.set_cons_zero]) | (refine seq_float (by rfl) (by rfl) (by rfl) ?_; intro K hK; go_big_quiet_op; go_big_quiet_on))
        obtain ⟨b0, b1, xb0, xb1, vb0, vb1⟩ := T9'.cells
        refine seq_chain (by rfl) ?_
        intro K hK
        go_wp2_with fail
        obtain ⟨W6, hW6⟩ : ∃ W6, (W5.setCell ⟨k9, 0, none⟩ (.int .u64 b.1.toNat)).setCell ⟨k9, 1, none⟩ (.int .u64 b.2.toNat) = W6 := ⟨_, rfl⟩
        have hA9 : DBox W6 k8 a := by rw [← hW6]; exact (hA8.other _ _ hne89).other _ _ hne89
        have hB9 : DBox W6 k9 b := by rw [← hW6]; exact T9'.set b
        have hB6 : Below WE.heap.size WE W6 := by rw [← hW6]; exact (hB5.setCell (p := ⟨k9, 0, none⟩) hk9 _).setCell (p := ⟨k9, 1, none⟩) hk9 _
        have hown6 : W6.ownsRow WE.heap.size 9 1 vv L.length (bcells L) := by rw [← hW6]; exact own_other (own_other hown5 hn9 0 _) hn9 1 _
        rw [hW6]
        clear hW6 hB5 T9' xb0 xb1 vb0 vb1 hA8 hne89 hown5
        refine hK.out _ _ (since hB6) ?_
        clear hK K
        repeat (first | (refine seq_skip (by rfl) (by rfl) ?_; simp only [Act.put, List.setIfInBounds_toArray, List.set_cons_succ, List.set_cons_zero]) | (refine seq_float (by rfl) (by rfl) (by rfl) ?_; intro K hK; go_big_quiet_op; go_big_quiet_on))
        refine seq_nil ?_
        replace hw0 := hw0.trans (hB6.mono hw0.size)
        replace T1 := T1.below hB6 (by omega)
        replace T2 := T2.below hB6 (by omega)
        replace E13 := E13.below hB6 (by omega)
        obtain ⟨-, b2, b3⟩ := hB9
        obtain ⟨lE, e2, e3⟩ := E13
        go_wp2_with fail
        (with_reducible refine (node_b b e _).mono ?_); rintro e w7 ⟨rfl, hb7⟩
        have lt8 : k8 < W6.heap.size := hA9.1
        obtain ⟨lA8, A2, A3⟩ := hA9.below hb7 lt8
        replace hw0 := hw0.trans (hb7.mono hw0.size)
        have hBE : WE.heap.size ≤ W6.heap.size := hB6.size
        have hown7 := ownsRow_below hown6 hb7
        replace T1 := T1.below hb7 (by omega)
        replace T2 := T2.below hb7 (by omega)
        have CO := lid (fun w => of_b (nodeS b e) w (node_ok _ _))
        have h67 := hb7.size
        clear b2 b3 e2 e3 hown6 hb7 hB6 hn9 hk9
        go_wp2_with fail
        have A2k := SinceK.cell (k := k8) (W := w7) A2
        have A3k := SinceK.cell (k := k8) (W := w7) A3
        clear A2 A3
        refine wp_region_seq (fun w' => ∃ s : SinceK k8 w7, w' = s.world) [(0, true), (1, true), (4, true), (5, true), (2, false), (3, false), (6, false), (7, false), (8, false), (9, false)] (by kernel_rfl) (by kernel_rfl) (by intro c d v a w h; cases d <;> exact h) (sincek (KeepK.refl _ _).drew) ?_
        repeat (first | (refine seq_skip (by rfl) (by rfl) ?_; simp only [Act.put, List.setIfInBounds_toArray, List.set_cons_succ, List.set_cons_zero]) | (refine seq_float (by rfl) (by rfl) (by rfl) ?_; intro K hK; go_big_quiet_op; go_big_quiet_on))
        refine seq_chain (by rfl) ?_
        intro K hK
        go_wp2_with fail
        obtain ⟨WA, hWA⟩ : ∃ WA, (w7.alloc (Obj.cells #[.string (bstr (nodeS b e))] 9)).drew = WA := ⟨_, rfl⟩
        have hkA : KeepK k8 w7 WA := by rw [← hWA]; exact (KeepK.below (KeepK.refl _ _) (ba w7 _) lA8).drew
        have hbA : Below w7.heap.size w7 WA := by rw [← hWA]; exact (ba w7 _).drew
        have hSl : Sl WA 1 (some ⟨w7.heap.size, 0, none⟩) 1 [.string (bstr (nodeS b e))] := by rw [← hWA]; exact sl_new (us := #[.string (bstr (nodeS b e))]) (heap_alloc_new w7 _) rfl
        have hownA := ownsRow_below hown7 hbA
        replace hw0 := hw0.trans (hbA.mono hw0.size)
        replace T1 := T1.below hbA (by omega)
        replace T2 := T2.below hbA (by omega)
        have lA8' : k8 < WA.heap.size := by have := hbA.size; omega
        rw [hWA]
        have hAsz := hbA.size
        clear hWA hbA hown7
        refine hK.out _ _ (sincek hkA) ?_
        clear hK K
        repeat (first | (refine seq_skip (by rfl) (by rfl) ?_; simp only [Act.put, List.setIfInBounds_toArray, List.set_cons_succ, List.set_cons_zero]) | (refine seq_float (by rfl) (by rfl) (by rfl) ?_; intro K hK; go_big_quiet_op; go_big_quiet_on))
        refine seq_chain (by rfl) ?_
        intro K hK
        go_wp2_with (at_builtin; go_must (refine wpList_append_slg rfl _ _ 37 rfl WE.heap.size 9 (.string ⟨#[]⟩) 1 16 info_txt Try.underlying37 rfl (by decide) _ _ _ hownA rfl _ 1 1 _ rfl hSl (by intro h; cases h) (by simp [Value.oneCell']) (by simp only [maxLen]; omega) (by omega) (by omega) ?_))
        intro v8 w8 hown8 hb8 hg8
        have hk8' : KeepK k8 w7 w8 := hkA.grown hg8 lA8' (Ne.symm hn8)
        replace hw0 := hw0.trans (hb8.mono (by omega))
        replace T1 := T1.below hb8 (by omega)
        replace T2 := T2.below hb8 (by omega)
        have lA9 : k8 < w8.heap.size := by have := hg8.size; omega
        clear hownA hSl hkA hb8 hg8
        go_wp2_with fail
        refine hK.out _ _ (sincek hk8') ?_
        clear hK K
        repeat (first | (refine seq_skip (by rfl) (by rfl) ?_; simp only [Act.put, List.setIfInBounds_toArray, List.set_cons_succ, List.set_cons_zero]) | (refine seq_float (by rfl) (by rfl) (by rfl) ?_; intro K hK; go_big_quiet_op; go_big_quiet_on))
        refine seq_chain (by rfl) ?_
        intro K hK
        go_wp2_with fail
        (with_reducible refine (CO.out _).mono ?_); rintro e w9 ⟨rfl, hb9⟩
        have hk9' := hk8'.below hb9 lA9
        replace hw0 := hw0.trans (hb9.mono hw0.size)
        have lw8 : WE.heap.size ≤ w8.heap.size := by have := T1.lt; omega
        replace T1 := T1.below hb9 T1.lt
        replace T2 := T2.below hb9 T2.lt
        have hown9 := ownsRow_below hown8 hb9
        clear hb9 hown8 hk8'
        go_wp2_with fail
        refine hK.out _ _ (sincek hk9') ?_
        clear hK K
        repeat (first | (refine seq_skip (by rfl) (by rfl) ?_; simp only [Act.put, List.setIfInBounds_toArray, List.set_cons_succ, List.set_cons_zero]) | (refine seq_float (by rfl) (by rfl) (by rfl) ?_; intro K hK; go_big_quiet_op; go_big_quiet_on))
        refine seq_chain (by rfl) ?_
        intro K hK
        go_wp2_with fail
        refine hK.out _ _ (sincek hk9') ?_
        clear hK K
        repeat (first | (refine seq_skip (by rfl) (by rfl) ?_; simp only [Act.put, List.setIfInBounds_toArray, List.set_cons_succ, List.set_cons_zero]) | (refine seq_float (by rfl) (by rfl) (by rfl) ?_; intro K hK; go_big_quiet_op; go_big_quiet_on))
        have hs0 := hw0
        have hk0 := hk9'
        obtain ⟨y0, y1, ya0, ya1, za0, za1⟩ := T1.cells
        refine seq_chain (by rfl) ?_
        intro K hK
        go_wp2_with fail
        obtain ⟨W8, hW8⟩ : ∃ W8, (w9.setCell ⟨w.heap.size + 1, 0, none⟩ (.int .u64 a.1.toNat)).setCell ⟨w.heap.size + 1, 1, none⟩ (.int .u64 a.2.toNat) = W8 := ⟨_, rfl⟩
        have hX : DBox W8 (w.heap.size + 1) a := by rw [← hW8]; exact T1.set a
        have T2' : Two W8 (w.heap.size + 2) := by rw [← hW8]; exact (T2.other _ _ (by simp)).other _ _ (by simp)
        have hs8 := (hs0.setCell (p := ⟨w.heap.size + 1, 0, none⟩) (by show w.heap.size ≤ w.heap.size + 1; omega) (.int .u64 a.1.toNat)).setCell (p := ⟨w.heap.size + 1, 1, none⟩) (by show w.heap.size ≤ w.heap.size + 1; omega) (.int .u64 a.2.toNat)
        have hk8 := (hk0.setCell (p := ⟨w.heap.size + 1, 0, none⟩) (by show k8 ≠ w.heap.size + 1; omega) (.int .u64 a.1.toNat)).setCell (p := ⟨w.heap.size + 1, 1, none⟩) (by show k8 ≠ w.heap.size + 1; omega) (.int .u64 a.2.toNat)
        have hown8 := own_set (own_set hown9 (X := w.heap.size + 1) (by omega) 0 (.int .u64 a.1.toNat)) (X := w.heap.size + 1) (by omega) 1 (.int .u64 a.2.toNat)
        rw [hW8] at hs8 hk8 hown8 ⊢
        clear hW8 T1 T2 ya0 ya1 za0 za1 hs0 hk0
        refine hK.out _ _ (sincek hk8) ?_
        clear hK K
        repeat (first | (refine seq_skip (by rfl) (by rfl) ?_; simp only [Act.put, List.setIfInBounds_toArray, List.set_cons_succ, List.set_cons_zero]) | (refine seq_float (by rfl) (by rfl) (by rfl) ?_; intro K hK; go_big_quiet_op; go_big_quiet_on))
        obtain ⟨y0', y1', yb0, yb1, zb0, zb1⟩ := T2'.cells
        refine seq_chain (by rfl) ?_
        intro K hK
        go_wp2_with fail
        obtain ⟨W9, hW9⟩ : ∃ W9, (W8.setCell ⟨w.heap.size + 2, 0, none⟩ (.int .u64 (ofU (nodeS b e)).1.toNat)).setCell ⟨w.heap.size + 2, 1, none⟩ (.int .u64 (ofU (nodeS b e)).2.toNat) = W9 := ⟨_, rfl⟩
        have hX9 : DBox W9 (w.heap.size + 1) a := by rw [← hW9]; exact (hX.other _ _ (by simp)).other _ _ (by simp)
        have hY9 : DBox W9 (w.heap.size + 2) (ofU (nodeS b e)) := by rw [← hW9]; exact T2'.set (ofU (nodeS b e))
        have hs9 := (hs8.setCell (p := ⟨w.heap.size + 2, 0, none⟩) (by show w.heap.size ≤ w.heap.size + 2; omega) (.int .u64 (ofU (nodeS b e)).1.toNat)).setCell (p := ⟨w.heap.size + 2, 1, none⟩) (by show w.heap.size ≤ w.heap.size + 2; omega) (.int .u64 (ofU (nodeS b e)).2.toNat)
        have hk9 := (hk8.setCell (p := ⟨w.heap.size + 2, 0, none⟩) (by show k8 ≠ w.heap.size + 2; omega) (.int .u64 (ofU (nodeS b e)).1.toNat)).setCell (p := ⟨w.heap.size + 2, 1, none⟩) (by show k8 ≠ w.heap.size + 2; omega) (.int .u64 (ofU (nodeS b e)).2.toNat)
        have hownF := own_set (own_set hown8 (X := w.heap.size + 2) (by omega) 0 (.int .u64 (ofU (nodeS b e)).1.toNat)) (X := w.heap.size + 2) (by omega) 1 (.int .u64 (ofU (nodeS b e)).2.toNat)
        rw [hW9] at hs9 hk9 hownF ⊢
        clear hW9 T2' yb0 yb1 zb0 zb1 hX hs8 hk8
        refine hK.out _ _ (sincek hk9) ?_
        clear hK K
        repeat (first | (refine seq_skip (by rfl) (by rfl) ?_; simp only [Act.put, List.setIfInBounds_toArray, List.set_cons_succ, List.set_cons_zero]) | (refine seq_float (by rfl) (by rfl) (by rfl) ?_; intro K hK; go_big_quiet_op; go_big_quiet_on))
        refine seq_nil ?_
        obtain ⟨-, e0, e1⟩ := hX9
        obtain ⟨-, e2, e3⟩ := hY9
        go_wp2_with fail
        refine bodyPost_ret (v := .tuple #[v8, dv a, dv (ofU (nodeS b e))]) (res_pr Try.results11 _ _ (w.heap.size + 1) (w.heap.size + 2) _ _ _ rfl rfl rfl (by simpa using e0) (by simpa using e1) (by simpa using e2) (by simpa using e3)) rfl ⟨v8, by rw [HV.out], ?_, ?_⟩
        · rw [HV.out, bcells_append, List.length_append]
          exact ownsRow_base hownF (by omega)
        · exact hs9
    · have HC0 : ∀ w1, DSl w1 (some ⟨pb, po, none⟩) q → Calls Try.prog 11 #[.int .i64 ((n : Int) - ((halfN m : Nat) : Int)), .int .i64 ((m : Int) - ((halfN m : Nat) : Int)), dv old, .slice (some ⟨pb, po, none⟩) q.length cap, .bool false] w1 fun e w' => ∃ v', e = .returned (.tuple #[v', dv (prB (n - halfN m) (m - halfN m) old q false).2.1, dv (prB (n - halfN m) (m - halfN m) old q false).2.2]) ∧ w'.ownsRow w1.heap.size 9 1 v' (prB (n - halfN m) (m - halfN m) old q false).1.length (bcells (prB (n - halfN m) (m - halfN m) old q false).1) ∧ Below w1.heap.size w1 w' := fun w1 h1 => by
        have h := IH.out q (n - halfN m) (m - halfN m) false old (some ⟨pb, po, none⟩) q.length cap w1 rfl (by omega) (by omega) (by omega) (by omega) (by omega) (by omega) h1
        simpa [Int.natCast_sub (Nat.le_of_lt hk1), Int.natCast_sub (Nat.le_of_lt (Nat.lt_of_not_le hk))] using h
      have HV0 := prB_hi hne hk whole old q e
      have HLN := prB_len q.length q (n - halfN m) (m - halfN m) old false (Nat.le_refl _)
      generalize prB (n - halfN m) (m - halfN m) old q false = Q at *
      obtain ⟨L, a, b⟩ := Q
      simp only at HC0 HV0 HLN
      have HC := lid HC0
      have HV := lid HV0
      have hL : L.length ≤ 2000 := by omega
      have hki : ((halfN m : Nat) : Int) < (n : Int) := by omega
      have hkd : decide (n ≤ halfN m) = false := by simpa using hk
      clear HC0 HV0 HLN hk
      go_enter Try.func11, Try.ntmps11
      go_wp2_with fail
      rw [HW.out]
      clear HW
      obtain ⟨WE, hWE⟩ : ∃ WE, W.alloc (Obj.cells #[.int .u64 e.1.toNat, .int .u64 e.2.toNat] 32) = WE := ⟨_, rfl⟩
      have hbE : Below W.heap.size W WE := by rw [← hWE]; exact ba _ _
      have E13 : DBox WE W.heap.size e := by rw [← hWE]; exact DBox.new W e _
      replace hw0 := hw0.trans (hbE.mono hw0.size)
      have hszE : w.heap.size + 4 = WE.heap.size := by rw [← hWE, World.size_alloc]; omega
      rw [hWE]
      clear hWE cL0 cL1
      replace O := O.below hbE (by omega)
      replace T1 := T1.below hbE (by omega)
      replace T2 := T2.below hbE (by omega)
      replace HS := lid (HS.out.below hbE)
      clear hbE
      obtain ⟨lO, o0, o1⟩ := O
      have lO' : w.heap.size < WE.heap.size := by omega
      (with_reducible refine (refLeft56_any m _ hm2 hm6).mono ?_); rintro e w2 ⟨rfl, rfl⟩
      go_wp2_with fail
      refine wp_region_mixF (fun w' => ∃ s : Since WE.heap.size WE, w' = s.world) [(0, true), (1, true), (2, true), (3, true), (4, true), (5, true), (6, true), (7, true), (8, true), (9, true), (10, true), (11, true)] [(12, []), (17, []), (18, [])] [(13, [12]), (14, [13]), (15, [13]), (16, [13])] [(19, false), (20, false), (21, false)] (by kernel_rfl) (by kernel_rfl) (by intro c d v a w h; cases d <;> exact h) (since (Below.refl _ _).drew) ?_
      repeat (first | (refine seq_skip (by rfl) (by rfl) ?_; simp only [Act.put, List.setIfInBounds_toArray, List.set_cons_succ, List.set_cons_zero]) | (refine seq_float (by rfl) (by rfl) (by rfl) ?_; intro K hK; go_big_quiet_op; go_big_quiet_on))
      refine seq_nil (mixF_go [90, 77, 91, 92, 93, 20, 21] [undef, undef, undef, undef, undef, undef, undef] (RN 12 (dv a) (dv b) L.length (bcells L) WE.heap.size WE) rfl (by simp only [putAll, Act.put, List.setIfInBounds_toArray, List.set_cons_succ, List.set_cons_zero]) (fun s h g => RN.start _ _ _ _ _ _ _ (h (12, []) (by simp)) (g (13, [12]) (by simp)) (g (14, [13]) (by simp)) (g (15, [13]) (by simp)) (g (16, [13]) (by simp)) (h (17, []) (by simp)) (h (18, []) (by simp))) ⟨?_, ?_, ?_, trivial⟩ ⟨?_, ?_, ?_, ?_, trivial⟩ ?_)
      · intro s vs w1 _ hnot hneed _ hR
        obtain ⟨x1, x2, x3, x4, x5, x6, x7, rfl⟩ := hR.seven
        have hB1 := hR.old
        simp only [putAll, Act.put, List.setIfInBounds_toArray, List.set_cons_succ, List.set_cons_zero]
        refine mix_op (by rfl) ?_
        intro K hK
        go_wp2_with fail
        (with_reducible refine (HC.out _ (HS.out.below hB1)).mono ?_); rintro e w2 ⟨v', rfl, hown, hb2⟩
        go_wp2_with fail
        exact hK.out _ _ ⟨since (hB1.trans (hb2.mono hB1.size)), [.tuple #[v', dv a, dv b], x2, x3, x4, x5, x6, x7], rfl, by simp only [putAll, Act.put, List.setIfInBounds_toArray, List.set_cons_succ, List.set_cons_zero], hR.call hnot hB1.size hown hb2⟩
      · intro s vs w1 _ _ _ _ hR
        obtain ⟨x1, x2, x3, x4, x5, x6, x7, rfl⟩ := hR.seven
        have hB1 := hR.old
        simp only [putAll, Act.put, List.setIfInBounds_toArray, List.set_cons_succ, List.set_cons_zero]
        refine mix_op (by rfl) ?_
        intro K hK
        go_wp2_with fail
        exact hK.out _ _ ⟨since (hB1.trans ((ba _ _).mono hB1.size)), [x1, x2, x3, x4, x5, .pointer (some ⟨w1.heap.size, 0, none⟩), x7], rfl, by simp only [putAll, Act.put, List.setIfInBounds_toArray, List.set_cons_succ, List.set_cons_zero], hR.new5 hB1.size _ _ _⟩
      · intro s vs w1 _ _ _ _ hR
        obtain ⟨x1, x2, x3, x4, x5, x6, x7, rfl⟩ := hR.seven
        have hB1 := hR.old
        simp only [putAll, Act.put, List.setIfInBounds_toArray, List.set_cons_succ, List.set_cons_zero]
        refine mix_op (by rfl) ?_
        intro K hK
        go_wp2_with fail
        exact hK.out _ _ ⟨since (hB1.trans ((ba _ _).mono hB1.size)), [x1, x2, x3, x4, x5, x6, .pointer (some ⟨w1.heap.size, 0, none⟩)], rfl, by simp only [putAll, Act.put, List.setIfInBounds_toArray, List.set_cons_succ, List.set_cons_zero], hR.new6 hB1.size _ _ _⟩
      · intro s vs w1 _ _ hneed _ hR
        obtain ⟨x1, x2, x3, x4, x5, x6, x7, rfl⟩ := hR.seven
        obtain ⟨vv, rfl⟩ := hR.e0 (hneed 12 (by simp))
        refine mix_read (by rfl) (by rfl) (by rfl) ?_
        intro K hK
        simp only [putAll, Act.put, List.setIfInBounds_toArray, List.set_cons_succ, List.set_cons_zero]
        go_big_quiet_op
        go_big_quiet_on
        exact ⟨[.tuple #[vv, dv a, dv b], .tuple #[vv, dv a, dv b], x3, x4, x5, x6, x7], rfl, by simp only [putAll, Act.put, List.setIfInBounds_toArray, List.set_cons_succ, List.set_cons_zero], hR.put1 (hneed 12 (by simp))⟩
      · intro s vs w1 _ _ hneed _ hR
        obtain ⟨x1, x2, x3, x4, x5, x6, x7, rfl⟩ := hR.seven
        obtain ⟨vv, rfl⟩ := hR.e1 (hneed 13 (by simp))
        refine mix_read (by rfl) (by rfl) (by rfl) ?_
        intro K hK
        simp only [putAll, Act.put, List.setIfInBounds_toArray, List.set_cons_succ, List.set_cons_zero]
        go_big_quiet_op
        go_big_quiet_on
        exact ⟨[x1, .tuple #[vv, dv a, dv b], vv, x4, x5, x6, x7], rfl, by simp only [putAll, Act.put, List.setIfInBounds_toArray, List.set_cons_succ, List.set_cons_zero], hR.put2 (hneed 13 (by simp))⟩
      · intro s vs w1 _ _ hneed _ hR
        obtain ⟨x1, x2, x3, x4, x5, x6, x7, rfl⟩ := hR.seven
        obtain ⟨vv, rfl⟩ := hR.e1 (hneed 13 (by simp))
        refine mix_read (by rfl) (by rfl) (by rfl) ?_
        intro K hK
        simp only [putAll, Act.put, List.setIfInBounds_toArray, List.set_cons_succ, List.set_cons_zero]
        go_big_quiet_op
        go_big_quiet_on
        exact ⟨[x1, .tuple #[vv, dv a, dv b], x3, dv a, x5, x6, x7], rfl, by simp only [putAll, Act.put, List.setIfInBounds_toArray, List.set_cons_succ, List.set_cons_zero], hR.put3⟩
      · intro s vs w1 _ _ hneed _ hR
        obtain ⟨x1, x2, x3, x4, x5, x6, x7, rfl⟩ := hR.seven
        obtain ⟨vv, rfl⟩ := hR.e1 (hneed 13 (by simp))
        refine mix_read (by rfl) (by rfl) (by rfl) ?_
        intro K hK
        simp only [putAll, Act.put, List.setIfInBounds_toArray, List.set_cons_succ, List.set_cons_zero]
        go_big_quiet_op
        go_big_quiet_on
        exact ⟨[x1, .tuple #[vv, dv a, dv b], x3, x4, dv b, x6, x7], rfl, by simp only [putAll, Act.put, List.setIfInBounds_toArray, List.set_cons_succ, List.set_cons_zero], hR.put4⟩
      · intro s vs w1 _ hall hallf _ hR
        have hB1 := hR.old
        obtain ⟨vv, k8, k9, rfl, hown, hk8, hk9, hne89, T8, T9, hn8, hn9⟩ := hR.all (hall (12, []) (by simp)) (hallf (13, [12]) (by simp)) (hallf (14, [13]) (by simp)) (hallf (15, [13]) (by simp)) (hallf (16, [13]) (by simp)) (hall (17, []) (by simp)) (hall (18, []) (by simp))
        simp only [putAll, Act.put, List.setIfInBounds_toArray, List.set_cons_succ, List.set_cons_zero]
        clear hall hallf hR
        refine seq_chain (by rfl) ?_
        intro K hK
        go_wp2_with fail
        refine hK.out _ _ (since hB1) ?_
        clear hK K
        repeat (first | (refine seq_skip (by rfl) (by rfl) ?_; simp only [Act.put, List.setIfInBounds_toArray, List.set_cons_succ, List.set_cons_zero]) | (refine seq_float (by rfl) (by rfl) (by rfl) ?_; intro K hK; go_big_quiet_op; go_big_quiet_on))
        obtain ⟨a0, a1, xa0, xa1, va0, va1⟩ := T8.cells
        refine seq_chain (by rfl) ?_
        intro K hK
        go_wp2_with fail
        obtain ⟨W5, hW5⟩ : ∃ W5, (w1.setCell ⟨k8, 0, none⟩ (.int .u64 a.1.toNat)).setCell ⟨k8, 1, none⟩ (.int .u64 a.2.toNat) = W5 := ⟨_, rfl⟩
        have hA8 : DBox W5 k8 a := by rw [← hW5]; exact T8.set a
        have T9' : Two W5 k9 := by rw [← hW5]; exact (T9.other _ _ (Ne.symm hne89)).other _ _ (Ne.symm hne89)
        have hB5 : Below WE.heap.size WE W5 := by rw [← hW5]; exact (hB1.setCell (p := ⟨k8, 0, none⟩) hk8 _).setCell (p := ⟨k8, 1, none⟩) hk8 _
        have hown5 : W5.ownsRow WE.heap.size 9 1 vv L.length (bcells L) := by rw [← hW5]; exact own_other (own_other hown hn8 0 _) hn8 1 _
        rw [hW5]
        clear hW5 hB1 T8 T9 xa0 xa1 va0 va1 hown
        refine hK.out _ _ (since hB5) ?_
        clear hK K
        repeat (first | (refine seq_skip (by rfl) (by rfl) ?_; simp only [Act.put, List.setIfInBounds_toArray, List.set_cons_succ, List.set_cons_zero]) | (refine seq_float (by rfl) (by rfl) (by rfl) ?_; intro K hK; go_big_quiet_op; go_big_quiet_on))
        obtain ⟨b0, b1, xb0, xb1, vb0, vb1⟩ := T9'.cells
        refine seq_chain (by rfl) ?_
        intro K hK
        go_wp2_with fail
        obtain ⟨W6, hW6⟩ : ∃ W6, (W5.setCell ⟨k9, 0, none⟩ (.int .u64 b.1.toNat)).setCell ⟨k9, 1, none⟩ (.int .u64 b.2.toNat) = W6 := ⟨_, rfl⟩
        have hA9 : DBox W6 k8 a := by rw [← hW6]; exact (hA8.other _ _ hne89).other _ _ hne89
        have hB9 : DBox W6 k9 b := by rw [← hW6]; exact T9'.set b
        have hB6 : Below WE.heap.size WE W6 := by rw [← hW6]; exact (hB5.setCell (p := ⟨k9, 0, none⟩) hk9 _).setCell (p := ⟨k9, 1, none⟩) hk9 _
        have hown6 : W6.ownsRow WE.heap.size 9 1 vv L.length (bcells L) := by rw [← hW6]; exact own_other (own_other hown5 hn9 0 _) hn9 1 _
        rw [hW6]
        clear hW6 hB5 T9' xb0 xb1 vb0 vb1 hA8 hne89 hown5
        refine hK.out _ _ (since hB6) ?_
        clear hK K
        repeat (first | (refine seq_skip (by rfl) (by rfl) ?_; simp only [Act.put, List.setIfInBounds_toArray, List.set_cons_succ, List.set_cons_zero]) | (refine seq_float (by rfl) (by rfl) (by rfl) ?_; intro K hK; go_big_quiet_op; go_big_quiet_on))
        refine seq_nil ?_
        replace hw0 := hw0.trans (hB6.mono hw0.size)
        replace T1 := T1.below hB6 (by omega)
        replace T2 := T2.below hB6 (by omega)
        replace E13 := E13.below hB6 (by omega)
        obtain ⟨lB9, b2, b3⟩ := hB9
        obtain ⟨lA9, a2, a3⟩ := hA9
        obtain ⟨lE, e2, e3⟩ := E13
        have hBE : WE.heap.size ≤ W6.heap.size := hB6.size
        go_wp2_with fail
        refine wp_region_seq (fun w' => ∃ s : Since W6.heap.size W6, w' = s.world) [(0, true), (1, true), (3, true), (4, true), (2, false), (5, false), (6, false), (7, false)] (by kernel_rfl) (by kernel_rfl) (by intro c d v a w h; cases d <;> exact h) (since (Below.refl _ _).drew) ?_
        repeat (first | (refine seq_skip (by rfl) (by rfl) ?_; simp only [Act.put, List.setIfInBounds_toArray, List.set_cons_succ, List.set_cons_zero]) | (refine seq_float (by rfl) (by rfl) (by rfl) ?_; intro K hK; go_big_quiet_op; go_big_quiet_on))
        refine seq_chain (by rfl) ?_
        intro K hK
        go_wp2_with fail
        (with_reducible refine (node_b e a _).mono ?_); rintro e w7 ⟨rfl, hb7⟩
        have h7 : Below W6.heap.size W6 w7 := (Below.refl _ _).drew.trans hb7
        go_wp2_with fail
        refine hK.out _ _ (since h7) ?_
        clear hK K
        repeat (first | (refine seq_skip (by rfl) (by rfl) ?_; simp only [Act.put, List.setIfInBounds_toArray, List.set_cons_succ, List.set_cons_zero]) | (refine seq_float (by rfl) (by rfl) (by rfl) ?_; intro K hK; go_big_quiet_op; go_big_quiet_on))
        refine seq_chain (by rfl) ?_
        intro K hK
        go_wp2_with fail
        (with_reducible refine (node_b e b _).mono ?_); rintro e w8 ⟨rfl, hb8⟩
        have h8 := h7.trans (hb8.mono h7.size)
        go_wp2_with fail
        refine hK.out _ _ (since h8) ?_
        clear hK K
        repeat (first | (refine seq_skip (by rfl) (by rfl) ?_; simp only [Act.put, List.setIfInBounds_toArray, List.set_cons_succ, List.set_cons_zero]) | (refine seq_float (by rfl) (by rfl) (by rfl) ?_; intro K hK; go_big_quiet_op; go_big_quiet_on))
        refine seq_chain (by rfl) ?_
        intro K hK
        go_wp2_with fail
        refine hK.out _ _ (since h8) ?_
        clear hK K
        repeat (first | (refine seq_skip (by rfl) (by rfl) ?_; simp only [Act.put, List.setIfInBounds_toArray, List.set_cons_succ, List.set_cons_zero]) | (refine seq_float (by rfl) (by rfl) (by rfl) ?_; intro K hK; go_big_quiet_op; go_big_quiet_on))
        refine seq_chain (by rfl) ?_
        intro K hK
        go_wp2_with fail
        refine hK.out _ _ (since h8) ?_
        clear hK K
        repeat (first | (refine seq_skip (by rfl) (by rfl) ?_; simp only [Act.put, List.setIfInBounds_toArray, List.set_cons_succ, List.set_cons_zero]) | (refine seq_float (by rfl) (by rfl) (by rfl) ?_; intro K hK; go_big_quiet_op; go_big_quiet_on))
        refine seq_nil ?_
        have hown8 := ownsRow_below hown6 h8
        replace hw0 := hw0.trans (h8.mono hw0.size)
        replace T1 := T1.below h8 (by omega)
        replace T2 := T2.below h8 (by omega)
        have h68 := h8.size
        clear b2 b3 a2 a3 e2 e3 hown6 hB6 hn8 hn9 hb7 hb8 h7 h8 hk8 hk9
        have CS := lid (fun w => of_b (nodeS e a) w (node_ok _ _))
        have CT := lid (fun w => of_b (nodeS e b) w (node_ok _ _))
        have hSl : Sl (w8.alloc (Obj.cells #[.string (bstr (nodeS e a)), .string (bstr (nodeS e b))] 9)) 1 (some ⟨w8.heap.size, 0, none⟩) 2 [.string (bstr (nodeS e a)), .string (bstr (nodeS e b))] := sl_new (us := #[.string (bstr (nodeS e a)), .string (bstr (nodeS e b))]) (heap_alloc_new w8 _) rfl
        go_wp2_with (at_builtin; go_must (refine wpList_append_sl rfl _ _ 37 rfl WE.heap.size 9 (.string ⟨#[]⟩) 1 16 info_txt Try.underlying37 rfl (by decide) _ _ _ (hown8.alloc _) rfl _ 2 2 _ rfl hSl (by intro h; cases h) (by simp [Value.oneCell']) (by simp only [maxLen]; omega) (by omega) (by simp; omega) ?_))
        intro v9 w9 hown9 hb9
        have hb9' : Below WE.heap.size w8 w9 := ((ba w8 _).mono (by omega)).trans hb9
        replace hw0 := hw0.trans (hb9'.mono (by omega))
        replace T1 := T1.below hb9' (by omega)
        replace T2 := T2.below hb9' (by omega)
        clear hSl hown8 hb9 hb9'
        go_wp2_with fail
        (with_reducible refine (CS.out _).mono ?_); rintro e w10 ⟨rfl, hb10⟩
        go_wp2_with fail
        (with_reducible refine (CT.out _).mono ?_); rintro e w11 ⟨rfl, hb11⟩
        have h911 := hb10.trans (hb11.mono hb10.size)
        have l9 : w.heap.size + 2 < w9.heap.size := T2.lt
        replace hw0 := hw0.trans (h911.mono hw0.size)
        replace T1 := T1.below h911 (by omega)
        replace T2 := T2.below h911 (by omega)
        have hown11 := ownsRow_below hown9 h911
        clear hown9 hb10 hb11 h911
        obtain ⟨y0, y1, ya0, ya1, za0, za1⟩ := T1.cells
        obtain ⟨y2, y3, yb0, yb1, zb0, zb1⟩ := T2.cells
        generalize hS : nodeS e a = S at *
        generalize hT : nodeS e b = U at *
        have HA8 := T1.set (ofU S)
        have T2' := (T2.other ⟨w.heap.size + 1, 0, none⟩ (.int .u64 (ofU S).1.toNat) (by simp)).other ⟨w.heap.size + 1, 1, none⟩ (.int .u64 (ofU S).2.toNat) (by simp)
        obtain ⟨u0, u1, yc0, yc1, zc0, zc1⟩ := T2'.cells
        have HA9 := (HA8.other ⟨w.heap.size + 2, 0, none⟩ (.int .u64 (ofU U).1.toNat) (by simp)).other ⟨w.heap.size + 2, 1, none⟩ (.int .u64 (ofU U).2.toNat) (by simp)
        have HB9 := T2'.set (ofU U)
        have hownF := own_set (own_set (own_set (own_set hown11 (X := w.heap.size + 1) (by omega) 0 (.int .u64 (ofU S).1.toNat)) (X := w.heap.size + 1) (by omega) 1 (.int .u64 (ofU S).2.toNat)) (X := w.heap.size + 2) (by omega) 0 (.int .u64 (ofU U).1.toNat)) (X := w.heap.size + 2) (by omega) 1 (.int .u64 (ofU U).2.toNat)
        have hwF := (((hw0.setCell (p := ⟨w.heap.size + 1, 0, none⟩) (by show w.heap.size ≤ w.heap.size + 1; omega) (.int .u64 (ofU S).1.toNat)).setCell (p := ⟨w.heap.size + 1, 1, none⟩) (by show w.heap.size ≤ w.heap.size + 1; omega) (.int .u64 (ofU S).2.toNat)).setCell (p := ⟨w.heap.size + 2, 0, none⟩) (by show w.heap.size ≤ w.heap.size + 2; omega) (.int .u64 (ofU U).1.toNat)).setCell (p := ⟨w.heap.size + 2, 1, none⟩) (by show w.heap.size ≤ w.heap.size + 2; omega) (.int .u64 (ofU U).2.toNat)
        obtain ⟨-, e0, e1⟩ := HA9
        obtain ⟨-, e2, e3⟩ := HB9
        go_wp2_with fail
        refine bodyPost_ret (v := .tuple #[v9, dv (ofU S), dv (ofU U)]) (res_pr Try.results11 _ _ (w.heap.size + 1) (w.heap.size + 2) _ _ _ rfl rfl rfl e0 e1 e2 e3) rfl ⟨v9, by rw [HV.out], ?_, hwF⟩
        rw [HV.out, bcells_append, List.length_append]
        exact ownsRow_base hownF (by omega)
end Go.Proofs.Ytbghpjedldhnhaa

namespace Go.Proofs.Ytbghpjedldhnhaa
open Go.RowKit

theorem str_list' (a b : ByteArray) : (a.toList = b.toList) = (a = b) := by
  have := str_beq a b
  rw [Bool.eq_iff_iff] at this
  simpa using this
set_option maxRecDepth 100000 in
theorem quiet_neq_rec {C : World → Prop} {K : Act → Prop} {a : Act} {o : Oper} (r q : Rec) (v : Bool) (x y : Operand) (h : o.op = .binOp .neq 36 x y 36)
    (hx : a.eval x = rv r) (hy : a.eval y = rv q) (hv : (!decide (r = q)) = v) (hk : K (a.put o.dst (.bool v))) : o.quiet Try.prog a C K := by
  refine ⟨.bool v, fun w _ => ?_, hk⟩
  subst hv
  unfold Oper.quietAt execOp
  rw [h]
  simp only [hx, hy]
  simp [go_sem]
  by_cases hq : r = q
  · subst hq
    simp
  · obtain ⟨t, a1, b1, d1⟩ := r
    obtain ⟨t', a2, b2, d2⟩ := q
    have e1 := str_list' a1 a2
    have e2 := str_list' b1 b2
    have e3 := str_list' d1 d2
    simp only [e1, e2, e3, hq, decide_false]
    by_cases h1 : t = t'
    · by_cases h2 : a1 = a2
      · by_cases h3 : b1 = b2
        · by_cases h4 : d1 = d2
          · exact absurd (by rw [h1, h2, h3, h4]) hq
          · simp [h1, h2, h3, h4]
        · simp [h1, h2, h3]
      · simp [h1, h2]
    · simp [h1]

set_option maxRecDepth 100000 in
set_option maxHeartbeats 8000000 in
theorem EqualRec_any (l l' : List Rec) (n cap cap' : Nat) (ao ao' : Option Addr) (w : World) (h : LedA w ao n cap l) (h' : LedA w ao' n cap' l') :
    Calls Try.prog 10 #[.slice ao n cap, .slice ao' n cap'] w fun e w' => e = .returned (.bool (decide (l = l'))) ∧ Below w.heap.size w w' := by
  have HN := lid h.len
  have HN' := lid h'.len
  have HA := lid h
  have HB := lid h'
  have hm' : n ≤ 9223372036854775807 := h.max
  clear h h'
  go_enter Try.func10, Try.ntmps10
  go_wp2_with fail
  go_loopw [5, 13] (fun _ i wr => ∃ (k : Nat), k ≤ n ∧ i = .int .i64 k ∧ Hid (l.take k = l'.take k) ∧ Below w.heap.size w wr) (fun _ i _ => n - (intOf i).toNat)
  case atStart => exact ⟨0, Nat.zero_le _, rfl, lid rfl, Below.refl _ _⟩
  case round =>
    obtain ⟨k, hk, rfl, HT, hb⟩ := hrel
    by_cases hlt : k < n
    · have hkl : k < l.length := by rw [HN.out]; exact hlt
      have hkl' : k < l'.length := by rw [HN'.out]; exact hlt
      obtain ⟨b1, o1, rfl, hlb1, hd1⟩ := (HA.out.below hb).sl.at_ hlt
      obtain ⟨b2, o2, rfl, hlb2, hd2⟩ := (HB.out.below hb).sl.at_ hlt
      have x0 := hd1 (k * 4 + 0) _ (rcells_at hkl).1
      have x1 := hd1 (k * 4 + 1) _ (rcells_at hkl).2.1
      have x2 := hd1 (k * 4 + 2) _ (rcells_at hkl).2.2.1
      have x3 := hd1 (k * 4 + 3) _ (rcells_at hkl).2.2.2
      have y0 := hd2 (k * 4 + 0) _ (rcells_at hkl').1
      have y1 := hd2 (k * 4 + 1) _ (rcells_at hkl').2.1
      have y2 := hd2 (k * 4 + 2) _ (rcells_at hkl').2.2.1
      have y3 := hd2 (k * 4 + 3) _ (rcells_at hkl').2.2.2
      rw [← Nat.add_assoc] at x1 x2 x3 y1 y2 y3
      rw [Nat.add_zero] at x0 y0
      have HS := lid (List.take_succ_eq_append_getElem hkl)
      have HS' := lid (List.take_succ_eq_append_getElem hkl')
      have HG := lid (fun (e : l = l') => show l[k] = l'[k] by subst e; rfl)
      clear hd1 hd2
      obtain ⟨r, hrk⟩ : ∃ r, l[k] = r := ⟨_, rfl⟩
      obtain ⟨q, hqk⟩ : ∃ q, l'[k] = q := ⟨_, rfl⟩
      rw [hrk] at x0 x1 x2 x3 HS HG
      rw [hqk] at y0 y1 y2 y3 HS' HG
      have dk : decide ((k : Int) < (n : Int)) = true := by simp; omega
      clear hrk hqk
      by_cases hrq : r = q
      · have HV : Hid ((!decide (r = q)) = false) := lid (by rw [decide_eq_true hrq]; rfl)
        have HT2 : Hid (l.take (k + 1) = l'.take (k + 1)) := lid (by rw [HS.out, HS'.out, HT.out, hrq])
        clear hrq
        go_wp2_with fail
        refine wp_region_seq (fun w' => ∃ s : Since wr.heap.size wr, w' = s.world) [(0, true), (1, true), (2, true), (3, true), (4, true), (5, true), (6, true), (7, true), (8, true)] (by kernel_rfl) (by kernel_rfl) (by intro c d v a w h; cases d <;> exact h) (since (Below.refl _ _).drew) ?_
        iterate 8 (first | (refine seq_skip (by rfl) (by rfl) ?_; simp only [Act.put, List.setIfInBounds_toArray, List.set_cons_succ, List.set_cons_zero]) | (refine seq_float (by rfl) (by rfl) (by rfl) ?_; intro K hK; go_big_quiet_op; go_big_quiet_on))
        refine seq_float (by rfl) (by rfl) (by rfl) ?_; intro K hK
        refine quiet_neq_rec r q false _ _ rfl rfl rfl HV.out ?_
        simp only [Act.put, List.setIfInBounds_toArray, List.set_cons_succ, List.set_cons_zero]
        go_big_quiet_on
        refine seq_nil ?_
        go_wp2_with fail
        go_roundw
        case rel => exact ⟨k + 1, by omega, by go_num, HT2, hb.drew⟩
        case measure => simp [intOf]; omega
      · have HV : Hid ((!decide (r = q)) = true) := lid (by rw [decide_eq_false hrq]; rfl)
        have HR : Hid (decide (l = l') = false) := lid (decide_eq_false (fun e => hrq (HG.out e)))
        clear hrq
        go_wp2_with fail
        refine wp_region_seq (fun w' => ∃ s : Since wr.heap.size wr, w' = s.world) [(0, true), (1, true), (2, true), (3, true), (4, true), (5, true), (6, true), (7, true), (8, true)] (by kernel_rfl) (by kernel_rfl) (by intro c d v a w h; cases d <;> exact h) (since (Below.refl _ _).drew) ?_
        iterate 8 (first | (refine seq_skip (by rfl) (by rfl) ?_; simp only [Act.put, List.setIfInBounds_toArray, List.set_cons_succ, List.set_cons_zero]) | (refine seq_float (by rfl) (by rfl) (by rfl) ?_; intro K hK; go_big_quiet_op; go_big_quiet_on))
        refine seq_float (by rfl) (by rfl) (by rfl) ?_; intro K hK
        refine quiet_neq_rec r q true _ _ rfl rfl rfl HV.out ?_
        simp only [Act.put, List.setIfInBounds_toArray, List.set_cons_succ, List.set_cons_zero]
        go_big_quiet_on
        refine seq_nil ?_
        go_wp2_with fail
        go_ret
        exact ⟨ret_bool HR.out.symm, hb.drew⟩
    · obtain rfl : k = n := by omega
      have HR : Hid (decide (l = l') = true) := lid (decide_eq_true (by have := HT.out; rwa [List.take_of_length_le (by rw [HN.out]; exact Nat.le_refl _), List.take_of_length_le (by rw [HN'.out]; exact Nat.le_refl _)] at this))
      go_wp2_with fail
      go_ret
      exact ⟨ret_bool HR.out.symm, hb⟩
end Go.Proofs.Ytbghpjedldhnhaa

namespace Go.Proofs.Ytbghpjedldhnhaa
open Go.RowKit

theorem map_recL_inj : ∀ {A B : List Rec}, (∀ r ∈ A, recB r = true) → (∀ r ∈ B, recB r = true) → A.map recL = B.map recL → A = B
  | [], [], _, _, _ => rfl
  | [], b :: B, _, _, h => by simp at h
  | a :: A, [], _, _, h => by simp at h
  | a :: A, b :: B, ha, hb, h => by
    simp only [List.map_cons, List.cons.injEq] at h
    rw [recL_inj (ha a (by simp)) (hb b (by simp)) h.1, map_recL_inj (fun r hr => ha r (by simp [hr])) (fun r hr => hb r (by simp [hr])) h.2]
theorem chk_all {l : List Rec} (h : checkL l = 0) : ∀ r ∈ l, recB r = true := by
  have hl := check_len h
  unfold checkL at h
  rw [if_pos hl] at h
  exact chk_mem h
theorem recD_map (l : List Rec) : l.map recD = (l.map recL).map ofU := by rw [List.map_map]; rfl
theorem extends_clash {A B : List Rec} {p : List Dg} (hA : checkL A = 0) (hB : checkL B = 0) (h1 : 1 ≤ A.length) (hnm : A.length ≤ B.length) (he : extendsB fstL (headD A) A.length (headD B) B.length p = true) (hne : A ≠ B.take A.length) :
    Clash2 ((prB A.length B.length (headD A) p true).1 ++ (strB (A.map recL) ++ strB (B.map recL))) := by
  have lB := check_len hB
  have eA : headD A = rootD ((A.map recL).map ofU) := by unfold headD; rw [if_pos hA, recD_map]
  have eB : headD B = rootD ((B.map recL).map ofU) := by unfold headD; rw [if_pos hB, recD_map]
  have hne' : A.map recL ≠ (B.map recL).take A.length := fun e => hne (map_recL_inj (chk_all hA) (chk_all (check_take hB _)) (by rw [e, List.map_take]))
  have key : (rootsD fstL A.length B.length true (headD A) p).2.2 = true ∧ (rootsD fstL A.length B.length true (headD A) p).1 = headD A ∧ (rootsD fstL A.length B.length true (headD A) p).2.1 = headD B := by
    by_cases hn : A.length = B.length
    · rw [hn] at he ⊢
      rw [extendsB_same fstL _ _ _ (by omega) (by omega), Bool.and_eq_true] at he
      rw [rootsD_whole]
      exact ⟨he.2, rfl, of_decide_eq_true he.1⟩
    · rw [extendsB_in fstL _ _ _ (by omega) (by omega) (by omega), Int.toNat_natCast, Int.toNat_natCast, Bool.and_eq_true, Bool.and_eq_true] at he
      exact ⟨he.1, of_decide_eq_true he.2.1, of_decide_eq_true he.2.2⟩
  obtain ⟨k1, k2, k3⟩ := key
  exact grow_clash p.length p A.length B.length (headD A) true (A.map recL) (B.map recL) (Nat.le_refl _) (by simp) (by simp) h1 hnm k1 (k2.trans eA) (k3.trans eB) hne'
theorem prB_size (m0 : Nat) : ∀ (p : List Dg) (n m : Nat) (old : Dg) (whole : Bool), p.length ≤ m0 → ∀ x ∈ (prB n m old p whole).1, (bstr x).size ≤ maxLen := by
  induction m0 with
  | zero =>
    intro p n m old whole h
    obtain rfl := List.eq_nil_of_length_eq_zero (by omega : p.length = 0)
    rw [prB_nil]
    intro x hx
    cases hx
  | succ m0 ih =>
    intro p n m old whole h
    rcases List.eq_nil_or_concat p with rfl | ⟨q, e, hqe⟩
    · rw [prB_nil]
      intro x hx
      cases hx
    · rw [List.concat_eq_append] at hqe
      subst hqe
      have hq : q.length ≤ m0 := by simp at h; omega
      by_cases hne : n = m
      · subst hne
        cases whole with
        | true => rw [prB_whole]; intro x hx; cases hx
        | false => rw [prB_same]; intro x hx; cases hx
      · by_cases hk : n ≤ halfN m
        · rw [prB_lo hne hk]
          intro x hx
          rcases List.mem_append.1 hx with hx | hx
          · exact ih q _ _ _ _ hq x hx
          · rw [List.mem_singleton.1 hx]
            exact node_ok _ _
        · rw [prB_hi hne hk]
          intro x hx
          rcases List.mem_append.1 hx with hx | hx
          · exact ih q _ _ _ _ hq x hx
          · rcases List.mem_cons.1 hx with rfl | hx
            · exact node_ok _ _
            · rw [List.mem_singleton.1 hx]
              exact node_ok _ _
theorem row_of_own {w : World} {base : Nat} {v : Value} {L : List (List UInt8)} (h : w.ownsRow base 9 1 v L.length (bcells L)) : ∃ ao cap, v = .slice ao L.length cap ∧ RowIn w (ao, cap, L) := by
  rcases h.2 with ⟨e, h0⟩ | ⟨g, cap, cur, e, hg, hb, hn, hm, _⟩
  · refine ⟨none, 0, by rw [e, h0], ?_, fun _ => rfl⟩
    exact ⟨h.1, .inl h0⟩
  · obtain ⟨ao, cp, e2, _, _, hs⟩ := Sl.of_own h
    rw [e] at e2
    cases e2
    exact ⟨_, _, e, hs, fun h => by cases h⟩

set_option maxRecDepth 100000 in
set_option maxHeartbeats 16000000 in
theorem TopRew_any (lo ln : List Rec) (p : List Dg) (n m c1 c2 len pcap : Nat) (ao an po : Option Addr) (w : World) (h : LedA w ao n c1 lo) (h' : LedA w an m c2 ln) (hp : p.length = len) (hpc : len ≤ pcap) (hpm : pcap ≤ maxLen) (hs : DSl w po p) :
    Calls Try.prog 3 #[.slice ao n c1, .slice an m c2, .slice po len pcap] w fun e w' => e = .returned (.bool true) ∧ Below w.heap.size w w' := by
  have HA := lid h
  have HB := lid h'
  have HP := lid hp
  have HS := lid hs
  have hnm : n ≤ 9223372036854775807 := h.max
  have hmm : m ≤ 9223372036854775807 := h'.max
  have hlm : len ≤ 9223372036854775807 := Nat.le_trans hpc hpm
  have HLO := lid h.len
  have HLN := lid h'.len
  clear h h' hp hs hpm
  by_cases g1 : 10 < n
  · have d1 : decide ((10 : Int) < (n : Int)) = true := by simp; omega
    have d2 : decide (10 < n) = true := by simpa using g1
    go_enter Try.func3, Try.ntmps3
    go_wp2_with fail
    (with_reducible refine (topAwake_any _).mono ?_); rintro e w1 ⟨rfl, hb1⟩
    go_wp2_with fail
    go_ret
    exact ⟨rfl, hb1⟩
  have d1 : decide ((10 : Int) < (n : Int)) = false := by simp; omega
  have d2 : decide (10 < n) = false := by simpa using g1
  by_cases g2 : 10 < m
  · have e1 : decide ((10 : Int) < (m : Int)) = true := by simp; omega
    have e2 : decide (10 < m) = true := by simpa using g2
    go_enter Try.func3, Try.ntmps3
    go_wp2_with fail
    (with_reducible refine (topAwake_any _).mono ?_); rintro e w1 ⟨rfl, hb1⟩
    go_wp2_with fail
    go_ret
    exact ⟨rfl, hb1⟩
  have e1 : decide ((10 : Int) < (m : Int)) = false := by simp; omega
  have e2 : decide (10 < m) = false := by simpa using g2
  by_cases g3 : 20 < len
  · have f1 : decide ((20 : Int) < (len : Int)) = true := by simp; omega
    have f2 : decide (20 < len) = true := by simpa using g3
    go_enter Try.func3, Try.ntmps3
    go_wp2_with fail
    (with_reducible refine (topAwake_any _).mono ?_); rintro e w1 ⟨rfl, hb1⟩
    go_wp2_with fail
    go_ret
    exact ⟨rfl, hb1⟩
  have f1 : decide ((20 : Int) < (len : Int)) = false := by simp; omega
  have f2 : decide (20 < len) = false := by simpa using g3
  have CG := lid (Great_any lo n c1 ao w HA.out.len HA.out.sl HA.out.max HA.out.sizes)
  go_enter Try.func3, Try.ntmps3
  go_wp2_with fail
  (with_reducible refine (CG.out).mono ?_); rintro e w1 ⟨rfl, hb1⟩
  cases hG : greatB lo with
  | true =>
    clear hG
    go_wp2_with fail
    (with_reducible refine (topAwake_any _).mono ?_); rintro e w2 ⟨rfl, hb2⟩
    go_wp2_with fail
    go_ret
    exact ⟨rfl, hb1.trans (hb2.mono hb1.size)⟩
  | false =>
  clear hG CG
  have CG := lid (Great_any ln m c2 an w1 HB.out.len (HB.out.below hb1).sl HB.out.max HB.out.sizes)
  go_wp2_with fail
  (with_reducible refine (CG.out).mono ?_); rintro e w2 ⟨rfl, hb2⟩
  have hw2 := hb1.trans (hb2.mono hb1.size)
  cases hG : greatB ln with
  | true =>
    clear hG
    go_wp2_with fail
    (with_reducible refine (topAwake_any _).mono ?_); rintro e w3 ⟨rfl, hb3⟩
    go_wp2_with fail
    go_ret
    exact ⟨rfl, hw2.trans (hb3.mono hw2.size)⟩
  | false =>
  clear hG CG
  have CA := lid (fun w' (hb : Below w.heap.size w w') => Build_any lo n c1 ao w' (HA.out.below hb) (by omega))
  have CB := lid (fun w' (hb : Below w.heap.size w w') => Build_any ln m c2 an w' (HB.out.below hb) (by omega))
  have KA := lid (buildL_ok lo)
  have KB := lid (buildL_ok ln)
  generalize buildL lo = A at *
  generalize buildL ln = B at *
  go_wp2_with fail
  (with_reducible refine (CA.out _ hw2).mono ?_); rintro e w3 ⟨a3, n3, k3, rfl, hnk3, hA3, hb3⟩
  have hw3 := hw2.trans (hb3.mono hw2.size)
  go_wp2_with fail
  (with_reducible refine (CB.out _ hw3).mono ?_); rintro e w4 ⟨a4, n4, k4, rfl, hnk4, hB4, hb4⟩
  have hw4 := hw3.trans (hb4.mono hw3.size)
  have hA4 := hA3.below hb4
  have hn3 : n3 ≤ 10 := by have h1 := KA.out.2; rw [hA3.len, HLO.out] at h1; omega
  have hn4 : n4 ≤ 10 := by have h1 := KB.out.2; rw [hB4.len, HLN.out] at h1; omega
  clear hA3 hb1 hb2 hb3 hb4 hw2 hw3 CA CB d1 d2 e1 e2 f1 f2
  go_wp2_with fail
  obtain ⟨W0, hW0⟩ : ∃ W0, (w4.alloc (Obj.cells #[.slice a3 n3 k3] 26)).alloc (Obj.cells #[.slice a4 n4 k4] 26) = W0 := ⟨_, rfl⟩
  have hb40 : Below w4.heap.size w4 W0 := by rw [← hW0]; exact ((Below.refl _ _).alloc (Nat.le_refl _) _).alloc (by simp) _
  have q0 : W0.cell? ⟨w4.heap.size, 0, none⟩ = some (.slice a3 n3 k3) := by rw [← hW0, cell_old_at (by simp), cell_new_at rfl]; rfl
  have q1 : W0.cell? ⟨w4.heap.size + 1, 0, none⟩ = some (.slice a4 n4 k4) := by rw [← hW0, cell_new_at (by simp)]; rfl
  have hsz : w4.heap.size + 2 = W0.heap.size := by rw [← hW0, World.size_alloc, World.size_alloc]
  rw [hW0]
  clear hW0
  have l0 : w4.heap.size < W0.heap.size := by omega
  have l1 : w4.heap.size + 1 < W0.heap.size := by omega
  have hwW0 := hw4.trans (hb40.mono hw4.size)
  have HA0 := lid (hA4.below hb40)
  have HB0 := lid (hB4.below hb40)
  clear hA4 hB4 hb40 hsz hw4
  refine wp_region_seq (fun w' => ∃ s : Since W0.heap.size W0, w' = s.world) [(0, true), (1, true), (2, true), (3, true), (4, true), (5, true), (6, false), (7, false)] (by kernel_rfl) (by kernel_rfl) (by intro c d v a w h; cases d <;> exact h) (since (Below.refl _ _).drew) ?_
  repeat (first | (refine seq_skip (by rfl) (by rfl) ?_; simp only [Act.put, List.setIfInBounds_toArray, List.set_cons_succ, List.set_cons_zero]) | (refine seq_float (by rfl) (by rfl) (by rfl) ?_; intro K hK; go_big_quiet_op; go_big_quiet_on))
  refine seq_chain (by rfl) ?_
  intro K hK
  go_wp2_with fail
  refine hK.out _ _ (since (Below.refl _ _).drew) ?_
  clear hK K
  repeat (first | (refine seq_skip (by rfl) (by rfl) ?_; simp only [Act.put, List.setIfInBounds_toArray, List.set_cons_succ, List.set_cons_zero]) | (refine seq_float (by rfl) (by rfl) (by rfl) ?_; intro K hK; go_big_quiet_op; go_big_quiet_on))
  refine seq_chain (by rfl) ?_
  intro K hK
  go_wp2_with fail
  refine hK.out _ _ (since (Below.refl _ _).drew) ?_
  clear hK K
  repeat (first | (refine seq_skip (by rfl) (by rfl) ?_; simp only [Act.put, List.setIfInBounds_toArray, List.set_cons_succ, List.set_cons_zero]) | (refine seq_float (by rfl) (by rfl) (by rfl) ?_; intro K hK; go_big_quiet_op; go_big_quiet_on))
  refine seq_nil ?_
  obtain ⟨W, hW⟩ : ∃ W, W0.drew = W := ⟨_, rfl⟩
  replace q0 : W.cell? ⟨w4.heap.size, 0, none⟩ = some (.slice a3 n3 k3) := by rw [← hW]; exact q0
  replace q1 : W.cell? ⟨w4.heap.size + 1, 0, none⟩ = some (.slice a4 n4 k4) := by rw [← hW]; exact q1
  replace l0 : w4.heap.size < W.heap.size := by rw [← hW]; exact l0
  replace l1 : w4.heap.size + 1 < W.heap.size := by rw [← hW]; exact l1
  have hwW : Below w.heap.size w W := by rw [← hW]; exact hwW0.drew
  have HA5 := lid (show LedA W a3 n3 k3 A by rw [← hW]; exact HA0.out.below (Below.refl _ _).drew)
  have HB5 := lid (show LedA W a4 n4 k4 B by rw [← hW]; exact HB0.out.below (Below.refl _ _).drew)
  have HLA := lid HA5.out.len
  have HLB := lid HB5.out.len
  rw [hW]
  clear hW HA0 HB0 hwW0
  by_cases z0 : n3 = 0
  · have dz : ((n3 : Int) == 0) = true := by simp; omega
    have dz' : (n3 == 0) = true := by simpa using z0
    go_wp2_with fail
    refine wp_region_seq (fun w' => ∃ s : Since W.heap.size W, w' = s.world) [(0, true), (1, true), (2, true), (3, true), (4, true), (5, true), (6, true), (7, true), (8, true), (10, true), (11, true), (13, true), (14, true), (9, false), (12, false), (15, false), (16, true), (17, true), (18, true), (19, true), (20, true), (21, true), (22, true), (23, true), (24, true), (25, false), (26, true)] (by kernel_rfl) (by kernel_rfl) (by intro c d v a w h; cases d <;> exact h) (since (Below.refl _ _).drew) ?_
    repeat (first | (refine seq_skip (by rfl) (by rfl) ?_; simp only [Act.put, List.setIfInBounds_toArray, List.set_cons_succ, List.set_cons_zero]) | (refine seq_float (by rfl) (by rfl) (by rfl) ?_; intro K hK; go_big_quiet_op; go_big_quiet_on))
    refine seq_chain (by rfl) ?_
    intro K hK
    go_wp2_with fail
    refine hK.out _ _ (since (Below.refl _ _).drew) ?_
    clear hK K
    repeat (first | (refine seq_skip (by rfl) (by rfl) ?_; simp only [Act.put, List.setIfInBounds_toArray, List.set_cons_succ, List.set_cons_zero]) | (refine seq_float (by rfl) (by rfl) (by rfl) ?_; intro K hK; go_big_quiet_op; go_big_quiet_on))
    refine seq_chain (by rfl) ?_
    intro K hK
    go_wp2_with fail
    refine hK.out _ _ (since (Below.refl _ _).drew) ?_
    clear hK K
    repeat (first | (refine seq_skip (by rfl) (by rfl) ?_; simp only [Act.put, List.setIfInBounds_toArray, List.set_cons_succ, List.set_cons_zero]) | (refine seq_float (by rfl) (by rfl) (by rfl) ?_; intro K hK; go_big_quiet_op; go_big_quiet_on))
    refine seq_chain (by rfl) ?_
    intro K hK
    go_wp2_with fail
    refine hK.out _ _ (since (Below.refl _ _).drew) ?_
    clear hK K
    repeat (first | (refine seq_skip (by rfl) (by rfl) ?_; simp only [Act.put, List.setIfInBounds_toArray, List.set_cons_succ, List.set_cons_zero]) | (refine seq_float (by rfl) (by rfl) (by rfl) ?_; intro K hK; go_big_quiet_op; go_big_quiet_on))
    refine seq_chain (by rfl) ?_
    intro K hK
    go_wp2_with fail
    refine hK.out _ _ (since (Below.refl _ _).drew) ?_
    clear hK K
    repeat (first | (refine seq_skip (by rfl) (by rfl) ?_; simp only [Act.put, List.setIfInBounds_toArray, List.set_cons_succ, List.set_cons_zero]) | (refine seq_float (by rfl) (by rfl) (by rfl) ?_; intro K hK; go_big_quiet_op; go_big_quiet_on))
    refine seq_nil ?_
    go_wp2_with fail
    (with_reducible refine (topAwake_any _).mono ?_); rintro e w6 ⟨rfl, hb6⟩
    go_wp2_with fail
    go_ret
    exact ⟨rfl, hwW.drew.trans (hb6.mono hwW.drew.size)⟩
  have dz : ((n3 : Int) == 0) = false := by simp; omega
  have dz' : (n3 == 0) = false := by simpa using z0
  by_cases z1 : n4 < n3
  · have dy : decide ((n4 : Int) < (n3 : Int)) = true := by simp; omega
    have dy' : decide (n4 < n3) = true := by simpa using z1
    go_wp2_with fail
    refine wp_region_seq (fun w' => ∃ s : Since W.heap.size W, w' = s.world) [(0, true), (1, true), (2, true), (3, true), (4, true), (5, true), (6, true), (7, true), (8, true), (10, true), (11, true), (13, true), (14, true), (9, false), (12, false), (15, false), (16, true), (17, true), (18, true), (19, true), (20, true), (21, true), (22, true), (23, true), (24, true), (25, false), (26, true)] (by kernel_rfl) (by kernel_rfl) (by intro c d v a w h; cases d <;> exact h) (since (Below.refl _ _).drew) ?_
    repeat (first | (refine seq_skip (by rfl) (by rfl) ?_; simp only [Act.put, List.setIfInBounds_toArray, List.set_cons_succ, List.set_cons_zero]) | (refine seq_float (by rfl) (by rfl) (by rfl) ?_; intro K hK; go_big_quiet_op; go_big_quiet_on))
    refine seq_chain (by rfl) ?_
    intro K hK
    go_wp2_with fail
    refine hK.out _ _ (since (Below.refl _ _).drew) ?_
    clear hK K
    repeat (first | (refine seq_skip (by rfl) (by rfl) ?_; simp only [Act.put, List.setIfInBounds_toArray, List.set_cons_succ, List.set_cons_zero]) | (refine seq_float (by rfl) (by rfl) (by rfl) ?_; intro K hK; go_big_quiet_op; go_big_quiet_on))
    refine seq_chain (by rfl) ?_
    intro K hK
    go_wp2_with fail
    refine hK.out _ _ (since (Below.refl _ _).drew) ?_
    clear hK K
    repeat (first | (refine seq_skip (by rfl) (by rfl) ?_; simp only [Act.put, List.setIfInBounds_toArray, List.set_cons_succ, List.set_cons_zero]) | (refine seq_float (by rfl) (by rfl) (by rfl) ?_; intro K hK; go_big_quiet_op; go_big_quiet_on))
    refine seq_chain (by rfl) ?_
    intro K hK
    go_wp2_with fail
    refine hK.out _ _ (since (Below.refl _ _).drew) ?_
    clear hK K
    repeat (first | (refine seq_skip (by rfl) (by rfl) ?_; simp only [Act.put, List.setIfInBounds_toArray, List.set_cons_succ, List.set_cons_zero]) | (refine seq_float (by rfl) (by rfl) (by rfl) ?_; intro K hK; go_big_quiet_op; go_big_quiet_on))
    refine seq_chain (by rfl) ?_
    intro K hK
    go_wp2_with fail
    refine hK.out _ _ (since (Below.refl _ _).drew) ?_
    clear hK K
    repeat (first | (refine seq_skip (by rfl) (by rfl) ?_; simp only [Act.put, List.setIfInBounds_toArray, List.set_cons_succ, List.set_cons_zero]) | (refine seq_float (by rfl) (by rfl) (by rfl) ?_; intro K hK; go_big_quiet_op; go_big_quiet_on))
    refine seq_nil ?_
    go_wp2_with fail
    (with_reducible refine (topAwake_any _).mono ?_); rintro e w6 ⟨rfl, hb6⟩
    go_wp2_with fail
    go_ret
    exact ⟨rfl, hwW.drew.trans (hb6.mono hwW.drew.size)⟩
  have dy : decide ((n4 : Int) < (n3 : Int)) = false := by simp; omega
  have dy' : decide (n4 < n3) = false := by simpa using z1
  have CH := lid (fun w' (h : Below W.heap.size W w') => Head_any A n3 k3 a3 w' (HA5.out.below h))
  have CI := lid (fun w' (h : Below W.heap.size W w') => Head_any B n4 k4 a4 w' (HB5.out.below h))
  have CE := lid (fun w' (h : Below W.heap.size W w') => Extends_any (headD A) (headD B) n3 n4 p po len pcap w' HP.out hpc (by omega) ((HS.out.below hwW).below h))
  have CQ := lid (fun w' (h : Below W.heap.size W w') => EqualRec_any A (B.take n3) n3 k3 k4 a3 a4 w' (HA5.out.below h) ((HB5.out.below h).take (by omega)))
  have HCL := lid (fun (he : extendsB fstL (headD A) n3 (headD B) n4 p = true) (hne : A ≠ B.take n3) => show Clash2 ((prB n3 n4 (headD A) p true).1 ++ (strB (A.map recL) ++ strB (B.map recL))) by
    have := extends_clash (p := p) KA.out.1 KB.out.1 (by rw [HLA.out]; omega) (by rw [HLA.out, HLB.out]; omega)
    rw [HLA.out, HLB.out] at this
    exact this he hne)
  generalize headD A = D1 at *
  generalize headD B = D2 at *
  have hnk3' : n3 ≤ k4 := by omega
  cases hE : extendsB fstL D1 n3 D2 n4 p with
  | false =>
    rw [hE] at CE
    clear hE HCL
    go_wp2_with fail
    refine wp_region_seq (fun w' => ∃ s : Since W.heap.size W, w' = s.world) [(0, true), (1, true), (2, true), (3, true), (4, true), (5, true), (6, true), (7, true), (8, true), (10, true), (11, true), (13, true), (14, true), (9, false), (12, false), (15, false), (16, true), (17, true), (18, true), (19, true), (20, true), (21, true), (22, true), (23, true), (24, true), (25, false), (26, true)] (by kernel_rfl) (by kernel_rfl) (by intro c d v a w h; cases d <;> exact h) (since (Below.refl _ _).drew) ?_
    repeat (first | (refine seq_skip (by rfl) (by rfl) ?_; simp only [Act.put, List.setIfInBounds_toArray, List.set_cons_succ, List.set_cons_zero]) | (refine seq_float (by rfl) (by rfl) (by rfl) ?_; intro K hK; go_big_quiet_op; go_big_quiet_on))
    refine seq_chain (by rfl) ?_
    intro K hK
    go_wp2_with fail
    (with_reducible refine (CH.out _ (Below.refl _ _).drew).mono ?_); rintro e w5 ⟨rfl, hb5⟩
    have h5 : Below W.heap.size W w5 := (Below.refl _ _).drew.trans hb5
    go_wp2_with fail
    refine hK.out _ _ (since h5) ?_
    clear hK K
    repeat (first | (refine seq_skip (by rfl) (by rfl) ?_; simp only [Act.put, List.setIfInBounds_toArray, List.set_cons_succ, List.set_cons_zero]) | (refine seq_float (by rfl) (by rfl) (by rfl) ?_; intro K hK; go_big_quiet_op; go_big_quiet_on))
    refine seq_chain (by rfl) ?_
    intro K hK
    go_wp2_with fail
    (with_reducible refine (CI.out _ h5).mono ?_); rintro e w6 ⟨rfl, hb6⟩
    have h6 := h5.trans (hb6.mono h5.size)
    go_wp2_with fail
    refine hK.out _ _ (since h6) ?_
    clear hK K
    repeat (first | (refine seq_skip (by rfl) (by rfl) ?_; simp only [Act.put, List.setIfInBounds_toArray, List.set_cons_succ, List.set_cons_zero]) | (refine seq_float (by rfl) (by rfl) (by rfl) ?_; intro K hK; go_big_quiet_op; go_big_quiet_on))
    refine seq_chain (by rfl) ?_
    intro K hK
    go_wp2_with fail
    (with_reducible refine (CE.out _ h6).mono ?_); rintro e w7 ⟨rfl, hb7⟩
    have h7 := h6.trans (hb7.mono h6.size)
    go_wp2_with fail
    refine hK.out _ _ (since h7) ?_
    clear hK K
    repeat (first | (refine seq_skip (by rfl) (by rfl) ?_; simp only [Act.put, List.setIfInBounds_toArray, List.set_cons_succ, List.set_cons_zero]) | (refine seq_float (by rfl) (by rfl) (by rfl) ?_; intro K hK; go_big_quiet_op; go_big_quiet_on))
    refine seq_chain (by rfl) ?_
    intro K hK
    go_wp2_with fail
    refine hK.out _ _ (since h7) ?_
    clear hK K
    repeat (first | (refine seq_skip (by rfl) (by rfl) ?_; simp only [Act.put, List.setIfInBounds_toArray, List.set_cons_succ, List.set_cons_zero]) | (refine seq_float (by rfl) (by rfl) (by rfl) ?_; intro K hK; go_big_quiet_op; go_big_quiet_on))
    refine seq_nil ?_
    have hw7 := hwW.trans (h7.mono hwW.size)
    go_wp2_with fail
    (with_reducible refine (topAwake_any _).mono ?_); rintro e w9 ⟨rfl, hb9⟩
    go_wp2_with fail
    go_ret
    exact ⟨rfl, hw7.trans (hb9.mono hw7.size)⟩
  | true =>
  rw [hE] at CE
  by_cases hQ : A = B.take n3
  · have HQ := lid (decide_eq_true hQ)
    rw [HQ.out] at CQ
    clear hE hQ HCL
    go_wp2_with fail
    refine wp_region_seq (fun w' => ∃ s : Since W.heap.size W, w' = s.world) [(0, true), (1, true), (2, true), (3, true), (4, true), (5, true), (6, true), (7, true), (8, true), (10, true), (11, true), (13, true), (14, true), (9, false), (12, false), (15, false), (16, true), (17, true), (18, true), (19, true), (20, true), (21, true), (22, true), (23, true), (24, true), (25, false), (26, true)] (by kernel_rfl) (by kernel_rfl) (by intro c d v a w h; cases d <;> exact h) (since (Below.refl _ _).drew) ?_
    repeat (first | (refine seq_skip (by rfl) (by rfl) ?_; simp only [Act.put, List.setIfInBounds_toArray, List.set_cons_succ, List.set_cons_zero]) | (refine seq_float (by rfl) (by rfl) (by rfl) ?_; intro K hK; go_big_quiet_op; go_big_quiet_on))
    refine seq_chain (by rfl) ?_
    intro K hK
    go_wp2_with fail
    (with_reducible refine (CH.out _ (Below.refl _ _).drew).mono ?_); rintro e w5 ⟨rfl, hb5⟩
    have h5 : Below W.heap.size W w5 := (Below.refl _ _).drew.trans hb5
    go_wp2_with fail
    refine hK.out _ _ (since h5) ?_
    clear hK K
    repeat (first | (refine seq_skip (by rfl) (by rfl) ?_; simp only [Act.put, List.setIfInBounds_toArray, List.set_cons_succ, List.set_cons_zero]) | (refine seq_float (by rfl) (by rfl) (by rfl) ?_; intro K hK; go_big_quiet_op; go_big_quiet_on))
    refine seq_chain (by rfl) ?_
    intro K hK
    go_wp2_with fail
    (with_reducible refine (CI.out _ h5).mono ?_); rintro e w6 ⟨rfl, hb6⟩
    have h6 := h5.trans (hb6.mono h5.size)
    go_wp2_with fail
    refine hK.out _ _ (since h6) ?_
    clear hK K
    repeat (first | (refine seq_skip (by rfl) (by rfl) ?_; simp only [Act.put, List.setIfInBounds_toArray, List.set_cons_succ, List.set_cons_zero]) | (refine seq_float (by rfl) (by rfl) (by rfl) ?_; intro K hK; go_big_quiet_op; go_big_quiet_on))
    refine seq_chain (by rfl) ?_
    intro K hK
    go_wp2_with fail
    (with_reducible refine (CE.out _ h6).mono ?_); rintro e w7 ⟨rfl, hb7⟩
    have h7 := h6.trans (hb7.mono h6.size)
    go_wp2_with fail
    refine hK.out _ _ (since h7) ?_
    clear hK K
    repeat (first | (refine seq_skip (by rfl) (by rfl) ?_; simp only [Act.put, List.setIfInBounds_toArray, List.set_cons_succ, List.set_cons_zero]) | (refine seq_float (by rfl) (by rfl) (by rfl) ?_; intro K hK; go_big_quiet_op; go_big_quiet_on))
    refine seq_chain (by rfl) ?_
    intro K hK
    go_wp2_with fail
    (with_reducible refine (CQ.out _ h7).mono ?_); rintro e w8 ⟨rfl, hb8⟩
    have h8 := h7.trans (hb8.mono h7.size)
    go_wp2_with fail
    refine hK.out _ _ (since h8) ?_
    clear hK K
    repeat (first | (refine seq_skip (by rfl) (by rfl) ?_; simp only [Act.put, List.setIfInBounds_toArray, List.set_cons_succ, List.set_cons_zero]) | (refine seq_float (by rfl) (by rfl) (by rfl) ?_; intro K hK; go_big_quiet_op; go_big_quiet_on))
    refine seq_nil ?_
    have hw8 := hwW.trans (h8.mono hwW.size)
    go_wp2_with fail
    (with_reducible refine (topAwake_any _).mono ?_); rintro e w9 ⟨rfl, hb9⟩
    go_wp2_with fail
    go_ret
    exact ⟨rfl, hw8.trans (hb9.mono hw8.size)⟩
  have HQ := lid (decide_eq_false hQ)
  rw [HQ.out] at CQ
  have HCC := lid (HCL.out hE hQ)
  clear hE hQ HCL
  go_wp2_with fail
  refine wp_region_seq (fun w' => ∃ s : Since W.heap.size W, w' = s.world) [(0, true), (1, true), (2, true), (3, true), (4, true), (5, true), (6, true), (7, true), (8, true), (10, true), (11, true), (13, true), (14, true), (9, false), (12, false), (15, false), (16, true), (17, true), (18, true), (19, true), (20, true), (21, true), (22, true), (23, true), (24, true), (25, false), (26, true)] (by kernel_rfl) (by kernel_rfl) (by intro c d v a w h; cases d <;> exact h) (since (Below.refl _ _).drew) ?_
  repeat (first | (refine seq_skip (by rfl) (by rfl) ?_; simp only [Act.put, List.setIfInBounds_toArray, List.set_cons_succ, List.set_cons_zero]) | (refine seq_float (by rfl) (by rfl) (by rfl) ?_; intro K hK; go_big_quiet_op; go_big_quiet_on))
  refine seq_chain (by rfl) ?_
  intro K hK
  go_wp2_with fail
  (with_reducible refine (CH.out _ (Below.refl _ _).drew).mono ?_); rintro e w5 ⟨rfl, hb5⟩
  have h5 : Below W.heap.size W w5 := (Below.refl _ _).drew.trans hb5
  go_wp2_with fail
  refine hK.out _ _ (since h5) ?_
  clear hK K
  repeat (first | (refine seq_skip (by rfl) (by rfl) ?_; simp only [Act.put, List.setIfInBounds_toArray, List.set_cons_succ, List.set_cons_zero]) | (refine seq_float (by rfl) (by rfl) (by rfl) ?_; intro K hK; go_big_quiet_op; go_big_quiet_on))
  refine seq_chain (by rfl) ?_
  intro K hK
  go_wp2_with fail
  (with_reducible refine (CI.out _ h5).mono ?_); rintro e w6 ⟨rfl, hb6⟩
  have h6 := h5.trans (hb6.mono h5.size)
  go_wp2_with fail
  refine hK.out _ _ (since h6) ?_
  clear hK K
  repeat (first | (refine seq_skip (by rfl) (by rfl) ?_; simp only [Act.put, List.setIfInBounds_toArray, List.set_cons_succ, List.set_cons_zero]) | (refine seq_float (by rfl) (by rfl) (by rfl) ?_; intro K hK; go_big_quiet_op; go_big_quiet_on))
  refine seq_chain (by rfl) ?_
  intro K hK
  go_wp2_with fail
  (with_reducible refine (CE.out _ h6).mono ?_); rintro e w7 ⟨rfl, hb7⟩
  have h7 := h6.trans (hb7.mono h6.size)
  go_wp2_with fail
  refine hK.out _ _ (since h7) ?_
  clear hK K
  repeat (first | (refine seq_skip (by rfl) (by rfl) ?_; simp only [Act.put, List.setIfInBounds_toArray, List.set_cons_succ, List.set_cons_zero]) | (refine seq_float (by rfl) (by rfl) (by rfl) ?_; intro K hK; go_big_quiet_op; go_big_quiet_on))
  refine seq_chain (by rfl) ?_
  intro K hK
  go_wp2_with fail
  (with_reducible refine (CQ.out _ h7).mono ?_); rintro e w8 ⟨rfl, hb8⟩
  have h8 := h7.trans (hb8.mono h7.size)
  go_wp2_with fail
  refine hK.out _ _ (since h8) ?_
  clear hK K
  repeat (first | (refine seq_skip (by rfl) (by rfl) ?_; simp only [Act.put, List.setIfInBounds_toArray, List.set_cons_succ, List.set_cons_zero]) | (refine seq_float (by rfl) (by rfl) (by rfl) ?_; intro K hK; go_big_quiet_op; go_big_quiet_on))
  refine seq_nil ?_
  have hw8 := hwW.trans (h8.mono hwW.size)
  have HA8 := lid (HA5.out.below h8)
  have HB8 := lid (HB5.out.below h8)
  have HS8 := lid (HS.out.below hw8)
  have CHD := lid (CH.out w8 h8)
  replace q0 := (bc h8 l0 0).trans q0
  replace q1 := (bc h8 l1 0).trans q1
  replace l0 : w4.heap.size < w8.heap.size := by have := h8.size; omega
  replace l1 : w4.heap.size + 1 < w8.heap.size := by have := h8.size; omega
  clear CH CI CE CQ hb5 hb6 hb7 hb8 h5 h6 h7 HA5 HB5
  go_wp2_with fail
  (with_reducible refine (CHD.out).mono ?_); rintro e w9 ⟨rfl, hb9⟩
  have CP := lid (TopProof_any len p n3 n4 true D1 po len pcap w9 HP.out (Nat.le_refl _) hpc (by omega) (by omega) (by omega) (by omega) (HS8.out.below hb9))
  have SP := prB_size p.length p n3 n4 D1 true (Nat.le_refl _)
  have LP := prB_len p.length p n3 n4 D1 true (Nat.le_refl _)
  have HCC1 := HCC.out
  clear HCC
  have CP1 := CP.out
  clear CP
  generalize prB n3 n4 D1 p true = Q at *
  obtain ⟨L, qa, qb⟩ := Q
  simp only at CP1 SP LP HCC1
  have CP := lid CP1
  have HCC := lid HCC1
  have HSP := lid SP
  have hL40 : L.length ≤ 40 := by have := HP.out; omega
  clear CP1 HCC1 SP LP
  go_wp2_with fail
  (with_reducible refine (CP.out).mono ?_); rintro e w10 ⟨v10, rfl, own10, hb10⟩
  have h10 := hb9.trans (hb10.mono hb9.size)
  replace q0 := (bc h10 l0 0).trans q0
  replace q1 := (bc h10 l1 0).trans q1
  replace l0 : w4.heap.size < w10.heap.size := by have := h10.size; omega
  replace l1 : w4.heap.size + 1 < w10.heap.size := by have := h10.size; omega
  go_wp2_with fail
  obtain ⟨W5, hW5⟩ : ∃ W5, (w10.alloc (Obj.cells #[.int .u64 qa.1.toNat, .int .u64 qa.2.toNat] 32)).alloc (Obj.cells #[.int .u64 qb.1.toNat, .int .u64 qb.2.toNat] 32) = W5 := ⟨_, rfl⟩
  have hb5 : Below w10.heap.size w10 W5 := by rw [← hW5]; exact ((Below.refl _ _).alloc (Nat.le_refl _) _).alloc (by simp) _
  rw [hW5]
  clear hW5
  have h5 := h10.trans (hb5.mono h10.size)
  have own5 := ownsRow_below own10 hb5
  replace q0 := (bc hb5 l0 0).trans q0
  replace q1 := (bc hb5 l1 0).trans q1
  replace l0 : w4.heap.size < W5.heap.size := by have := hb5.size; omega
  replace l1 : w4.heap.size + 1 < W5.heap.size := by have := hb5.size; omega
  obtain ⟨ao1, cp1, rfl, RI1⟩ := row_of_own own5
  have hw5 := hw8.trans (h5.mono hw8.size)
  have HR1 := lid RI1
  have CA := lid (fun w' (h : Below W5.heap.size W5 w') => Strings_any 1000 A n3 k3 a3 w' (by omega) (by omega) hnk3 ((HA8.out.below h5).below h))
  have CB := lid (fun w' (h : Below W5.heap.size W5 w') => Strings_any 1000 B n4 k4 a4 w' (by omega) (by omega) hnk4 ((HB8.out.below h5).below h))
  have LSA : Hid ((strB (A.map recL)).length ≤ 31) := lid (by have := (strB_len (A.map recL).length (A.map recL) (Nat.le_refl _)).2.1; rw [List.length_map, HLA.out] at this; omega)
  have LSB : Hid ((strB (B.map recL)).length ≤ 31 ∧ 1 ≤ (strB (B.map recL)).length) := lid (by have h := strB_len (B.map recL).length (B.map recL) (Nat.le_refl _); have := h.2.1; rw [List.length_map, HLB.out] at this; exact ⟨by omega, h.1⟩)
  have SSA := lid (strB_size (A.map recL).length (A.map recL) (Nat.le_refl _) (texts_size A))
  have SSB := lid (strB_size (B.map recL).length (B.map recL) (Nat.le_refl _) (texts_size B))
  generalize strB (A.map recL) = SA at *
  generalize strB (B.map recL) = SB at *
  have s31 : SA.length ≤ 31 := LSA.out
  have t31 : SB.length ≤ 31 := LSB.out.1
  have t1 : 1 ≤ SB.length := LSB.out.2
  clear LSA LSB own5 own10 RI1 hb5 hb9 hb10 h10
  refine wp_region_seq (fun w' => ∃ s : Since W5.heap.size W5, w' = s.world) [(0, true), (1, true), (2, true), (4, true), (5, true), (3, false), (6, false), (7, false), (8, false), (9, false), (10, true), (11, false), (12, true), (13, false)] (by kernel_rfl) (by kernel_rfl) (by intro c d v a w h; cases d <;> exact h) (since (Below.refl _ _).drew) ?_
  repeat (first | (refine seq_skip (by rfl) (by rfl) ?_; simp only [Act.put, List.setIfInBounds_toArray, List.set_cons_succ, List.set_cons_zero]) | (refine seq_float (by rfl) (by rfl) (by rfl) ?_; intro K hK; go_big_quiet_op; go_big_quiet_on))
  refine seq_chain (by rfl) ?_
  intro K hK
  go_wp2_with fail
  (with_reducible refine (CA.out _ (Below.refl _ _).drew).mono ?_); rintro e w11 ⟨v11, rfl, own11, hb11⟩
  have h11 : Below W5.heap.size W5 w11 := (Below.refl _ _).drew.trans hb11
  go_wp2_with fail
  refine hK.out _ _ (since h11) ?_
  clear hK K
  repeat (first | (refine seq_skip (by rfl) (by rfl) ?_; simp only [Act.put, List.setIfInBounds_toArray, List.set_cons_succ, List.set_cons_zero]) | (refine seq_float (by rfl) (by rfl) (by rfl) ?_; intro K hK; go_big_quiet_op; go_big_quiet_on))
  refine seq_chain (by rfl) ?_
  intro K hK
  go_wp2_with fail
  (with_reducible refine (CB.out _ h11).mono ?_); rintro e w12 ⟨v12, rfl, own12, hb12⟩
  have h12 := h11.trans (hb12.mono h11.size)
  obtain ⟨ao2, cp2, rfl, RI2⟩ := row_of_own own11
  obtain ⟨ao3, cp3, rfl, RI3⟩ := row_of_own own12
  go_wp2_with fail
  refine hK.out _ _ (since h12) ?_
  clear hK K
  repeat (first | (refine seq_skip (by rfl) (by rfl) ?_; simp only [Act.put, List.setIfInBounds_toArray, List.set_cons_succ, List.set_cons_zero]) | (refine seq_float (by rfl) (by rfl) (by rfl) ?_; intro K hK; go_big_quiet_op; go_big_quiet_on))
  refine seq_chain (by rfl) ?_
  intro K hK
  go_wp2_with fail
  obtain ⟨W6, hW6⟩ : ∃ W6, w12.alloc (Obj.cells #[.slice ao1 L.length cp1, .slice ao2 SA.length cp2, .slice ao3 SB.length cp3] 37) = W6 := ⟨_, rfl⟩
  have hb6 : Below w12.heap.size w12 W6 := by rw [← hW6]; exact ba _ _
  have hk6 : W6.heap[w12.heap.size]? = some (.cells #[.slice ao1 L.length cp1, .slice ao2 SA.length cp2, .slice ao3 SB.length cp3] 37 (0, 0)) := by rw [← hW6]; exact heap_alloc_new w12 _
  have h6 := h12.trans (hb6.mono h12.size)
  have CC0 := Concat_any [(ao1, cp1, L), (ao2, cp2, SA), (ao3, cp3, SB)] w12.heap.size W6 (Array.getElem?_eq_some_iff.1 hk6).1 (by
    intro j hj
    match j, hj with
    | 0, _ => rw [cell_of_row _ _ _ _ _ _ hk6]; simp
    | 1, _ => rw [cell_of_row _ _ _ _ _ _ hk6]; simp
    | 2, _ => rw [cell_of_row _ _ _ _ _ _ hk6]; simp) (by
    intro x hx
    rcases List.mem_cons.1 hx with rfl | hx
    · exact (HR1.out.below h12).below hb6
    · rcases List.mem_cons.1 hx with rfl | hx
      · exact (RI2.below hb12).below hb6
      · rw [List.mem_singleton.1 hx]
        exact RI3.below hb6) (by simp) (by simp [joinS]; omega) (by simp [joinS]; omega)
  have HJ : Hid (joinS [(ao1, cp1, L), (ao2, cp2, SA), (ao3, cp3, SB)] = L ++ (SA ++ SB)) := lid (by simp [joinS])
  rw [HJ.out] at CC0
  have CC1 : Calls Try.prog 13 #[.slice (some ⟨w12.heap.size, 0, none⟩) 3 3] W6 _ := CC0
  have CC := lid CC1
  rw [hW6]
  clear CC0 CC1 hW6 hk6 RI2 RI3 own11 own12
  refine hK.out _ _ (since h6) ?_
  clear hK K
  repeat (first | (refine seq_skip (by rfl) (by rfl) ?_; simp only [Act.put, List.setIfInBounds_toArray, List.set_cons_succ, List.set_cons_zero]) | (refine seq_float (by rfl) (by rfl) (by rfl) ?_; intro K hK; go_big_quiet_op; go_big_quiet_on))
  refine seq_chain (by rfl) ?_
  intro K hK
  go_wp2_with fail
  (with_reducible refine (CC.out).mono ?_); rintro e w13 ⟨v13, rfl, own13, hb13⟩
  have h13 := h6.trans (hb13.mono h6.size)
  have HJS := lid (show ∀ x ∈ L ++ (SA ++ SB), (bstr x).size ≤ maxLen by
    intro x hx
    rcases List.mem_append.1 hx with hx | hx
    · exact HSP.out x hx
    · rcases List.mem_append.1 hx with hx | hx
      · exact SSA.out x hx
      · exact SSB.out x hx)
  have HJL : (L ++ (SA ++ SB)).length ≤ 200 := by simp; omega
  generalize hJJ : L ++ (SA ++ SB) = J at *
  obtain ⟨ao4, cp4, rfl, RI4⟩ := row_of_own own13
  have CD := lid (Collide_any J J.length cp4 ao4 w13 rfl (by omega) RI4.1 HJS.out HCC.out)
  go_wp2_with fail
  refine hK.out _ _ (since h13) ?_
  clear hK K
  repeat (first | (refine seq_skip (by rfl) (by rfl) ?_; simp only [Act.put, List.setIfInBounds_toArray, List.set_cons_succ, List.set_cons_zero]) | (refine seq_float (by rfl) (by rfl) (by rfl) ?_; intro K hK; go_big_quiet_op; go_big_quiet_on))
  refine seq_chain (by rfl) ?_
  intro K hK
  go_wp2_with fail
  (with_reducible refine (CD.out).mono ?_); rintro e w14 ⟨rfl, hb14⟩
  have h14 := h13.trans (hb14.mono h13.size)
  go_wp2_with fail
  refine hK.out _ _ (since h14) ?_
  clear hK K
  repeat (first | (refine seq_skip (by rfl) (by rfl) ?_; simp only [Act.put, List.setIfInBounds_toArray, List.set_cons_succ, List.set_cons_zero]) | (refine seq_float (by rfl) (by rfl) (by rfl) ?_; intro K hK; go_big_quiet_op; go_big_quiet_on))
  refine seq_chain (by rfl) ?_
  intro K hK
  go_wp2_with fail
  (with_reducible refine (topAwake_any _).mono ?_); rintro e w15 ⟨rfl, hb15⟩
  have h15 := h14.trans (hb15.mono h14.size)
  go_wp2_with fail
  refine hK.out _ _ (since h15) ?_
  clear hK K
  repeat (first | (refine seq_skip (by rfl) (by rfl) ?_; simp only [Act.put, List.setIfInBounds_toArray, List.set_cons_succ, List.set_cons_zero]) | (refine seq_float (by rfl) (by rfl) (by rfl) ?_; intro K hK; go_big_quiet_op; go_big_quiet_on))
  refine seq_chain (by rfl) ?_
  intro K hK
  go_wp2_with fail
  refine hK.out _ _ (since h15) ?_
  clear hK K
  repeat (first | (refine seq_skip (by rfl) (by rfl) ?_; simp only [Act.put, List.setIfInBounds_toArray, List.set_cons_succ, List.set_cons_zero]) | (refine seq_float (by rfl) (by rfl) (by rfl) ?_; intro K hK; go_big_quiet_op; go_big_quiet_on))
  refine seq_nil ?_
  go_wp2_with fail
  go_ret
  exact ⟨rfl, hw5.trans (h15.mono hw5.size)⟩
end Go.Proofs.Ytbghpjedldhnhaa

namespace Go.Proofs.Ytbghpjedldhnhaa
open Go.ChangeShapes Go.WideShapes Go.ChangeAt Go.RowKit Go.Deep

set_option maxRecDepth 100000 in
theorem Arg.recs {H : Type} {enc : TypeId × Value → H} {W : World} {v : Value} (h : Arg enc W 22 v) : ∃ (ao : Option Addr) (n cap : Nat) (l : List Rec), v = .slice ao n cap ∧ n ≤ cap ∧ cap ≤ maxLen ∧ LedA W ao n cap l := by
  obtain ⟨⟨base, hv⟩, d, p, ⟨fuel, hf⟩, hlt⟩ := h
  obtain ⟨a0, len, cap, rfl⟩ := okWide_slice Try.underlying22 hv
  obtain ⟨ao, n, cap', l, hcs, h1, h2, h3⟩ := recs_of_trod hf
  simp [Value.cells] at hcs
  obtain ⟨rfl, rfl, rfl⟩ := hcs
  exact ⟨_, _, _, l, rfl, h1, h2, h3⟩
end Go.Proofs.Ytbghpjedldhnhaa

namespace Go.Proofs.Ytbghpjedldhnhaa
open Go.ChangeShapes Go.WideShapes Go.ChangeAt Go.RowKit

set_option maxRecDepth 100000 in
theorem topNoRewriting_lifted (os : Os) (started : os.Started) (H : Type) (enc : TypeId × Value → H) :
    ReturnsInHanded {} Try.checked os 3 .any (Rows.topNoRewritingSpec.pre6 enc Try.prog Try.f3 Rows.topNoRewritingRow.domain false) (Rows.topNoRewritingSpec.post enc Try.prog Try.f3 false true false false) := by
  refine law_lift started (by kernel_rfl) Try.func3 rfl rfl (by kernel_rfl) ?_ (ChangeSpec.witness6 (enc := enc) (C := Try.checked) false ⟨#[], #[.slice none 0 0, .slice none 0 0, .slice none 0 0], []⟩ 8 (by kernel_rfl) (by kernel_rfl) (by kernel_rfl) (by kernel_rfl)) ?_
  · intro ds h
    rw [Try.params3] at h
    match ds, h with
    | [_, _, _], _ => exact ⟨rfl, rfl, rfl⟩
  · intro W vs h
    rw [Try.params3] at h
    match vs, h with
    | [v0, v1, v2], ⟨h0, h1, h2, _⟩ =>
      obtain ⟨ao, n, c1, lo, rfl, _, _, h⟩ := h0.recs
      obtain ⟨an, m, c2, ln, rfl, _, _, h'⟩ := h1.recs
      obtain ⟨po, len, pcap, p, rfl, hp, hpc, hpm, hps⟩ := h2.dgs
      exact TopRew_any lo ln p n m c1 c2 len pcap ao an po W h h' hp hpc hpm hps

theorem topNoRewriting_holds : Rows.TopNoRewritingSaid :=
  OpenClaim.holds_of_wide 3 Try.f3 rfl rfl rfl rfl rfl rfl rfl ⟨rfl, rfl, rfl, rfl, rfl⟩ rfl rfl rfl rfl rfl (by kernel_rfl) Try.func3 (by kernel_rfl)
    (of_decide_eq_true (by kernel_rfl)) (by unfold Func.isWrapper; first | (rw [if_pos (by decide +kernel)]; kernel_rfl) | (rw [if_neg (by decide +kernel)]; exact ⟨rfl, rfl⟩))
    (fun os started H enc _ => topNoRewriting_lifted os started H enc)
#print axioms topNoRewriting_holds
end Go.Proofs.Ytbghpjedldhnhaa
