/-
  A change cannot grant itself: plain.
-/
import Derived.Test.YtefehgdckmajiaaGreatDoorTopEx
namespace Go.Proofs.YtefehgdckmajiaaGreatDoor
open Go.RowKit

theorem lessT : ∀ {a b c : List UInt8}, Op.bytesLess a b = true → Op.bytesLess b c = true → Op.bytesLess a c = true
  | [], [], _, h, _ => by cases h
  | [], _ :: _, [], _, h => by cases h
  | [], _ :: _, _ :: _, _, _ => rfl
  | _ :: _, [], _, h, _ => by cases h
  | _ :: _, _ :: _, [], _, h => by cases h
  | x :: a, y :: b, z :: c, h1, h2 => by
    unfold Op.bytesLess at *
    rw [Bool.or_eq_true] at *
    rcases h1 with h1 | h1
    · have h1' := of_decide_eq_true h1
      rcases h2 with h2 | h2
      · exact .inl (decide_eq_true (UInt8.lt_trans h1' (of_decide_eq_true h2)))
      · rw [Bool.and_eq_true] at h2
        have e : y = z := by simpa using h2.1
        subst e
        exact .inl h1
    · rw [Bool.and_eq_true] at h1
      have e : x = y := by simpa using h1.1
      subst e
      rcases h2 with h2 | h2
      · exact .inl h2
      · rw [Bool.and_eq_true] at h2
        refine .inr ?_
        rw [Bool.and_eq_true]
        exact ⟨h2.1, lessT h1.2 h2.2⟩
theorem lessI : ∀ (a : List UInt8), Op.bytesLess a a = false
  | [] => rfl
  | x :: a => by
    unfold Op.bytesLess
    simp [lessI a]
theorem baExt {a b : ByteArray} (h : a.toList = b.toList) : a = b := by
  have := str_beq a b
  rw [h] at this
  simpa using this.symm
theorem ltP_trans {a b c : ByteArray} (h : ltP a b = true) (k : ltP b c = true) : ltP a c = true := lessT h k
theorem ltP_irrefl (a : ByteArray) : ltP a a = false := lessI _
theorem ltP_eq {a b : ByteArray} (h : ltP a b = false) (k : ltP b a = false) : a = b := by
  have h1 := less_total a.toList b.toList
  rw [show Op.bytesLess a.toList b.toList = false from h, show Op.bytesLess b.toList a.toList = false from k] at h1
  have : (b.toList == a.toList) = true := by simpa using h1.symm
  exact (baExt (by simpa using this)).symm
theorem tree_asc : ∀ {l : List Fl} {q : ByteArray}, treeGo (some q) l = 0 → (∀ f ∈ l, ltP q f.1 = true) ∧ l.Pairwise (fun a b => ltP a.1 b.1 = true)
  | [], q, _ => ⟨(fun f hf => by cases hf), List.Pairwise.nil⟩
  | f :: l, q, h => by
    rw [treeGo] at h
    split at h
    · cases h
    · split at h
      · cases h
      · rename_i h1 h2
        have hq : ltP q f.1 = true := by
          have h3 : leB f.1 q = false := by simpa using h2
          have h4 := ge_le q f.1
          rw [h3] at h4
          show Op.bytesLess q.toList f.1.toList = true
          simpa using h4
        obtain ⟨h5, h6⟩ := tree_asc h
        refine ⟨fun g hg => ?_, List.Pairwise.cons h5 h6⟩
        rcases List.mem_cons.1 hg with rfl | hg
        · exact hq
        · exact ltP_trans hq (h5 g hg)
theorem tree_pair {l : List Fl} (h : treeC l = 0) : l.Pairwise (fun a b => ltP a.1 b.1 = true) := by
  have h0 : treeGo none l = 0 := by
    unfold treeC at h
    split at h
    · cases h
    · split at h
      · rename_i h1; exact h1
      · exact h
  cases l with
  | nil => exact List.Pairwise.nil
  | cons f l =>
    rw [treeGo] at h0
    split at h0
    · cases h0
    · split at h0
      · cases h0
      · obtain ⟨h5, h6⟩ := tree_asc h0
        exact List.Pairwise.cons h5 h6
theorem pair_inj : ∀ {l : List Fl}, l.Pairwise (fun a b => ltP a.1 b.1 = true) → ∀ {a b : Fl}, a ∈ l → b ∈ l → a.1 = b.1 → a = b
  | [], _, a, b, ha, _, _ => by cases ha
  | f :: l, h, a, b, ha, hb, e => by
    obtain ⟨h1, h2⟩ := List.pairwise_cons.1 h
    rcases List.mem_cons.1 ha with rfl | ha' <;> rcases List.mem_cons.1 hb with rfl | hb'
    · rfl
    · have := h1 b hb'
      rw [e, ltP_irrefl] at this
      cases this
    · have := h1 a ha'
      rw [← e, ltP_irrefl] at this
      cases this
    · exact pair_inj h2 ha' hb' e
/-- The new file of path p has other data. -/
def updF (p d : ByteArray) (f : Fl) : Fl := if f.1 = p then (f.1, d) else f
theorem upd_path (p d : ByteArray) (f : Fl) : (updF p d f).1 = f.1 := by unfold updF; split <;> rfl
theorem set_upd {l : List Fl} (h : l.Pairwise (fun a b => ltP a.1 b.1 = true)) {k : Nat} (hk : k < l.length) {p d : ByteArray} (hp : l[k].1 = p) : l.set k (p, d) = l.map (updF p d) := by
  apply List.ext_getElem
  · simp
  · intro j h1 h2
    have hj : j < l.length := by simpa using h2
    rw [List.getElem_map, List.getElem_set]
    split
    · rename_i e
      subst e
      unfold updF
      rw [if_pos hp, hp]
    · rename_i e
      unfold updF
      rw [if_neg]
      intro e2
      apply e
      have e3 := pair_inj h (List.getElem_mem hj) (List.getElem_mem hk) (e2.trans hp.symm)
      rcases Nat.lt_trichotomy j k with q | q | q
      · have := List.pairwise_iff_getElem.1 h j k hj hk q
        rw [e3, ltP_irrefl] at this
        cases this
      · exact q.symm
      · have := List.pairwise_iff_getElem.1 h k j hk hj q
        rw [e3, ltP_irrefl] at this
        cases this
theorem diff_upd {p d : ByteArray} : ∀ {s t : List Fl}, (∀ a ∈ s, a.1 = p → a.2 ≠ d ∧ ∀ b ∈ t, b.1 = p → a.2 ≠ b.2) → (diffF s t).map (·.1) = (diffF s (t.map (updF p d))).map (·.1) := by
  intro s
  induction s with
  | nil =>
    intro t _
    show (t.map addC).map (·.1) = ((t.map (updF p d)).map addC).map (·.1)
    simp only [List.map_map]
    apply List.map_congr_left
    intro f _
    show f.1 = (updF p d f).1
    rw [upd_path]
  | cons a s ih =>
    intro t
    induction t with
    | nil => intro _; rfl
    | cons b t ih2 =>
      intro h
      have hs : ∀ x ∈ s, x.1 = p → x.2 ≠ d ∧ ∀ y ∈ b :: t, y.1 = p → x.2 ≠ y.2 := fun x hx => h x (by simp [hx])
      have hs2 : ∀ x ∈ s, x.1 = p → x.2 ≠ d ∧ ∀ y ∈ t, y.1 = p → x.2 ≠ y.2 := fun x hx e => ⟨(hs x hx e).1, fun y hy => (hs x hx e).2 y (by simp [hy])⟩
      have ha2 : ∀ x ∈ a :: s, x.1 = p → x.2 ≠ d ∧ ∀ y ∈ t, y.1 = p → x.2 ≠ y.2 := fun x hx e => ⟨(h x hx e).1, fun y hy => (h x hx e).2 y (by simp [hy])⟩
      have hu := upd_path p d b
      rw [List.map_cons]
      cases h1 : ltP a.1 b.1 with
      | true =>
        rw [diff_del h1, diff_del (b := updF p d b) (by rw [hu]; exact h1), List.map_append, List.map_append, ih hs]
        rfl
      | false =>
        cases h2 : ltP b.1 a.1 with
        | true =>
          rw [diff_add h1 h2, diff_add (b := updF p d b) (by rw [hu]; exact h1) (by rw [hu]; exact h2), List.map_append, List.map_append, ih2 ha2]
          show [b.1] ++ _ = [(updF p d b).1] ++ _
          rw [hu]
        | false =>
          have e := ltP_eq h1 h2
          by_cases hp : b.1 = p
          · have hx := h a (by simp) (e.trans hp)
            have n1 : ¬ a.2 = b.2 := hx.2 b (by simp) hp
            have n2 : ¬ a.2 = (updF p d b).2 := by
              unfold updF
              rw [if_pos hp]
              exact hx.1
            rw [diff_chg h1 h2 n1, diff_chg (b := updF p d b) (by rw [hu]; exact h1) (by rw [hu]; exact h2) n2, List.map_append, List.map_append, ih hs2]
            rfl
          · have eu : updF p d b = b := by unfold updF; rw [if_neg hp]
            rw [eu]
            by_cases hd : a.2 = b.2
            · rw [diff_same h1 h2 hd, diff_same h1 h2 hd, List.map_append, List.map_append, ih hs2]
            · rw [diff_chg h1 h2 hd, diff_chg h1 h2 hd, List.map_append, List.map_append, ih hs2]
theorem exErr_paths {rs : List Fl} : ∀ {D E : List Ch}, D.map (·.1) = E.map (·.1) → exErr rs D = exErr rs E
  | [], [], _ => rfl
  | [], _ :: _, h => by cases h
  | _ :: _, [], h => by cases h
  | c :: D, e :: E, h => by
    simp only [List.map_cons, List.cons.injEq] at h
    rw [exErr, exErr, h.1, exErr_paths h.2]
theorem treeGo_paths : ∀ {l m : List Fl} {q : Option ByteArray}, l.map (·.1) = m.map (·.1) → treeGo q l = treeGo q m
  | [], [], _, _ => rfl
  | [], _ :: _, _, h => by cases h
  | _ :: _, [], _, h => by cases h
  | f :: l, g :: m, q, h => by
    simp only [List.map_cons, List.cons.injEq] at h
    rw [treeGo, treeGo, h.1, treeGo_paths h.2]
theorem any_paths {P : ByteArray → Bool} : ∀ {l m : List Fl}, l.map (·.1) = m.map (·.1) → l.any (fun f => P f.1) = m.any (fun f => P f.1)
  | [], [], _ => rfl
  | [], _ :: _, h => by cases h
  | _ :: _, [], h => by cases h
  | f :: l, g :: m, h => by
    simp only [List.map_cons, List.cons.injEq] at h
    rw [List.any_cons, List.any_cons, h.1, any_paths h.2]
theorem treeC_paths {l m : List Fl} (h : l.map (·.1) = m.map (·.1)) : treeC l = treeC m := by
  have hl : l.length = m.length := by have := congrArg List.length h; simpa using this
  have hn : l.any (nestF (l.map (·.1))) = m.any (nestF (m.map (·.1))) := by
    rw [← h]
    exact any_paths (P := fun p => (List.range p.size).any (nestI (l.map (·.1)) p)) h
  unfold treeC
  rw [hl, treeGo_paths (q := none) h, hn]
theorem set_paths {l : List Fl} {k : Nat} (hk : k < l.length) {p d : ByteArray} (hp : l[k].1 = p) : (l.set k (p, d)).map (·.1) = l.map (·.1) := by
  rw [List.map_set]
  apply List.ext_getElem
  · simp
  · intro j h1 h2
    rw [List.getElem_set]
    split
    · rename_i e
      subst e
      simp [hp]
    · rfl
theorem findF_some {l : List Fl} {p b : ByteArray} (h : findF l p = some b) : (p, b) ∈ l := by
  unfold findF at h
  cases hf : l.find? (fun f => decide (f.1 = p)) with
  | none => rw [hf] at h; cases h
  | some f =>
    rw [hf] at h
    have h1 := List.mem_of_find?_eq_some hf
    have h2 := List.find?_some hf
    have e : f.1 = p := of_decide_eq_true h2
    simp only [Option.map_some, Option.some.injEq] at h
    rw [← e, ← h]
    exact h1
/-- What the law says. -/
theorem self_plain {old new : List Fl} {k : Nat} (hk : k < new.length) {p d b : ByteArray} (hp : new[k].1 = p) (hb : findF old p = some b) (h1 : ¬ b = new[k].2) (h2 : ¬ b = d) :
    examE old new = examE old (new.set k (p, d)) ∧ (examE old new = 0 → reqF old new = reqF old (new.set k (p, d))) := by
  have ht := treeC_paths (set_paths (d := d) hk hp)
  have key : treeC old = 0 → treeC new = 0 → (diffF old new).map (·.1) = (diffF old (new.set k (p, d))).map (·.1) := by
    intro ho hn
    have po := tree_pair ho
    have pn := tree_pair hn
    rw [set_upd pn hk hp]
    refine diff_upd fun a ha e => ?_
    have ea : a = (p, b) := pair_inj po ha (findF_some hb) e
    subst ea
    refine ⟨h2, fun y hy ey => ?_⟩
    have : y = new[k] := pair_inj pn hy (List.getElem_mem hk) (ey.trans hp.symm)
    rw [this]
    exact h1
  refine ⟨?_, fun hz => ?_⟩
  · unfold examE
    rw [ht]
    by_cases ho : treeC old = 0
    · by_cases hn : treeC new = 0
      · rw [exErr_paths (key ho hn)]
      · rw [if_neg (by simp [ho]), if_pos hn, if_neg (by simp [ho]), if_pos hn]
    · rw [if_pos ho, if_pos ho]
  · obtain ⟨ho, hn⟩ := examE_zero hz
    unfold reqF reqP
    rw [key ho hn]
end Go.Proofs.YtefehgdckmajiaaGreatDoor
