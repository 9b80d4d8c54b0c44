/-
  A region that draws its order and yields (an iterator's call of its caller's round), walked in one order.
-/
import Derived.OrdersIn
import Derived.OwnWalkIn
import Derived.RangeFuncCalls
import Derived.TacticsIn
import Derived.Test.YtefehgdckmajiaaGreatDoorGrpA
namespace Go.Proofs.YtefehgdckmajiaaGreatDoor
open Go.RowKit

section
variable {n : Nat} {P : Program} {ops : Array Oper} {Q : Exit → Act → World → Prop} {md : Region.Mode} {S : World → Prop}

theorem yieldsIf_wpOpIn {i : Nat} {o : Oper} {v : Value} {a : Act} (hi : ops[i]? = some o) (hy : YieldsIf P ops S o v a)
    {K : Act → World → Prop} {w : World} (hS : S w) (h : K (a.put o.dst v) w) : wpOpIn Fence.wide n P ops Q i K a w := by
  unfold Go.wpOpIn
  simp only [hi]
  rcases hy with ⟨hw, hv⟩ | ⟨hw, rfl⟩
  · simp only [hw, if_true, Oper.wpIn, show Fence.wide.round = none from rfl, Oper.semAt_none, hv w hS, Oper.uponIn]; exact ⟨fun _ _ => trivial, h⟩
  · simp only [hw, Bool.false_eq_true, if_false]; exact ⟨fun _ _ => trivial, h⟩

theorem wpOpIn_putIf {j : Nat} {oi oj : Oper} {v : Value} (hj : ops[j]? = some oj) (hap : oi.apart ops oj = true)
    (hsi : ∀ cs b, oi.op ≠ .select cs b) (hsj : ∀ cs b, oj.op ≠ .select cs b)
    (hQ : ∀ c a w, Q (.panic c) (a.put oi.dst v) w → Q (.panic c) a w) {K : Act → World → Prop} {a : Act} {w : World}
    (hy : YieldsIf P ops S oi v a) (h : wpOpIn Fence.wide n P ops Q j K (a.put oi.dst v) w) :
    wpOpIn Fence.wide n P ops Q j (fun a' w' => YieldsIf P ops S oi v a' ∧ K (a'.put oi.dst v) w') a w := by
  obtain ⟨h1, h2, h3⟩ := Oper.apart_spec hap
  have keep : ∀ (a : Act), YieldsIf P ops S oi v a → ∀ u, YieldsIf P ops S oi v (a.put oj.dst u) := fun a hy u =>
    hy.of_same (execOp_put oi hsi a oj.dst u h3) (wanted_put oi a oj.dst u h3)
  have keepD : ∀ d, YieldsIf P ops S oi v { a with defers := d :: a.defers } := fun d => hy.of_same rfl rfl
  unfold wpOpIn at *
  simp only [hj] at *
  rw [wanted_put oj a oi.dst v h1, about_put oj w a oi.dst v h1] at h
  split
  · rename_i hw
    simp only [hw, if_true] at h
    unfold Oper.wpIn at *
    rw [about_put oj w a oi.dst v h1] at h
    refine ⟨h.1, ?_⟩
    have h := h.2
    rw [show Fence.wide.round = none from rfl, Oper.semAt_none, execOp_put oj hsj a oi.dst v h1] at h
    rw [show Fence.wide.round = none from rfl, Oper.semAt_none]
    generalize (execOp a.eval oj).run P w = r at *
    cases r with
    | ok x w' =>
      cases x <;> simp only [Oper.uponIn] at h ⊢
      case value u => exact ⟨keep a hy u, by rw [← Act.put_comm a v u h2]; exact h⟩
      case skip => exact ⟨keep a hy _, by rw [← Act.put_comm a v undef h2]; exact h⟩
      case defer d =>
        refine ⟨keep _ (keepD d) _, ?_⟩
        rw [← Act.put_comm _ v undef h2, ← Act.put_defers]
        exact h
      case enter f args =>
        refine ⟨h.1, CallsIn.mono h.2 fun e w'' he => ?_⟩
        cases e with
        | returned u => exact ⟨keep a hy u, by rw [← Act.put_comm a v u h2]; exact he⟩
        | panicked c => exact hQ _ _ _ he
        | outgrown => exact he
      case row row args => exact ⟨h.1, RowsIn.mono h.2 fun u w'' he => ⟨keep a hy u, by rw [← Act.put_comm a v u h2]; exact he⟩⟩
      case round l f tmps assign body =>
        refine ⟨h.1, RoundIn.mono h.2 fun e w'' he => ?_⟩
        cases e with
        | returned u => exact ⟨keep a hy u, by rw [← Act.put_comm a v u h2]; exact he⟩
        | panicked c => exact hQ _ _ _ he
        | outgrown => exact he
    | halt x w' =>
      cases x <;> simp only [Oper.uponIn] at h ⊢
      case panic u => exact hQ _ _ _ h
  · rename_i hw
    simp only [hw] at h
    exact ⟨h.1, keep a hy _, by rw [← Act.put_comm a v undef h2]; exact h.2⟩

def wpAnyHIn (n : Nat) (P : Program) (md : Region.Mode) (ops : Array Oper) (Q : Exit → Act → World → Prop) (S : World → Prop) : Nat → Array Bool → Act → World → Prop
  | 0, listed, a, w => Region.ready md ops listed = [] ∧ Q .normal a w
  | fuel + 1, listed, a, w =>
    (Region.ready md ops listed = [] → Q .normal a w) ∧
    ∀ i ∈ Region.ready md ops listed, wpOpIn Fence.wide n P ops Q i (fun a' w' => S w' ∧ wpAnyHIn n P md ops Q S fuel (listed.setIfInBounds i true) a' w') a w

theorem wpAnyIn_of_held : ∀ (fuel : Nat) (listed : Array Bool) (a : Act) (w : World), wpAnyHIn n P md ops Q S fuel listed a w → wpAnyIn Fence.wide n P md ops Q fuel listed a w
  | 0, _, _, _, h => h
  | fuel + 1, _, _, _, h => ⟨h.1, fun i hi => wpOpIn_mono (fun a' w' h' => wpAnyIn_of_held fuel _ a' w' h'.2) (h.2 i hi)⟩

theorem wpAnyHIn_first {i : Nat} {oi : Oper} {v : Value} (hi : ops[i]? = some oi) (hsel : ∀ (j : Nat) (o : Oper) cs b, ops[j]? = some o → o.op ≠ .select cs b)
    (hQ : ∀ c a w, Q (.panic c) (a.put oi.dst v) w → Q (.panic c) a w) :
    ∀ (fuel : Nat) (listed : Array Bool) (a : Act) (w : World),
      (∀ j oj, ops[j]? = some oj → j ≠ i → listed.getD j true = false → (∀ e ∈ oj.after, Region.binds md e = true → e.on ≠ i) → oi.apart ops oj = true) →
      i ∈ Region.ready md ops listed → YieldsIf P ops S oi v a → S w →
      wpAnyHIn n P md ops Q S fuel (listed.setIfInBounds i true) (a.put oi.dst v) w → wpAnyHIn n P md ops Q S (fuel + 1) listed a w := by
  intro fuel
  induction fuel with
  | zero =>
    intro listed a w _ hr hy hS H
    refine ⟨fun h => (by rw [h] at hr; cases hr), fun j hj => ?_⟩
    by_cases hji : j = i
    · subst hji; exact yieldsIf_wpOpIn hi hy hS ⟨hS, H⟩
    · have := ready_mono hj hji
      rw [H.1] at this
      cases this
  | succ fuel ih =>
    intro listed a w hfree hr hy hS H
    refine ⟨fun h => (by rw [h] at hr; cases hr), fun j hj => ?_⟩
    by_cases hji : j = i
    · subst hji; exact yieldsIf_wpOpIn hi hy hS ⟨hS, H⟩
    · have h1 := H.2 j (ready_mono hj hji)
      obtain ⟨hjun, oj, hoj, hall⟩ := mem_ready.1 hj
      have hnot : ∀ e ∈ oj.after, Region.binds md e = true → e.on ≠ i := fun e he hb heq => by
        have h1 := hall e he hb
        have h0 := (mem_ready.1 hr).1
        rw [heq] at h1
        rcases Nat.lt_or_ge i listed.size with h' | h'
        · simp [h'] at h0 h1; rw [h0] at h1; cases h1
        · simp [Array.getElem?_eq_none h'] at h1
      have h2 := wpOpIn_putIf hoj (hfree j oj hoj hji hjun hnot) (fun cs b => hsel i oi cs b hi) (fun cs b => hsel j oj cs b hoj) hQ hy h1
      have hfree' : ∀ k ok, ops[k]? = some ok → k ≠ i → (listed.setIfInBounds j true).getD k true = false →
          (∀ e ∈ ok.after, Region.binds md e = true → e.on ≠ i) → oi.apart ops ok = true := fun k ok hk hki hun hno => by
        refine hfree k ok hk hki ?_ hno
        by_cases hjk : j = k
        · subst hjk; exact hjun
        · rw [getD_set_ne true hjk] at hun; exact hun
      refine wpOpIn_mono (fun a' w' h3 => ⟨h3.2.1, ih (listed.setIfInBounds j true) a' w' hfree' (ready_mono hr (Ne.symm hji)) h3.1 h3.2.1 ?_⟩) h2
      rw [Array.setIfInBounds_comm _ _ hji]
      exact h3.2.2

/-- The region in one order: each operation by its number; 'true': it only reads. -/
def seqRunY (n : Nat) (P : Program) (ops : Array Oper) (C : World → Prop) (Q : Exit → Act → World → Prop) (E : Act → World → Prop) : List (Nat × Bool) → Act → World → Prop
  | [], a, w => E a w
  | (i, true) :: rest, a, w => ∃ o, ops[i]? = some o ∧ ∃ v, YieldsIf P ops C o v a ∧ seqRunY n P ops C Q E rest (a.put o.dst v) w
  | (i, false) :: rest, a, w => wpOpIn Fence.wide n P ops Q i (fun a' w' => C w' ∧ seqRunY n P ops C Q E rest a' w') a w

theorem wpAnyHIn_of_seq (hs : Region.noSelect ops = true) (hQ : ∀ c d v a w, Q (.panic c) (Act.put a d v) w → Q (.panic c) a w) {fuel : Nat} {E : Act → World → Prop} : ∀ (ord : List (Nat × Bool)) (listed listed' : Array Bool) (a : Act) (w : World), S w →
    seqB md ops ord listed = some listed' → (∀ a w, S w → E a w → wpAnyHIn n P md ops Q S fuel listed' a w) → seqRunY n P ops S Q E ord a w → wpAnyHIn n P md ops Q S (ord.length + fuel) listed a w
  | [], listed, listed', a, w, hC, hB, hE, h => by
    cases hB
    rw [List.length_nil, Nat.zero_add]
    exact hE a w hC h
  | (i, true) :: rest, listed, listed', a, w, hC, hB, hE, h => by
    simp only [seqB] at hB
    split at hB
    · rename_i hc
      rw [Bool.and_eq_true] at hc
      obtain ⟨o, ho, v, hy, hr⟩ := h
      rw [show ((i, true) :: rest).length + fuel = rest.length + fuel + 1 by simp only [List.length_cons]; omega]
      exact wpAnyHIn_first ho (Region.noSelect_spec hs) (fun c a w hq => hQ c _ _ a w hq) _ _ _ _ (Region.free_spec ho hc.2) (by simpa using hc.1) hy hC (wpAnyHIn_of_seq hs hQ rest _ listed' _ w hC hB hE hr)
    · cases hB
  | (i, false) :: rest, listed, listed', a, w, hC, hB, hE, h => by
    simp only [seqB] at hB
    split at hB
    · rename_i hc
      rw [show ((i, false) :: rest).length + fuel = rest.length + fuel + 1 by simp only [List.length_cons]; omega]
      refine ⟨fun h0 => absurd (hc ▸ h0) (by simp), hc ▸ fun j hj => ?_⟩
      obtain rfl : j = i := by simpa using hj
      exact wpOpIn_mono (fun a' w' hh => ⟨hh.1, wpAnyHIn_of_seq hs hQ rest _ listed' a' w' hh.1 hB hE hh.2⟩) h
    · cases hB

/-- THE BEGINNING. -/
theorem wpIn_region_seqY {id : Nat} {a : Act} {w : World} {l : List Oper} (C : World → Prop) (ord : List (Nat × Bool)) (hm : P.follows .mixedOrders = true)
    (hB : (Region.noSelect l.toArray && decide (ord.length = l.length) && (match seqB .any l.toArray ord (Array.replicate l.length false) with | some listed => (Region.ready .any l.toArray listed).isEmpty | none => false)) = true)
    (hQ : ∀ c d v a w, Q (.panic c) (Act.put a d v) w → Q (.panic c) a w) (hC : C w.drew)
    (h : seqRunY n P l.toArray C Q (fun a w => Q .normal a w) ord a w.drew) : (Code.region id l.toArray true).wpIn Fence.wide n P Q a w := by
  simp only [Bool.and_eq_true, decide_eq_true_eq] at hB
  obtain ⟨⟨hs, hl⟩, hB⟩ := hB
  split at hB
  · rename_i listed hsq
    refine wpIn_region_any hm (wpAnyIn_of_held (S := C) _ _ _ _ ?_)
    have := wpAnyHIn_of_seq (n := n) (md := .any) (P := P) (fuel := 0) hs hQ ord _ listed a w.drew hC hsq (fun a w _ hq => ⟨by simpa using hB, hq⟩) h
    rw [hl] at this
    simpa using this
  · cases hB
theorem seqY_nil {E : Act → World → Prop} {a : Act} {w : World} (h : E a w) : seqRunY n P ops S Q E [] a w := h
theorem seqY_float {i : Nat} {o : Oper} {l : List Oper} {rest : List (Nat × Bool)} {E : Act → World → Prop} {a : Act} {w : World} (hi : l[i]? = some o) (hf : floatB o = true) (hw : Region.wanted o (yielded l.toArray a.tmps) = true)
    (h : ∀ K : Act → Prop, (∀ a, seqRunY n P l.toArray S Q E rest a w → K a) → o.quiet P a S K) : seqRunY n P l.toArray S Q E ((i, true) :: rest) a w := by
  obtain ⟨v, hy, hk⟩ := yieldsIf_of_quiet hf hw (h _ (fun _ h => h))
  exact ⟨o, by simpa using hi, v, hy, hk⟩
theorem seqY_skip {i : Nat} {o : Oper} {l : List Oper} {rest : List (Nat × Bool)} {E : Act → World → Prop} {a : Act} {w : World} (hi : l[i]? = some o) (hw : Region.wanted o (yielded l.toArray a.tmps) = false)
    (h : seqRunY n P l.toArray S Q E rest (a.put o.dst undef) w) : seqRunY n P l.toArray S Q E ((i, true) :: rest) a w :=
  ⟨o, by simpa using hi, undef, .inr ⟨hw, rfl⟩, h⟩
theorem seqY_chain {i : Nat} {o : Oper} {l : List Oper} {rest : List (Nat × Bool)} {E : Act → World → Prop} {a : Act} {w : World} (hi : l[i]? = some o)
    (h : ∀ K : Act → World → Prop, Hid (∀ a w, S w → seqRunY n P l.toArray S Q E rest a w → K a w) → wpListIn Fence.wide n P l.toArray (Exit.then K Q) [o] a w) : seqRunY n P l.toArray S Q E ((i, false) :: rest) a w := by
  have h1 := h (fun a' w' => S w' ∧ seqRunY n P l.toArray S Q E rest a' w') (fun _ _ hC hs => ⟨hC, hs⟩)
  have hi' : l.toArray[i]? = some o := by simpa using hi
  unfold seqRunY wpOpIn
  simp only [hi']
  unfold wpListIn at h1
  split
  · rename_i hw
    rw [if_pos hw] at h1
    unfold Oper.wpIn at *
    refine ⟨h1.1, ?_⟩
    have h2 := h1.2
    generalize (o.semAt Fence.wide.round a.eval).run P w = r at *
    cases r with
    | ok x w' =>
      cases x <;> simp only [Oper.uponIn] at h2 ⊢ <;>
        first
          | exact h2
          | exact ⟨h2.1, CallsIn.mono h2.2 (fun e w'' he => by cases e <;> exact he)⟩
          | exact ⟨h2.1, RowsIn.mono h2.2 (fun _ _ he => he)⟩
          | exact ⟨h2.1, RoundIn.mono h2.2 (fun e w'' he => by cases e <;> exact he)⟩
    | halt x w' => cases x <;> simp only [Oper.uponIn] at h2 ⊢ <;> exact h2
  · rename_i hw
    rw [if_neg hw] at h1
    exact h1
end
end Go.Proofs.YtefehgdckmajiaaGreatDoor
