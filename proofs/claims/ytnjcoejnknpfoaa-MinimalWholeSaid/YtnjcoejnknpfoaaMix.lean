/-
  A region that draws its order: between a row of operations before and a row behind, some operations come up in any order that their edges allow. Each of them is walked once.
-/
import Derived.Test.YtnjcoejnknpfoaaRegion
namespace Go.Proofs.Ytnjcoejnknpfoaa
open Go.RowKit

def upd (s : Nat → Bool) (i : Nat) : Nat → Bool := fun k => if k = i then true else s k
@[simp] theorem upd_same (s : Nat → Bool) (i : Nat) : upd s i i = true := by simp [upd]
theorem upd_ne (s : Nat → Bool) {i k : Nat} (h : k ≠ i) : upd s i k = s k := by simp [upd, h]
/-- Slots of a frame set anew. -/
def putAll (a : Act) : List Nat → List Value → Act
  | k :: ks, v :: vs => putAll (a.put (some k) v) ks vs
  | _, _ => a

/-- Whatever comes up is one of cs, and what it needs has been. -/
def mixB (md : Region.Mode) (ops : Array Oper) (cs : List (Nat × List Nat)) (fin : Array Bool → Bool) : Nat → Array Bool → Bool
  | 0, listed => cs.all (fun c => listed.getD c.1 false) && fin listed
  | n + 1, listed => !(Region.ready md ops listed).isEmpty && (Region.ready md ops listed).all fun i => (cs.any fun c => c.1 == i && c.2.all fun d => listed.getD d false) && mixB md ops cs fin n (listed.setIfInBounds i true)

section
variable {P : Program} {ops : Array Oper} {Q : Exit → Act → World → Prop} {md : Region.Mode} {C : World → Prop}
theorem wpAnyH_mix {cs : List (Nat × List Nat)} {fin : Array Bool → Bool} {fuel0 : Nat} {I : (Nat → Bool) → Act → World → Prop}
    (hstep : ∀ c ∈ cs, ∀ s a w, s c.1 = false → (∀ d ∈ c.2, s d = true) → C w → I s a w → wpOp P ops Q c.1 (fun a' w' => C w' ∧ I (upd s c.1) a' w') a w)
    (hend : ∀ listed s a w, fin listed = true → (∀ c ∈ cs, s c.1 = true) → C w → I s a w → wpAnyH P md ops Q C fuel0 listed a w) :
    ∀ (n : Nat) (listed : Array Bool) (s : Nat → Bool) (a : Act) (w : World), (∀ k, s k = listed.getD k false) → mixB md ops cs fin n listed = true → C w → I s a w → wpAnyH P md ops Q C (n + fuel0) listed a w
  | 0, listed, s, a, w, hs, hB, hC, hI => by
    simp only [mixB, Bool.and_eq_true, List.all_eq_true] at hB
    rw [Nat.zero_add]
    exact hend listed s a w hB.2 (fun c hc => by rw [hs]; exact hB.1 c hc) hC hI
  | n + 1, listed, s, a, w, hs, hB, hC, hI => by
    simp only [mixB, Bool.and_eq_true, List.all_eq_true, List.any_eq_true, beq_iff_eq] at hB
    obtain ⟨hne, hall⟩ := hB
    rw [show n + 1 + fuel0 = n + fuel0 + 1 by omega]
    refine wpAnyH_all rfl (by intro e; rw [e] at hne; simp at hne) (fun i hi => ?_)
    obtain ⟨⟨c, hc, rfl, hd⟩, hB'⟩ := hall i hi
    have h0 : listed.getD c.1 true = false := (mem_ready.1 hi).1
    have hlt : c.1 < listed.size := by
      rcases Nat.lt_or_ge c.1 listed.size with h | h
      · exact h
      · rw [Array.getD_eq_getD_getElem?, Array.getElem?_eq_none h] at h0
        cases h0
    have h1 : listed.getD c.1 false = false := by
      rw [Array.getD_eq_getD_getElem?, Array.getElem?_eq_getElem hlt] at h0 ⊢
      exact h0
    refine wpOp_mono (fun a' w' hh => ⟨hh.1, wpAnyH_mix hstep hend n _ (upd s c.1) a' w' ?_ hB' hh.1 hh.2⟩) (hstep c hc s a w (by rw [hs]; exact h1) (fun d hdd => by rw [hs]; exact hd d hdd) hC hI)
    intro k
    by_cases e : k = c.1
    · subst e
      rw [upd_same, Array.getD_eq_getD_getElem?, Array.getElem?_setIfInBounds_self_of_lt hlt]
      rfl
    · rw [upd_ne s e, getD_set_ne false (Ne.symm e)]
      exact hs k

/-- What is to be shown where the mix begins. -/
def MixGo (P : Program) (ops : Array Oper) (C : World → Prop) (Q : Exit → Act → World → Prop) (cs : List (Nat × List Nat)) (post : List (Nat × Bool)) (a : Act) (w : World) : Prop :=
  ∃ I : (Nat → Bool) → Act → World → Prop, (∀ s, (∀ c ∈ cs, s c.1 = false) → I s a w) ∧
    (∀ c ∈ cs, ∀ s a w, s c.1 = false → (∀ d ∈ c.2, s d = true) → C w → I s a w → wpOp P ops Q c.1 (fun a' w' => C w' ∧ I (upd s c.1) a' w') a w) ∧
    (∀ s a w, (∀ c ∈ cs, s c.1 = true) → C w → I s a w → seqRun P ops C Q (fun a w => Q .normal a w) post a w)

/-- THE BEGINNING. -/
theorem wp_region_mix {id : Nat} {a : Act} {w : World} {l : List Oper} (C : World → Prop) (pre : List (Nat × Bool)) (cs : List (Nat × List Nat)) (post : List (Nat × Bool)) (hm : P.follows .mixedOrders = true)
    (hB : (Region.noSelect l.toArray && decide (pre.length + (cs.length + post.length) = l.length) && (match seqB .any l.toArray pre (Array.replicate l.length false) with
      | some listed => (cs.all fun c => !listed.getD c.1 false) && mixB .any l.toArray cs (fun l1 => match seqB .any l.toArray post l1 with | some l2 => (Region.ready .any l.toArray l2).isEmpty | none => false) cs.length listed
      | none => false)) = true)
    (hQ : ∀ c d v a w, Q (.panic c) (Act.put a d v) w → Q (.panic c) a w) (hC : C w.drew)
    (h : seqRun P l.toArray C Q (MixGo P l.toArray C Q cs post) pre a w.drew) : (Code.region id l.toArray true).wp P Q a w := by
  simp only [Bool.and_eq_true, decide_eq_true_eq] at hB
  obtain ⟨⟨hs, hl⟩, hB⟩ := hB
  split at hB
  · rename_i listed hsq
    simp only [Bool.and_eq_true, List.all_eq_true] at hB
    obtain ⟨hfresh, hmix⟩ := hB
    refine wp_region_held (S := C) hm ?_
    have := wpAnyH_of_seq (md := .any) (P := P) (fuel := cs.length + post.length) hs hQ pre _ listed a w.drew hC hsq (fun a w hCw hq => ?_) h
    · rw [hl] at this
      simpa using this
    · obtain ⟨I, h0, h1, h2⟩ := hq
      refine wpAnyH_mix h1 ?_ cs.length listed (fun k => listed.getD k false) a w (fun _ => rfl) hmix hCw (h0 _ (fun c hc => by have := hfresh c hc; revert this; cases listed.getD c.1 false <;> simp))
      intro l1 s a w hfin hall hCw hI
      split at hfin
      · rename_i l2 hl2
        have := wpAnyH_of_seq (md := .any) (P := P) (fuel := 0) hs hQ post _ l2 a w hCw hl2 (fun a w _ hq => ⟨by simpa using hfin, hq⟩) (h2 s a w hall hCw hI)
        simpa using this
      · cases hfin
  · cases hB

/-- One operation as a list of one. -/
theorem mix_op {i : Nat} {o : Oper} {l : List Oper} (hi : l[i]? = some o) {a : Act} {w : World} {G : Act → World → Prop} (h : ∀ K : Act → World → Prop, Hid (∀ a w, G a w → K a w) → wpList P l.toArray (Exit.then K Q) [o] a w) : wpOp P l.toArray Q i G a w := by
  have h1 := h G (fun _ _ hg => hg)
  have hi' : l.toArray[i]? = some o := by simpa using hi
  unfold wpOp
  simp only [hi']
  unfold wpList at h1
  split
  · rename_i hw
    rw [if_pos hw] at h1
    refine h1.imp ?_ (fun ⟨h2, b, v, h3⟩ => ⟨h2, b, v, h3⟩)
    intro h2
    unfold Oper.wp at *
    generalize (execOp a.eval o).run P w = r at *
    cases r with
    | ok n w' =>
      cases n <;> simp only [Oper.upon] at h2 ⊢ <;>
        first
          | exact h2
          | exact Calls.mono h2 (fun e w'' he => by cases e <;> exact he)
          | exact Rows.mono h2 (fun _ _ he => he)
    | halt x w' => cases x <;> simp only [Oper.upon] at h2 ⊢ <;> exact h2
  · rename_i hw
    rw [if_neg hw] at h1
    exact h1

/-- The operations of the mix, one by one, over a frame of which only some slots turn. -/
def MixSteps (P : Program) (l : List Oper) (C : World → Prop) (Q : Exit → Act → World → Prop) (a : Act) (slots : List Nat) (R : (Nat → Bool) → List Value → World → Prop) : List (Nat × List Nat) → Prop
  | [] => True
  | c :: cs => (∀ s vs w, vs.length = slots.length → s c.1 = false → (∀ d ∈ c.2, s d = true) → C w → R s vs w →
      wpOp P l.toArray Q c.1 (fun a' w' => C w' ∧ ∃ vs', vs'.length = slots.length ∧ a' = putAll a slots vs' ∧ R (upd s c.1) vs' w') (putAll a slots vs) w) ∧ MixSteps P l C Q a slots R cs
theorem mixSteps_mem {l : List Oper} {a : Act} {slots : List Nat} {R : (Nat → Bool) → List Value → World → Prop} : ∀ {cs : List (Nat × List Nat)}, MixSteps P l C Q a slots R cs → ∀ c ∈ cs, ∀ s vs w, vs.length = slots.length → s c.1 = false → (∀ d ∈ c.2, s d = true) → C w → R s vs w →
      wpOp P l.toArray Q c.1 (fun a' w' => C w' ∧ ∃ vs', vs'.length = slots.length ∧ a' = putAll a slots vs' ∧ R (upd s c.1) vs' w') (putAll a slots vs) w
  | [], _, _, hc => by cases hc
  | c0 :: cs, h, c, hc => by
    rcases List.mem_cons.1 hc with rfl | hc
    · exact h.1
    · exact mixSteps_mem h.2 c hc
theorem mix_go {l : List Oper} {cs : List (Nat × List Nat)} {post : List (Nat × Bool)} {a : Act} {w : World} (slots : List Nat) (vs0 : List Value) (R : (Nat → Bool) → List Value → World → Prop) (hl : vs0.length = slots.length) (h0 : a = putAll a slots vs0)
    (hi : ∀ s : Nat → Bool, (∀ c ∈ cs, s c.1 = false) → R s vs0 w) (hs : MixSteps P l C Q a slots R cs)
    (he : ∀ s vs w', vs.length = slots.length → (∀ c ∈ cs, s c.1 = true) → C w' → R s vs w' → seqRun P l.toArray C Q (fun a w => Q .normal a w) post (putAll a slots vs) w') : MixGo P l.toArray C Q cs post a w := by
  refine ⟨fun s a' w' => ∃ vs, vs.length = slots.length ∧ a' = putAll a slots vs ∧ R s vs w', fun s hs0 => ⟨vs0, hl, h0, hi s hs0⟩, ?_, ?_⟩
  · rintro c hc s a' w' h1 h2 hC ⟨vs, hvl, rfl, hR⟩
    exact mixSteps_mem hs c hc s vs w' hvl h1 h2 hC hR
  · rintro s a' w' hall hC ⟨vs, hvl, rfl, hR⟩
    exact he s vs w' hvl hall hC hR
end
theorem below_of_since {B : Nat} {W w' : World} (h : ∃ x : Since B W, w' = x.world) : Below B W w' := by
  obtain ⟨x, rfl⟩ := h
  exact x.2
end Go.Proofs.Ytnjcoejnknpfoaa
