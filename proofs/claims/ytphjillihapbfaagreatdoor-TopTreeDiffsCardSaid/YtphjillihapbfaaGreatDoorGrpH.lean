/-
  RegionL RegionC KeepK ObjWdig.
-/
import Derived.Test.YtphjillihapbfaaGreatDoorGrpG
import Derived.Test.YtphjillihapbfaaGreatDoorGrpB
import Derived.Test.YtphjillihapbfaaGreatDoorGrpD
namespace Go.Proofs.YtphjillihapbfaaGreatDoor
open Go.RowKit

section
variable {P : Program} {ops : Array Oper} {Q : Exit → Act → World → Prop} {md : Region.Mode} {S : World → Prop} {L : Nat}

def wpAnyL (P : Program) (md : Region.Mode) (ops : Array Oper) (Q : Exit → Act → World → Prop) (S : World → Prop) (L : Nat) : Nat → Array Bool → Act → World → Prop
  | 0, listed, a, w => Region.ready md ops listed = [] ∧ Q .normal a w
  | fuel + 1, listed, a, w =>
    (Region.ready md ops listed = [] → Q .normal a w) ∧
    ∀ i ∈ Region.ready md ops listed, wpOp P ops Q i (fun a' w' => (i ≠ L → S w') ∧ wpAnyL P md ops Q S L fuel (listed.setIfInBounds i true) a' w') a w

theorem wpAny_of_L : ∀ (fuel : Nat) (listed : Array Bool) (a : Act) (w : World), wpAnyL P md ops Q S L fuel listed a w → wpAny P md ops Q fuel listed a w
  | 0, _, _, _, h => h
  | fuel + 1, _, _, _, h => ⟨h.1, fun i hi => wpOp_mono (fun a' w' h' => wpAny_of_L fuel _ a' w' h'.2) (h.2 i hi)⟩

/-- L waits for all others. -/
def lastB (md : Region.Mode) (ops : Array Oper) (L : Nat) : Bool :=
  match ops[L]? with
  | some o => (List.range ops.size).all fun k => k == L || o.after.any fun e => Region.binds md e && e.on == k
  | none => false

theorem lastB_spec (h : lastB md ops L = true) {listed : Array Bool} {i : Nat} (hL : L ∈ Region.ready md ops listed) (hi : i ∈ Region.ready md ops listed) : i = L := by
  unfold lastB at h
  split at h
  · rename_i o ho
    rw [List.all_eq_true] at h
    obtain ⟨hiu, oi, hoi, _⟩ := mem_ready.1 hi
    obtain ⟨_, o', ho', hall⟩ := mem_ready.1 hL
    rw [ho] at ho'
    cases ho'
    have hlt : i < ops.size := by
      rcases Nat.lt_or_ge i ops.size with h' | h'
      · exact h'
      · rw [Array.getElem?_eq_none h'] at hoi; cases hoi
    have hk := h i (List.mem_range.2 hlt)
    rw [Bool.or_eq_true] at hk
    rcases hk with hk | hk
    · simpa using hk
    · obtain ⟨e, he, hb⟩ : ∃ e ∈ o.after, (Region.binds md e && e.on == i) = true := by
        obtain ⟨k, hk1, hk2⟩ := Array.any_eq_true.1 hk
        exact ⟨_, Array.getElem_mem hk1, hk2⟩
      rw [Bool.and_eq_true] at hb
      have h1 := hall e he hb.1
      have he2 : e.on = i := by simpa using hb.2
      rw [he2] at h1
      rcases Nat.lt_or_ge i listed.size with h' | h'
      · simp [h'] at hiu h1; rw [hiu] at h1; cases h1
      · simp [Array.getElem?_eq_none h'] at h1
  · cases h

theorem wpAnyL_first (hlast : lastB md ops L = true) {i : Nat} {oi : Oper} {v : Value} (hi : ops[i]? = some oi) (hiL : i ≠ L) (hsel : ∀ (j : Nat) (o : Oper) cs b, ops[j]? = some o → o.op ≠ .select cs b)
    (hQ : ∀ c a w, Q (.panic c) (a.put oi.dst v) w → Q (.panic c) a w) :
    ∀ (fuel : Nat) (listed : Array Bool) (a : Act) (w : World),
      (∀ j oj, ops[j]? = some oj → j ≠ i → listed.getD j true = false → (∀ e ∈ oj.after, Region.binds md e = true → e.on ≠ i) → oi.apart ops oj = true) →
      i ∈ Region.ready md ops listed → YieldsIf P ops S oi v a → S w →
      wpAnyL P md ops Q S L fuel (listed.setIfInBounds i true) (a.put oi.dst v) w → wpAnyL P md ops Q S L (fuel + 1) listed a w := by
  intro fuel
  induction fuel with
  | zero =>
    intro listed a w _ hr hy hS H
    refine ⟨fun h => (by rw [h] at hr; cases hr), fun j hj => ?_⟩
    by_cases hji : j = i
    · subst hji; exact hy.wpOp hi hS ⟨fun _ => hS, H⟩
    · have := ready_mono hj hji
      rw [H.1] at this
      cases this
  | succ fuel ih =>
    intro listed a w hfree hr hy hS H
    refine ⟨fun h => (by rw [h] at hr; cases hr), fun j hj => ?_⟩
    by_cases hji : j = i
    · subst hji; exact hy.wpOp hi hS ⟨fun _ => hS, H⟩
    · have hjL : j ≠ L := fun e => by subst e; exact hiL (lastB_spec hlast hj hr)
      have h1 := H.2 j (ready_mono hj hji)
      obtain ⟨hjun, oj, hoj, hall⟩ := mem_ready.1 hj
      have hnot : ∀ e ∈ oj.after, Region.binds md e = true → e.on ≠ i := fun e he hb heq => by
        have h1 := hall e he hb
        have h0 := (mem_ready.1 hr).1
        rw [heq] at h1
        rcases Nat.lt_or_ge i listed.size with h' | h'
        · simp [h'] at h0 h1; rw [h0] at h1; cases h1
        · simp [Array.getElem?_eq_none h'] at h1
      have h2 := wpOp_putIf hoj (hfree j oj hoj hji hjun hnot) (fun cs b => hsel i oi cs b hi) (fun cs b => hsel j oj cs b hoj) hQ hy h1
      have hfree' : ∀ k ok, ops[k]? = some ok → k ≠ i → (listed.setIfInBounds j true).getD k true = false →
          (∀ e ∈ ok.after, Region.binds md e = true → e.on ≠ i) → oi.apart ops ok = true := fun k ok hk hki hun hno => by
        refine hfree k ok hk hki ?_ hno
        by_cases hjk : j = k
        · subst hjk; exact hjun
        · rw [getD_set_ne true hjk] at hun; exact hun
      refine wpOp_mono (fun a' w' h3 => ⟨h3.2.1, ih (listed.setIfInBounds j true) a' w' hfree' (ready_mono hr (Ne.symm hji)) h3.1 (h3.2.1 hjL) ?_⟩) h2
      rw [Array.setIfInBounds_comm _ _ hji]
      exact h3.2.2

/-- As seqRun; behind operation L the class is not asked. -/
def seqRunL (P : Program) (ops : Array Oper) (C : World → Prop) (L : Nat) (Q : Exit → Act → World → Prop) (E : Act → World → Prop) : List (Nat × Bool) → Act → World → Prop
  | [], a, w => E a w
  | (i, true) :: rest, a, w => i ≠ L ∧ ∃ o, ops[i]? = some o ∧ ∃ v, YieldsIf P ops C o v a ∧ seqRunL P ops C L Q E rest (a.put o.dst v) w
  | (i, false) :: rest, a, w => wpOp P ops Q i (fun a' w' => (i ≠ L → C w') ∧ seqRunL P ops C L Q E rest a' w') a w

/-- May the region be walked in this order? L comes last. -/
def seqBL (md : Region.Mode) (ops : Array Oper) (L : Nat) : List (Nat × Bool) → Array Bool → Option (Array Bool)
  | [], listed => some listed
  | (i, true) :: rest, listed => if (Region.ready md ops listed).contains i && Region.free md ops listed i then seqBL md ops L rest (listed.setIfInBounds i true) else none
  | (i, false) :: rest, listed => if Region.ready md ops listed = [i] ∧ (i = L → rest = []) then seqBL md ops L rest (listed.setIfInBounds i true) else none

theorem wpAnyL_of_seq {C : World → Prop} (hlast : lastB md ops L = true) (hs : Region.noSelect ops = true) (hQ : ∀ c d v a w, Q (.panic c) (Act.put a d v) w → Q (.panic c) a w) {E : Act → World → Prop} : ∀ (ord : List (Nat × Bool)) (listed listed' : Array Bool) (a : Act) (w : World), (ord ≠ [] → C w) →
    seqBL md ops L ord listed = some listed' → Region.ready md ops listed' = [] → (∀ a w, E a w → Q .normal a w) → seqRunL P ops C L Q E ord a w → wpAnyL P md ops Q C L ord.length listed a w
  | [], listed, listed', a, w, hC, hB, hr, hE, h => by
    cases hB
    exact ⟨hr, hE _ _ h⟩
  | (i, true) :: rest, listed, listed', a, w, hC, hB, hr, hE, h => by
    simp only [seqBL] at hB
    split at hB
    · rename_i hc
      rw [Bool.and_eq_true] at hc
      obtain ⟨hiL, o, ho, v, hy, hh⟩ := h
      have hC := hC (by simp)
      exact wpAnyL_first hlast ho hiL (Region.noSelect_spec hs) (fun c a w hq => hQ c _ _ a w hq) _ listed a w (Region.free_spec ho hc.2) (by simpa using hc.1) hy hC (wpAnyL_of_seq hlast hs hQ rest _ listed' _ w (fun _ => hC) hB hr hE hh)
    · cases hB
  | (i, false) :: rest, listed, listed', a, w, hC, hB, hr, hE, h => by
    simp only [seqBL] at hB
    split at hB
    · rename_i hc
      refine ⟨fun e => (by rw [e] at hc; cases hc.1), ?_⟩
      rw [hc.1]
      intro j hj
      obtain rfl : j = i := by simpa using hj
      exact wpOp_mono (fun a' w' hh => ⟨hh.1, wpAnyL_of_seq hlast hs hQ rest _ listed' a' w' (fun hne => hh.1 (fun e => hne (hc.2 e))) hB hr hE hh.2⟩) h
    · cases hB

/-- THE BEGINNING. -/
theorem wp_region_seqL {id : Nat} {a : Act} {w : World} {l : List Oper} (L : Nat) (C : World → Prop) (ord : List (Nat × Bool)) (hm : P.follows .mixedOrders = true)
    (hB : (lastB .any l.toArray L && (Region.noSelect l.toArray && decide (ord.length = l.length) && (match seqBL .any l.toArray L ord (Array.replicate l.length false) with | some listed => (Region.ready .any l.toArray listed).isEmpty | none => false))) = true)
    (hQ : ∀ c d v a w, Q (.panic c) (Act.put a d v) w → Q (.panic c) a w) (hC : C w.drew)
    (h : seqRunL P l.toArray C L Q (fun a w => Q .normal a w) ord a w.drew) : (Code.region id l.toArray true).wp P Q a w := by
  simp only [Bool.and_eq_true, decide_eq_true_eq] at hB
  obtain ⟨hl1, ⟨hs, hl⟩, hB⟩ := hB
  split at hB
  · rename_i listed hsq
    refine wp_region_any hm (wpAny_of_L (S := C) (L := L) _ _ _ _ ?_)
    have := wpAnyL_of_seq (md := .any) (P := P) hl1 hs hQ ord _ listed a w.drew (fun _ => hC) hsq (by simpa using hB) (fun a w hq => hq) h
    rw [hl] at this
    simpa using this
  · cases hB

/-- In a round. -/
theorem wpIn_region_seqL {r n : Nat} {id : Nat} {a : Act} {w : World} {l : List Oper} (L : Nat) (C : World → Prop) (ord : List (Nat × Bool)) (hm : P.follows .mixedOrders = true)
    (hB : (noDefer l.toArray && (lastB .any l.toArray L && (Region.noSelect l.toArray && decide (ord.length = l.length) && (match seqBL .any l.toArray L ord (Array.replicate l.length false) with | some listed => (Region.ready .any l.toArray listed).isEmpty | none => false)))) = true)
    (hC : C w.drew) (h : seqRunL P l.toArray C L (Ends Q) (fun a w => Ends Q .normal a w) ord a w.drew) : (Code.region id l.toArray true).wpIn (Fence.wide.inRound r) n P Q a w := by
  simp only [Bool.and_eq_true, decide_eq_true_eq] at hB
  obtain ⟨hd, hl1, ⟨hs, hl⟩, hB⟩ := hB
  split at hB
  · rename_i listed hsq
    refine wpIn_region_any hm (wpAnyIn_of hd _ _ _ _ (wpAny_of_L (S := C) (L := L) _ _ _ _ ?_))
    have := wpAnyL_of_seq (md := .any) (P := P) hl1 hs (fun c d v a w h => by cases h.1) ord _ listed a w.drew (fun _ => hC) hsq (by simpa using hB) (fun a w hq => hq) h
    rw [hl] at this
    simpa using this
  · cases hB

variable {C : World → Prop}
theorem seqL_nil {E : Act → World → Prop} {a : Act} {w : World} (h : E a w) : seqRunL P ops C L Q E [] a w := h
theorem seqL_float {i : Nat} {o : Oper} {l : List Oper} {rest : List (Nat × Bool)} {E : Act → World → Prop} {a : Act} {w : World} (hiL : Nat.beq i L = false) (hi : l[i]? = some o) (hf : floatB o = true) (hw : Region.wanted o (yielded l.toArray a.tmps) = true)
    (h : ∀ K : Act → Prop, (∀ a, seqRunL P l.toArray C L Q E rest a w → K a) → o.quiet P a C K) : seqRunL P l.toArray C L Q E ((i, true) :: rest) a w := by
  obtain ⟨v, hy, hk⟩ := yieldsIf_of_quiet hf hw (h _ (fun _ h => h))
  exact ⟨fun e => by subst e; simp at hiL, o, by simpa using hi, v, hy, hk⟩
theorem seqL_skip {i : Nat} {o : Oper} {l : List Oper} {rest : List (Nat × Bool)} {E : Act → World → Prop} {a : Act} {w : World} (hiL : Nat.beq i L = false) (hi : l[i]? = some o) (hw : Region.wanted o (yielded l.toArray a.tmps) = false)
    (h : seqRunL P l.toArray C L Q E rest (a.put o.dst undef) w) : seqRunL P l.toArray C L Q E ((i, true) :: rest) a w :=
  ⟨fun e => by subst e; simp at hiL, o, by simpa using hi, undef, .inr ⟨hw, rfl⟩, h⟩

theorem wpOp_of_list {i : Nat} {o : Oper} {l : List Oper} {a : Act} {w : World} {K : Act → World → Prop} (hi : l[i]? = some o) (h1 : wpList P l.toArray (Exit.then K Q) [o] a w) : wpOp P l.toArray Q i K a w := by
  have hi' : l.toArray[i]? = some o := by simpa using hi
  unfold wpOp
  simp only [hi']
  unfold wpList at h1
  split
  · rename_i hw
    rw [if_pos hw] at h1
    refine h1.imp ?_ (fun ⟨h2, b, v, h3⟩ => ⟨h2, b, v, h3⟩)
    intro h2
    unfold Oper.wp at *
    generalize (execOp a.eval o).run P w = r at *
    cases r with
    | ok n w' =>
      cases n <;> simp only [Oper.upon] at h2 ⊢ <;>
        first
          | exact h2
          | exact Calls.mono h2 (fun e w'' he => by cases e <;> exact he)
          | exact Rows.mono h2 (fun _ _ he => he)
    | halt x w' => cases x <;> simp only [Oper.upon] at h2 ⊢ <;> exact h2
  · rename_i hw
    rw [if_neg hw] at h1
    exact h1

theorem seqL_chain {i : Nat} {o : Oper} {l : List Oper} {rest : List (Nat × Bool)} {E : Act → World → Prop} {a : Act} {w : World} (hi : l[i]? = some o)
    (h : ∀ K : Act → World → Prop, Hid (∀ a w, C w → seqRunL P l.toArray C L Q E rest a w → K a w) → wpList P l.toArray (Exit.then K Q) [o] a w) : seqRunL P l.toArray C L Q E ((i, false) :: rest) a w :=
  wpOp_of_list hi (h (fun a' w' => (i ≠ L → C w') ∧ seqRunL P l.toArray C L Q E rest a' w') (fun _ _ hC hs => ⟨fun _ => hC, hs⟩))
/-- The last operation. -/
theorem seqL_last {i : Nat} {o : Oper} {l : List Oper} {E : Act → World → Prop} {a : Act} {w : World} (hiL : Nat.beq i L = true) (hi : l[i]? = some o)
    (h : ∀ K : Act → World → Prop, Hid (∀ a w, E a w → K a w) → wpList P l.toArray (Exit.then K Q) [o] a w) : seqRunL P l.toArray C L Q E [(i, false)] a w :=
  wpOp_of_list hi (h (fun a' w' => (i ≠ L → C w') ∧ seqRunL P l.toArray C L Q E [] a' w') (fun _ _ hs => ⟨fun hne => absurd (Nat.eq_of_beq_eq_true hiL) hne, hs⟩))
end
end Go.Proofs.YtphjillihapbfaaGreatDoor

namespace Go.Proofs.YtphjillihapbfaaGreatDoor
open Go.RowKit

section
variable {P : Program} {ops : Array Oper} {Q : Exit → Act → World → Prop} {md : Region.Mode} {S : World → Prop} {L : Nat}

/-- L waits for all others, by one step or two. -/
def last2B (md : Region.Mode) (ops : Array Oper) (L : Nat) : Bool :=
  match ops[L]? with
  | some o => (List.range ops.size).all fun k => k == L || o.after.any fun e => Region.binds md e && (e.on == k || match ops[e.on]? with
    | some o2 => o2.after.any fun e2 => Region.binds md e2 && e2.on == k
    | none => false)
  | none => false
/-- What the listed wait for is listed. -/
def Closed (md : Region.Mode) (ops : Array Oper) (listed : Array Bool) : Prop :=
  ∀ (j : Nat) (o : Oper), ops[j]? = some o → listed.getD j false = true → ∀ e ∈ o.after, Region.binds md e = true → listed.getD e.on false = true
theorem closed_start (md : Region.Mode) (ops : Array Oper) (n : Nat) : Closed md ops (Array.replicate n false) := by
  intro j o _ h
  exfalso
  rw [Array.getD_eq_getD_getElem?, Array.getElem?_replicate] at h
  split at h <;> simp at h
theorem closed_set {listed : Array Bool} {i : Nat} (h : Closed md ops listed) (hi : i ∈ Region.ready md ops listed) : Closed md ops (listed.setIfInBounds i true) := by
  intro j o ho hj e he hb
  obtain ⟨_, oi, hoi, hall⟩ := mem_ready.1 hi
  by_cases hji : j = i
  · subst hji
    rw [ho] at hoi
    cases hoi
    exact getD_set_true (hall e he hb)
  · rw [getD_set_ne false (Ne.symm hji)] at hj
    exact getD_set_true (h j o ho hj e he hb)
theorem not_both {listed : Array Bool} {i : Nat} (h : listed.getD i true = false) (h1 : listed.getD i false = true) : False := by
  rcases Nat.lt_or_ge i listed.size with h' | h'
  · simp [h'] at h h1; rw [h] at h1; cases h1
  · simp [Array.getElem?_eq_none h'] at h1
theorem last2B_spec (h : last2B md ops L = true) {listed : Array Bool} (hc : Closed md ops listed) {i : Nat} (hL : L ∈ Region.ready md ops listed) (hi : i ∈ Region.ready md ops listed) : i = L := by
  unfold last2B at h
  split at h
  · rename_i o ho
    rw [List.all_eq_true] at h
    obtain ⟨hiu, oi, hoi, _⟩ := mem_ready.1 hi
    obtain ⟨_, o', ho', hall⟩ := mem_ready.1 hL
    rw [ho] at ho'
    cases ho'
    have hlt : i < ops.size := by
      rcases Nat.lt_or_ge i ops.size with h' | h'
      · exact h'
      · rw [Array.getElem?_eq_none h'] at hoi; cases hoi
    have hk := h i (List.mem_range.2 hlt)
    rw [Bool.or_eq_true] at hk
    rcases hk with hk | hk
    · simpa using hk
    · exfalso
      obtain ⟨k, hk1, hk2⟩ := Array.any_eq_true.1 hk
      rw [Bool.and_eq_true, Bool.or_eq_true] at hk2
      obtain ⟨hb, hk3⟩ := hk2
      have h1 := hall _ (Array.getElem_mem hk1) hb
      rcases hk3 with hk3 | hk3
      · have he2 : o.after[k].on = i := by simpa using hk3
        rw [he2] at h1
        exact not_both hiu h1
      · split at hk3
        · rename_i o2 ho2
          obtain ⟨m, hm1, hm2⟩ := Array.any_eq_true.1 hk3
          rw [Bool.and_eq_true] at hm2
          have h2 := hc _ _ ho2 h1 _ (Array.getElem_mem hm1) hm2.1
          have he3 : o2.after[m].on = i := by simpa using hm2.2
          rw [he3] at h2
          exact not_both hiu h2
        · cases hk3
  · cases h

theorem wpAnyC_first (hlast : last2B md ops L = true) {i : Nat} {oi : Oper} {v : Value} (hi : ops[i]? = some oi) (hiL : i ≠ L) (hsel : ∀ (j : Nat) (o : Oper) cs b, ops[j]? = some o → o.op ≠ .select cs b)
    (hQ : ∀ c a w, Q (.panic c) (a.put oi.dst v) w → Q (.panic c) a w) :
    ∀ (fuel : Nat) (listed : Array Bool) (a : Act) (w : World), Closed md ops listed →
      (∀ j oj, ops[j]? = some oj → j ≠ i → listed.getD j true = false → (∀ e ∈ oj.after, Region.binds md e = true → e.on ≠ i) → oi.apart ops oj = true) →
      i ∈ Region.ready md ops listed → YieldsIf P ops S oi v a → S w →
      wpAnyL P md ops Q S L fuel (listed.setIfInBounds i true) (a.put oi.dst v) w → wpAnyL P md ops Q S L (fuel + 1) listed a w := by
  intro fuel
  induction fuel with
  | zero =>
    intro listed a w _ _ hr hy hS H
    refine ⟨fun h => (by rw [h] at hr; cases hr), fun j hj => ?_⟩
    by_cases hji : j = i
    · subst hji; exact hy.wpOp hi hS ⟨fun _ => hS, H⟩
    · have := ready_mono hj hji
      rw [H.1] at this
      cases this
  | succ fuel ih =>
    intro listed a w hcl hfree hr hy hS H
    refine ⟨fun h => (by rw [h] at hr; cases hr), fun j hj => ?_⟩
    by_cases hji : j = i
    · subst hji; exact hy.wpOp hi hS ⟨fun _ => hS, H⟩
    · have hjL : j ≠ L := fun e => by subst e; exact hiL (last2B_spec hlast hcl hj hr)
      have h1 := H.2 j (ready_mono hj hji)
      obtain ⟨hjun, oj, hoj, hall⟩ := mem_ready.1 hj
      have hnot : ∀ e ∈ oj.after, Region.binds md e = true → e.on ≠ i := fun e he hb heq => by
        have h1 := hall e he hb
        have h0 := (mem_ready.1 hr).1
        rw [heq] at h1
        rcases Nat.lt_or_ge i listed.size with h' | h'
        · simp [h'] at h0 h1; rw [h0] at h1; cases h1
        · simp [Array.getElem?_eq_none h'] at h1
      have h2 := wpOp_putIf hoj (hfree j oj hoj hji hjun hnot) (fun cs b => hsel i oi cs b hi) (fun cs b => hsel j oj cs b hoj) hQ hy h1
      have hfree' : ∀ k ok, ops[k]? = some ok → k ≠ i → (listed.setIfInBounds j true).getD k true = false →
          (∀ e ∈ ok.after, Region.binds md e = true → e.on ≠ i) → oi.apart ops ok = true := fun k ok hk hki hun hno => by
        refine hfree k ok hk hki ?_ hno
        by_cases hjk : j = k
        · subst hjk; exact hjun
        · rw [getD_set_ne true hjk] at hun; exact hun
      refine wpOp_mono (fun a' w' h3 => ⟨h3.2.1, ih (listed.setIfInBounds j true) a' w' (closed_set hcl hj) hfree' (ready_mono hr (Ne.symm hji)) h3.1 (h3.2.1 hjL) ?_⟩) h2
      rw [Array.setIfInBounds_comm _ _ hji]
      exact h3.2.2

theorem wpAnyC_of_seq {C : World → Prop} (hlast : last2B md ops L = true) (hs : Region.noSelect ops = true) (hQ : ∀ c d v a w, Q (.panic c) (Act.put a d v) w → Q (.panic c) a w) {E : Act → World → Prop} : ∀ (ord : List (Nat × Bool)) (listed listed' : Array Bool) (a : Act) (w : World), Closed md ops listed → (ord ≠ [] → C w) →
    seqBL md ops L ord listed = some listed' → Region.ready md ops listed' = [] → (∀ a w, E a w → Q .normal a w) → seqRunL P ops C L Q E ord a w → wpAnyL P md ops Q C L ord.length listed a w
  | [], listed, listed', a, w, _, hC, hB, hr, hE, h => by
    cases hB
    exact ⟨hr, hE _ _ h⟩
  | (i, true) :: rest, listed, listed', a, w, hcl, hC, hB, hr, hE, h => by
    simp only [seqBL] at hB
    split at hB
    · rename_i hc
      rw [Bool.and_eq_true] at hc
      obtain ⟨hiL, o, ho, v, hy, hh⟩ := h
      have hC := hC (by simp)
      exact wpAnyC_first hlast ho hiL (Region.noSelect_spec hs) (fun c a w hq => hQ c _ _ a w hq) _ listed a w hcl (Region.free_spec ho hc.2) (by simpa using hc.1) hy hC (wpAnyC_of_seq hlast hs hQ rest _ listed' _ w (closed_set hcl (by simpa using hc.1)) (fun _ => hC) hB hr hE hh)
    · cases hB
  | (i, false) :: rest, listed, listed', a, w, hcl, hC, hB, hr, hE, h => by
    simp only [seqBL] at hB
    split at hB
    · rename_i hc
      refine ⟨fun e => (by rw [e] at hc; cases hc.1), ?_⟩
      rw [hc.1]
      intro j hj
      obtain rfl : j = i := by simpa using hj
      exact wpOp_mono (fun a' w' hh => ⟨hh.1, wpAnyC_of_seq hlast hs hQ rest _ listed' a' w' (closed_set hcl (by rw [hc.1]; simp)) (fun hne => hh.1 (fun e => hne (hc.2 e))) hB hr hE hh.2⟩) h
    · cases hB

/-- THE BEGINNING. -/
theorem wp_region_seqC {id : Nat} {a : Act} {w : World} {l : List Oper} (L : Nat) (C : World → Prop) (ord : List (Nat × Bool)) (hm : P.follows .mixedOrders = true)
    (hB : (last2B .any l.toArray L && (Region.noSelect l.toArray && decide (ord.length = l.length) && (match seqBL .any l.toArray L ord (Array.replicate l.length false) with | some listed => (Region.ready .any l.toArray listed).isEmpty | none => false))) = true)
    (hQ : ∀ c d v a w, Q (.panic c) (Act.put a d v) w → Q (.panic c) a w) (hC : C w.drew)
    (h : seqRunL P l.toArray C L Q (fun a w => Q .normal a w) ord a w.drew) : (Code.region id l.toArray true).wp P Q a w := by
  simp only [Bool.and_eq_true, decide_eq_true_eq] at hB
  obtain ⟨hl1, ⟨hs, hl⟩, hB⟩ := hB
  split at hB
  · rename_i listed hsq
    refine wp_region_any hm (wpAny_of_L (S := C) (L := L) _ _ _ _ ?_)
    have := wpAnyC_of_seq (md := .any) (P := P) hl1 hs hQ ord _ listed a w.drew (closed_start _ _ _) (fun _ => hC) hsq (by simpa using hB) (fun a w hq => hq) h
    rw [hl] at this
    simpa using this
  · cases hB

end
end Go.Proofs.YtphjillihapbfaaGreatDoor

namespace Go.Proofs.YtphjillihapbfaaGreatDoor
open Go.RowKit

/-- One block is as in W. -/
def KeepK (k : Nat) (W w' : World) : Prop := w'.heap[k]? = W.heap[k]?
theorem KeepK.refl (k : Nat) (W : World) : KeepK k W W := rfl
theorem KeepK.drew {k : Nat} {W w' : World} (h : KeepK k W w') : KeepK k W w'.drew := h
theorem KeepK.below {k B : Nat} {W w1 w2 : World} (h : KeepK k W w1) (hb : Below B w1 w2) (hk : k < B) : KeepK k W w2 := (hb.block k hk).trans h
theorem KeepK.setCell {k : Nat} {W w' : World} (h : KeepK k W w') {p : Addr} (hp : k ≠ p.block) (u : Value) : KeepK k W (w'.setCell p u) := (Below.heap_setCell _ _ _ _ hp).trans h
theorem KeepK.grown {k : Nat} {W w1 w2 : World} {row : Option Nat} (h : KeepK k W w1) (hg : w1.grownBy w2 row) (hk : k < w1.heap.size) (hne : some k ≠ row) : KeepK k W w2 := (hg.block k hk hne).trans h
def SinceK (k : Nat) (W : World) : Type := { w' : World // KeepK k W w' }
instance {k : Nat} {W : World} : Nonempty (SinceK k W) := ⟨⟨W, rfl⟩⟩
def SinceK.world {k : Nat} {W : World} (x : SinceK k W) : World := x.1
theorem SinceK.cell {k : Nat} {W : World} {o : Nat} {v : Option Value} (hv : W.cell? ⟨k, o, none⟩ = v) : ∀ x : SinceK k W, x.world.cell? ⟨k, o, none⟩ = v := fun x => by
  rw [← hv]
  exact World.cell?_of_block (w := W) (a := ⟨k, o, none⟩) x.2
theorem sincek {k : Nat} {W w' : World} (h : KeepK k W w') : ∃ x : SinceK k W, w' = x.world := ⟨⟨w', h⟩, rfl⟩
end Go.Proofs.YtphjillihapbfaaGreatDoor

namespace Go.Proofs.YtphjillihapbfaaGreatDoor
open Go.RowKit

set_option maxRecDepth 100000 in
set_option maxHeartbeats 4000000 in
theorem wDigest_any (B b : Nat) (L : List UInt8) (x y : UInt64) (w : World) (h : Wr B b L w) (hB : B ≤ w.heap.size) (hl : L.length ≤ 1000000) :
    Calls Tryz.prog 70 #[.pointer (some ⟨b, 0, none⟩), .agg #[.int .u64 x.toNat, .int .u64 y.toNat]] w fun e w' => e = .returned (.tuple #[]) ∧ Wr B b (L ++ bytesU x y) w' ∧ Below B w w' ∧ Lib.OthersKept 5 (some b) w w' := by
  have HW := lid h
  have HL := lid hl
  clear h hl
  go_enter Tryz.func70, Tryz.ntmps70
  go_wp2
  go_loopw [5, 6, 8] (fun _ _ i wr => ∃ k : Nat, (k = 0 ∧ i = .int .i64 0 ∨ k = 1 ∧ i = .int .i64 1 ∨ k = 2 ∧ i = .int .i64 2) ∧ Hid (Wr B b (L ++ (bytesU x y).take (8 * k)) wr) ∧ Below B w wr ∧ Hid (Lib.OthersKept 5 (some b) w wr) ∧ B ≤ wr.heap.size) (fun _ _ i _ => (2 - intOf i).toNat)
  case atStart => exact ⟨0, .inl ⟨rfl, rfl⟩, lid (by simpa using HW.out.below (ba w _)), (ba w _).mono hB, lid (others_of_below (ba w _)), by rw [World.size_alloc]; omega⟩
  case round =>
    clear HW
    obtain ⟨k, hk, HW, hb, HO, hz⟩ := hrel
    rcases hk with ⟨rfl, rfl⟩ | ⟨rfl, rfl⟩ | ⟨rfl, rfl⟩
    · have i0 : ∀ w, (Instr.index 31 (.agg #[.int .u64 x.toNat, .int .u64 y.toNat]) (.int .i64 0)).run Tryz.prog w = .ok (.int .u64 x.toNat) w := fun _ => by kernel_rfl
      go_wp2
      obtain ⟨wo, rfl⟩ : ∃ wo : World, wo = wr := ⟨_, rfl⟩
      go_loopw [6] (fun i wr => ∃ j : Nat, j ≤ 8 ∧ i = .int .i64 (56 - 8 * (j : Int)) ∧ Hid (Wr B b (L ++ (bytesU x y).take (8 * 0 + j)) wr) ∧ Below B w wr ∧ Hid (Lib.OthersKept 5 (some b) w wr) ∧ B ≤ wr.heap.size) (fun i _ => ((intOf i) + 8).toNat)
      case atStart => exact ⟨0, by omega, rfl, lid (by simpa using HW.out), hb, HO, hz⟩
      case round =>
        clear HW hb HO hz
        obtain ⟨j, hj, rfl, HW, hb, HO, hz⟩ := hrel
        by_cases hlt : j < 8
        · have HT : Hid ((bytesU x y).take (8 * 0 + (j + 1)) = (bytesU x y).take (8 * 0 + j) ++ [byteAt x y (8 * 0 + j)]) := lid (bytesU_take x y (8 * 0 + j) (by omega))
          have HV := lid (byteAt_lo x y hlt)
          obtain ⟨h0, u, h1, h2, h3⟩ := HW.out
          have hlb : b < wr.heap.size := HW.out.lt
          have c0 : wr.cell? ⟨b, 0, none⟩ = some u := by rw [Lib.cell_of_heap h1]; rfl
          have C0 := SinceK.cell (k := b) (W := wr) c0
          have H1 := lid h1
          obtain ⟨N, hN⟩ : ∃ N, (L ++ (bytesU x y).take (8 * 0 + j)).length = N := ⟨_, rfl⟩
          have hLn : N ≤ 1000016 := by have := HL.out; rw [← hN, List.length_append, List.length_take, bytesU_length]; omega
          rw [hN] at h2
          have HN := lid hN
          have H2 := lid h2
          clear h1 h2 hN
          go_wp2_with fail
          refine wp_region_seqC 13 (fun w' => ∃ s : SinceK b wr, w' = s.world) [(0, true), (1, true), (2, true), (3, true), (4, true), (5, true), (6, true), (7, true), (8, false), (9, false), (10, false), (11, true), (12, true), (13, false)] (by kernel_rfl) (by kernel_rfl) (by intro c d v a w h; first | (cases d <;> exact h) | cases h.1) (sincek (KeepK.refl _ _).drew) ?_
          repeat (first | (refine seqL_skip (by rfl) (by rfl) (by rfl) ?_; simp only [Act.put, List.setIfInBounds_toArray, List.set_cons_succ, List.set_cons_zero]) | (refine seqL_float (by rfl) (by rfl) (by rfl) (by rfl) ?_; intro K hK; go_big_quiet_op; go_big_quiet_on))
          refine seqL_chain (by rfl) ?_
          intro K hK
          go_wp2_with fail
          go_wp2_with fail
          refine hK.out _ _ (sincek (KeepK.refl _ _).drew) ?_
          clear hK K
          repeat (first | (refine seqL_skip (by rfl) (by rfl) (by rfl) ?_; simp only [Act.put, List.setIfInBounds_toArray, List.set_cons_succ, List.set_cons_zero]) | (refine seqL_float (by rfl) (by rfl) (by rfl) (by rfl) ?_; intro K hK; go_big_quiet_op; go_big_quiet_on))
          refine seqL_chain (by rfl) ?_
          intro K hK
          go_wp2_with fail
          go_wp2_with fail
          refine hK.out _ _ (sincek ((KeepK.refl _ _).drew.below (ba _ _) (by simpa using hlb))) ?_
          clear hK K
          repeat (first | (refine seqL_skip (by rfl) (by rfl) (by rfl) ?_; simp only [Act.put, List.setIfInBounds_toArray, List.set_cons_succ, List.set_cons_zero]) | (refine seqL_float (by rfl) (by rfl) (by rfl) (by rfl) ?_; intro K hK; go_big_quiet_op; go_big_quiet_on))
          refine seqL_chain (by rfl) ?_
          intro K hK
          rw [alloc_drew]
          refine wpList_append_newG #[.int .u8 (((x.toNat : Int)) / 2 ^ (56 - 8 * j) % 256)] rfl _ _ 120 rfl B 5 (.int .u8 0) 1 1 info_u8 Tryz.underlying120 rfl (by decide) u _ _ H2.out.drew rfl rfl rfl (by simp [Value.oneCell']) (by unfold maxLen; omega) (by omega) hz ?_
          intro v' w2 hown' hgrow
          have hbk : w2.heap[b]? = wr.heap[b]? := by
            rw [hgrow.block b (by rw [World.size_alloc]; exact Nat.lt_succ_of_lt hlb) (fun e => h3 e.symm)]
            exact Below.heap_alloc wr.drew _ _ hlb
          have hb2 : w2.heap[b]? = some (.cells #[u, .bool false] 122 (0, 0)) := hbk.trans H1.out
          have d0 : w2.cell? ⟨b, 0, none⟩ = some u := by rw [Lib.cell_of_heap hb2]; rfl
          have d1 : w2.frozen? ⟨b, 0, none⟩ = false := Lib.frozen_of_heap hb2 0
          have HO' := lid hown'
          have HB2 := lid hb2
          obtain ⟨ao, cap, rfl⟩ := own_slice hown'
          clear hb2 hown' C0 c0 hLn
          go_wp2_with fail
          refine hK.out _ _ (sincek hbk) ?_
          clear hK K
          repeat (first | (refine seqL_skip (by rfl) (by rfl) (by rfl) ?_; simp only [Act.put, List.setIfInBounds_toArray, List.set_cons_succ, List.set_cons_zero]) | (refine seqL_float (by rfl) (by rfl) (by rfl) (by rfl) ?_; intro K hK; go_big_quiet_op; go_big_quiet_on))
          refine seqL_last (by rfl) (by rfl) ?_
          intro K hK
          go_wp2_with fail
          refine hK.out _ _ ?_
          clear hK K
          go_wp2_with fail
          go_roundw
          case rel => exact ⟨j + 1, by omega, by go_num, lid (by
              rw [HT.out, ← List.append_assoc]
              refine Wr.put h0 ((show (wr.drew.alloc (.cells #[.int .u8 (((x.toNat : Int)) / 2 ^ (56 - 8 * j) % 256)] 5)).heap[b]? = _ from (Below.heap_alloc _ _ _ hlb).trans H1.out)) h3 ?_ hgrow
              rw [bvals_snoc, ← HV.out, List.length_append, HN.out]
              exact HO'.out), ((((hb.drew.alloc hz _).grown hgrow (by rw [World.size_alloc]; exact Nat.le_succ_of_le hz) (fun k hk => ownsRow_row H2.out k hk)).setCell (p := ⟨b, 0, none⟩) h0 _)), lid (others_bad ((HO.out.drew.alloc _).grown hgrow (own_kind (H2.out.drew.alloc _))) 0 _), by rw [World.size_setCell]; have := hgrow.size; rw [World.size_alloc] at this; exact Nat.le_trans (Nat.le_succ_of_le hz) this⟩
          case measure => simp [intOf]; omega
        · obtain rfl : j = 8 := by omega
          go_wp2
          go_roundw
          case rel => exact ⟨1, .inr (.inl ⟨rfl, rfl⟩), HW, hb, HO, hz⟩
          case measure => simp [intOf]
    · have i0 : ∀ w, (Instr.index 31 (.agg #[.int .u64 x.toNat, .int .u64 y.toNat]) (.int .i64 1)).run Tryz.prog w = .ok (.int .u64 y.toNat) w := fun _ => by kernel_rfl
      go_wp2
      obtain ⟨wo, rfl⟩ : ∃ wo : World, wo = wr := ⟨_, rfl⟩
      go_loopw [6] (fun i wr => ∃ j : Nat, j ≤ 8 ∧ i = .int .i64 (56 - 8 * (j : Int)) ∧ Hid (Wr B b (L ++ (bytesU x y).take (8 * 1 + j)) wr) ∧ Below B w wr ∧ Hid (Lib.OthersKept 5 (some b) w wr) ∧ B ≤ wr.heap.size) (fun i _ => ((intOf i) + 8).toNat)
      case atStart => exact ⟨0, by omega, rfl, lid (by simpa using HW.out), hb, HO, hz⟩
      case round =>
        clear HW hb HO hz
        obtain ⟨j, hj, rfl, HW, hb, HO, hz⟩ := hrel
        by_cases hlt : j < 8
        · have HT : Hid ((bytesU x y).take (8 * 1 + (j + 1)) = (bytesU x y).take (8 * 1 + j) ++ [byteAt x y (8 * 1 + j)]) := lid (bytesU_take x y (8 * 1 + j) (by omega))
          have HV := lid (byteAt_hi x y hlt)
          obtain ⟨h0, u, h1, h2, h3⟩ := HW.out
          have hlb : b < wr.heap.size := HW.out.lt
          have c0 : wr.cell? ⟨b, 0, none⟩ = some u := by rw [Lib.cell_of_heap h1]; rfl
          have C0 := SinceK.cell (k := b) (W := wr) c0
          have H1 := lid h1
          obtain ⟨N, hN⟩ : ∃ N, (L ++ (bytesU x y).take (8 * 1 + j)).length = N := ⟨_, rfl⟩
          have hLn : N ≤ 1000016 := by have := HL.out; rw [← hN, List.length_append, List.length_take, bytesU_length]; omega
          rw [hN] at h2
          have HN := lid hN
          have H2 := lid h2
          clear h1 h2 hN
          go_wp2_with fail
          refine wp_region_seqC 13 (fun w' => ∃ s : SinceK b wr, w' = s.world) [(0, true), (1, true), (2, true), (3, true), (4, true), (5, true), (6, true), (7, true), (8, false), (9, false), (10, false), (11, true), (12, true), (13, false)] (by kernel_rfl) (by kernel_rfl) (by intro c d v a w h; first | (cases d <;> exact h) | cases h.1) (sincek (KeepK.refl _ _).drew) ?_
          repeat (first | (refine seqL_skip (by rfl) (by rfl) (by rfl) ?_; simp only [Act.put, List.setIfInBounds_toArray, List.set_cons_succ, List.set_cons_zero]) | (refine seqL_float (by rfl) (by rfl) (by rfl) (by rfl) ?_; intro K hK; go_big_quiet_op; go_big_quiet_on))
          refine seqL_chain (by rfl) ?_
          intro K hK
          go_wp2_with fail
          go_wp2_with fail
          refine hK.out _ _ (sincek (KeepK.refl _ _).drew) ?_
          clear hK K
          repeat (first | (refine seqL_skip (by rfl) (by rfl) (by rfl) ?_; simp only [Act.put, List.setIfInBounds_toArray, List.set_cons_succ, List.set_cons_zero]) | (refine seqL_float (by rfl) (by rfl) (by rfl) (by rfl) ?_; intro K hK; go_big_quiet_op; go_big_quiet_on))
          refine seqL_chain (by rfl) ?_
          intro K hK
          go_wp2_with fail
          go_wp2_with fail
          refine hK.out _ _ (sincek ((KeepK.refl _ _).drew.below (ba _ _) (by simpa using hlb))) ?_
          clear hK K
          repeat (first | (refine seqL_skip (by rfl) (by rfl) (by rfl) ?_; simp only [Act.put, List.setIfInBounds_toArray, List.set_cons_succ, List.set_cons_zero]) | (refine seqL_float (by rfl) (by rfl) (by rfl) (by rfl) ?_; intro K hK; go_big_quiet_op; go_big_quiet_on))
          refine seqL_chain (by rfl) ?_
          intro K hK
          rw [alloc_drew]
          refine wpList_append_newG #[.int .u8 (((y.toNat : Int)) / 2 ^ (56 - 8 * j) % 256)] rfl _ _ 120 rfl B 5 (.int .u8 0) 1 1 info_u8 Tryz.underlying120 rfl (by decide) u _ _ H2.out.drew rfl rfl rfl (by simp [Value.oneCell']) (by unfold maxLen; omega) (by omega) hz ?_
          intro v' w2 hown' hgrow
          have hbk : w2.heap[b]? = wr.heap[b]? := by
            rw [hgrow.block b (by rw [World.size_alloc]; exact Nat.lt_succ_of_lt hlb) (fun e => h3 e.symm)]
            exact Below.heap_alloc wr.drew _ _ hlb
          have hb2 : w2.heap[b]? = some (.cells #[u, .bool false] 122 (0, 0)) := hbk.trans H1.out
          have d0 : w2.cell? ⟨b, 0, none⟩ = some u := by rw [Lib.cell_of_heap hb2]; rfl
          have d1 : w2.frozen? ⟨b, 0, none⟩ = false := Lib.frozen_of_heap hb2 0
          have HO' := lid hown'
          have HB2 := lid hb2
          obtain ⟨ao, cap, rfl⟩ := own_slice hown'
          clear hb2 hown' C0 c0 hLn
          go_wp2_with fail
          refine hK.out _ _ (sincek hbk) ?_
          clear hK K
          repeat (first | (refine seqL_skip (by rfl) (by rfl) (by rfl) ?_; simp only [Act.put, List.setIfInBounds_toArray, List.set_cons_succ, List.set_cons_zero]) | (refine seqL_float (by rfl) (by rfl) (by rfl) (by rfl) ?_; intro K hK; go_big_quiet_op; go_big_quiet_on))
          refine seqL_last (by rfl) (by rfl) ?_
          intro K hK
          go_wp2_with fail
          refine hK.out _ _ ?_
          clear hK K
          go_wp2_with fail
          go_roundw
          case rel => exact ⟨j + 1, by omega, by go_num, lid (by
              rw [HT.out, ← List.append_assoc]
              refine Wr.put h0 ((show (wr.drew.alloc (.cells #[.int .u8 (((y.toNat : Int)) / 2 ^ (56 - 8 * j) % 256)] 5)).heap[b]? = _ from (Below.heap_alloc _ _ _ hlb).trans H1.out)) h3 ?_ hgrow
              rw [bvals_snoc, ← HV.out, List.length_append, HN.out]
              exact HO'.out), ((((hb.drew.alloc hz _).grown hgrow (by rw [World.size_alloc]; exact Nat.le_succ_of_le hz) (fun k hk => ownsRow_row H2.out k hk)).setCell (p := ⟨b, 0, none⟩) h0 _)), lid (others_bad ((HO.out.drew.alloc _).grown hgrow (own_kind (H2.out.drew.alloc _))) 0 _), by rw [World.size_setCell]; have := hgrow.size; rw [World.size_alloc] at this; exact Nat.le_trans (Nat.le_succ_of_le hz) this⟩
          case measure => simp [intOf]; omega
        · obtain rfl : j = 8 := by omega
          go_wp2
          go_roundw
          case rel => exact ⟨2, .inr (.inr ⟨rfl, rfl⟩), HW, hb, HO, hz⟩
          case measure => simp [intOf]
    · go_wp2
      go_end0
      exact ⟨rfl, by have := HW.out; rw [List.take_of_length_le (by rw [bytesU_length]; omega)] at this; exact this, hb, HO.out⟩
end Go.Proofs.YtphjillihapbfaaGreatDoor
