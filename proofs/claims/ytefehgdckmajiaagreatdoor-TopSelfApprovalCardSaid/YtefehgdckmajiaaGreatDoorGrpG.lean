/-
  RegionC KeepK.
-/
import Derived.Test.YtefehgdckmajiaaGreatDoorGrpA
namespace Go.Proofs.YtefehgdckmajiaaGreatDoor
open Go.RowKit

section
variable {P : Program} {ops : Array Oper} {Q : Exit → Act → World → Prop} {md : Region.Mode} {S : World → Prop} {L : Nat}

/-- L waits for all others, by one step or two. -/
def last2B (md : Region.Mode) (ops : Array Oper) (L : Nat) : Bool :=
  match ops[L]? with
  | some o => (List.range ops.size).all fun k => k == L || o.after.any fun e => Region.binds md e && (e.on == k || match ops[e.on]? with
    | some o2 => o2.after.any fun e2 => Region.binds md e2 && e2.on == k
    | none => false)
  | none => false
/-- What the listed wait for is listed. -/
def Closed (md : Region.Mode) (ops : Array Oper) (listed : Array Bool) : Prop :=
  ∀ (j : Nat) (o : Oper), ops[j]? = some o → listed.getD j false = true → ∀ e ∈ o.after, Region.binds md e = true → listed.getD e.on false = true
theorem closed_start (md : Region.Mode) (ops : Array Oper) (n : Nat) : Closed md ops (Array.replicate n false) := by
  intro j o _ h
  exfalso
  rw [Array.getD_eq_getD_getElem?, Array.getElem?_replicate] at h
  split at h <;> simp at h
theorem closed_set {listed : Array Bool} {i : Nat} (h : Closed md ops listed) (hi : i ∈ Region.ready md ops listed) : Closed md ops (listed.setIfInBounds i true) := by
  intro j o ho hj e he hb
  obtain ⟨_, oi, hoi, hall⟩ := mem_ready.1 hi
  by_cases hji : j = i
  · subst hji
    rw [ho] at hoi
    cases hoi
    exact getD_set_true (hall e he hb)
  · rw [getD_set_ne false (Ne.symm hji)] at hj
    exact getD_set_true (h j o ho hj e he hb)
theorem not_both {listed : Array Bool} {i : Nat} (h : listed.getD i true = false) (h1 : listed.getD i false = true) : False := by
  rcases Nat.lt_or_ge i listed.size with h' | h'
  · simp [h'] at h h1; rw [h] at h1; cases h1
  · simp [Array.getElem?_eq_none h'] at h1
theorem last2B_spec (h : last2B md ops L = true) {listed : Array Bool} (hc : Closed md ops listed) {i : Nat} (hL : L ∈ Region.ready md ops listed) (hi : i ∈ Region.ready md ops listed) : i = L := by
  unfold last2B at h
  split at h
  · rename_i o ho
    rw [List.all_eq_true] at h
    obtain ⟨hiu, oi, hoi, _⟩ := mem_ready.1 hi
    obtain ⟨_, o', ho', hall⟩ := mem_ready.1 hL
    rw [ho] at ho'
    cases ho'
    have hlt : i < ops.size := by
      rcases Nat.lt_or_ge i ops.size with h' | h'
      · exact h'
      · rw [Array.getElem?_eq_none h'] at hoi; cases hoi
    have hk := h i (List.mem_range.2 hlt)
    rw [Bool.or_eq_true] at hk
    rcases hk with hk | hk
    · simpa using hk
    · exfalso
      obtain ⟨k, hk1, hk2⟩ := Array.any_eq_true.1 hk
      rw [Bool.and_eq_true, Bool.or_eq_true] at hk2
      obtain ⟨hb, hk3⟩ := hk2
      have h1 := hall _ (Array.getElem_mem hk1) hb
      rcases hk3 with hk3 | hk3
      · have he2 : o.after[k].on = i := by simpa using hk3
        rw [he2] at h1
        exact not_both hiu h1
      · split at hk3
        · rename_i o2 ho2
          obtain ⟨m, hm1, hm2⟩ := Array.any_eq_true.1 hk3
          rw [Bool.and_eq_true] at hm2
          have h2 := hc _ _ ho2 h1 _ (Array.getElem_mem hm1) hm2.1
          have he3 : o2.after[m].on = i := by simpa using hm2.2
          rw [he3] at h2
          exact not_both hiu h2
        · cases hk3
  · cases h

theorem wpAnyC_first (hlast : last2B md ops L = true) {i : Nat} {oi : Oper} {v : Value} (hi : ops[i]? = some oi) (hiL : i ≠ L) (hsel : ∀ (j : Nat) (o : Oper) cs b, ops[j]? = some o → o.op ≠ .select cs b)
    (hQ : ∀ c a w, Q (.panic c) (a.put oi.dst v) w → Q (.panic c) a w) :
    ∀ (fuel : Nat) (listed : Array Bool) (a : Act) (w : World), Closed md ops listed →
      (∀ j oj, ops[j]? = some oj → j ≠ i → listed.getD j true = false → (∀ e ∈ oj.after, Region.binds md e = true → e.on ≠ i) → oi.apart ops oj = true) →
      i ∈ Region.ready md ops listed → YieldsIf P ops S oi v a → S w →
      wpAnyL P md ops Q S L fuel (listed.setIfInBounds i true) (a.put oi.dst v) w → wpAnyL P md ops Q S L (fuel + 1) listed a w := by
  intro fuel
  induction fuel with
  | zero =>
    intro listed a w _ _ hr hy hS H
    refine ⟨fun h => (by rw [h] at hr; cases hr), fun j hj => ?_⟩
    by_cases hji : j = i
    · subst hji; exact hy.wpOp hi hS ⟨fun _ => hS, H⟩
    · have := ready_mono hj hji
      rw [H.1] at this
      cases this
  | succ fuel ih =>
    intro listed a w hcl hfree hr hy hS H
    refine ⟨fun h => (by rw [h] at hr; cases hr), fun j hj => ?_⟩
    by_cases hji : j = i
    · subst hji; exact hy.wpOp hi hS ⟨fun _ => hS, H⟩
    · have hjL : j ≠ L := fun e => by subst e; exact hiL (last2B_spec hlast hcl hj hr)
      have h1 := H.2 j (ready_mono hj hji)
      obtain ⟨hjun, oj, hoj, hall⟩ := mem_ready.1 hj
      have hnot : ∀ e ∈ oj.after, Region.binds md e = true → e.on ≠ i := fun e he hb heq => by
        have h1 := hall e he hb
        have h0 := (mem_ready.1 hr).1
        rw [heq] at h1
        rcases Nat.lt_or_ge i listed.size with h' | h'
        · simp [h'] at h0 h1; rw [h0] at h1; cases h1
        · simp [Array.getElem?_eq_none h'] at h1
      have h2 := wpOp_putIf hoj (hfree j oj hoj hji hjun hnot) (fun cs b => hsel i oi cs b hi) (fun cs b => hsel j oj cs b hoj) hQ hy h1
      have hfree' : ∀ k ok, ops[k]? = some ok → k ≠ i → (listed.setIfInBounds j true).getD k true = false →
          (∀ e ∈ ok.after, Region.binds md e = true → e.on ≠ i) → oi.apart ops ok = true := fun k ok hk hki hun hno => by
        refine hfree k ok hk hki ?_ hno
        by_cases hjk : j = k
        · subst hjk; exact hjun
        · rw [getD_set_ne true hjk] at hun; exact hun
      refine wpOp_mono (fun a' w' h3 => ⟨h3.2.1, ih (listed.setIfInBounds j true) a' w' (closed_set hcl hj) hfree' (ready_mono hr (Ne.symm hji)) h3.1 (h3.2.1 hjL) ?_⟩) h2
      rw [Array.setIfInBounds_comm _ _ hji]
      exact h3.2.2

theorem wpAnyC_of_seq {C : World → Prop} (hlast : last2B md ops L = true) (hs : Region.noSelect ops = true) (hQ : ∀ c d v a w, Q (.panic c) (Act.put a d v) w → Q (.panic c) a w) {E : Act → World → Prop} : ∀ (ord : List (Nat × Bool)) (listed listed' : Array Bool) (a : Act) (w : World), Closed md ops listed → (ord ≠ [] → C w) →
    seqBL md ops L ord listed = some listed' → Region.ready md ops listed' = [] → (∀ a w, E a w → Q .normal a w) → seqRunL P ops C L Q E ord a w → wpAnyL P md ops Q C L ord.length listed a w
  | [], listed, listed', a, w, _, hC, hB, hr, hE, h => by
    cases hB
    exact ⟨hr, hE _ _ h⟩
  | (i, true) :: rest, listed, listed', a, w, hcl, hC, hB, hr, hE, h => by
    simp only [seqBL] at hB
    split at hB
    · rename_i hc
      rw [Bool.and_eq_true] at hc
      obtain ⟨hiL, o, ho, v, hy, hh⟩ := h
      have hC := hC (by simp)
      exact wpAnyC_first hlast ho hiL (Region.noSelect_spec hs) (fun c a w hq => hQ c _ _ a w hq) _ listed a w hcl (Region.free_spec ho hc.2) (by simpa using hc.1) hy hC (wpAnyC_of_seq hlast hs hQ rest _ listed' _ w (closed_set hcl (by simpa using hc.1)) (fun _ => hC) hB hr hE hh)
    · cases hB
  | (i, false) :: rest, listed, listed', a, w, hcl, hC, hB, hr, hE, h => by
    simp only [seqBL] at hB
    split at hB
    · rename_i hc
      refine ⟨fun e => (by rw [e] at hc; cases hc.1), ?_⟩
      rw [hc.1]
      intro j hj
      obtain rfl : j = i := by simpa using hj
      exact wpOp_mono (fun a' w' hh => ⟨hh.1, wpAnyC_of_seq hlast hs hQ rest _ listed' a' w' (closed_set hcl (by rw [hc.1]; simp)) (fun hne => hh.1 (fun e => hne (hc.2 e))) hB hr hE hh.2⟩) h
    · cases hB

/-- THE BEGINNING. -/
theorem wp_region_seqC {id : Nat} {a : Act} {w : World} {l : List Oper} (L : Nat) (C : World → Prop) (ord : List (Nat × Bool)) (hm : P.follows .mixedOrders = true)
    (hB : (last2B .any l.toArray L && (Region.noSelect l.toArray && decide (ord.length = l.length) && (match seqBL .any l.toArray L ord (Array.replicate l.length false) with | some listed => (Region.ready .any l.toArray listed).isEmpty | none => false))) = true)
    (hQ : ∀ c d v a w, Q (.panic c) (Act.put a d v) w → Q (.panic c) a w) (hC : C w.drew)
    (h : seqRunL P l.toArray C L Q (fun a w => Q .normal a w) ord a w.drew) : (Code.region id l.toArray true).wp P Q a w := by
  simp only [Bool.and_eq_true, decide_eq_true_eq] at hB
  obtain ⟨hl1, ⟨hs, hl⟩, hB⟩ := hB
  split at hB
  · rename_i listed hsq
    refine wp_region_any hm (wpAny_of_L (S := C) (L := L) _ _ _ _ ?_)
    have := wpAnyC_of_seq (md := .any) (P := P) hl1 hs hQ ord _ listed a w.drew (closed_start _ _ _) (fun _ => hC) hsq (by simpa using hB) (fun a w hq => hq) h
    rw [hl] at this
    simpa using this
  · cases hB

end
end Go.Proofs.YtefehgdckmajiaaGreatDoor

namespace Go.Proofs.YtefehgdckmajiaaGreatDoor
open Go.RowKit

/-- One block is as in W. -/
def KeepK (k : Nat) (W w' : World) : Prop := w'.heap[k]? = W.heap[k]?
theorem KeepK.refl (k : Nat) (W : World) : KeepK k W W := rfl
theorem KeepK.drew {k : Nat} {W w' : World} (h : KeepK k W w') : KeepK k W w'.drew := h
theorem KeepK.below {k B : Nat} {W w1 w2 : World} (h : KeepK k W w1) (hb : Below B w1 w2) (hk : k < B) : KeepK k W w2 := (hb.block k hk).trans h
theorem KeepK.setCell {k : Nat} {W w' : World} (h : KeepK k W w') {p : Addr} (hp : k ≠ p.block) (u : Value) : KeepK k W (w'.setCell p u) := (Below.heap_setCell _ _ _ _ hp).trans h
theorem KeepK.grown {k : Nat} {W w1 w2 : World} {row : Option Nat} (h : KeepK k W w1) (hg : w1.grownBy w2 row) (hk : k < w1.heap.size) (hne : some k ≠ row) : KeepK k W w2 := (hg.block k hk hne).trans h
def SinceK (k : Nat) (W : World) : Type := { w' : World // KeepK k W w' }
instance {k : Nat} {W : World} : Nonempty (SinceK k W) := ⟨⟨W, rfl⟩⟩
def SinceK.world {k : Nat} {W : World} (x : SinceK k W) : World := x.1
theorem SinceK.cell {k : Nat} {W : World} {o : Nat} {v : Option Value} (hv : W.cell? ⟨k, o, none⟩ = v) : ∀ x : SinceK k W, x.world.cell? ⟨k, o, none⟩ = v := fun x => by
  rw [← hv]
  exact World.cell?_of_block (w := W) (a := ⟨k, o, none⟩) x.2
theorem sincek {k : Nat} {W w' : World} (h : KeepK k W w') : ∃ x : SinceK k W, w' = x.world := ⟨⟨w', h⟩, rfl⟩
end Go.Proofs.YtefehgdckmajiaaGreatDoor
