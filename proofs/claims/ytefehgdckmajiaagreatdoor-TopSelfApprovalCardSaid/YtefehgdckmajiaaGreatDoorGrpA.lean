/-
  Region RegionIn RegionL Kit Sl KeptY RF.
-/
import Derived.OrdersHeld
import Derived.BigQuiet
import Derived.WalkKit
import Derived.OrdersIn
import Derived.RangeFuncCalls
import Derived.TacticsIn
import Derived.WalkSpells
import Derived.WalkLawsBesides
import Derived.Laws.BytesArg
import Derived.ShutString
import Derived.RangeFuncNested
import Derived.RangeFuncBound
import Derived.RangeFuncLeaves
import Derived.Shelf.Abstract
import Derived.OwnWalkIn
import Derived.TacticsInMore
import Derived.LoopNIn
import Derived.LoopIn
namespace Go.Proofs.YtefehgdckmajiaaGreatDoor
open Go.RowKit

/-- An operation of a kind that yields a value or halts, and calls no Go function. -/
def floatB (o : Oper) : Bool :=
  match o.op with
  | .move _ | .pick .. | .build .. | .load .. | .binOp .. | .unOp .. | .convert .. | .makeInterface .. | .slice .. | .fieldAddr .. | .field .. | .indexAddr .. | .index .. | .extract .. | .lookup .. | .nilCheck _ => true
  | .call c => match c.callee with
    | .builtin .len => true
    | .builtin .cap => true
    | _ => false
  | _ => false

theorem value_of_map {P : Program} {s : Sem Value} {w w' : World} {u : Next} (h : (do let x ← s; pure (Next.value x) : Sem Next).run P w = .ok u w') : ∃ v, u = .value v := by
  rw [Sem.run_bind] at h
  cases hs : s.run P w with
  | ok v w1 => rw [hs] at h; simp only [Result.andThen_ok, Sem.run_pure, Result.ok.injEq] at h; exact ⟨v, h.1.symm⟩
  | halt x w1 => rw [hs] at h; simp [Result.andThen] at h

theorem value_of_float {P : Program} {o : Oper} (hf : floatB o = true) {ρ : Operand → Value} {w w' : World} {u : Next} (h : (execOp ρ o).run P w = .ok u w') : ∃ v, u = .value v := by
  unfold floatB at hf
  unfold execOp at h
  split at hf <;> rename_i ho
  all_goals first
    | (cases hf; done)
    | (rw [ho] at h; exact value_of_map h)
    | (rw [ho] at h; simp only [Sem.run_pure, Result.ok.injEq] at h; exact ⟨_, h.1.symm⟩)
    | skip
  · rw [ho] at h
    simp only [Sem.run_bind] at h
    generalize Sem.run P (asBool _) w = r at h
    cases r with
    | ok v w1 => simp only [Result.andThen_ok, Sem.run_pure, Result.ok.injEq] at h; exact ⟨_, h.1.symm⟩
    | halt x w1 => simp [Result.andThen] at h
  · rw [ho] at h
    simp only at h
    split at h
    all_goals first
      | (simp only [Sem.run_pure, Result.ok.injEq] at h; exact ⟨_, h.1.symm⟩)
      | (cases h; done)
      | (split at h
         all_goals first
           | (simp only [Sem.run_pure, Result.ok.injEq] at h; exact ⟨_, h.1.symm⟩)
           | (cases h; done)
           | (simp only [Sem.run_bind] at h
              generalize Sem.run _ program w = r at h
              cases r with
              | halt x w1 => simp [Result.andThen] at h
              | ok v w1 =>
                simp only [Result.andThen_ok] at h
                generalize Sem.run _ (nilAhead _ _ _ _) w1 = r at h
                cases r with
                | halt x w2 => simp [Result.andThen] at h
                | ok v w2 =>
                  simp only [Result.andThen_ok] at h
                  split at h
                  · simp only [Sem.run_bind] at h
                    generalize Sem.run _ (unsupported _) w2 = r at h
                    cases r with
                    | ok v w3 => simp only [Result.andThen_ok, Sem.run_pure, Result.ok.injEq] at h; exact ⟨_, h.1.symm⟩
                    | halt x w3 => simp [Result.andThen] at h
                  · simp only [Sem.run_pure, Result.ok.injEq] at h
                    exact ⟨_, h.1.symm⟩))
  · rw [ho] at h
    simp only at h
    split at hf
    · rename_i hc
      simp only [resolve, hc, Sem.run_bind, Sem.run_pure, Result.andThen_ok, invoke, builtin] at h
      exact value_of_map (s := Builtin.len_ _ _ _) (by rw [Sem.run_bind]; exact h)
    · rename_i hc
      simp only [resolve, hc, Sem.run_bind, Sem.run_pure, Result.andThen_ok, invoke, builtin] at h
      exact value_of_map (s := Builtin.cap_ _ _ _) (by rw [Sem.run_bind]; exact h)
    · cases hf

section
variable {P : Program} {ops : Array Oper} {Q : Exit → Act → World → Prop} {md : Region.Mode} {C : World → Prop}

theorem yieldsIf_of_quiet {o : Oper} {a : Act} {K : Act → Prop} (hf : floatB o = true) (hw : Region.wanted o (yielded ops a.tmps) = true) (h : o.quiet P a C K) : ∃ v, YieldsIf P ops C o v a ∧ K (a.put o.dst v) := by
  obtain ⟨v, h1, h2⟩ := h
  refine ⟨v, .inl ⟨hw, fun w hCw => ?_⟩, h2⟩
  have h3 := h1 w hCw
  unfold Oper.quietAt at h3
  cases hr : (execOp a.eval o).run P w with
  | ok u w' =>
    obtain ⟨v', rfl⟩ := value_of_float hf hr
    rw [hr] at h3
    obtain ⟨rfl, rfl⟩ := h3
    rfl
  | halt x w' => rw [hr] at h3; exact h3.elim

/-- The region in one order: each operation by its number; 'true': it only reads. -/
def seqRun (P : Program) (ops : Array Oper) (C : World → Prop) (Q : Exit → Act → World → Prop) (E : Act → World → Prop) : List (Nat × Bool) → Act → World → Prop
  | [], a, w => E a w
  | (i, true) :: rest, a, w => ∃ o, ops[i]? = some o ∧ ∃ v, YieldsIf P ops C o v a ∧ seqRun P ops C Q E rest (a.put o.dst v) w
  | (i, false) :: rest, a, w => wpOp P ops Q i (fun a' w' => C w' ∧ seqRun P ops C Q E rest a' w') a w

/-- May the region be walked in this order? -/
def seqB (md : Region.Mode) (ops : Array Oper) : List (Nat × Bool) → Array Bool → Option (Array Bool)
  | [], listed => some listed
  | (i, true) :: rest, listed => if (Region.ready md ops listed).contains i && Region.free md ops listed i then seqB md ops rest (listed.setIfInBounds i true) else none
  | (i, false) :: rest, listed => if Region.ready md ops listed = [i] then seqB md ops rest (listed.setIfInBounds i true) else none

theorem wpAnyH_of_seq (hs : Region.noSelect ops = true) (hQ : ∀ c d v a w, Q (.panic c) (Act.put a d v) w → Q (.panic c) a w) {fuel : Nat} {E : Act → World → Prop} : ∀ (ord : List (Nat × Bool)) (listed listed' : Array Bool) (a : Act) (w : World), C w →
    seqB md ops ord listed = some listed' → (∀ a w, C w → E a w → wpAnyH P md ops Q C fuel listed' a w) → seqRun P ops C Q E ord a w → wpAnyH P md ops Q C (ord.length + fuel) listed a w
  | [], listed, listed', a, w, hC, hB, hE, h => by
    cases hB
    rw [List.length_nil, Nat.zero_add]
    exact hE a w hC h
  | (i, true) :: rest, listed, listed', a, w, hC, hB, hE, h => by
    simp only [seqB] at hB
    split at hB
    · rename_i hc
      rw [Bool.and_eq_true] at hc
      obtain ⟨o, ho, v, hy, hr⟩ := h
      rw [show ((i, true) :: rest).length + fuel = rest.length + fuel + 1 by simp only [List.length_cons]; omega]
      exact wpAnyH_take ho hs hc.2 hc.1 (fun c a w hq => hQ c _ _ a w hq) hy hC (wpAnyH_of_seq hs hQ rest _ listed' _ w hC hB hE hr)
    · cases hB
  | (i, false) :: rest, listed, listed', a, w, hC, hB, hE, h => by
    simp only [seqB] at hB
    split at hB
    · rename_i hc
      rw [show ((i, false) :: rest).length + fuel = rest.length + fuel + 1 by simp only [List.length_cons]; omega]
      refine wpAnyH_all hc (by simp) (fun j hj => ?_)
      obtain rfl : j = i := by simpa using hj
      exact wpOp_mono (fun a' w' hh => ⟨hh.1, wpAnyH_of_seq hs hQ rest _ listed' a' w' hh.1 hB hE hh.2⟩) h
    · cases hB

/-- THE BEGINNING. 'hB': the order may be walked and is whole. -/
theorem wp_region_seq {id : Nat} {a : Act} {w : World} {l : List Oper} (C : World → Prop) (ord : List (Nat × Bool)) (hm : P.follows .mixedOrders = true)
    (hB : (Region.noSelect l.toArray && decide (ord.length = l.length) && (match seqB .any l.toArray ord (Array.replicate l.length false) with | some listed => (Region.ready .any l.toArray listed).isEmpty | none => false)) = true)
    (hQ : ∀ c d v a w, Q (.panic c) (Act.put a d v) w → Q (.panic c) a w) (hC : C w.drew)
    (h : seqRun P l.toArray C Q (fun a w => Q .normal a w) ord a w.drew) : (Code.region id l.toArray true).wp P Q a w := by
  simp only [Bool.and_eq_true, decide_eq_true_eq] at hB
  obtain ⟨⟨hs, hl⟩, hB⟩ := hB
  split at hB
  · rename_i listed hsq
    refine wp_region_held (S := C) hm ?_
    have := wpAnyH_of_seq (md := .any) (P := P) (fuel := 0) hs hQ ord _ listed a w.drew hC hsq (fun a w _ hq => ⟨by simpa using hB, hq⟩) h
    rw [hl] at this
    simpa using this
  · cases hB

/-- The same where, behind some reads, one of two may come up (a call and an alloc): each is walked. -/
theorem wp_region_two {id : Nat} {a : Act} {w : World} {l : List Oper} (C : World → Prop) (ord : List (Nat × Bool)) (i j : Nat) (ordi ordj : List (Nat × Bool)) (hm : P.follows .mixedOrders = true)
    (hB : (Region.noSelect l.toArray && decide (ord.length + 1 + ordi.length = l.length) && decide (ordi.length = ordj.length) && (match seqB .any l.toArray ord (Array.replicate l.length false) with
      | some listed => decide (Region.ready .any l.toArray listed = [i, j]) &&
        (match seqB .any l.toArray ordi (listed.setIfInBounds i true) with | some l1 => (Region.ready .any l.toArray l1).isEmpty | none => false) &&
        (match seqB .any l.toArray ordj (listed.setIfInBounds j true) with | some l1 => (Region.ready .any l.toArray l1).isEmpty | none => false)
      | none => false)) = true)
    (hQ : ∀ c d v a w, Q (.panic c) (Act.put a d v) w → Q (.panic c) a w) (hC : C w.drew)
    (h : seqRun P l.toArray C Q (fun a w => seqRun P l.toArray C Q (fun a w => Q .normal a w) ((i, false) :: ordi) a w ∧ seqRun P l.toArray C Q (fun a w => Q .normal a w) ((j, false) :: ordj) a w) ord a w.drew) : (Code.region id l.toArray true).wp P Q a w := by
  simp only [Bool.and_eq_true, decide_eq_true_eq] at hB
  obtain ⟨⟨⟨hs, hl⟩, hl2⟩, hB⟩ := hB
  split at hB
  · rename_i listed hsq
    simp only [Bool.and_eq_true, decide_eq_true_eq] at hB
    obtain ⟨⟨hr, hi⟩, hj⟩ := hB
    refine wp_region_held (S := C) hm ?_
    have := wpAnyH_of_seq (md := .any) (P := P) (fuel := ordi.length + 1) hs hQ ord _ listed a w.drew hC hsq (fun a w _ hq => ?_) h
    · rw [show ord.length + (ordi.length + 1) = l.length by omega] at this
      simpa using this
    · refine wpAnyH_all hr (by simp) (fun k hk => ?_)
      have hk' : k = i ∨ k = j := by simpa using hk
      rcases hk' with rfl | rfl
      · split at hi
        · rename_i l1 h1
          exact wpOp_mono (fun a' w' hh => ⟨hh.1, wpAnyH_of_seq (fuel := 0) hs hQ ordi _ l1 a' w' hh.1 h1 (fun a w _ hq => ⟨by simpa using hi, hq⟩) hh.2⟩) hq.1
        · cases hi
      · split at hj
        · rename_i l1 h1
          rw [hl2]
          exact wpOp_mono (fun a' w' hh => ⟨hh.1, wpAnyH_of_seq (fuel := 0) hs hQ ordj _ l1 a' w' hh.1 h1 (fun a w _ hq => ⟨by simpa using hj, hq⟩) hh.2⟩) hq.2
        · cases hj
  · cases hB

/-- A statement behind which the ways meet again: what R says is all that the rest is told. -/
theorem wp_cut {c : Code} {K : Act → World → Prop} {a : Act} {w : World} (R : Act → World → Prop) (hK : ∀ a w, R a w → K a w) (h : c.wp P (Exit.then R Q) a w) : c.wp P (Exit.then K Q) a w :=
  Code.wp_mono (fun e a w q => by cases e <;> first | exact hK _ _ q | exact q) h

/-- The end. -/
theorem seq_nil {E : Act → World → Prop} {a : Act} {w : World} (h : E a w) : seqRun P ops C Q E [] a w := h
/-- One operation that only reads. -/
theorem seq_float {i : Nat} {o : Oper} {l : List Oper} {rest : List (Nat × Bool)} {E : Act → World → Prop} {a : Act} {w : World} (hi : l[i]? = some o) (hf : floatB o = true) (hw : Region.wanted o (yielded l.toArray a.tmps) = true)
    (h : ∀ K : Act → Prop, (∀ a, seqRun P l.toArray C Q E rest a w → K a) → o.quiet P a C K) : seqRun P l.toArray C Q E ((i, true) :: rest) a w := by
  obtain ⟨v, hy, hk⟩ := yieldsIf_of_quiet hf hw (h _ (fun _ h => h))
  exact ⟨o, by simpa using hi, v, hy, hk⟩
/-- One operation that is passed over. -/
theorem seq_skip {i : Nat} {o : Oper} {l : List Oper} {rest : List (Nat × Bool)} {E : Act → World → Prop} {a : Act} {w : World} (hi : l[i]? = some o) (hw : Region.wanted o (yielded l.toArray a.tmps) = false)
    (h : seqRun P l.toArray C Q E rest (a.put o.dst undef) w) : seqRun P l.toArray C Q E ((i, true) :: rest) a w :=
  ⟨o, by simpa using hi, undef, .inr ⟨hw, rfl⟩, h⟩
/-- One operation that does more: as a list of one. -/
theorem seq_chain {i : Nat} {o : Oper} {l : List Oper} {rest : List (Nat × Bool)} {E : Act → World → Prop} {a : Act} {w : World} (hi : l[i]? = some o)
    (h : ∀ K : Act → World → Prop, Hid (∀ a w, C w → seqRun P l.toArray C Q E rest a w → K a w) → wpList P l.toArray (Exit.then K Q) [o] a w) : seqRun P l.toArray C Q E ((i, false) :: rest) a w := by
  have h1 := h (fun a' w' => C w' ∧ seqRun P l.toArray C Q E rest a' w') (fun _ _ hC hs => ⟨hC, hs⟩)
  have hi' : l.toArray[i]? = some o := by simpa using hi
  unfold seqRun wpOp
  simp only [hi']
  unfold wpList at h1
  split
  · rename_i hw
    rw [if_pos hw] at h1
    refine h1.imp ?_ (fun ⟨h2, b, v, h3⟩ => ⟨h2, b, v, h3⟩)
    intro h2
    unfold Oper.wp at *
    generalize (execOp a.eval o).run P w = r at *
    cases r with
    | ok n w' =>
      cases n <;> simp only [Oper.upon] at h2 ⊢ <;>
        first
          | exact h2
          | exact Calls.mono h2 (fun e w'' he => by cases e <;> exact he)
          | exact Rows.mono h2 (fun _ _ he => he)
    | halt x w' => cases x <;> simp only [Oper.upon] at h2 ⊢ <;> exact h2
  · rename_i hw
    rw [if_neg hw] at h1
    exact h1
end

theorem bc {B : Nat} {W w1 : World} (hb : Below B W w1) {b : Nat} (h : b < B) (o : Nat) : w1.cell? ⟨b, o, none⟩ = W.cell? ⟨b, o, none⟩ := hb.cell (p := ⟨b, o, none⟩) h
theorem bf {B : Nat} {W w1 : World} (hb : Below B W w1) {b : Nat} (h : b < B) (o : Nat) : w1.frozen? ⟨b, o, none⟩ = W.frozen? ⟨b, o, none⟩ := hb.frozen (p := ⟨b, o, none⟩) h
theorem ba (w : World) (o : Obj) : Below w.heap.size w (w.alloc o) := (Below.refl _ _).alloc (Nat.le_refl _) o
/-- A world that is as W below block number B. -/
def Since (B : Nat) (W : World) : Type := { w' : World // Below B W w' }
instance {B : Nat} {W : World} : Nonempty (Since B W) := ⟨⟨W, Below.refl _ _⟩⟩
def Since.world {B : Nat} {W : World} (x : Since B W) : World := x.1
@[simp, go_sem] theorem Since.cell {B : Nat} {W : World} (x : Since B W) (b o : Nat) (h : b < B) : x.world.cell? ⟨b, o, none⟩ = W.cell? ⟨b, o, none⟩ := x.2.cell (p := ⟨b, o, none⟩) h
@[simp, go_sem] theorem Since.frozen {B : Nat} {W : World} (x : Since B W) (b o : Nat) (h : b < B) : x.world.frozen? ⟨b, o, none⟩ = W.frozen? ⟨b, o, none⟩ := x.2.frozen (p := ⟨b, o, none⟩) h
theorem since {B : Nat} {W w' : World} (h : Below B W w') : ∃ x : Since B W, w' = x.world := ⟨⟨w', h⟩, rfl⟩

/-- The blocks below number B are as in W, all but block X. -/
def KeptX (B X : Nat) (W w' : World) : Prop := ∀ k, k < B → k ≠ X → w'.heap[k]? = W.heap[k]?
theorem KeptX.refl (B X : Nat) (W : World) : KeptX B X W W := fun _ _ _ => rfl
theorem KeptX.drew {B X : Nat} {W w' : World} (h : KeptX B X W w') : KeptX B X W w'.drew := h
theorem KeptX.below {B X : Nat} {W w1 w2 : World} (h : KeptX B X W w1) (hb : Below B w1 w2) : KeptX B X W w2 := fun k hk hx => (hb.block k hk).trans (h k hk hx)
theorem KeptX.alloc {B X : Nat} {W w' : World} (h : KeptX B X W w') (hB : B ≤ w'.heap.size) (o : Obj) : KeptX B X W (w'.alloc o) := h.below ((Below.refl _ _).alloc hB o)
theorem KeptX.setCell {B X : Nat} {W w' : World} (h : KeptX B X W w') {p : Addr} (hp : p.block = X ∨ B ≤ p.block) (u : Value) : KeptX B X W (w'.setCell p u) := fun k hk hx =>
  (Below.heap_setCell _ _ _ _ (by omega)).trans (h k hk hx)
def SinceX (B X : Nat) (W : World) : Type := { w' : World // KeptX B X W w' }
instance {B X : Nat} {W : World} : Nonempty (SinceX B X W) := ⟨⟨W, KeptX.refl _ _ _⟩⟩
def SinceX.world {B X : Nat} {W : World} (x : SinceX B X W) : World := x.1
theorem SinceX.cell {B X : Nat} {W : World} (b o : Nat) (h : b < B) (hx : b ≠ X) {v : Option Value} (hv : W.cell? ⟨b, o, none⟩ = v) : ∀ x : SinceX B X W, x.world.cell? ⟨b, o, none⟩ = v := fun x => by
  rw [← hv]
  exact World.cell?_of_block (w := W) (a := ⟨b, o, none⟩) (x.2 b h hx)
theorem sincex {B X : Nat} {W w' : World} (h : KeptX B X W w') : ∃ x : SinceX B X W, w' = x.world := ⟨⟨w', h⟩, rfl⟩
end Go.Proofs.YtefehgdckmajiaaGreatDoor

namespace Go.Proofs.YtefehgdckmajiaaGreatDoor
open Go.RowKit

def noDefer (ops : Array Oper) : Bool := ops.all fun o => match o.op with | .defer _ => false | _ => true
theorem noDefer_spec {ops : Array Oper} (h : noDefer ops = true) {i : Nat} {o : Oper} (hi : ops[i]? = some o) : ∀ c, o.op ≠ .defer c := by
  intro c hc
  unfold noDefer at h
  rw [Array.all_eq_true_iff_forall_mem] at h
  have := h o (Array.mem_of_getElem? hi)
  rw [hc] at this
  cases this

theorem rows_wide {n r : Nat} {P : Program} {row : String} {args : Array Value} {w : World} {R : Value → World → Prop} (h : Rows P row args w R) : RowsIn (Fence.wide.inRound r) n P row args w R :=
  fun c cs _ => let ⟨v, w', hr, hs⟩ := h c cs; ⟨v, w', hr, stepsIn_wide.2 hs⟩

/-- At its end alone. -/
def Ends (Q : Exit → Act → World → Prop) : Exit → Act → World → Prop := fun e a w => e = .normal ∧ Q e a w

section
variable {P : Program} {ops : Array Oper} {Q : Exit → Act → World → Prop} {r n : Nat}
theorem wpOpIn_of {i : Nat} {K : Act → World → Prop} {a : Act} {w : World} (hd : noDefer ops = true) (h : wpOp P ops (Ends Q) i K a w) : wpOpIn (Fence.wide.inRound r) n P ops Q i K a w := by
  unfold wpOp at h
  unfold wpOpIn
  split
  · rename_i hi
    simpa only [hi] using h
  · rename_i o hi
    simp only [hi] at h
    split
    · rename_i hw
      rw [if_pos hw] at h
      rcases h with h | ⟨_, _, _, h, _⟩
      · unfold Oper.wp at h
        refine ⟨fun _ _ => trivial, ?_⟩
        rw [Fence.inRound_round, Oper.semAt_some _ _ _ (noDefer_spec hd hi)]
        generalize (execOp a.eval o).run P w = res at *
        cases res with
        | ok x w' =>
          cases x <;> simp only [Oper.upon, Oper.uponIn] at h ⊢
          case value v => exact h
          case skip => exact h
          case defer d => exact h
          case enter f args =>
            refine ⟨fun h => (by cases h), CallsIn.inRound r (callsIn_wide.2 (Calls.mono h fun e w'' he => ?_))⟩
            cases e with
            | returned v => exact he
            | panicked c => cases he.1
            | outgrown => obtain ⟨_, _, he, _⟩ := he; cases he
          case row row args => exact ⟨fun h => (by cases h), rows_wide h⟩
        | halt x w' =>
          cases x <;> simp only [Oper.upon, Oper.uponIn] at h ⊢
          case panic v => cases h.1
      · cases h
    · rename_i hw
      rw [if_neg hw] at h
      exact ⟨fun _ _ => trivial, h⟩

theorem wpAnyIn_of {md : Region.Mode} (hd : noDefer ops = true) : ∀ (fuel : Nat) (listed : Array Bool) (a : Act) (w : World), wpAny P md ops (Ends Q) fuel listed a w → wpAnyIn (Fence.wide.inRound r) n P md ops Q fuel listed a w
  | 0, _, _, _, h => ⟨h.1, h.2.2⟩
  | fuel + 1, _, _, _, h => ⟨fun e => (h.1 e).2, fun i hi => wpOpIn_mono (fun a' w' h' => wpAnyIn_of hd fuel _ a' w' h') (wpOpIn_of hd (h.2 i hi))⟩

/-- wp_region_seq in a round. -/
theorem wpIn_region_seq {id : Nat} {a : Act} {w : World} {l : List Oper} (C : World → Prop) (ord : List (Nat × Bool)) (hm : P.follows .mixedOrders = true)
    (hB : (noDefer l.toArray && (Region.noSelect l.toArray && decide (ord.length = l.length) && (match seqB .any l.toArray ord (Array.replicate l.length false) with | some listed => (Region.ready .any l.toArray listed).isEmpty | none => false))) = true)
    (hC : C w.drew) (h : seqRun P l.toArray C (Ends Q) (fun a w => Ends Q .normal a w) ord a w.drew) : (Code.region id l.toArray true).wpIn (Fence.wide.inRound r) n P Q a w := by
  simp only [Bool.and_eq_true, decide_eq_true_eq] at hB
  obtain ⟨hd, ⟨hs, hl⟩, hB⟩ := hB
  split at hB
  · rename_i listed hsq
    refine wpIn_region_any hm (wpAnyIn_of hd _ _ _ _ (wpAny_of_held (S := C) _ _ _ _ ?_))
    have := wpAnyH_of_seq (md := .any) (P := P) (fuel := 0) hs (fun c d v a w h => by cases h.1) ord _ listed a w.drew hC hsq (fun a w _ hq => ⟨by simpa using hB, hq⟩) h
    rw [hl] at this
    simpa using this
  · cases hB
end
end Go.Proofs.YtefehgdckmajiaaGreatDoor

namespace Go.Proofs.YtefehgdckmajiaaGreatDoor
open Go.RowKit

section
variable {P : Program} {ops : Array Oper} {Q : Exit → Act → World → Prop} {md : Region.Mode} {S : World → Prop} {L : Nat}

def wpAnyL (P : Program) (md : Region.Mode) (ops : Array Oper) (Q : Exit → Act → World → Prop) (S : World → Prop) (L : Nat) : Nat → Array Bool → Act → World → Prop
  | 0, listed, a, w => Region.ready md ops listed = [] ∧ Q .normal a w
  | fuel + 1, listed, a, w =>
    (Region.ready md ops listed = [] → Q .normal a w) ∧
    ∀ i ∈ Region.ready md ops listed, wpOp P ops Q i (fun a' w' => (i ≠ L → S w') ∧ wpAnyL P md ops Q S L fuel (listed.setIfInBounds i true) a' w') a w

theorem wpAny_of_L : ∀ (fuel : Nat) (listed : Array Bool) (a : Act) (w : World), wpAnyL P md ops Q S L fuel listed a w → wpAny P md ops Q fuel listed a w
  | 0, _, _, _, h => h
  | fuel + 1, _, _, _, h => ⟨h.1, fun i hi => wpOp_mono (fun a' w' h' => wpAny_of_L fuel _ a' w' h'.2) (h.2 i hi)⟩

/-- L waits for all others. -/
def lastB (md : Region.Mode) (ops : Array Oper) (L : Nat) : Bool :=
  match ops[L]? with
  | some o => (List.range ops.size).all fun k => k == L || o.after.any fun e => Region.binds md e && e.on == k
  | none => false

theorem lastB_spec (h : lastB md ops L = true) {listed : Array Bool} {i : Nat} (hL : L ∈ Region.ready md ops listed) (hi : i ∈ Region.ready md ops listed) : i = L := by
  unfold lastB at h
  split at h
  · rename_i o ho
    rw [List.all_eq_true] at h
    obtain ⟨hiu, oi, hoi, _⟩ := mem_ready.1 hi
    obtain ⟨_, o', ho', hall⟩ := mem_ready.1 hL
    rw [ho] at ho'
    cases ho'
    have hlt : i < ops.size := by
      rcases Nat.lt_or_ge i ops.size with h' | h'
      · exact h'
      · rw [Array.getElem?_eq_none h'] at hoi; cases hoi
    have hk := h i (List.mem_range.2 hlt)
    rw [Bool.or_eq_true] at hk
    rcases hk with hk | hk
    · simpa using hk
    · obtain ⟨e, he, hb⟩ : ∃ e ∈ o.after, (Region.binds md e && e.on == i) = true := by
        obtain ⟨k, hk1, hk2⟩ := Array.any_eq_true.1 hk
        exact ⟨_, Array.getElem_mem hk1, hk2⟩
      rw [Bool.and_eq_true] at hb
      have h1 := hall e he hb.1
      have he2 : e.on = i := by simpa using hb.2
      rw [he2] at h1
      rcases Nat.lt_or_ge i listed.size with h' | h'
      · simp [h'] at hiu h1; rw [hiu] at h1; cases h1
      · simp [Array.getElem?_eq_none h'] at h1
  · cases h

theorem wpAnyL_first (hlast : lastB md ops L = true) {i : Nat} {oi : Oper} {v : Value} (hi : ops[i]? = some oi) (hiL : i ≠ L) (hsel : ∀ (j : Nat) (o : Oper) cs b, ops[j]? = some o → o.op ≠ .select cs b)
    (hQ : ∀ c a w, Q (.panic c) (a.put oi.dst v) w → Q (.panic c) a w) :
    ∀ (fuel : Nat) (listed : Array Bool) (a : Act) (w : World),
      (∀ j oj, ops[j]? = some oj → j ≠ i → listed.getD j true = false → (∀ e ∈ oj.after, Region.binds md e = true → e.on ≠ i) → oi.apart ops oj = true) →
      i ∈ Region.ready md ops listed → YieldsIf P ops S oi v a → S w →
      wpAnyL P md ops Q S L fuel (listed.setIfInBounds i true) (a.put oi.dst v) w → wpAnyL P md ops Q S L (fuel + 1) listed a w := by
  intro fuel
  induction fuel with
  | zero =>
    intro listed a w _ hr hy hS H
    refine ⟨fun h => (by rw [h] at hr; cases hr), fun j hj => ?_⟩
    by_cases hji : j = i
    · subst hji; exact hy.wpOp hi hS ⟨fun _ => hS, H⟩
    · have := ready_mono hj hji
      rw [H.1] at this
      cases this
  | succ fuel ih =>
    intro listed a w hfree hr hy hS H
    refine ⟨fun h => (by rw [h] at hr; cases hr), fun j hj => ?_⟩
    by_cases hji : j = i
    · subst hji; exact hy.wpOp hi hS ⟨fun _ => hS, H⟩
    · have hjL : j ≠ L := fun e => by subst e; exact hiL (lastB_spec hlast hj hr)
      have h1 := H.2 j (ready_mono hj hji)
      obtain ⟨hjun, oj, hoj, hall⟩ := mem_ready.1 hj
      have hnot : ∀ e ∈ oj.after, Region.binds md e = true → e.on ≠ i := fun e he hb heq => by
        have h1 := hall e he hb
        have h0 := (mem_ready.1 hr).1
        rw [heq] at h1
        rcases Nat.lt_or_ge i listed.size with h' | h'
        · simp [h'] at h0 h1; rw [h0] at h1; cases h1
        · simp [Array.getElem?_eq_none h'] at h1
      have h2 := wpOp_putIf hoj (hfree j oj hoj hji hjun hnot) (fun cs b => hsel i oi cs b hi) (fun cs b => hsel j oj cs b hoj) hQ hy h1
      have hfree' : ∀ k ok, ops[k]? = some ok → k ≠ i → (listed.setIfInBounds j true).getD k true = false →
          (∀ e ∈ ok.after, Region.binds md e = true → e.on ≠ i) → oi.apart ops ok = true := fun k ok hk hki hun hno => by
        refine hfree k ok hk hki ?_ hno
        by_cases hjk : j = k
        · subst hjk; exact hjun
        · rw [getD_set_ne true hjk] at hun; exact hun
      refine wpOp_mono (fun a' w' h3 => ⟨h3.2.1, ih (listed.setIfInBounds j true) a' w' hfree' (ready_mono hr (Ne.symm hji)) h3.1 (h3.2.1 hjL) ?_⟩) h2
      rw [Array.setIfInBounds_comm _ _ hji]
      exact h3.2.2

/-- As seqRun; behind operation L the class is not asked. -/
def seqRunL (P : Program) (ops : Array Oper) (C : World → Prop) (L : Nat) (Q : Exit → Act → World → Prop) (E : Act → World → Prop) : List (Nat × Bool) → Act → World → Prop
  | [], a, w => E a w
  | (i, true) :: rest, a, w => i ≠ L ∧ ∃ o, ops[i]? = some o ∧ ∃ v, YieldsIf P ops C o v a ∧ seqRunL P ops C L Q E rest (a.put o.dst v) w
  | (i, false) :: rest, a, w => wpOp P ops Q i (fun a' w' => (i ≠ L → C w') ∧ seqRunL P ops C L Q E rest a' w') a w

/-- May the region be walked in this order? L comes last. -/
def seqBL (md : Region.Mode) (ops : Array Oper) (L : Nat) : List (Nat × Bool) → Array Bool → Option (Array Bool)
  | [], listed => some listed
  | (i, true) :: rest, listed => if (Region.ready md ops listed).contains i && Region.free md ops listed i then seqBL md ops L rest (listed.setIfInBounds i true) else none
  | (i, false) :: rest, listed => if Region.ready md ops listed = [i] ∧ (i = L → rest = []) then seqBL md ops L rest (listed.setIfInBounds i true) else none

theorem wpAnyL_of_seq {C : World → Prop} (hlast : lastB md ops L = true) (hs : Region.noSelect ops = true) (hQ : ∀ c d v a w, Q (.panic c) (Act.put a d v) w → Q (.panic c) a w) {E : Act → World → Prop} : ∀ (ord : List (Nat × Bool)) (listed listed' : Array Bool) (a : Act) (w : World), (ord ≠ [] → C w) →
    seqBL md ops L ord listed = some listed' → Region.ready md ops listed' = [] → (∀ a w, E a w → Q .normal a w) → seqRunL P ops C L Q E ord a w → wpAnyL P md ops Q C L ord.length listed a w
  | [], listed, listed', a, w, hC, hB, hr, hE, h => by
    cases hB
    exact ⟨hr, hE _ _ h⟩
  | (i, true) :: rest, listed, listed', a, w, hC, hB, hr, hE, h => by
    simp only [seqBL] at hB
    split at hB
    · rename_i hc
      rw [Bool.and_eq_true] at hc
      obtain ⟨hiL, o, ho, v, hy, hh⟩ := h
      have hC := hC (by simp)
      exact wpAnyL_first hlast ho hiL (Region.noSelect_spec hs) (fun c a w hq => hQ c _ _ a w hq) _ listed a w (Region.free_spec ho hc.2) (by simpa using hc.1) hy hC (wpAnyL_of_seq hlast hs hQ rest _ listed' _ w (fun _ => hC) hB hr hE hh)
    · cases hB
  | (i, false) :: rest, listed, listed', a, w, hC, hB, hr, hE, h => by
    simp only [seqBL] at hB
    split at hB
    · rename_i hc
      refine ⟨fun e => (by rw [e] at hc; cases hc.1), ?_⟩
      rw [hc.1]
      intro j hj
      obtain rfl : j = i := by simpa using hj
      exact wpOp_mono (fun a' w' hh => ⟨hh.1, wpAnyL_of_seq hlast hs hQ rest _ listed' a' w' (fun hne => hh.1 (fun e => hne (hc.2 e))) hB hr hE hh.2⟩) h
    · cases hB

/-- THE BEGINNING. -/
theorem wp_region_seqL {id : Nat} {a : Act} {w : World} {l : List Oper} (L : Nat) (C : World → Prop) (ord : List (Nat × Bool)) (hm : P.follows .mixedOrders = true)
    (hB : (lastB .any l.toArray L && (Region.noSelect l.toArray && decide (ord.length = l.length) && (match seqBL .any l.toArray L ord (Array.replicate l.length false) with | some listed => (Region.ready .any l.toArray listed).isEmpty | none => false))) = true)
    (hQ : ∀ c d v a w, Q (.panic c) (Act.put a d v) w → Q (.panic c) a w) (hC : C w.drew)
    (h : seqRunL P l.toArray C L Q (fun a w => Q .normal a w) ord a w.drew) : (Code.region id l.toArray true).wp P Q a w := by
  simp only [Bool.and_eq_true, decide_eq_true_eq] at hB
  obtain ⟨hl1, ⟨hs, hl⟩, hB⟩ := hB
  split at hB
  · rename_i listed hsq
    refine wp_region_any hm (wpAny_of_L (S := C) (L := L) _ _ _ _ ?_)
    have := wpAnyL_of_seq (md := .any) (P := P) hl1 hs hQ ord _ listed a w.drew (fun _ => hC) hsq (by simpa using hB) (fun a w hq => hq) h
    rw [hl] at this
    simpa using this
  · cases hB

/-- In a round. -/
theorem wpIn_region_seqL {r n : Nat} {id : Nat} {a : Act} {w : World} {l : List Oper} (L : Nat) (C : World → Prop) (ord : List (Nat × Bool)) (hm : P.follows .mixedOrders = true)
    (hB : (noDefer l.toArray && (lastB .any l.toArray L && (Region.noSelect l.toArray && decide (ord.length = l.length) && (match seqBL .any l.toArray L ord (Array.replicate l.length false) with | some listed => (Region.ready .any l.toArray listed).isEmpty | none => false)))) = true)
    (hC : C w.drew) (h : seqRunL P l.toArray C L (Ends Q) (fun a w => Ends Q .normal a w) ord a w.drew) : (Code.region id l.toArray true).wpIn (Fence.wide.inRound r) n P Q a w := by
  simp only [Bool.and_eq_true, decide_eq_true_eq] at hB
  obtain ⟨hd, hl1, ⟨hs, hl⟩, hB⟩ := hB
  split at hB
  · rename_i listed hsq
    refine wpIn_region_any hm (wpAnyIn_of hd _ _ _ _ (wpAny_of_L (S := C) (L := L) _ _ _ _ ?_))
    have := wpAnyL_of_seq (md := .any) (P := P) hl1 hs (fun c d v a w h => by cases h.1) ord _ listed a w.drew (fun _ => hC) hsq (by simpa using hB) (fun a w hq => hq) h
    rw [hl] at this
    simpa using this
  · cases hB

variable {C : World → Prop}
theorem seqL_nil {E : Act → World → Prop} {a : Act} {w : World} (h : E a w) : seqRunL P ops C L Q E [] a w := h
theorem seqL_float {i : Nat} {o : Oper} {l : List Oper} {rest : List (Nat × Bool)} {E : Act → World → Prop} {a : Act} {w : World} (hiL : Nat.beq i L = false) (hi : l[i]? = some o) (hf : floatB o = true) (hw : Region.wanted o (yielded l.toArray a.tmps) = true)
    (h : ∀ K : Act → Prop, (∀ a, seqRunL P l.toArray C L Q E rest a w → K a) → o.quiet P a C K) : seqRunL P l.toArray C L Q E ((i, true) :: rest) a w := by
  obtain ⟨v, hy, hk⟩ := yieldsIf_of_quiet hf hw (h _ (fun _ h => h))
  exact ⟨fun e => by subst e; simp at hiL, o, by simpa using hi, v, hy, hk⟩
theorem seqL_skip {i : Nat} {o : Oper} {l : List Oper} {rest : List (Nat × Bool)} {E : Act → World → Prop} {a : Act} {w : World} (hiL : Nat.beq i L = false) (hi : l[i]? = some o) (hw : Region.wanted o (yielded l.toArray a.tmps) = false)
    (h : seqRunL P l.toArray C L Q E rest (a.put o.dst undef) w) : seqRunL P l.toArray C L Q E ((i, true) :: rest) a w :=
  ⟨fun e => by subst e; simp at hiL, o, by simpa using hi, undef, .inr ⟨hw, rfl⟩, h⟩

theorem wpOp_of_list {i : Nat} {o : Oper} {l : List Oper} {a : Act} {w : World} {K : Act → World → Prop} (hi : l[i]? = some o) (h1 : wpList P l.toArray (Exit.then K Q) [o] a w) : wpOp P l.toArray Q i K a w := by
  have hi' : l.toArray[i]? = some o := by simpa using hi
  unfold wpOp
  simp only [hi']
  unfold wpList at h1
  split
  · rename_i hw
    rw [if_pos hw] at h1
    refine h1.imp ?_ (fun ⟨h2, b, v, h3⟩ => ⟨h2, b, v, h3⟩)
    intro h2
    unfold Oper.wp at *
    generalize (execOp a.eval o).run P w = r at *
    cases r with
    | ok n w' =>
      cases n <;> simp only [Oper.upon] at h2 ⊢ <;>
        first
          | exact h2
          | exact Calls.mono h2 (fun e w'' he => by cases e <;> exact he)
          | exact Rows.mono h2 (fun _ _ he => he)
    | halt x w' => cases x <;> simp only [Oper.upon] at h2 ⊢ <;> exact h2
  · rename_i hw
    rw [if_neg hw] at h1
    exact h1

theorem seqL_chain {i : Nat} {o : Oper} {l : List Oper} {rest : List (Nat × Bool)} {E : Act → World → Prop} {a : Act} {w : World} (hi : l[i]? = some o)
    (h : ∀ K : Act → World → Prop, Hid (∀ a w, C w → seqRunL P l.toArray C L Q E rest a w → K a w) → wpList P l.toArray (Exit.then K Q) [o] a w) : seqRunL P l.toArray C L Q E ((i, false) :: rest) a w :=
  wpOp_of_list hi (h (fun a' w' => (i ≠ L → C w') ∧ seqRunL P l.toArray C L Q E rest a' w') (fun _ _ hC hs => ⟨fun _ => hC, hs⟩))
/-- The last operation. -/
theorem seqL_last {i : Nat} {o : Oper} {l : List Oper} {E : Act → World → Prop} {a : Act} {w : World} (hiL : Nat.beq i L = true) (hi : l[i]? = some o)
    (h : ∀ K : Act → World → Prop, Hid (∀ a w, E a w → K a w) → wpList P l.toArray (Exit.then K Q) [o] a w) : seqRunL P l.toArray C L Q E [(i, false)] a w :=
  wpOp_of_list hi (h (fun a' w' => (i ≠ L → C w') ∧ seqRunL P l.toArray C L Q E [] a' w') (fun _ _ hs => ⟨fun hne => absurd (Nat.eq_of_beq_eq_true hiL) hne, hs⟩))
end
end Go.Proofs.YtefehgdckmajiaaGreatDoor

namespace Go.Proofs.YtefehgdckmajiaaGreatDoor
open Go.RowKit

theorem lid {p : Prop} (h : p) : Hid p := h

theorem ret_i64 {a b : Int} (h : a = b) : Ending.returned (.int .i64 a) = .returned (.int .i64 b) := by rw [h]
/-- What was owned is owned by whatever base is smaller. -/
theorem ownsRow_base {w : World} {base base' : Nat} {e : TypeId} {size : Nat} {v : Value} {n : Nat} {xs : List Value} (h : w.ownsRow base e size v n xs) (hb : base' ≤ base) : w.ownsRow base' e size v n xs := by
  obtain ⟨h1, h2⟩ := h
  refine ⟨h1, h2.imp id ?_⟩
  rintro ⟨g, cap, cur, e1, e2, e3⟩
  exact ⟨g, cap, cur, e1, by omega, e3⟩

theorem ownsRow_row {w : World} {base : Nat} {e : TypeId} {size : Nat} {v : Value} {n : Nat} {xs : List Value} (h : w.ownsRow base e size v n xs) : ∀ k, v.ownBlock = some k → base ≤ k :=
  fun k hk => (h.lt k hk).1

/-- What is owned stays owned where all blocks that stand stay. -/
theorem ownsRow_below {w w' : World} {base : Nat} {e : TypeId} {size : Nat} {v : Value} {n : Nat} {xs : List Value} (h : w.ownsRow base e size v n xs) (hb : Below w.heap.size w w') : w'.ownsRow base e size v n xs := by
  obtain ⟨h1, h2⟩ := h
  refine ⟨h1, h2.imp id ?_⟩
  rintro ⟨g, cap, cur, e1, e2, e3, e4⟩
  refine ⟨g, cap, cur, e1, e2, ?_, e4⟩
  have hg : g < w.heap.size := by
    rcases Nat.lt_or_ge g w.heap.size with h | h
    · exact h
    · simp [Array.getElem?_eq_none h] at e3
  rw [hb.block g hg]
  exact e3

/-- '[]T{}': a new empty block. -/
theorem ownsRow_empty {w : World} {e : TypeId} {size : Nat} {base g : Nat} (hg : w.heap.size = g) (hb : base ≤ g) : (w.alloc (.cells #[] e)).ownsRow base e size (.slice (some ⟨g, 0, none⟩) 0 0) 0 [] := by
  subst hg
  have := World.ownsRow_lit (base := base) (e := e) (size := size) w #[] 0 hb (by simp [maxLen]) (by simp)
  exact this

/-- 'append(out, x)', x of as many cells as its type, just laid in a block of its own. -/
theorem wpList_append_new {P : Program} {ops : Array Oper} {rest : List Oper} {o : Oper} {a : Act} {Q : Exit → Act → World → Prop} {w : World} (us : Array Value) (hgd : o.guard = none) (s x : Operand) (t : TypeId)
    (ho : o.op = .call { callee := .builtin .append, args := #[s, x], argTypes := #[t, t] })
    (base : Nat) (e : TypeId) (z : Value) (size bytes : Nat) (hinfo : (P.info? e).map (fun i => (i.zero, i.size, i.bytes)) = some (some z, size, bytes)) (ht : P.underlying t = some (.slice e)) (hzs : z.cells.size = size) (hsz : 0 < size)
    (v : Value) (n : Nat) (xs : List Value) (hown : w.ownsRow base e size v n xs) (hs : a.eval s = v)
    (hx : a.eval x = .slice (some ⟨w.heap.size, 0, none⟩) 1 1) (hl : us.size = size) (h1 : ∀ u ∈ us.toList, u.oneCell' = true)
    (h63 : n + 1 ≤ maxLen) (hbytes : (n + 1) * bytes ≤ 140737488355328) (hbase : base ≤ w.heap.size)
    (h : ∀ v' w', w'.ownsRow base e size v' (n + 1) (xs ++ us.toList) → Below base w w' → (¬ v' = .slice none 0 0) → wpList P ops Q rest (a.put o.dst v') w') : wpList P ops Q (o :: rest) a (w.alloc (.cells us e)) := by
  obtain ⟨i, hi, hz0, hz1, hz2⟩ := info_parts hinfo
  refine wpList_append_own _ hgd s x t ho base e i z size bytes ht hi hz0 hz1 hz2 hzs hsz v n xs hs (hown.alloc _) ⟨w.heap.size, 0, none⟩ 1 1 us.toList hx (by simp [hl]) ?_ h1 h63 hbytes (by simp; omega) ?_
  · intro j u hu
    rw [Addr.add_lit]
    simp only [World.cell?, Nat.zero_add]
    rw [heap_alloc_new]
    simpa using hu
  · intro v' w' hown' hg hn
    refine h v' w' hown' ?_ (fun e => by have := (hn.1 e).2; omega)
    exact ((Below.refl _ _).alloc hbase _).grown hg (by simp; omega) (fun k hk => ownsRow_row hown k hk)

/-- 'make([]T, 0, n)'. -/
theorem wpList_make_new {P : Program} {ops : Array Oper} {rest : List Oper} {o : Oper} {a : Act} {Q : Exit → Act → World → Prop} {w : World} (hgd : o.guard = none) (l c : Operand) (t : TypeId)
    (ho : o.op = Op.makeSlice t l c) (base : Nat) (e : TypeId) (z : Value) (size bytes : Nat) (hinfo : (P.info? e).map (fun i => (i.zero, i.size, i.bytes)) = some (some z, size, bytes)) (ht : P.underlying t = some (.slice e))
    (n : Nat) (hl : a.eval l = .int .i64 0) (hc : a.eval c = .int .i64 (n : Int)) (hby : bytes * n ≤ 281474976710656) (h63 : n ≤ maxLen) (hbase : base ≤ w.heap.size)
    (h : ∀ w', w'.ownsRow base e size (.slice (some ⟨w.heap.size, 0, none⟩) 0 n) 0 [] → Below base w w' → w.heap.size < w'.heap.size → wpList P ops Q rest (a.put o.dst (.slice (some ⟨w.heap.size, 0, none⟩) 0 n)) w') : wpList P ops Q (o :: rest) a w := by
  obtain ⟨i, hi, hz0, hz1, hz2⟩ := info_parts hinfo
  refine wpList_make_own w hgd l c t ho base e i z size ht hi hz0 hz1 _ _ _ n hl hc rfl (by rw [hz2]; exact hby) h63 hbase ?_
  intro w' hown hg
  have hw : w.heap.size < w'.heap.size := (hown.lt w.heap.size rfl).2
  exact h w' hown ((Below.refl _ _).grown hg hbase (fun k hk => by cases hk)) hw

/-- What is below the number B reads as before. -/
theorem bcell {B : Nat} {W w1 : World} (hb : Below B W w1) : (∀ b o, b < B → w1.cell? ⟨b, o, none⟩ = W.cell? ⟨b, o, none⟩) ∧ (∀ b o, b < B → w1.frozen? ⟨b, o, none⟩ = W.frozen? ⟨b, o, none⟩) :=
  ⟨fun b o h => hb.cell (p := ⟨b, o, none⟩) h, fun b o h => hb.frozen (p := ⟨b, o, none⟩) h⟩

/-- Bytes as values. -/
def bvals (l : List UInt8) : List Value := l.map fun c => Value.int .u8 (c.toNat : Int)
/-- Bytes as a string. -/
def bstr (l : List UInt8) : ByteArray := ⟨l.toArray⟩
@[simp] theorem bstr_size (l : List UInt8) : (bstr l).size = l.length := rfl
@[simp] theorem bstr_list (l : List UInt8) : (bstr l).data.toList = l := rfl
theorem bstr_of (s : ByteArray) : bstr s.data.toList = s := rfl
theorem bstr_append (a b : List UInt8) : bstr a ++ bstr b = bstr (a ++ b) := by
  unfold bstr
  rw [ByteArray.mk_append_mk]
theorem bvals_snoc (l : List UInt8) (c : UInt8) : bvals (l ++ [c]) = bvals l ++ [.int .u8 c.toNat] := by simp [bvals]
theorem bvals_append (l m : List UInt8) : bvals (l ++ m) = bvals l ++ bvals m := by simp [bvals]
theorem bvals_length (l : List UInt8) : (bvals l).length = l.length := by simp [bvals]

theorem strOfNums_bytes (l : List UInt8) : strOfNums (l.map fun c => (c.toNat : Int)) = bstr l := by
  unfold strOfNums bstr
  simp [List.map_map, Function.comp_def]

theorem run_string_of_row {P : Program} {w : World} {base : Nat} {e src dst : TypeId} {v : Value} {n : Nat} {l : List UInt8} (h : w.ownsRow base e 1 v n (bvals l)) (hs : P.underlying src = some (.slice e)) (he : P.underlying e = some (.int .u8))
    (hd : P.underlying dst = some .string) : (convert src dst v).run P w = .ok (.string (bstr l)) w := by
  have hl := h.1
  rw [bvals_length] at hl
  rcases h.2 with ⟨rfl, rfl⟩ | ⟨g, cap, cur, rfl, hg, hc, hn, hm, hsz, htk⟩
  · have : l = [] := List.eq_nil_of_length_eq_zero (by simpa using hl)
    subst this
    rw [run_convert_bytes_nil w src e hs he 0 0 dst hd]
    rfl
  · rw [run_convert_bytes_arg w src e hs he g 0 n cap (l.map fun c => (c.toNat : Int)) (by simp; omega) ?_ dst hd, strOfNums_bytes]
    intro i hi
    have := h.cellAt i (by omega)
    rw [Nat.zero_add, this]
    simp [bvals, List.getD, show i < l.length by omega]

end Go.Proofs.YtefehgdckmajiaaGreatDoor

namespace Go.Proofs.YtefehgdckmajiaaGreatDoor
open Go.RowKit

/-- The slice value '.slice ao n _', of elements of so many cells, reads as xs. -/
def Sl (w : World) (size : Nat) (ao : Option Addr) (n : Nat) (xs : List Value) : Prop :=
  xs.length = n * size ∧ (n = 0 ∨ ∃ b o, ao = some ⟨b, o, none⟩ ∧ b < w.heap.size ∧ ∀ j u, xs[j]? = some u → w.cell? ⟨b, o + j, none⟩ = some u)

section
variable {w w' : World} {size n : Nat} {ao : Option Addr} {xs : List Value}
theorem Sl.nil : Sl w size ao 0 [] := ⟨by simp, .inl rfl⟩
theorem Sl.at_ {k : Nat} (h : Sl w size ao n xs) (hk : k < n) : ∃ b o, ao = some ⟨b, o, none⟩ ∧ b < w.heap.size ∧ ∀ j u, xs[j]? = some u → w.cell? ⟨b, o + j, none⟩ = some u := h.2.resolve_left (by omega)
theorem Sl.len (h : Sl w size ao n xs) : xs.length = n * size := h.1
theorem Sl.below (h : Sl w size ao n xs) (hb : Below w.heap.size w w') : Sl w' size ao n xs :=
  ⟨h.1, h.2.imp id fun ⟨b, o, e, hlt, hc⟩ => ⟨b, o, e, Nat.lt_of_lt_of_le hlt hb.size, fun j u hu => (hb.cell (p := ⟨b, o + j, none⟩) hlt).trans (hc j u hu)⟩⟩
theorem Sl.drew (h : Sl w size ao n xs) : Sl w.drew size ao n xs := h
theorem Sl.alloc (h : Sl w size ao n xs) (ob : Obj) : Sl (w.alloc ob) size ao n xs := h.below ((Below.refl _ _).alloc (Nat.le_refl _) _)
theorem Sl.of_own {base : Nat} {e : TypeId} {v : Value} (h : w.ownsRow base e size v n xs) : ∃ ao cap, v = .slice ao n cap ∧ n ≤ cap ∧ cap ≤ maxLen ∧ Sl w size ao n xs := by
  have h1 := h.1
  rcases h.2 with ⟨rfl, rfl⟩ | ⟨g, cap, cur, rfl, hg, hc, hn, hm, hsz, htk⟩
  · exact ⟨none, 0, rfl, Nat.le_refl _, by simp [maxLen], h1, .inl rfl⟩
  · exact ⟨some ⟨g, 0, none⟩, cap, rfl, hn, hm, h1, .inr ⟨g, 0, rfl, (h.lt g rfl).2, fun j u hu => by
      have hj : j < xs.length := by
        rcases Nat.lt_or_ge j xs.length with h' | h'
        · exact h'
        · rw [List.getElem?_eq_none h'] at hu; cases hu
      rw [Nat.zero_add]
      exact (h.cellAt j (by omega)).trans hu⟩⟩
theorem Sl.take (h : Sl w size ao n xs) {k : Nat} (hk : k ≤ n) : Sl w size ao k (xs.take (k * size)) := by
  refine ⟨?_, ?_⟩
  · rw [List.length_take, h.1]
    have := Nat.mul_le_mul_right size hk
    omega
  · rcases Nat.eq_zero_or_pos k with rfl | hp
    · exact .inl rfl
    · obtain ⟨b, o, e, hlt, hc⟩ := h.at_ (k := 0) (by omega)
      refine .inr ⟨b, o, e, hlt, fun j u hu => hc j u ?_⟩
      rw [List.getElem?_take] at hu
      split at hu
      · exact hu
      · cases hu
theorem Sl.drop (h : Sl w size ao n xs) {k c : Nat} (hk : k ≤ n) (hc : n ≤ c) : Sl w size (if c = k then ao else ao.map (·.add (k * size))) (n - k) (xs.drop (k * size)) := by
  refine ⟨by rw [List.length_drop, h.1, Nat.sub_mul], ?_⟩
  rcases Nat.eq_zero_or_pos (n - k) with h0 | hp
  · exact .inl h0
  · obtain ⟨b, o, rfl, hlt, hx⟩ := h.at_ (k := 0) (by omega)
    rw [if_neg (by omega)]
    refine .inr ⟨b, o + k * size, ?_, hlt, fun j u hu => ?_⟩
    · simp only [Option.map_some, Addr.add_lit]
    · rw [Nat.add_assoc]
      exact hx _ u (by rw [← hu, List.getElem?_drop])
end

theorem ret_bool {a b : Bool} (h : a = b) : Ending.returned (.bool a) = .returned (.bool b) := by rw [h]

theorem str_beq (a b : ByteArray) : (a.toList == b.toList) = decide (a = b) := by
  rw [ByteArray.toList_eq, ByteArray.toList_eq]
  by_cases h : a = b
  · subst h; simp
  · rw [decide_eq_false h, beq_eq_false_iff_ne]
    intro e
    apply h
    cases a; cases b
    congr 1
    exact Array.toList_inj.1 e
theorem str_eq {a b : ByteArray} (h : a = b) : (a.toList == b.toList) = true := by rw [str_beq]; simpa using h
theorem str_ne {a b : ByteArray} (h : ¬ a = b) : (a.toList == b.toList) = false := by rw [str_beq]; simpa using h
/-- Strings. -/
def svals (l : List ByteArray) : List Value := l.map Value.string
theorem svals_at {l : List ByteArray} {k : Nat} (h : k < l.length) : (svals l)[k]? = some (.string l[k]) := by simp [svals, h]
theorem svals_length (l : List ByteArray) : (svals l).length = l.length := by simp [svals]
/-- Ints. -/
def ivals (l : List Int) : List Value := l.map fun x => Value.int .i64 x
theorem ivals_at {l : List Int} {k : Nat} (h : k < l.length) : (ivals l)[k]? = some (.int .i64 l[k]) := by simp [ivals, h]
theorem ivals_length (l : List Int) : (ivals l).length = l.length := by simp [ivals]
end Go.Proofs.YtefehgdckmajiaaGreatDoor

namespace Go.Proofs.YtefehgdckmajiaaGreatDoor
open Go.RowKit

/-- The blocks below number B are as in W, all but blocks X and X + 1. -/
def KeptY (B X : Nat) (W w' : World) : Prop := ∀ k, k < B → k ≠ X → k ≠ X + 1 → w'.heap[k]? = W.heap[k]?
theorem KeptY.refl (B X : Nat) (W : World) : KeptY B X W W := fun _ _ _ _ => rfl
theorem KeptY.drew {B X : Nat} {W w' : World} (h : KeptY B X W w') : KeptY B X W w'.drew := h
theorem KeptY.below {B X : Nat} {W w1 w2 : World} (h : KeptY B X W w1) (hb : Below B w1 w2) : KeptY B X W w2 := fun k hk hx hy => (hb.block k hk).trans (h k hk hx hy)
theorem KeptY.setCell {B X : Nat} {W w' : World} (h : KeptY B X W w') {p : Addr} (hp : p.block = X ∨ p.block = X + 1) (u : Value) : KeptY B X W (w'.setCell p u) := fun k hk hx hy =>
  (Below.heap_setCell _ _ _ _ (by omega)).trans (h k hk hx hy)
def SinceY (B X : Nat) (W : World) : Type := { w' : World // KeptY B X W w' }
instance {B X : Nat} {W : World} : Nonempty (SinceY B X W) := ⟨⟨W, KeptY.refl _ _ _⟩⟩
def SinceY.world {B X : Nat} {W : World} (x : SinceY B X W) : World := x.1
theorem SinceY.cell {B X : Nat} {W : World} {b o : Nat} (h : b < B) (hx : b ≠ X) (hy : b ≠ X + 1) {v : Option Value} (hv : W.cell? ⟨b, o, none⟩ = v) : ∀ x : SinceY B X W, x.world.cell? ⟨b, o, none⟩ = v := fun x => by
  rw [← hv]
  exact World.cell?_of_block (w := W) (a := ⟨b, o, none⟩) (x.2 b h hx hy)
theorem sincey {B X : Nat} {W w' : World} (h : KeptY B X W w') : ∃ x : SinceY B X W, w' = x.world := ⟨⟨w', h⟩, rfl⟩
/-- A block's cells. -/
theorem row_cell {w : World} {k : Nat} {cs : Array Value} {ty : TypeId} (h : w.heap[k]? = some (.cells cs ty (0, 0))) (j : Nat) : w.cell? ⟨k, j, none⟩ = cs[j]? := cell_of_row _ _ _ cs ty (0, 0) h
theorem row_fz {w : World} {k : Nat} {cs : Array Value} {ty : TypeId} (h : w.heap[k]? = some (.cells cs ty (0, 0))) (j : Nat) : w.frozen? ⟨k, j, none⟩ = false := by simp [World.frozen?, h]
theorem row_set {w : World} {k : Nat} {cs : Array Value} {ty : TypeId} (h : w.heap[k]? = some (.cells cs ty (0, 0))) (j : Nat) (v : Value) : (w.setCell ⟨k, j, none⟩ v).heap[k]? = some (.cells (cs.setIfInBounds j v) ty (0, 0)) := heap_setCell_same w k j cs ty v h
theorem row_other {w : World} {k b j : Nat} {v : Value} {x : Option Obj} (h : w.heap[k]? = x) (hk : k ≠ b) : (w.setCell ⟨b, j, none⟩ v).heap[k]? = x := (Below.heap_setCell _ _ _ _ hk).trans h
theorem row_lt {w : World} {k : Nat} {x : Obj} (h : w.heap[k]? = some x) : k < w.heap.size := (Array.getElem?_eq_some_iff.1 h).1
end Go.Proofs.YtefehgdckmajiaaGreatDoor

namespace Go.Proofs.YtefehgdckmajiaaGreatDoor
open Go.RowKit Go.Shelf

/-- What is no cells and lies at or above B lies as it lay, and so do the cells of c. -/
structure KF (c : Nat → Prop) (B : Nat) (W W' : World) : Prop where
  size : W.heap.size ≤ W'.heap.size
  same : ∀ (k : Nat) (o : Obj), B ≤ k → W.heap[k]? = some o → o.isCells = false → W'.heap[k]? = some o
  cells : ∀ (k : Nat) cs t f, c k → W.heap[k]? = some (.cells cs t f) → W'.heap[k]? = some (.cells cs t f)
theorem KF.refl (c : Nat → Prop) (B : Nat) (W : World) : KF c B W W := ⟨Nat.le_refl _, fun _ _ _ h _ => h, fun _ _ _ _ _ h => h⟩
theorem KF.trans {c : Nat → Prop} {B : Nat} {X Y Z : World} (h : KF c B X Y) (k : KF c B Y Z) : KF c B X Z :=
  ⟨Nat.le_trans h.size k.size, fun i o hi e ho => k.same i o hi (h.same i o hi e ho) ho, fun i cs t f hi e => k.cells i cs t f hi (h.cells i cs t f hi e)⟩
theorem KF.mono {c c' : Nat → Prop} {B B' : Nat} {X Y : World} (h : KF c B X Y) (hc : ∀ k, c' k → c k) (hb : B ≤ B') : KF c' B' X Y := ⟨h.size, fun i o hi e ho => h.same i o (Nat.le_trans hb hi) e ho, fun i cs t f hi e => h.cells i cs t f (hc i hi) e⟩
theorem KF.below {c : Nat → Prop} {B : Nat} {X Y : World} (h : Below X.heap.size X Y) : KF c B X Y := ⟨h.size, fun i _ _ e _ => (h.block i (Array.getElem?_eq_some_iff.1 e).1).trans e, fun i _ _ _ _ e => (h.block i (Array.getElem?_eq_some_iff.1 e).1).trans e⟩
theorem KF.put {c : Nat → Prop} {B l : Nat} {W : World} {o : Obj} (o' : Obj) (h : l < B) (hl : W.heap[l]? = some o) (ho : o.isCells = false) : KF c B W (W.putObj l o') :=
  ⟨by simp, fun i _ hi e _ => (World.putObj_heap_other (by omega)).trans e, fun i _ _ _ _ e => (World.putObj_heap_other (fun e2 => by subst e2; rw [hl] at e; cases e; cases ho)).trans e⟩
theorem KF.setCell {c : Nat → Prop} {B : Nat} (W : World) (p : Addr) (v : Value) (h0 : ¬ c p.block) : KF c B W (W.setCell p v) :=
  ⟨by show W.heap.size ≤ (W.heap.modify _ _).size; rw [Array.size_modify]; exact Nat.le_refl _, fun i o _ e ho => (KeepsOthers.setCell W p v).same i o e ho, fun i _ _ _ hi e => (Below.heap_setCell W p v i (fun e2 => by subst e2; exact h0 hi)).trans e⟩
theorem KF.sl {c : Nat → Prop} {B size n : Nat} {ao : Option Addr} {xs : List Value} {W W' : World} (h : KF c B W W') (hs : Sl W size ao n xs) (hf : ∀ b o, ao = some ⟨b, o, none⟩ → c b) : Sl W' size ao n xs := by
  refine ⟨hs.1, ?_⟩
  rcases hs.2 with h0 | ⟨b, o, e, hb, hc⟩
  · exact .inl h0
  · refine .inr ⟨b, o, e, Nat.lt_of_lt_of_le hb h.size, fun j u hu => ?_⟩
    have hcu := hc j u hu
    obtain ⟨ob, ho, hcl⟩ := cells_of_cell hcu
    cases ob <;> first | (cases hcl; done) | skip
    rename_i c t f
    rw [← hcu]
    exact World.cell?_of_block (w := W) (a := ⟨b, o + j, none⟩) ((h.cells b c t f (hf b o e) ho).trans ho.symm)
/-- Abides new blocks, and the turn of a block at or above B that is no cells. -/
def Ab (B : Nat) (I : World → Prop) : Prop :=
  ∀ W W' row, I W → W.grownBy W' row → (∀ r, row = some r → B ≤ r ∧ ∃ o : Obj, W.heap[r]? = some o ∧ o.isCells = false) → I W'
theorem Ab.putObj {B : Nat} {I : World → Prop} (h : Ab B I) {W : World} {l : Nat} {o : Obj} (o' : Obj) (hs : I W) (hB : B ≤ l) (hl : W.heap[l]? = some o) (ho : o.isCells = false) : I (W.putObj l o') :=
  h W _ (some l) hs (grownBy_putObj' W l o') (fun r e => by cases e; exact ⟨hB, o, hl, ho⟩)
theorem Ab.alloc {B : Nat} {I : World → Prop} (h : Ab B I) {W : World} (o : Obj) (hs : I W) : I (W.alloc o) := h W _ none hs (World.grownBy_alloc W o none) (fun r e => by cases e)
theorem Ab.below {B : Nat} {I : World → Prop} (h : Ab B I) {W W' : World} (hs : I W) (hb : Below W.heap.size W W') : I W' :=
  h W _ none hs ⟨hb.os, hb.tape, hb.output, hb.size, fun k hk _ => hb.block k hk⟩ (fun r e => by cases e)
theorem Ab.mono {B B' : Nat} {I : World → Prop} (h : Ab B I) (hb : B ≤ B') : Ab B' I := fun W W' row hs hg hr => h W W' row hs hg (fun r e => ⟨Nat.le_trans hb (hr r e).1, (hr r e).2⟩)
theorem Ab.and {B : Nat} {I I' : World → Prop} (h : Ab B I) (h' : Ab B I') : Ab B (fun W => I W ∧ I' W) := fun W W' row hs hg hr => ⟨h W W' row hs.1 hg hr, h' W W' row hs.2 hg hr⟩
theorem Ab.pure {B : Nat} (p : Prop) : Ab B (fun _ => p) := fun _ _ _ hs _ _ => hs
theorem Ab.ex {B : Nat} {α : Type} {I : α → World → Prop} (h : ∀ x, Ab B (I x)) : Ab B (fun W => ∃ x, I x W) := fun W W' row ⟨x, hs⟩ hg hr => ⟨x, h x W W' row hs hg hr⟩
/-- A block that lay below B. -/
theorem Ab.blk {B k : Nat} (hk : k < B) (o : Option Obj) (ho : o.isSome = true) : Ab B (fun W => W.heap[k]? = o) := fun W W' row hs hg hr => by
  refine (hg.block k ?_ (fun e => ?_)).trans hs
  · cases o with
    | none => cases ho
    | some o => exact (Array.getElem?_eq_some_iff.1 hs).1
  · have := (hr k e.symm).1
    omega
theorem Ab.belowW {n₀ B : Nat} {w₀ : World} (hn : n₀ ≤ w₀.heap.size) (hB : n₀ ≤ B) : Ab B (fun W => Below n₀ w₀ W) :=
  fun _ _ _ hs hg hr => hs.grown hg (Nat.le_trans hn hs.size) (fun k e => Nat.le_trans hB (hr k e).1)
theorem Ab.sl {B size n : Nat} {ao : Option Addr} {xs : List Value} : Ab B (fun W => Sl W size ao n xs) := fun W W' row hs hg hr => by
  refine ⟨hs.1, ?_⟩
  rcases hs.2 with h0 | ⟨b, o, e, hb, hc⟩
  · exact .inl h0
  · refine .inr ⟨b, o, e, Nat.lt_of_lt_of_le hb hg.size, fun j u hu => ?_⟩
    exact cell_kept (hc j u hu) hg (fun r e => (hr r e).2)

/-- What the body of a round must pay. -/
def rfPost {σ α : Type} (c : Nat → Prop) (B : Nat) (T : σ → α → σ → Prop) (I : σ → World → Prop) (Ix : Code → σ → α → World → Prop) (s : σ) (x : α) (W : World) : Exit → Act → World → Prop
  | .normal, _, W' => KF c B W W' ∧ ∃ s', T s x s' ∧ I s' W'
  | .ret, _, W' => KF c B W W' ∧ Ix .ret s x W'
  | .exit id, _, W' => KF c B W W' ∧ Ix (.exit id) s x W'
  | .goto t, _, W' => KF c B W W' ∧ Ix (.goto t) s x W'
  | .panic _, _, _ => False
  | .outgrown, _, _ => False

/-- The rounds of loop l, as an iterator meets them. -/
def RoundC {σ α : Type} (P : Program) (m l : Nat) (c : Nat → Prop) (B : Nat) (enc : α → Value) (X : σ → α → World → Prop) (T : σ → α → σ → Prop) (J : σ → World → Prop) (Jx : σ → α → World → Prop) : Prop :=
  ∀ s x W, J s W → X s x W → YieldAt Fence.wide m P l #[enc x] W fun e W' => (e = .returned (.bool true) ∧ KF c B W W' ∧ ∃ s', T s x s' ∧ J s' W') ∨ (e = .returned (.bool false) ∧ KF c B W W' ∧ Jx s x W')

variable {n : Nat} {P : Program} {w : World}
theorem wpIn_rf {σ α : Type} {g : Operand} {p : Tmp} {assign body : Code} {Q : Exit → Act → World → Prop} {a : Act}
    {gf : Nat} {pre lb : Array Value} (hg : a.eval g = .func (.func gf) pre lb) (eg : ∀ args w, (callFunc gf args).run P w = .ok (.enter gf args) w)
    (enc : α → Value) (X : σ → α → World → Prop) (T : σ → α → σ → Prop) (I : σ → World → Prop) (Ix : Code → σ → α → World → Prop)
    (hX : ∀ s x, Ab w.heap.size (X s x))
    (hI : ∀ s, Ab w.heap.size (I s)) (hIx : ∀ c s x, Ab w.heap.size (Ix c s x)) (s0 : σ) (h0 : I s0 w) (q : Tmp)
    (S : σ → Prop) (Sx : σ → α → Prop) (kc : Nat → Prop)
    (hcall : ∀ (l m : Nat) (rec : LoopState → Option Code → Loop) (W : World), W.heap.size = w.heap.size + 2 → Below w.heap.size w W →
      (∀ s, Ab W.heap.size (fun W => I s W ∧ W.heap[w.heap.size + 1]? = some (.loop (rec .ready none)) ∧ W.heap[w.heap.size]? = some (.deferred (some [])))) →
      (∀ s x, Ab W.heap.size (fun W => ∃ c, Ix c s x W ∧ W.heap[w.heap.size + 1]? = some (.loop (rec .done (some c))) ∧ W.heap[w.heap.size]? = some (.deferred (some [])))) →
      RoundC P m l kc W.heap.size enc X T (fun s W => I s W ∧ W.heap[w.heap.size + 1]? = some (.loop (rec .ready none)) ∧ W.heap[w.heap.size]? = some (.deferred (some [])))
        (fun s x W => ∃ c, Ix c s x W ∧ W.heap[w.heap.size + 1]? = some (.loop (rec .done (some c))) ∧ W.heap[w.heap.size]? = some (.deferred (some []))) →
      (I s0 W ∧ W.heap[w.heap.size + 1]? = some (.loop (rec .ready none)) ∧ W.heap[w.heap.size]? = some (.deferred (some []))) →
      Calls P gf (pre ++ #[.func (.yield l) #[] #[]] ++ lb) W fun e W' => e = .returned (.tuple #[]) ∧
        ((∃ s, S s ∧ I s W' ∧ W'.heap[w.heap.size + 1]? = some (.loop (rec .ready none)) ∧ W'.heap[w.heap.size]? = some (.deferred (some []))) ∨
         (∃ s x, Sx s x ∧ ∃ c, Ix c s x W' ∧ W'.heap[w.heap.size + 1]? = some (.loop (rec .done (some c))) ∧ W'.heap[w.heap.size]? = some (.deferred (some [])))))
    (hassign : ∀ (l m : Nat) (x : α) (W : World) (K : Act → World → Prop), K { tmps := (a.tmps.setIfInBounds p (enc x)).setIfInBounds q (enc x), defers := [] } W →
      assign.wpIn (Fence.wide.inRound l) m P (Exit.then K (fun _ _ _ => False)) { tmps := a.tmps.setIfInBounds p (enc x), defers := [] } W)
    (hbody : ∀ (l m : Nat) (s : σ) (x : α) (W : World), I s W → X s x W → w.heap.size ≤ W.heap.size → body.wpIn (Fence.wide.inRound l) m P (rfPost kc w.heap.size T I Ix s x W) { tmps := (a.tmps.setIfInBounds p (enc x)).setIfInBounds q (enc x), defers := [] } W)
    (hdone : ∀ (D : Nat) (s : σ) (W : World), w.heap.size ≤ D → S s → I s W → W.heap[D]? = some (.deferred (some [])) → Q .normal { a with defers := { target := .collected D, args := #[] } :: a.defers } W)
    (hstop : ∀ (D : Nat) (c : Code) (s : σ) (x : α) (W : World), w.heap.size ≤ D → Sx s x → Ix c s x W → W.heap[D]? = some (.deferred (some [])) → c.wpIn Fence.wide n P Q { a with defers := { target := .collected D, args := #[] } :: a.defers } W) :
    (Code.rangeFunc g #[p] assign body).wpIn Fence.wide n P Q a w := by
  refine wpIn_rangeFunc ?_
  intro fn hfn
  rw [show Fence.wide.round = none from rfl]
  obtain ⟨rec, hrec⟩ : ∃ rec : LoopState → Option Code → Loop, rec = fun st pe => { state := st, pending := pe, fn, tmps := a.tmps, params := #[p], assign, body, defers := w.heap.size } := ⟨_, rfl⟩
  obtain ⟨W1, hW1⟩ : ∃ W1, (w.alloc (.deferred (some []))).alloc (.loop (rec .ready none)) = W1 := ⟨_, rfl⟩
  have hL1 : W1.heap[w.heap.size + 1]? = some (.loop (rec .ready none)) := by
    rw [← hW1]; have := World.alloc_heap_new (w.alloc (.deferred (some []))) (.loop (rec .ready none)); rwa [World.size_alloc] at this
  have hK1 : W1.heap[w.heap.size]? = some (.deferred (some [])) := by
    rw [← hW1]; exact (Below.heap_alloc _ _ _ (by simp)).trans (World.alloc_heap_new w _)
  have hI1 : I s0 W1 := by rw [← hW1]; exact (hI s0).alloc _ ((hI s0).alloc _ h0)
  have hz1 : W1.heap.size = w.heap.size + 2 := by rw [← hW1]; simp
  refine ⟨w.heap.size + 1, [{ target := .collected w.heap.size, args := #[] }], W1, { target := .fn (.func gf) lb, args := pre ++ #[.func (.yield (w.heap.size + 1)) #[] #[]] }, W1, gf,
    pre ++ #[.func (.yield (w.heap.size + 1)) #[] #[]] ++ lb, W1, ?_, ?_, ?_, ?_, fun h => (by cases h), callsIn_wide.2 ?_⟩
  · rw [← hW1, hrec]; exact run_enterLoop_outer _ _ _ _ _
  · simp only [resolve, hg]
    simp [go_sem]
  · intro f' hf'; exact trivial
  · simp [invoke, go_sem, eg]
  · refine (hcall (w.heap.size + 1) (n - 1 - 1) rec W1 hz1 (by rw [← hW1]; exact ((Below.refl _ _).alloc (Nat.le_refl _) _).alloc (by simp) _) (fun s => ?_) (fun s x => ?_) ?_ ⟨hI1, hL1, hK1⟩).mono ?_
    · rw [hz1]
      exact ((hI s).mono (by omega)).and ((Ab.blk (by omega) _ rfl).and (Ab.blk (by omega) _ rfl))
    · rw [hz1]
      exact Ab.ex fun c => ((hIx c s x).mono (by omega)).and ((Ab.blk (by omega) _ rfl).and (Ab.blk (by omega) _ rfl))
    · rintro s x W ⟨hi, hl, hk⟩ hx
      have hlt : w.heap.size + 1 < W.heap.size := (Array.getElem?_eq_some_iff.1 hl).1
      have hy := run_yield (P := P) (args := #[enc x]) hl (by rw [hrec]; rfl)
      rw [hrec] at hy
      have hy : (Instr.yield (w.heap.size + 1) #[enc x]).run P W = .ok (.round (w.heap.size + 1) fn (a.tmps.setIfInBounds p (enc x)) assign body) W := by
        rw [hy]
        simp
      refine ⟨fn, _, assign, body, hy, roundIn_of_wpIn trivial (hassign _ _ x W _ ⟨_, run_beginRound hl (by rw [hrec]), ?_⟩)⟩
      have hl2 : (W.putObj (w.heap.size + 1) (.loop { rec .ready none with state := .busy })).heap[w.heap.size + 1]? = some (.loop { rec .ready none with state := .busy }) := World.putObj_heap_same hlt
      have hk2 : (W.putObj (w.heap.size + 1) (.loop { rec .ready none with state := .busy })).heap[w.heap.size]? = some (.deferred (some [])) := (World.putObj_heap_other (by omega)).trans hk
      have hKF := KF.put (c := kc) (B := w.heap.size + 2) (.loop { rec .ready none with state := .busy }) (show w.heap.size + 1 < w.heap.size + 2 by omega) hl rfl
      refine wpIn_mono (hbody _ _ s x _ ((hI s).putObj _ hi (by omega) hl rfl) ((hX s x).putObj _ hx (by omega) hl rfl) (by simp; omega)) ?_
      have fin : ∀ (jump : Option Code) (W3 : World), KF kc w.heap.size (W.putObj (w.heap.size + 1) (.loop { rec .ready none with state := .busy })) W3 →
          (Instr.endRound (w.heap.size + 1) jump).run P W3 = .ok (.bool jump.isNone) (W3.putObj (w.heap.size + 1) (.loop (rec (if jump.isNone then .ready else .done) jump))) ∧
          W3.heap[w.heap.size + 1]? = some (.loop { rec .ready none with state := .busy }) ∧
          (W3.putObj (w.heap.size + 1) (.loop (rec (if jump.isNone then .ready else .done) jump))).heap[w.heap.size + 1]? = some (.loop (rec (if jump.isNone then .ready else .done) jump)) ∧
          (W3.putObj (w.heap.size + 1) (.loop (rec (if jump.isNone then .ready else .done) jump))).heap[w.heap.size]? = some (.deferred (some [])) ∧
          KF kc W1.heap.size W (W3.putObj (w.heap.size + 1) (.loop (rec (if jump.isNone then .ready else .done) jump))) := fun jump W3 hk3 => by
        have hl3 := hk3.same _ _ (by omega) hl2 rfl
        have := run_endRound (P := P) jump hl3
        rw [hrec] at this ⊢
        refine ⟨this, by rw [hrec] at hl3; exact hl3, World.putObj_heap_same (Array.getElem?_eq_some_iff.1 hl3).1, (World.putObj_heap_other (by omega)).trans (hk3.same _ _ (Nat.le_refl _) hk2 rfl), ?_⟩
        rw [hz1]
        exact (hKF.trans (hk3.mono (fun _ h => h) (by omega))).trans (KF.put _ (by omega) hl3 rfl)
      rintro e a3 W3 hp
      cases e with
      | normal =>
        obtain ⟨hk3, s', hT, hi3⟩ := hp
        obtain ⟨hr, hl3, hl4, hk4, hkf⟩ := fin none W3 hk3
        exact ⟨_, _, hr, .inl ⟨rfl, hkf, s', hT, (hI s').putObj _ hi3 (by omega) hl3 rfl, hl4, hk4⟩⟩
      | ret =>
        obtain ⟨hk3, hi3⟩ := hp
        obtain ⟨hr, hl3, hl4, hk4, hkf⟩ := fin (some .ret) W3 hk3
        exact ⟨_, _, hr, .inr ⟨rfl, hkf, .ret, (hIx _ _ _).putObj _ hi3 (by omega) hl3 rfl, hl4, hk4⟩⟩
      | exit id =>
        obtain ⟨hk3, hi3⟩ := hp
        obtain ⟨hr, hl3, hl4, hk4, hkf⟩ := fin (some (.exit id)) W3 hk3
        exact ⟨_, _, hr, .inr ⟨rfl, hkf, .exit id, (hIx _ _ _).putObj _ hi3 (by omega) hl3 rfl, hl4, hk4⟩⟩
      | goto t =>
        obtain ⟨hk3, hi3⟩ := hp
        obtain ⟨hr, hl3, hl4, hk4, hkf⟩ := fin (some (.goto t)) W3 hk3
        exact ⟨_, _, hr, .inr ⟨rfl, hkf, .goto t, (hIx _ _ _).putObj _ hi3 (by omega) hl3 rfl, hl4, hk4⟩⟩
      | panic ch => exact hp.elim
      | outgrown => exact hp.elim
    · rintro e W2 ⟨rfl, (⟨s, hS, hi, hl, hk⟩ | ⟨s, x, hSx, c, hi, hl, hk⟩)⟩
      · exact ⟨none, _, by have := run_endLoop (P := P) hl (by rw [hrec]; simp); rw [hrec] at this; exact this, hdone _ s _ (Nat.le_refl _) hS ((hI s).putObj _ hi (by omega) hl rfl) ((World.putObj_heap_other (by omega)).trans hk)⟩
      · exact ⟨some c, _, by have := run_endLoop (P := P) hl (by rw [hrec]; simp); rw [hrec] at this; exact this, hstop _ c s x _ (Nat.le_refl _) hSx ((hIx c s x).putObj _ hi (by omega) hl rfl) ((World.putObj_heap_other (by omega)).trans hk)⟩
end Go.Proofs.YtefehgdckmajiaaGreatDoor
