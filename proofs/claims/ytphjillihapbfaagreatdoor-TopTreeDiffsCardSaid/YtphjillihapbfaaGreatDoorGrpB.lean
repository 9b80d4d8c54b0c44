/-
  Region DigPair DigHash DigHalf DigRoot DigRootOf DigRefRoot DigRefResult.
-/
import Derived.OrdersHeld
import Derived.BigQuiet
import Derived.WalkKit
import Derived.Test.YtphjillihapbfaaGreatDoorGrpA
import Derived.Test.YtphjillihapbfaaGreatDoorRows
namespace Go.Proofs.YtphjillihapbfaaGreatDoor
open Go.RowKit

/-- An operation of a kind that yields a value or halts, and calls no Go function. -/
def floatB (o : Oper) : Bool :=
  match o.op with
  | .move _ | .pick .. | .build .. | .load .. | .binOp .. | .unOp .. | .convert .. | .makeInterface .. | .slice .. | .fieldAddr .. | .field .. | .indexAddr .. | .index .. | .extract .. | .lookup .. | .nilCheck _ => true
  | .call c => match c.callee with
    | .builtin .len => true
    | .builtin .cap => true
    | _ => false
  | _ => false

theorem value_of_map {P : Program} {s : Sem Value} {w w' : World} {u : Next} (h : (do let x ← s; pure (Next.value x) : Sem Next).run P w = .ok u w') : ∃ v, u = .value v := by
  rw [Sem.run_bind] at h
  cases hs : s.run P w with
  | ok v w1 => rw [hs] at h; simp only [Result.andThen_ok, Sem.run_pure, Result.ok.injEq] at h; exact ⟨v, h.1.symm⟩
  | halt x w1 => rw [hs] at h; simp [Result.andThen] at h

theorem value_of_float {P : Program} {o : Oper} (hf : floatB o = true) {ρ : Operand → Value} {w w' : World} {u : Next} (h : (execOp ρ o).run P w = .ok u w') : ∃ v, u = .value v := by
  unfold floatB at hf
  unfold execOp at h
  split at hf <;> rename_i ho
  all_goals first
    | (cases hf; done)
    | (rw [ho] at h; exact value_of_map h)
    | (rw [ho] at h; simp only [Sem.run_pure, Result.ok.injEq] at h; exact ⟨_, h.1.symm⟩)
    | skip
  · rw [ho] at h
    simp only [Sem.run_bind] at h
    generalize Sem.run P (asBool _) w = r at h
    cases r with
    | ok v w1 => simp only [Result.andThen_ok, Sem.run_pure, Result.ok.injEq] at h; exact ⟨_, h.1.symm⟩
    | halt x w1 => simp [Result.andThen] at h
  · rw [ho] at h
    simp only at h
    split at h
    all_goals first
      | (simp only [Sem.run_pure, Result.ok.injEq] at h; exact ⟨_, h.1.symm⟩)
      | (cases h; done)
      | (split at h
         all_goals first
           | (simp only [Sem.run_pure, Result.ok.injEq] at h; exact ⟨_, h.1.symm⟩)
           | (cases h; done)
           | (simp only [Sem.run_bind] at h
              generalize Sem.run _ program w = r at h
              cases r with
              | halt x w1 => simp [Result.andThen] at h
              | ok v w1 =>
                simp only [Result.andThen_ok] at h
                generalize Sem.run _ (nilAhead _ _ _ _) w1 = r at h
                cases r with
                | halt x w2 => simp [Result.andThen] at h
                | ok v w2 =>
                  simp only [Result.andThen_ok] at h
                  split at h
                  · simp only [Sem.run_bind] at h
                    generalize Sem.run _ (unsupported _) w2 = r at h
                    cases r with
                    | ok v w3 => simp only [Result.andThen_ok, Sem.run_pure, Result.ok.injEq] at h; exact ⟨_, h.1.symm⟩
                    | halt x w3 => simp [Result.andThen] at h
                  · simp only [Sem.run_pure, Result.ok.injEq] at h
                    exact ⟨_, h.1.symm⟩))
  · rw [ho] at h
    simp only at h
    split at hf
    · rename_i hc
      simp only [resolve, hc, Sem.run_bind, Sem.run_pure, Result.andThen_ok, invoke, builtin] at h
      exact value_of_map (s := Builtin.len_ _ _ _) (by rw [Sem.run_bind]; exact h)
    · rename_i hc
      simp only [resolve, hc, Sem.run_bind, Sem.run_pure, Result.andThen_ok, invoke, builtin] at h
      exact value_of_map (s := Builtin.cap_ _ _ _) (by rw [Sem.run_bind]; exact h)
    · cases hf

section
variable {P : Program} {ops : Array Oper} {Q : Exit → Act → World → Prop} {md : Region.Mode} {C : World → Prop}

theorem yieldsIf_of_quiet {o : Oper} {a : Act} {K : Act → Prop} (hf : floatB o = true) (hw : Region.wanted o (yielded ops a.tmps) = true) (h : o.quiet P a C K) : ∃ v, YieldsIf P ops C o v a ∧ K (a.put o.dst v) := by
  obtain ⟨v, h1, h2⟩ := h
  refine ⟨v, .inl ⟨hw, fun w hCw => ?_⟩, h2⟩
  have h3 := h1 w hCw
  unfold Oper.quietAt at h3
  cases hr : (execOp a.eval o).run P w with
  | ok u w' =>
    obtain ⟨v', rfl⟩ := value_of_float hf hr
    rw [hr] at h3
    obtain ⟨rfl, rfl⟩ := h3
    rfl
  | halt x w' => rw [hr] at h3; exact h3.elim

/-- The region in one order: each operation by its number; 'true': it only reads. -/
def seqRun (P : Program) (ops : Array Oper) (C : World → Prop) (Q : Exit → Act → World → Prop) (E : Act → World → Prop) : List (Nat × Bool) → Act → World → Prop
  | [], a, w => E a w
  | (i, true) :: rest, a, w => ∃ o, ops[i]? = some o ∧ ∃ v, YieldsIf P ops C o v a ∧ seqRun P ops C Q E rest (a.put o.dst v) w
  | (i, false) :: rest, a, w => wpOp P ops Q i (fun a' w' => C w' ∧ seqRun P ops C Q E rest a' w') a w

/-- May the region be walked in this order? -/
def seqB (md : Region.Mode) (ops : Array Oper) : List (Nat × Bool) → Array Bool → Option (Array Bool)
  | [], listed => some listed
  | (i, true) :: rest, listed => if (Region.ready md ops listed).contains i && Region.free md ops listed i then seqB md ops rest (listed.setIfInBounds i true) else none
  | (i, false) :: rest, listed => if Region.ready md ops listed = [i] then seqB md ops rest (listed.setIfInBounds i true) else none

theorem wpAnyH_of_seq (hs : Region.noSelect ops = true) (hQ : ∀ c d v a w, Q (.panic c) (Act.put a d v) w → Q (.panic c) a w) {fuel : Nat} {E : Act → World → Prop} : ∀ (ord : List (Nat × Bool)) (listed listed' : Array Bool) (a : Act) (w : World), C w →
    seqB md ops ord listed = some listed' → (∀ a w, C w → E a w → wpAnyH P md ops Q C fuel listed' a w) → seqRun P ops C Q E ord a w → wpAnyH P md ops Q C (ord.length + fuel) listed a w
  | [], listed, listed', a, w, hC, hB, hE, h => by
    cases hB
    rw [List.length_nil, Nat.zero_add]
    exact hE a w hC h
  | (i, true) :: rest, listed, listed', a, w, hC, hB, hE, h => by
    simp only [seqB] at hB
    split at hB
    · rename_i hc
      rw [Bool.and_eq_true] at hc
      obtain ⟨o, ho, v, hy, hr⟩ := h
      rw [show ((i, true) :: rest).length + fuel = rest.length + fuel + 1 by simp only [List.length_cons]; omega]
      exact wpAnyH_take ho hs hc.2 hc.1 (fun c a w hq => hQ c _ _ a w hq) hy hC (wpAnyH_of_seq hs hQ rest _ listed' _ w hC hB hE hr)
    · cases hB
  | (i, false) :: rest, listed, listed', a, w, hC, hB, hE, h => by
    simp only [seqB] at hB
    split at hB
    · rename_i hc
      rw [show ((i, false) :: rest).length + fuel = rest.length + fuel + 1 by simp only [List.length_cons]; omega]
      refine wpAnyH_all hc (by simp) (fun j hj => ?_)
      obtain rfl : j = i := by simpa using hj
      exact wpOp_mono (fun a' w' hh => ⟨hh.1, wpAnyH_of_seq hs hQ rest _ listed' a' w' hh.1 hB hE hh.2⟩) h
    · cases hB

/-- THE BEGINNING. 'hB': the order may be walked and is whole. -/
theorem wp_region_seq {id : Nat} {a : Act} {w : World} {l : List Oper} (C : World → Prop) (ord : List (Nat × Bool)) (hm : P.follows .mixedOrders = true)
    (hB : (Region.noSelect l.toArray && decide (ord.length = l.length) && (match seqB .any l.toArray ord (Array.replicate l.length false) with | some listed => (Region.ready .any l.toArray listed).isEmpty | none => false)) = true)
    (hQ : ∀ c d v a w, Q (.panic c) (Act.put a d v) w → Q (.panic c) a w) (hC : C w.drew)
    (h : seqRun P l.toArray C Q (fun a w => Q .normal a w) ord a w.drew) : (Code.region id l.toArray true).wp P Q a w := by
  simp only [Bool.and_eq_true, decide_eq_true_eq] at hB
  obtain ⟨⟨hs, hl⟩, hB⟩ := hB
  split at hB
  · rename_i listed hsq
    refine wp_region_held (S := C) hm ?_
    have := wpAnyH_of_seq (md := .any) (P := P) (fuel := 0) hs hQ ord _ listed a w.drew hC hsq (fun a w _ hq => ⟨by simpa using hB, hq⟩) h
    rw [hl] at this
    simpa using this
  · cases hB

/-- The same where, behind some reads, one of two may come up (a call and an alloc): each is walked. -/
theorem wp_region_two {id : Nat} {a : Act} {w : World} {l : List Oper} (C : World → Prop) (ord : List (Nat × Bool)) (i j : Nat) (ordi ordj : List (Nat × Bool)) (hm : P.follows .mixedOrders = true)
    (hB : (Region.noSelect l.toArray && decide (ord.length + 1 + ordi.length = l.length) && decide (ordi.length = ordj.length) && (match seqB .any l.toArray ord (Array.replicate l.length false) with
      | some listed => decide (Region.ready .any l.toArray listed = [i, j]) &&
        (match seqB .any l.toArray ordi (listed.setIfInBounds i true) with | some l1 => (Region.ready .any l.toArray l1).isEmpty | none => false) &&
        (match seqB .any l.toArray ordj (listed.setIfInBounds j true) with | some l1 => (Region.ready .any l.toArray l1).isEmpty | none => false)
      | none => false)) = true)
    (hQ : ∀ c d v a w, Q (.panic c) (Act.put a d v) w → Q (.panic c) a w) (hC : C w.drew)
    (h : seqRun P l.toArray C Q (fun a w => seqRun P l.toArray C Q (fun a w => Q .normal a w) ((i, false) :: ordi) a w ∧ seqRun P l.toArray C Q (fun a w => Q .normal a w) ((j, false) :: ordj) a w) ord a w.drew) : (Code.region id l.toArray true).wp P Q a w := by
  simp only [Bool.and_eq_true, decide_eq_true_eq] at hB
  obtain ⟨⟨⟨hs, hl⟩, hl2⟩, hB⟩ := hB
  split at hB
  · rename_i listed hsq
    simp only [Bool.and_eq_true, decide_eq_true_eq] at hB
    obtain ⟨⟨hr, hi⟩, hj⟩ := hB
    refine wp_region_held (S := C) hm ?_
    have := wpAnyH_of_seq (md := .any) (P := P) (fuel := ordi.length + 1) hs hQ ord _ listed a w.drew hC hsq (fun a w _ hq => ?_) h
    · rw [show ord.length + (ordi.length + 1) = l.length by omega] at this
      simpa using this
    · refine wpAnyH_all hr (by simp) (fun k hk => ?_)
      have hk' : k = i ∨ k = j := by simpa using hk
      rcases hk' with rfl | rfl
      · split at hi
        · rename_i l1 h1
          exact wpOp_mono (fun a' w' hh => ⟨hh.1, wpAnyH_of_seq (fuel := 0) hs hQ ordi _ l1 a' w' hh.1 h1 (fun a w _ hq => ⟨by simpa using hi, hq⟩) hh.2⟩) hq.1
        · cases hi
      · split at hj
        · rename_i l1 h1
          rw [hl2]
          exact wpOp_mono (fun a' w' hh => ⟨hh.1, wpAnyH_of_seq (fuel := 0) hs hQ ordj _ l1 a' w' hh.1 h1 (fun a w _ hq => ⟨by simpa using hj, hq⟩) hh.2⟩) hq.2
        · cases hj
  · cases hB

/-- A statement behind which the ways meet again: what R says is all that the rest is told. -/
theorem wp_cut {c : Code} {K : Act → World → Prop} {a : Act} {w : World} (R : Act → World → Prop) (hK : ∀ a w, R a w → K a w) (h : c.wp P (Exit.then R Q) a w) : c.wp P (Exit.then K Q) a w :=
  Code.wp_mono (fun e a w q => by cases e <;> first | exact hK _ _ q | exact q) h

/-- The end. -/
theorem seq_nil {E : Act → World → Prop} {a : Act} {w : World} (h : E a w) : seqRun P ops C Q E [] a w := h
/-- One operation that only reads. -/
theorem seq_float {i : Nat} {o : Oper} {l : List Oper} {rest : List (Nat × Bool)} {E : Act → World → Prop} {a : Act} {w : World} (hi : l[i]? = some o) (hf : floatB o = true) (hw : Region.wanted o (yielded l.toArray a.tmps) = true)
    (h : ∀ K : Act → Prop, (∀ a, seqRun P l.toArray C Q E rest a w → K a) → o.quiet P a C K) : seqRun P l.toArray C Q E ((i, true) :: rest) a w := by
  obtain ⟨v, hy, hk⟩ := yieldsIf_of_quiet hf hw (h _ (fun _ h => h))
  exact ⟨o, by simpa using hi, v, hy, hk⟩
/-- One operation that is passed over. -/
theorem seq_skip {i : Nat} {o : Oper} {l : List Oper} {rest : List (Nat × Bool)} {E : Act → World → Prop} {a : Act} {w : World} (hi : l[i]? = some o) (hw : Region.wanted o (yielded l.toArray a.tmps) = false)
    (h : seqRun P l.toArray C Q E rest (a.put o.dst undef) w) : seqRun P l.toArray C Q E ((i, true) :: rest) a w :=
  ⟨o, by simpa using hi, undef, .inr ⟨hw, rfl⟩, h⟩
/-- One operation that does more: as a list of one. -/
theorem seq_chain {i : Nat} {o : Oper} {l : List Oper} {rest : List (Nat × Bool)} {E : Act → World → Prop} {a : Act} {w : World} (hi : l[i]? = some o)
    (h : ∀ K : Act → World → Prop, Hid (∀ a w, C w → seqRun P l.toArray C Q E rest a w → K a w) → wpList P l.toArray (Exit.then K Q) [o] a w) : seqRun P l.toArray C Q E ((i, false) :: rest) a w := by
  have h1 := h (fun a' w' => C w' ∧ seqRun P l.toArray C Q E rest a' w') (fun _ _ hC hs => ⟨hC, hs⟩)
  have hi' : l.toArray[i]? = some o := by simpa using hi
  unfold seqRun wpOp
  simp only [hi']
  unfold wpList at h1
  split
  · rename_i hw
    rw [if_pos hw] at h1
    refine h1.imp ?_ (fun ⟨h2, b, v, h3⟩ => ⟨h2, b, v, h3⟩)
    intro h2
    unfold Oper.wp at *
    generalize (execOp a.eval o).run P w = r at *
    cases r with
    | ok n w' =>
      cases n <;> simp only [Oper.upon] at h2 ⊢ <;>
        first
          | exact h2
          | exact Calls.mono h2 (fun e w'' he => by cases e <;> exact he)
          | exact Rows.mono h2 (fun _ _ he => he)
    | halt x w' => cases x <;> simp only [Oper.upon] at h2 ⊢ <;> exact h2
  · rename_i hw
    rw [if_neg hw] at h1
    exact h1
end

theorem bc {B : Nat} {W w1 : World} (hb : Below B W w1) {b : Nat} (h : b < B) (o : Nat) : w1.cell? ⟨b, o, none⟩ = W.cell? ⟨b, o, none⟩ := hb.cell (p := ⟨b, o, none⟩) h
theorem bf {B : Nat} {W w1 : World} (hb : Below B W w1) {b : Nat} (h : b < B) (o : Nat) : w1.frozen? ⟨b, o, none⟩ = W.frozen? ⟨b, o, none⟩ := hb.frozen (p := ⟨b, o, none⟩) h
theorem ba (w : World) (o : Obj) : Below w.heap.size w (w.alloc o) := (Below.refl _ _).alloc (Nat.le_refl _) o
/-- A world that is as W below block number B. -/
def Since (B : Nat) (W : World) : Type := { w' : World // Below B W w' }
instance {B : Nat} {W : World} : Nonempty (Since B W) := ⟨⟨W, Below.refl _ _⟩⟩
def Since.world {B : Nat} {W : World} (x : Since B W) : World := x.1
@[simp, go_sem] theorem Since.cell {B : Nat} {W : World} (x : Since B W) (b o : Nat) (h : b < B) : x.world.cell? ⟨b, o, none⟩ = W.cell? ⟨b, o, none⟩ := x.2.cell (p := ⟨b, o, none⟩) h
@[simp, go_sem] theorem Since.frozen {B : Nat} {W : World} (x : Since B W) (b o : Nat) (h : b < B) : x.world.frozen? ⟨b, o, none⟩ = W.frozen? ⟨b, o, none⟩ := x.2.frozen (p := ⟨b, o, none⟩) h
theorem since {B : Nat} {W w' : World} (h : Below B W w') : ∃ x : Since B W, w' = x.world := ⟨⟨w', h⟩, rfl⟩

/-- The blocks below number B are as in W, all but block X. -/
def KeptX (B X : Nat) (W w' : World) : Prop := ∀ k, k < B → k ≠ X → w'.heap[k]? = W.heap[k]?
theorem KeptX.refl (B X : Nat) (W : World) : KeptX B X W W := fun _ _ _ => rfl
theorem KeptX.drew {B X : Nat} {W w' : World} (h : KeptX B X W w') : KeptX B X W w'.drew := h
theorem KeptX.below {B X : Nat} {W w1 w2 : World} (h : KeptX B X W w1) (hb : Below B w1 w2) : KeptX B X W w2 := fun k hk hx => (hb.block k hk).trans (h k hk hx)
theorem KeptX.alloc {B X : Nat} {W w' : World} (h : KeptX B X W w') (hB : B ≤ w'.heap.size) (o : Obj) : KeptX B X W (w'.alloc o) := h.below ((Below.refl _ _).alloc hB o)
theorem KeptX.setCell {B X : Nat} {W w' : World} (h : KeptX B X W w') {p : Addr} (hp : p.block = X ∨ B ≤ p.block) (u : Value) : KeptX B X W (w'.setCell p u) := fun k hk hx =>
  (Below.heap_setCell _ _ _ _ (by omega)).trans (h k hk hx)
def SinceX (B X : Nat) (W : World) : Type := { w' : World // KeptX B X W w' }
instance {B X : Nat} {W : World} : Nonempty (SinceX B X W) := ⟨⟨W, KeptX.refl _ _ _⟩⟩
def SinceX.world {B X : Nat} {W : World} (x : SinceX B X W) : World := x.1
theorem SinceX.cell {B X : Nat} {W : World} (b o : Nat) (h : b < B) (hx : b ≠ X) {v : Option Value} (hv : W.cell? ⟨b, o, none⟩ = v) : ∀ x : SinceX B X W, x.world.cell? ⟨b, o, none⟩ = v := fun x => by
  rw [← hv]
  exact World.cell?_of_block (w := W) (a := ⟨b, o, none⟩) (x.2 b h hx)
theorem sincex {B X : Nat} {W w' : World} (h : KeptX B X W w') : ∃ x : SinceX B X W, w' = x.world := ⟨⟨w', h⟩, rfl⟩
end Go.Proofs.YtphjillihapbfaaGreatDoor

namespace Go.Proofs.YtphjillihapbfaaGreatDoor
open Go.RowKit

end Go.Proofs.YtphjillihapbfaaGreatDoor

namespace Go.Proofs.YtphjillihapbfaaGreatDoor
open Go.RowKit

/-- A digest: two numbers of 64 bits. -/
abbrev Dg := UInt64 × UInt64
/-- A digest as a value. -/
@[simp, reducible] def dv (d : Dg) : Value := .agg #[.int .u64 d.1.toNat, .int .u64 d.2.toNat]

/-- The greatest power of two below n. -/
def halfN (n : Nat) : Nat := 2 ^ Nat.log2 (n - 1)
theorem halfN_lt {n : Nat} (h : 2 ≤ n) : halfN n < n := by
  unfold halfN
  have := Nat.log2_self_le (n := n - 1) (by omega)
  omega
theorem halfN_pos (n : Nat) : 0 < halfN n := Nat.two_pow_pos _
theorem halfN_ge {n : Nat} (h : 2 ≤ n) : n ≤ 2 * halfN n := by
  unfold halfN
  have := Nat.lt_log2_self (n := n - 1)
  rw [Nat.pow_succ] at this
  omega
theorem halfN_eq {n k j : Nat} (hk : k = 2 ^ j) (h1 : k < n) (h2 : n ≤ 2 * k) : k = halfN n := by
  unfold halfN
  subst hk
  congr 1
  have hp := Nat.two_pow_pos j
  exact ((Nat.log2_eq_iff (by omega)).2 ⟨by omega, by rw [Nat.pow_succ]; omega⟩).symm

def leafD (d : Dg) : Dg := ofU (0 :: bytesU d.1 d.2)
def pairD (a b : Dg) : Dg := ofU (1 :: (bytesU a.1 a.2 ++ bytesU b.1 b.2))

/-- The root of the hash tree of a list. -/
def rootD (l : List Dg) : Dg :=
  if _h : 2 ≤ l.length then pairD (rootD (l.take (halfN l.length))) (rootD (l.drop (halfN l.length)))
  else match l with
    | [] => ofU []
    | d :: _ => leafD d
termination_by l.length
decreasing_by
  · have := halfN_lt _h; simp; omega
  · have := halfN_pos l.length; simp; omega

theorem rootD_nil : rootD [] = ofU [] := by rw [rootD]; simp
theorem rootD_one (d : Dg) : rootD [d] = leafD d := by rw [rootD]; simp
theorem rootD_more {l : List Dg} (h : 2 ≤ l.length) : rootD l = pairD (rootD (l.take (halfN l.length))) (rootD (l.drop (halfN l.length))) := by rw [rootD, dif_pos h]

/-- The proof of the place i. -/
def proofD (l : List Dg) (i : Nat) : List Dg :=
  if _h : 2 ≤ l.length then
    if i < halfN l.length then proofD (l.take (halfN l.length)) i ++ [rootD (l.drop (halfN l.length))]
    else proofD (l.drop (halfN l.length)) (i - halfN l.length) ++ [rootD (l.take (halfN l.length))]
  else []
termination_by l.length
decreasing_by
  · have := halfN_lt _h; simp; omega
  · have := halfN_pos l.length; simp; omega
theorem proofD_few {l : List Dg} (h : l.length < 2) (i : Nat) : proofD l i = [] := by rw [proofD, dif_neg (by omega)]
theorem proofD_lo {l : List Dg} {i : Nat} (h : 2 ≤ l.length) (hi : i < halfN l.length) : proofD l i = proofD (l.take (halfN l.length)) i ++ [rootD (l.drop (halfN l.length))] := by
  rw [proofD, dif_pos h, if_pos hi]
theorem proofD_hi {l : List Dg} {i : Nat} (h : 2 ≤ l.length) (hi : ¬ i < halfN l.length) : proofD l i = proofD (l.drop (halfN l.length)) (i - halfN l.length) ++ [rootD (l.take (halfN l.length))] := by
  rw [proofD, dif_pos h, if_neg hi]

theorem proofD_length (m : Nat) : ∀ (l : List Dg) (i : Nat), l.length ≤ m → (proofD l i).length ≤ l.length := by
  induction m with
  | zero => intro l i h; rw [proofD_few (by omega)]; simp
  | succ m ih =>
    intro l i h
    by_cases h2 : 2 ≤ l.length
    · have h0 := halfN_pos l.length
      have h1 := halfN_lt h2
      by_cases hi : i < halfN l.length
      · rw [proofD_lo h2 hi]
        have := ih (l.take (halfN l.length)) i (by simp; omega)
        simp at this ⊢; omega
      · rw [proofD_hi h2 hi]
        have := ih (l.drop (halfN l.length)) (i - halfN l.length) (by simp; omega)
        simp at this ⊢; omega
    · rw [proofD_few (by omega)]; simp

/-- The root that results from a digest and a proof; and whether the proof has the right length. -/
def resultD (n i : Nat) (d : Dg) (p : List Dg) : Dg × Bool :=
  if n = 1 then (leafD d, decide (p.length = 0))
  else if _h : p.length = 0 then ((0, 0), false)
  else if i < halfN n then (pairD (resultD (halfN n) i d p.dropLast).1 (p.getLastD (0, 0)), (resultD (halfN n) i d p.dropLast).2)
  else (pairD (p.getLastD (0, 0)) (resultD (n - halfN n) (i - halfN n) d p.dropLast).1, (resultD (n - halfN n) (i - halfN n) d p.dropLast).2)
termination_by p.length
decreasing_by all_goals (simp; omega)

theorem resultD_one (i : Nat) (d : Dg) (p : List Dg) : resultD 1 i d p = (leafD d, decide (p.length = 0)) := by rw [resultD]; simp
theorem resultD_nil {n : Nat} (h : n ≠ 1) (i : Nat) (d : Dg) : resultD n i d [] = ((0, 0), false) := by rw [resultD]; simp [h]
theorem resultD_lo {n i : Nat} (h : n ≠ 1) (hi : i < halfN n) (d : Dg) (q : List Dg) (e : Dg) : resultD n i d (q ++ [e]) = (pairD (resultD (halfN n) i d q).1 e, (resultD (halfN n) i d q).2) := by
  rw [resultD]
  simp only [h, if_false, List.length_append, List.length_cons, List.length_nil, hi, if_true, List.dropLast_concat]
  rw [dif_neg (by omega)]
  simp
theorem resultD_hi {n i : Nat} (h : n ≠ 1) (hi : ¬ i < halfN n) (d : Dg) (q : List Dg) (e : Dg) : resultD n i d (q ++ [e]) = (pairD e (resultD (n - halfN n) (i - halfN n) d q).1, (resultD (n - halfN n) (i - halfN n) d q).2) := by
  rw [resultD]
  simp only [h, if_false, List.length_append, List.length_cons, List.length_nil, hi, List.dropLast_concat]
  rw [dif_neg (by omega)]
  simp

/-- Two cells an element. -/
def dcells (l : List Dg) : List Value := l.flatMap fun d => [.int .u64 d.1.toNat, .int .u64 d.2.toNat]
theorem dcells_append (l m : List Dg) : dcells (l ++ m) = dcells l ++ dcells m := by simp [dcells]
theorem dcells_length (l : List Dg) : (dcells l).length = l.length * 2 := by
  induction l with
  | nil => rfl
  | cons d l ih => simp [dcells] at ih ⊢; omega

/-- In world w the cells from off on in block b hold the digests. -/
def DCells (w : World) (b off : Nat) (l : List Dg) : Prop :=
  ∀ j (h : j < l.length), w.cell? ⟨b, off + j * 2, none⟩ = some (.int .u64 (l[j]).1.toNat) ∧ w.cell? ⟨b, off + j * 2 + 1, none⟩ = some (.int .u64 (l[j]).2.toNat)
theorem DCells.take {w : World} {b off : Nat} {l : List Dg} (h : DCells w b off l) (k : Nat) : DCells w b off (l.take k) := fun j hj => by
  have : j < l.length := by simp at hj; omega
  simpa using h j this
theorem DCells.drop {w : World} {b off : Nat} {l : List Dg} (h : DCells w b off l) (k : Nat) : DCells w b (off + k * 2) (l.drop k) := fun j hj => by
  have hj' : k + j < l.length := by simp at hj; omega
  have := h (k + j) hj'
  rw [show off + k * 2 + j * 2 = off + (k + j) * 2 by omega]
  simpa using this
theorem DCells.below {w w' : World} {b off B : Nat} {l : List Dg} (h : DCells w b off l) (hb : Below B w w') (hB : b < B) : DCells w' b off l := fun j hj => by
  rw [hb.cell (p := ⟨b, _, none⟩) hB, hb.cell (p := ⟨b, _, none⟩) hB]
  exact h j hj
theorem DCells.at {w : World} {b off : Nat} {l : List Dg} (h : DCells w b off l) {j : Nat} (hj : j < l.length) : w.cell? ⟨b, off + j * 2, none⟩ = some (.int .u64 (l[j]).1.toNat) ∧ w.cell? ⟨b, off + j * 2 + 1, none⟩ = some (.int .u64 (l[j]).2.toNat) := h j hj
end Go.Proofs.YtphjillihapbfaaGreatDoor

namespace Go.Proofs.YtphjillihapbfaaGreatDoor
open Go.RowKit



end Go.Proofs.YtphjillihapbfaaGreatDoor

namespace Go.Proofs.YtphjillihapbfaaGreatDoor
open Go.RowKit

end Go.Proofs.YtphjillihapbfaaGreatDoor

namespace Go.Proofs.YtphjillihapbfaaGreatDoor
open Go.RowKit

/-- The slice value of a list of digests: where it has elements, their cells lie there. -/
def DSl (w : World) (ao : Option Addr) (p : List Dg) : Prop := p.length = 0 ∨ ∃ b off, ao = some ⟨b, off, none⟩ ∧ b < w.heap.size ∧ DCells w b off p
theorem DSl.below {w w' : World} {ao : Option Addr} {p : List Dg} (h : DSl w ao p) (hb : Below w.heap.size w w') : DSl w' ao p :=
  h.imp id fun ⟨b, off, e, hlt, hc⟩ => ⟨b, off, e, Nat.lt_of_lt_of_le hlt hb.size, hc.below hb hlt⟩

end Go.Proofs.YtphjillihapbfaaGreatDoor

namespace Go.Proofs.YtphjillihapbfaaGreatDoor
open Go.RowKit

end Go.Proofs.YtphjillihapbfaaGreatDoor

namespace Go.Proofs.YtphjillihapbfaaGreatDoor
open Go.RowKit

end Go.Proofs.YtphjillihapbfaaGreatDoor
