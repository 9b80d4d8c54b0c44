import Derived.OrdersHeld
import Derived.BigQuiet
import Derived.WalkKit
namespace Go.Proofs.YtgcceepadlmelaaGreatDoor
open Go.RowKit
def floatB (o : Oper) : Bool :=
 match o.op with
 | .move _ | .pick .. | .build .. | .load .. | .binOp .. | .unOp .. | .convert .. | .makeInterface .. | .slice .. | .fieldAddr .. | .field .. | .indexAddr .. | .index .. | .extract .. | .lookup .. | .nilCheck _ => true
 | .call c => match c.callee with
  | .builtin .len => true
  | .builtin .cap => true
  | _ => false
 | _ => false
theorem value_of_map {P : Program} {s : Sem Value} {w w' : World} {u : Next} (h : (do let x ← s; pure (Next.value x) : Sem Next).run P w = .ok u w') : ∃ v, u = .value v := by
 rw [Sem.run_bind] at h
 cases hs : s.run P w with
 | ok v w1 => rw [hs] at h; simp only [Result.andThen_ok, Sem.run_pure, Result.ok.injEq] at h; exact ⟨v, h.1.symm⟩
 | halt x w1 => rw [hs] at h; simp [Result.andThen] at h
theorem value_of_float {P : Program} {o : Oper} (hf : floatB o = true) {ρ : Operand → Value} {w w' : World} {u : Next} (h : (execOp ρ o).run P w = .ok u w') : ∃ v, u = .value v := by
 unfold floatB at hf
 unfold execOp at h
 split at hf <;> rename_i ho
 all_goals first
  | (cases hf; done)
  | (rw [ho] at h; exact value_of_map h)
  | (rw [ho] at h; simp only [Sem.run_pure, Result.ok.injEq] at h; exact ⟨_, h.1.symm⟩)
  | skip
 ·rw [ho] at h
  simp only [Sem.run_bind] at h
  generalize Sem.run P (asBool _) w = r at h
  cases r with
  | ok v w1 => simp only [Result.andThen_ok, Sem.run_pure, Result.ok.injEq] at h; exact ⟨_, h.1.symm⟩
  | halt x w1 => simp [Result.andThen] at h
 ·rw [ho] at h
  simp only at h
  split at h
  all_goals first
   | (simp only [Sem.run_pure, Result.ok.injEq] at h; exact ⟨_, h.1.symm⟩)
   | (cases h; done)
   | (split at h
      all_goals first
       | (simp only [Sem.run_pure, Result.ok.injEq] at h; exact ⟨_, h.1.symm⟩)
       | (cases h; done)
       | (simp only [Sem.run_bind] at h
          generalize Sem.run _ program w = r at h
          cases r with
          | halt x w1 => simp [Result.andThen] at h
          | ok v w1 =>
           simp only [Result.andThen_ok] at h
           generalize Sem.run _ (nilAhead _ _ _ _) w1 = r at h
           cases r with
           | halt x w2 => simp [Result.andThen] at h
           | ok v w2 =>
            simp only [Result.andThen_ok] at h
            split at h
            ·simp only [Sem.run_bind] at h
             generalize Sem.run _ (unsupported _) w2 = r at h
             cases r with
             | ok v w3 => simp only [Result.andThen_ok, Sem.run_pure, Result.ok.injEq] at h; exact ⟨_, h.1.symm⟩
             | halt x w3 => simp [Result.andThen] at h
            ·simp only [Sem.run_pure, Result.ok.injEq] at h
             exact ⟨_, h.1.symm⟩))
 ·rw [ho] at h
  simp only at h
  split at hf
  ·rename_i hc
   simp only [resolve, hc, Sem.run_bind, Sem.run_pure, Result.andThen_ok, invoke, builtin] at h
   exact value_of_map (s := Builtin.len_ _ _ _) (by rw [Sem.run_bind]; exact h)
  ·rename_i hc
   simp only [resolve, hc, Sem.run_bind, Sem.run_pure, Result.andThen_ok, invoke, builtin] at h
   exact value_of_map (s := Builtin.cap_ _ _ _) (by rw [Sem.run_bind]; exact h)
  ·cases hf
section
variable {P : Program} {ops : Array Oper} {Q : Exit → Act → World → Prop} {md : Region.Mode} {C : World → Prop}
theorem yieldsIf_of_quiet {o : Oper} {a : Act} {K : Act → Prop} (hf : floatB o = true) (hw : Region.wanted o (yielded ops a.tmps) = true) (h : o.quiet P a C K) : ∃ v, YieldsIf P ops C o v a ∧ K (a.put o.dst v) := by
 obtain ⟨v, h1, h2⟩ := h
 refine ⟨v, .inl ⟨hw, fun w hCw => ?_⟩, h2⟩
 have h3 := h1 w hCw
 unfold Oper.quietAt at h3
 cases hr : (execOp a.eval o).run P w with
 | ok u w' =>
  obtain ⟨v', rfl⟩ := value_of_float hf hr
  rw [hr] at h3
  obtain ⟨rfl, rfl⟩ := h3
  rfl
 | halt x w' => rw [hr] at h3; exact h3.elim
def seqRun (P : Program) (ops : Array Oper) (C : World → Prop) (Q : Exit → Act → World → Prop) (E : Act → World → Prop) : List (Nat × Bool) → Act → World → Prop
 | [], a, w => E a w
 | (i, true) :: rest, a, w => ∃ o, ops[i]? = some o ∧ ∃ v, YieldsIf P ops C o v a ∧ seqRun P ops C Q E rest (a.put o.dst v) w
 | (i, false) :: rest, a, w => wpOp P ops Q i (fun a' w' => C w' ∧ seqRun P ops C Q E rest a' w') a w
def seqB (md : Region.Mode) (ops : Array Oper) : List (Nat × Bool) → Array Bool → Option (Array Bool)
 | [], listed => some listed
 | (i, true) :: rest, listed => if (Region.ready md ops listed).contains i && Region.free md ops listed i then seqB md ops rest (listed.setIfInBounds i true) else none
 | (i, false) :: rest, listed => if Region.ready md ops listed = [i] then seqB md ops rest (listed.setIfInBounds i true) else none
theorem wpAnyH_of_seq (hs : Region.noSelect ops = true) (hQ : ∀ c d v a w, Q (.panic c) (Act.put a d v) w → Q (.panic c) a w) {fuel : Nat} {E : Act → World → Prop} : ∀ (ord : List (Nat × Bool)) (listed listed' : Array Bool) (a : Act) (w : World), C w →
  seqB md ops ord listed = some listed' → (∀ a w, C w → E a w → wpAnyH P md ops Q C fuel listed' a w) → seqRun P ops C Q E ord a w → wpAnyH P md ops Q C (ord.length + fuel) listed a w
 | [], listed, listed', a, w, hC, hB, hE, h => by
  cases hB
  rw [List.length_nil, Nat.zero_add]
  exact hE a w hC h
 | (i, true) :: rest, listed, listed', a, w, hC, hB, hE, h => by
  simp only [seqB] at hB
  split at hB
  ·rename_i hc
   rw [Bool.and_eq_true] at hc
   obtain ⟨o, ho, v, hy, hr⟩ := h
   rw [show ((i, true) :: rest).length + fuel = rest.length + fuel + 1 by simp only [List.length_cons]; omega]
   exact wpAnyH_take ho hs hc.2 hc.1 (fun c a w hq => hQ c _ _ a w hq) hy hC (wpAnyH_of_seq hs hQ rest _ listed' _ w hC hB hE hr)
  ·cases hB
 | (i, false) :: rest, listed, listed', a, w, hC, hB, hE, h => by
  simp only [seqB] at hB
  split at hB
  ·rename_i hc
   rw [show ((i, false) :: rest).length + fuel = rest.length + fuel + 1 by simp only [List.length_cons]; omega]
   refine wpAnyH_all hc (by simp) (fun j hj => ?_)
   obtain rfl : j = i := by simpa using hj
   exact wpOp_mono (fun a' w' hh => ⟨hh.1, wpAnyH_of_seq hs hQ rest _ listed' a' w' hh.1 hB hE hh.2⟩) h
  ·cases hB
theorem wp_region_seq {id : Nat} {a : Act} {w : World} {l : List Oper} (C : World → Prop) (ord : List (Nat × Bool)) (hm : P.follows .mixedOrders = true)
  (hB : (Region.noSelect l.toArray && decide (ord.length = l.length) && (match seqB .any l.toArray ord (Array.replicate l.length false) with | some listed => (Region.ready .any l.toArray listed).isEmpty | none => false)) = true)
  (hQ : ∀ c d v a w, Q (.panic c) (Act.put a d v) w → Q (.panic c) a w) (hC : C w.drew)
  (h : seqRun P l.toArray C Q (fun a w => Q .normal a w) ord a w.drew) : (Code.region id l.toArray true).wp P Q a w := by
 simp only [Bool.and_eq_true, decide_eq_true_eq] at hB
 obtain ⟨⟨hs, hl⟩, hB⟩ := hB
 split at hB
 ·rename_i listed hsq
  refine wp_region_held (S := C) hm ?_
  have := wpAnyH_of_seq (md := .any) (P := P) (fuel := 0) hs hQ ord _ listed a w.drew hC hsq (fun a w _ hq => ⟨by simpa using hB, hq⟩) h
  rw [hl] at this
  simpa using this
 ·cases hB
theorem seq_nil {E : Act → World → Prop} {a : Act} {w : World} (h : E a w) : seqRun P ops C Q E [] a w := h
theorem seq_float {i : Nat} {o : Oper} {l : List Oper} {rest : List (Nat × Bool)} {E : Act → World → Prop} {a : Act} {w : World} (hi : l[i]? = some o) (hf : floatB o = true) (hw : Region.wanted o (yielded l.toArray a.tmps) = true)
  (h : ∀ K : Act → Prop, (∀ a, seqRun P l.toArray C Q E rest a w → K a) → o.quiet P a C K) : seqRun P l.toArray C Q E ((i, true) :: rest) a w := by
 obtain ⟨v, hy, hk⟩ := yieldsIf_of_quiet hf hw (h _ (fun _ h => h))
 exact ⟨o, by simpa using hi, v, hy, hk⟩
theorem seq_skip {i : Nat} {o : Oper} {l : List Oper} {rest : List (Nat × Bool)} {E : Act → World → Prop} {a : Act} {w : World} (hi : l[i]? = some o) (hw : Region.wanted o (yielded l.toArray a.tmps) = false)
  (h : seqRun P l.toArray C Q E rest (a.put o.dst undef) w) : seqRun P l.toArray C Q E ((i, true) :: rest) a w :=
 ⟨o, by simpa using hi, undef, .inr ⟨hw, rfl⟩, h⟩
theorem seq_chain {i : Nat} {o : Oper} {l : List Oper} {rest : List (Nat × Bool)} {E : Act → World → Prop} {a : Act} {w : World} (hi : l[i]? = some o)
  (h : ∀ K : Act → World → Prop, Hid (∀ a w, C w → seqRun P l.toArray C Q E rest a w → K a w) → wpList P l.toArray (Exit.then K Q) [o] a w) : seqRun P l.toArray C Q E ((i, false) :: rest) a w := by
 have h1 := h (fun a' w' => C w' ∧ seqRun P l.toArray C Q E rest a' w') (fun _ _ hC hs => ⟨hC, hs⟩)
 have hi' : l.toArray[i]? = some o := by simpa using hi
 unfold seqRun wpOp
 simp only [hi']
 unfold wpList at h1
 split
 ·rename_i hw
  rw [if_pos hw] at h1
  refine h1.imp ?_ (fun ⟨h2, b, v, h3⟩ => ⟨h2, b, v, h3⟩)
  intro h2
  unfold Oper.wp at *
  generalize (execOp a.eval o).run P w = r at *
  cases r with
  | ok n w' =>
   cases n <;> simp only [Oper.upon] at h2 ⊢ <;>
    first
     | exact h2
     | exact Calls.mono h2 (fun e w'' he => by cases e <;> exact he)
     | exact Rows.mono h2 (fun _ _ he => he)
  | halt x w' => cases x <;> simp only [Oper.upon] at h2 ⊢ <;> exact h2
 ·rename_i hw
  rw [if_neg hw] at h1
  exact h1
end
theorem bc {B : Nat} {W w1 : World} (hb : Below B W w1) {b : Nat} (h : b < B) (o : Nat) : w1.cell? ⟨b, o, none⟩ = W.cell? ⟨b, o, none⟩ := hb.cell (p := ⟨b, o, none⟩) h
theorem ba (w : World) (o : Obj) : Below w.heap.size w (w.alloc o) := (Below.refl _ _).alloc (Nat.le_refl _) o
def Since (B : Nat) (W : World) : Type := { w' : World // Below B W w' }
instance {B : Nat} {W : World} : Nonempty (Since B W) := ⟨⟨W, Below.refl _ _⟩⟩
def Since.world {B : Nat} {W : World} (x : Since B W) : World := x.1
@[simp, go_sem] theorem Since.cell {B : Nat} {W : World} (x : Since B W) (b o : Nat) (h : b < B) : x.world.cell? ⟨b, o, none⟩ = W.cell? ⟨b, o, none⟩ := x.2.cell (p := ⟨b, o, none⟩) h
@[simp, go_sem] theorem Since.frozen {B : Nat} {W : World} (x : Since B W) (b o : Nat) (h : b < B) : x.world.frozen? ⟨b, o, none⟩ = W.frozen? ⟨b, o, none⟩ := x.2.frozen (p := ⟨b, o, none⟩) h
theorem since {B : Nat} {W w' : World} (h : Below B W w') : ∃ x : Since B W, w' = x.world := ⟨⟨w', h⟩, rfl⟩
def KeptX (B X : Nat) (W w' : World) : Prop := ∀ k, k < B → k ≠ X → w'.heap[k]? = W.heap[k]?
theorem KeptX.refl (B X : Nat) (W : World) : KeptX B X W W := fun _ _ _ => rfl
theorem KeptX.drew {B X : Nat} {W w' : World} (h : KeptX B X W w') : KeptX B X W w'.drew := h
theorem KeptX.below {B X : Nat} {W w1 w2 : World} (h : KeptX B X W w1) (hb : Below B w1 w2) : KeptX B X W w2 := fun k hk hx => (hb.block k hk).trans (h k hk hx)
theorem KeptX.alloc {B X : Nat} {W w' : World} (h : KeptX B X W w') (hB : B ≤ w'.heap.size) (o : Obj) : KeptX B X W (w'.alloc o) := h.below ((Below.refl _ _).alloc hB o)
theorem KeptX.setCell {B X : Nat} {W w' : World} (h : KeptX B X W w') {p : Addr} (hp : p.block = X ∨ B ≤ p.block) (u : Value) : KeptX B X W (w'.setCell p u) := fun k hk hx =>
 (Below.heap_setCell _ _ _ _ (by omega)).trans (h k hk hx)
def SinceX (B X : Nat) (W : World) : Type := { w' : World // KeptX B X W w' }
instance {B X : Nat} {W : World} : Nonempty (SinceX B X W) := ⟨⟨W, KeptX.refl _ _ _⟩⟩
def SinceX.world {B X : Nat} {W : World} (x : SinceX B X W) : World := x.1
theorem SinceX.cell {B X : Nat} {W : World} (b o : Nat) (h : b < B) (hx : b ≠ X) {v : Option Value} (hv : W.cell? ⟨b, o, none⟩ = v) : ∀ x : SinceX B X W, x.world.cell? ⟨b, o, none⟩ = v := fun x => by
 rw [← hv]
 exact World.cell?_of_block (w := W) (a := ⟨b, o, none⟩) (x.2 b h hx)
theorem sincex {B X : Nat} {W w' : World} (h : KeptX B X W w') : ∃ x : SinceX B X W, w' = x.world := ⟨⟨w', h⟩, rfl⟩
section
variable {P : Program} {C : World → Prop} {Q : Exit → Act → World → Prop}
theorem q1 {α : Type} {l : List α} {i : Nat} {a : α} : l.toArray.setIfInBounds i a = (l.set i a).toArray := List.setIfInBounds_toArray ..
theorem q2 {α : Type} {x : α} {l : List α} {i : Nat} {a : α} : (x :: l).set (i + 1) a = x :: l.set i a := List.set_cons_succ ..
theorem q3 {α : Type} {x : α} {l : List α} {a : α} : (x :: l).set 0 a = a :: l := List.set_cons_zero ..
theorem qk {i : Nat} {o : Oper} {l : List Oper} {rest : List (Nat × Bool)} {E : Act → World → Prop} {a : Act} {w : World} (h : seqRun P l.toArray C Q E rest (a.put o.dst undef) w) (hi : l[i]? = some o := by rfl) (hw : Region.wanted o (yielded l.toArray a.tmps) = false := by rfl) : seqRun P l.toArray C Q E ((i, true) :: rest) a w := seq_skip hi hw h
theorem qf {i : Nat} {o : Oper} {l : List Oper} {rest : List (Nat × Bool)} {E : Act → World → Prop} {a : Act} {w : World} (h : ∀ K : Act → Prop, (∀ a, seqRun P l.toArray C Q E rest a w → K a) → o.quiet P a C K) (hi : l[i]? = some o := by rfl) (hf : floatB o = true := by rfl) (hw : Region.wanted o (yielded l.toArray a.tmps) = true := by rfl) : seqRun P l.toArray C Q E ((i, true) :: rest) a w := seq_float hi hf hw h
theorem qc {i : Nat} {o : Oper} {l : List Oper} {rest : List (Nat × Bool)} {E : Act → World → Prop} {a : Act} {w : World} (h : ∀ K : Act → World → Prop, Hid (∀ a w, C w → seqRun P l.toArray C Q E rest a w → K a w) → wpList P l.toArray (Exit.then K Q) [o] a w) (hi : l[i]? = some o := by rfl) : seqRun P l.toArray C Q E ((i, false) :: rest) a w := seq_chain hi h
theorem qs {id : Nat} {a : Act} {w : World} {l : List Oper} (C : World → Prop) (ord : List (Nat × Bool)) (hC : C w.drew) (h : seqRun P l.toArray C Q (fun a w => Q .normal a w) ord a w.drew) (hm : P.follows .mixedOrders = true := by kernel_rfl)
  (hB : (Region.noSelect l.toArray && decide (ord.length = l.length) && (match seqB .any l.toArray ord (Array.replicate l.length false) with | some listed => (Region.ready .any l.toArray listed).isEmpty | none => false)) = true := by kernel_rfl)
  (hQ : ∀ c d v a w, Q (.panic c) (Act.put a d v) w → Q (.panic c) a w := by intro c d v a w h; first | (cases d <;> exact h) | cases h.1) : (Code.region id l.toArray true).wp P Q a w := wp_region_seq C ord hm hB hQ hC h
theorem qd {id : Nat} {a : Act} {w : World} {l : List Oper} (C : World → Prop) (ord : List (Nat × Bool)) (h : seqRun P l.toArray C Q (fun a w => Q .normal a w) ord a w.drew) (hC : C w.drew := by first | exact since (Below.refl _ _).drew | exact since (Below.refl _ _).drew.drew | exact since (Below.refl _ _).drew.drew.drew) (hm : P.follows .mixedOrders = true := by kernel_rfl)
  (hB : (Region.noSelect l.toArray && decide (ord.length = l.length) && (match seqB .any l.toArray ord (Array.replicate l.length false) with | some listed => (Region.ready .any l.toArray listed).isEmpty | none => false)) = true := by kernel_rfl)
  (hQ : ∀ c d v a w, Q (.panic c) (Act.put a d v) w → Q (.panic c) a w := by intro c d v a w h; first | (cases d <;> exact h) | cases h.1) : (Code.region id l.toArray true).wp P Q a w := wp_region_seq C ord hm hB hQ hC h
end
end Go.Proofs.YtgcceepadlmelaaGreatDoor
