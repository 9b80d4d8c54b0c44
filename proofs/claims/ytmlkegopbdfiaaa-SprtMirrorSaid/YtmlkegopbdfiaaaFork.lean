/-
  A region that draws its order and forks more than once: a tree of orders.
-/
import Derived.Test.YtmlkegopbdfiaaaRegion
namespace Go.Proofs.Ytmlkegopbdfiaaa
open Go.RowKit

/-- A tree of orders: a row of operations, then on; at a fork two or three may come up. -/
inductive OT where
  | done
  | seq (ord : List (Nat × Bool)) (t : OT)
  | two (i j : Nat) (ti tj : OT)
  | three (i j k : Nat) (ti tj tk : OT)
def OT.len : OT → Nat
  | .done => 0
  | .seq ord t => ord.length + t.len
  | .two _ _ t _ => 1 + t.len
  | .three _ _ _ t _ _ => 1 + t.len

section
variable (P : Program) (ops : Array Oper) (Q : Exit → Act → World → Prop) (md : Region.Mode) (C : World → Prop)
/-- The region in all orders of the tree. -/
def otRun : OT → Act → World → Prop
  | .done, a, w => Q .normal a w
  | .seq ord t, a, w => seqRun P ops C Q (otRun t) ord a w
  | .two i j ti tj, a, w => seqRun P ops C Q (otRun ti) [(i, false)] a w ∧ seqRun P ops C Q (otRun tj) [(j, false)] a w
  | .three i j k ti tj tk, a, w => seqRun P ops C Q (otRun ti) [(i, false)] a w ∧ seqRun P ops C Q (otRun tj) [(j, false)] a w ∧ seqRun P ops C Q (otRun tk) [(k, false)] a w
/-- Are these all orders? -/
def otB : OT → Array Bool → Bool
  | .done, listed => (Region.ready md ops listed).isEmpty
  | .seq ord t, listed => match seqB md ops ord listed with | some l => otB t l | none => false
  | .two i j ti tj, listed => decide (Region.ready md ops listed = [i, j]) && decide (ti.len = tj.len) && otB ti (listed.setIfInBounds i true) && otB tj (listed.setIfInBounds j true)
  | .three i j k ti tj tk, listed => decide (Region.ready md ops listed = [i, j, k]) && decide (ti.len = tj.len) && decide (ti.len = tk.len) && otB ti (listed.setIfInBounds i true) && otB tj (listed.setIfInBounds j true) && otB tk (listed.setIfInBounds k true)
end

section
variable {P : Program} {ops : Array Oper} {Q : Exit → Act → World → Prop} {md : Region.Mode} {C : World → Prop}
theorem wpAnyH_of_ot (hs : Region.noSelect ops = true) (hQ : ∀ c d v a w, Q (.panic c) (Act.put a d v) w → Q (.panic c) a w) : ∀ (t : OT) (listed : Array Bool) (a : Act) (w : World), C w →
    otB ops md t listed = true → otRun P ops Q C t a w → wpAnyH P md ops Q C t.len listed a w
  | .done, listed, a, w, _, hB, h => ⟨by simpa [otB] using hB, h⟩
  | .seq ord t, listed, a, w, hC, hB, h => by
    simp only [otB] at hB
    split at hB
    · rename_i l hl
      exact wpAnyH_of_seq (md := md) (P := P) (fuel := t.len) hs hQ ord _ l a w hC hl (fun a w hC' hE => wpAnyH_of_ot hs hQ t l a w hC' hB hE) h
    · cases hB
  | .two i j ti tj, listed, a, w, _, hB, h => by
    simp only [otB, Bool.and_eq_true, decide_eq_true_eq] at hB
    obtain ⟨⟨⟨hr, hlen⟩, hi⟩, hj⟩ := hB
    rw [show (OT.two i j ti tj).len = ti.len + 1 from Nat.add_comm ..]
    refine wpAnyH_all hr (by simp) (fun m hm => ?_)
    have hm' : m = i ∨ m = j := by simpa using hm
    rcases hm' with rfl | rfl
    · exact wpOp_mono (fun a' w' hh => ⟨hh.1, wpAnyH_of_ot hs hQ ti _ a' w' hh.1 hi hh.2⟩) h.1
    · rw [hlen]
      exact wpOp_mono (fun a' w' hh => ⟨hh.1, wpAnyH_of_ot hs hQ tj _ a' w' hh.1 hj hh.2⟩) h.2
  | .three i j k ti tj tk, listed, a, w, _, hB, h => by
    simp only [otB, Bool.and_eq_true, decide_eq_true_eq] at hB
    obtain ⟨⟨⟨⟨⟨hr, hlen⟩, hlen2⟩, hi⟩, hj⟩, hk⟩ := hB
    rw [show (OT.three i j k ti tj tk).len = ti.len + 1 from Nat.add_comm ..]
    refine wpAnyH_all hr (by simp) (fun m hm => ?_)
    have hm' : m = i ∨ m = j ∨ m = k := by simpa using hm
    rcases hm' with rfl | rfl | rfl
    · exact wpOp_mono (fun a' w' hh => ⟨hh.1, wpAnyH_of_ot hs hQ ti _ a' w' hh.1 hi hh.2⟩) h.1
    · rw [hlen]
      exact wpOp_mono (fun a' w' hh => ⟨hh.1, wpAnyH_of_ot hs hQ tj _ a' w' hh.1 hj hh.2⟩) h.2.1
    · rw [hlen2]
      exact wpOp_mono (fun a' w' hh => ⟨hh.1, wpAnyH_of_ot hs hQ tk _ a' w' hh.1 hk hh.2⟩) h.2.2

/-- THE BEGINNING. -/
theorem wp_region_ot {id : Nat} {a : Act} {w : World} {l : List Oper} (C : World → Prop) (t : OT) (hm : P.follows .mixedOrders = true)
    (hB : (Region.noSelect l.toArray && decide (t.len = l.length) && otB l.toArray .any t (Array.replicate l.length false)) = true)
    (hQ : ∀ c d v a w, Q (.panic c) (Act.put a d v) w → Q (.panic c) a w) (hC : C w.drew)
    (h : otRun P l.toArray Q C t a w.drew) : (Code.region id l.toArray true).wp P Q a w := by
  simp only [Bool.and_eq_true, decide_eq_true_eq] at hB
  obtain ⟨⟨hs, hl⟩, hB⟩ := hB
  refine wp_region_held (S := C) hm ?_
  have := wpAnyH_of_ot (md := .any) (P := P) hs hQ t _ a w.drew hC hB h
  rw [hl] at this
  simpa using this
theorem ot_done {a : Act} {w : World} (h : Q .normal a w) : otRun P ops Q C .done a w := h
theorem ot_seq {ord : List (Nat × Bool)} {t : OT} {a : Act} {w : World} (h : seqRun P ops C Q (otRun P ops Q C t) ord a w) : otRun P ops Q C (.seq ord t) a w := h
theorem ot_two {i j : Nat} {ti tj : OT} {a : Act} {w : World} (hi : seqRun P ops C Q (otRun P ops Q C ti) [(i, false)] a w) (hj : seqRun P ops C Q (otRun P ops Q C tj) [(j, false)] a w) : otRun P ops Q C (.two i j ti tj) a w := ⟨hi, hj⟩
theorem ot_three {i j k : Nat} {ti tj tk : OT} {a : Act} {w : World} (hi : seqRun P ops C Q (otRun P ops Q C ti) [(i, false)] a w) (hj : seqRun P ops C Q (otRun P ops Q C tj) [(j, false)] a w) (hk : seqRun P ops C Q (otRun P ops Q C tk) [(k, false)] a w) : otRun P ops Q C (.three i j k ti tj tk) a w := ⟨hi, hj, hk⟩
end
end Go.Proofs.Ytmlkegopbdfiaaa
