/-
  A region that draws its order and forks, whose last operation (a store that waits for all) may leave the class: a tree of orders.
-/
import Derived.Test.YtnjcoejnknpfoaaRegionL
namespace Go.Proofs.Ytnjcoejnknpfoaa
open Go.RowKit

/-- A tree of orders; a leaf's row ends with the last operation. -/
inductive OTL where
  | leaf (ord : List (Nat × Bool))
  | seq (ord : List (Nat × Bool)) (t : OTL)
  | two (i j : Nat) (ti tj : OTL)
def OTL.len : OTL → Nat
  | .leaf ord => ord.length
  | .seq ord t => ord.length + t.len
  | .two _ _ t _ => 1 + t.len

section
variable (P : Program) (ops : Array Oper) (C : World → Prop) (L : Nat) (Q : Exit → Act → World → Prop) (md : Region.Mode)
def otlRun : OTL → Act → World → Prop
  | .leaf ord, a, w => seqRunL P ops C L Q (fun a w => Q .normal a w) ord a w
  | .seq ord t, a, w => seqRunL P ops C L Q (otlRun t) ord a w
  | .two i j ti tj, a, w => seqRunL P ops C L Q (otlRun ti) [(i, false)] a w ∧ seqRunL P ops C L Q (otlRun tj) [(j, false)] a w
def otlB : OTL → Array Bool → Bool
  | .leaf ord, listed => match seqBL md ops L ord listed with | some l => (Region.ready md ops l).isEmpty | none => false
  | .seq ord t, listed => (ord.all fun p => !Nat.beq p.1 L) && match seqBL md ops L ord listed with | some l => otlB t l | none => false
  | .two i j ti tj, listed => !Nat.beq i L && !Nat.beq j L && decide (Region.ready md ops listed = [i, j]) && decide (ti.len = tj.len) && otlB ti (listed.setIfInBounds i true) && otlB tj (listed.setIfInBounds j true)
end

section
variable {P : Program} {ops : Array Oper} {Q : Exit → Act → World → Prop} {md : Region.Mode} {C : World → Prop} {L : Nat}
theorem ne_of_beq {i : Nat} (h : (!Nat.beq i L) = true) : i ≠ L := fun e => by subst e; simp at h
theorem wpAnyL_seq_go (hlast : lastB md ops L = true) (hs : Region.noSelect ops = true) (hQ : ∀ c d v a w, Q (.panic c) (Act.put a d v) w → Q (.panic c) a w) {E : Act → World → Prop} (fuel : Nat) : ∀ (ord : List (Nat × Bool)) (listed listed' : Array Bool) (a : Act) (w : World), C w →
    (ord.all fun p => !Nat.beq p.1 L) = true → seqBL md ops L ord listed = some listed' → (∀ a w, C w → E a w → wpAnyL P md ops Q C L fuel listed' a w) → seqRunL P ops C L Q E ord a w → wpAnyL P md ops Q C L (ord.length + fuel) listed a w
  | [], listed, listed', a, w, hC, _, hB, hE, h => by
    cases hB
    rw [List.length_nil, Nat.zero_add]
    exact hE _ _ hC h
  | (i, true) :: rest, listed, listed', a, w, hC, hA, hB, hE, h => by
    simp only [seqBL] at hB
    rw [List.all_cons, Bool.and_eq_true] at hA
    split at hB
    · rename_i hc
      rw [Bool.and_eq_true] at hc
      obtain ⟨hiL, o, ho, v, hy, hh⟩ := h
      rw [List.length_cons, show rest.length + 1 + fuel = rest.length + fuel + 1 by omega]
      exact wpAnyL_first hlast ho hiL (Region.noSelect_spec hs) (fun c a w hq => hQ c _ _ a w hq) _ listed a w (Region.free_spec ho hc.2) (by simpa using hc.1) hy hC (wpAnyL_seq_go hlast hs hQ fuel rest _ listed' _ w hC hA.2 hB hE hh)
    · cases hB
  | (i, false) :: rest, listed, listed', a, w, hC, hA, hB, hE, h => by
    simp only [seqBL] at hB
    rw [List.all_cons, Bool.and_eq_true] at hA
    split at hB
    · rename_i hc
      rw [List.length_cons, show rest.length + 1 + fuel = rest.length + fuel + 1 by omega]
      refine ⟨fun e => (by rw [e] at hc; cases hc.1), ?_⟩
      rw [hc.1]
      intro j hj
      obtain rfl : j = i := by simpa using hj
      exact wpOp_mono (fun a' w' hh => ⟨hh.1, wpAnyL_seq_go hlast hs hQ fuel rest _ listed' a' w' (hh.1 (ne_of_beq hA.1)) hA.2 hB hE hh.2⟩) h
    · cases hB
theorem wpAnyL_of_otl (hlast : lastB md ops L = true) (hs : Region.noSelect ops = true) (hQ : ∀ c d v a w, Q (.panic c) (Act.put a d v) w → Q (.panic c) a w) : ∀ (t : OTL) (listed : Array Bool) (a : Act) (w : World), C w →
    otlB ops L md t listed = true → otlRun P ops C L Q t a w → wpAnyL P md ops Q C L t.len listed a w
  | .leaf ord, listed, a, w, hC, hB, h => by
    simp only [otlB] at hB
    split at hB
    · rename_i l hl
      exact wpAnyL_of_seq hlast hs hQ ord listed l a w (fun _ => hC) hl (by simpa using hB) (fun _ _ h => h) h
    · cases hB
  | .seq ord t, listed, a, w, hC, hB, h => by
    simp only [otlB, Bool.and_eq_true] at hB
    obtain ⟨hA, hB⟩ := hB
    split at hB
    · rename_i l hl
      exact wpAnyL_seq_go hlast hs hQ t.len ord listed l a w hC hA hl (fun a w hC' hE => wpAnyL_of_otl hlast hs hQ t l a w hC' hB hE) h
    · cases hB
  | .two i j ti tj, listed, a, w, hC, hB, h => by
    simp only [otlB, Bool.and_eq_true, decide_eq_true_eq] at hB
    obtain ⟨⟨⟨⟨⟨hiL, hjL⟩, hr⟩, hlen⟩, hi⟩, hj⟩ := hB
    rw [show (OTL.two i j ti tj).len = ti.len + 1 from Nat.add_comm ..]
    refine ⟨fun e => (by rw [e] at hr; cases hr), ?_⟩
    rw [hr]
    intro m hm
    have hm' : m = i ∨ m = j := by simpa using hm
    rcases hm' with rfl | rfl
    · exact wpOp_mono (fun a' w' hh => ⟨hh.1, wpAnyL_of_otl hlast hs hQ ti _ a' w' (hh.1 (ne_of_beq hiL)) hi hh.2⟩) h.1
    · rw [hlen]
      exact wpOp_mono (fun a' w' hh => ⟨hh.1, wpAnyL_of_otl hlast hs hQ tj _ a' w' (hh.1 (ne_of_beq hjL)) hj hh.2⟩) h.2
/-- THE BEGINNING. -/
theorem wp_region_otl {id : Nat} {a : Act} {w : World} {l : List Oper} (L : Nat) (C : World → Prop) (t : OTL) (hm : P.follows .mixedOrders = true)
    (hB : (lastB .any l.toArray L && (Region.noSelect l.toArray && decide (t.len = l.length) && otlB l.toArray L .any t (Array.replicate l.length false))) = true)
    (hQ : ∀ c d v a w, Q (.panic c) (Act.put a d v) w → Q (.panic c) a w) (hC : C w.drew)
    (h : otlRun P l.toArray C L Q t a w.drew) : (Code.region id l.toArray true).wp P Q a w := by
  simp only [Bool.and_eq_true, decide_eq_true_eq] at hB
  obtain ⟨hl1, ⟨hs, hl⟩, hB⟩ := hB
  refine wp_region_any hm (wpAny_of_L (S := C) (L := L) _ _ _ _ ?_)
  have := wpAnyL_of_otl (md := .any) (P := P) hl1 hs hQ t _ a w.drew hC hB h
  rw [hl] at this
  simpa using this
theorem otl_seq {ord : List (Nat × Bool)} {t : OTL} {a : Act} {w : World} (h : seqRunL P ops C L Q (otlRun P ops C L Q t) ord a w) : otlRun P ops C L Q (.seq ord t) a w := h
theorem otl_leaf {ord : List (Nat × Bool)} {a : Act} {w : World} (h : seqRunL P ops C L Q (fun a w => Q .normal a w) ord a w) : otlRun P ops C L Q (.leaf ord) a w := h
theorem otl_two {i j : Nat} {ti tj : OTL} {a : Act} {w : World} (hi : seqRunL P ops C L Q (otlRun P ops C L Q ti) [(i, false)] a w) (hj : seqRunL P ops C L Q (otlRun P ops C L Q tj) [(j, false)] a w) : otlRun P ops C L Q (.two i j ti tj) a w := ⟨hi, hj⟩
end
end Go.Proofs.Ytnjcoejnknpfoaa
