/-
  A range over an iterator that writes its own captured variable (one block of cells, number bn), where the body never leaves the loop.
-/
import Derived.RangeFuncNested
import Derived.RangeFuncBound
import Derived.RangeFuncCalls
import Derived.RangeFuncLeaves
import Derived.Test.YtghkldodceamcaaRegion
namespace Go.Proofs.Ytghkldodceamcaa
open Go.RowKit

/-- The iterator gives a list of S, whatever the rounds do that leave its own block bn as it was. -/
def SeqBox {α : Type} (F : Fence) (n : Nat) (P : Program) (gf : Nat) (lb : Array Value) (encs : α → Array Value) (bn : Nat) (S : List α → Prop) (N : Nat) (w : World) : Prop :=
  ∀ (l : Nat) (J : List α → World → Prop) (W : World), Below w.heap.size w W → (∀ s W v, J s W → J s (W.setCell ⟨bn, 0, none⟩ v)) →
    (∀ pre x W1, J pre W1 → pre.length < N → YieldAt F (n - 1) P l (encs x) W1 fun e W' => e = .returned (.bool true) ∧ J (pre ++ [x]) W' ∧ W'.heap[bn]? = W1.heap[bn]?) →
    J [] W → CallsIn F n P gf (#[.func (.yield l) #[] #[]] ++ lb) W fun e W' => (∃ v, e = .returned v) ∧ ∃ xs, S xs ∧ J xs W'

theorem setCell_keeps {W : World} {a : Addr} {v : Value} {k : Nat} {o : Obj} (h : W.heap[k]? = some o) (ho : o.isCells = false) : (W.setCell a v).heap[k]? = some o := (KeepsOthers.setCell W a v).same k o h ho

theorem wpIn_rangeFunc_box {α : Type} {F : Fence} {n : Nat} {P : Program} {g : Operand} {ps : Array Tmp} {assign body : Code} {Q : Exit → Act → World → Prop} {a : Act} {w : World}
    (hro : F.round = none) (h1 : 1 ≤ n) {gf : Nat} {lb : Array Value} (hg : a.eval g = .func (.func gf) #[] lb) (hFg : F.fn gf) (eg : ∀ args w, (callFunc gf args).run P w = .ok (.enter gf args) w)
    {encs : α → Array Value} {bn : Nat} {S : List α → Prop} {N : Nat} (hseq : SeqBox F (n - 1) P gf lb encs bn S N w) (hbn : bn < w.heap.size) (hps : ∀ x, (encs x).size = ps.size)
    (I : List α → World → Prop) (hI : OwnFrom w.heap.size I) (hIs : ∀ s W v, I s W → I s (W.setCell ⟨bn, 0, none⟩ v)) (h0 : I [] w) (a₁ : α → Act)
    (hassign : ∀ (l : Nat) (x : α) (W : World) (K : Act → World → Prop), K (a₁ x) W →
      assign.wpIn (F.inRound l) (n - 1 - 1) P (Exit.then K (fun _ _ _ => False)) { tmps := (ps.zip (encs x)).foldl (fun t (p, v) => t.setIfInBounds p v) a.tmps, defers := [] } W)
    (hbody : ∀ (l : Nat) (pre : List α) (x : α) (W : World), I pre W → pre.length < N → body.wpIn (F.inRound l) (n - 1 - 1) P (fun e _ W' => e = .normal ∧ KeepsFrom w.heap.size W W' ∧ W'.heap[bn]? = W.heap[bn]? ∧ I (pre ++ [x]) W') (a₁ x) W)
    (hdone : ∀ (D : Nat) (xs : List α) (W : World), w.heap.size ≤ D → S xs → I xs W → W.heap[D]? = some (.deferred (some [])) → Q .normal { a with defers := { target := .collected D, args := #[] } :: a.defers } W) :
    (Code.rangeFunc g ps assign body).wpIn F n P Q a w := by
  refine wpIn_rangeFunc fun fn hfn => ?_
  rw [hro]
  let rec0 : LoopState → Loop := fun st => { state := st, pending := none, fn, tmps := a.tmps, params := ps, assign, body, defers := w.heap.size }
  let D := w.heap.size
  let L := w.heap.size + 1
  obtain ⟨W1, hW1⟩ : ∃ W1, (w.alloc (.deferred (some []))).alloc (.loop (rec0 .ready)) = W1 := ⟨_, rfl⟩
  have hL1 : W1.heap[L]? = some (.loop (rec0 .ready)) := by
    rw [← hW1]
    have := World.alloc_heap_new (w.alloc (.deferred (some []))) (.loop (rec0 .ready))
    rwa [World.size_alloc] at this
  have hD1 : W1.heap[D]? = some (.deferred (some [])) := by
    rw [← hW1]
    exact (Below.heap_alloc _ _ _ (by simp [D])).trans (World.alloc_heap_new w _)
  have hI1 : I [] W1 := by rw [← hW1]; exact hI.alloc _ (hI.alloc _ h0)
  have hb1 : Below w.heap.size w W1 := by rw [← hW1]; exact ((Below.refl _ w).alloc (Nat.le_refl _) _).alloc (by simp) _
  refine ⟨L, [{ target := .collected D, args := #[] }], W1, { target := .fn (.func gf) lb, args := #[.func (.yield L) #[] #[]] }, W1, gf, #[.func (.yield L) #[] #[]] ++ lb, W1, ?_, ?_, ?_, ?_, fun _ => h1, ?_⟩
  · rw [← hW1]
    exact run_enterLoop_outer _ _ _ _ _
  · simp only [resolve, hg]
    simp [go_sem]
  · intro f' hf'
    simp [Target.leads] at hf'
    subst hf'
    exact hFg
  · simp [invoke, go_sem, eg]
  · refine (hseq L (fun pre W => I pre W ∧ W.heap[L]? = some (.loop (rec0 .ready)) ∧ W.heap[D]? = some (.deferred (some []))) W1 hb1
      (fun s W v h => ⟨hIs s W v h.1, setCell_keeps h.2.1 rfl, setCell_keeps h.2.2 rfl⟩) ?_ ⟨hI1, hL1, hD1⟩).mono ?_
    · rintro pre x W ⟨hi, hl, hd⟩ hlen
      have hlt : L < W.heap.size := (Array.getElem?_eq_some_iff.1 hl).1
      have hy := run_yield (P := P) (args := encs x) hl (hps x)
      refine ⟨fn, _, assign, body, hy, roundIn_of_wpIn hfn (hassign _ x W _ ⟨_, run_beginRound hl rfl, ?_⟩)⟩
      have hl2 : (W.putObj L (.loop (rec0 .busy))).heap[L]? = some (.loop (rec0 .busy)) := World.putObj_heap_same hlt
      have hd2 : (W.putObj L (.loop (rec0 .busy))).heap[D]? = some (.deferred (some [])) := (World.putObj_heap_other (by simp only [D, L]; omega)).trans hd
      have hn2 : (W.putObj L (.loop (rec0 .busy))).heap[bn]? = W.heap[bn]? := World.putObj_heap_other (by simp only [L]; omega)
      refine wpIn_mono (hbody _ pre x _ (hI.putObj _ hi (by simp only [L]; omega) hl rfl) hlen) ?_
      rintro e a3 W3 ⟨rfl, hk3, hn3, hi3⟩
      have hl3 := hk3.same L _ (by simp only [L]; omega) hl2 rfl
      have hd3 := hk3.same D _ (Nat.le_refl _) hd2 rfl
      refine ⟨_, _, run_endRound (P := P) none hl3, rfl, ⟨hI.putObj _ hi3 (by simp only [L]; omega) hl3 rfl, World.putObj_heap_same (Array.getElem?_eq_some_iff.1 hl3).1, (World.putObj_heap_other (by simp only [D, L]; omega)).trans hd3⟩, ?_⟩
      exact ((World.putObj_heap_other (by simp only [L]; omega)).trans hn3).trans hn2
    · rintro e W2 ⟨⟨v, rfl⟩, xs, hS, hi, hl, hd⟩
      exact ⟨none, _, run_endLoop (P := P) hl (by simp [rec0]), hdone _ xs _ (Nat.le_refl _) hS (hI.putObj _ hi (by simp only [L]; omega) hl rfl) ((World.putObj_heap_other (by simp only [D, L]; omega)).trans hd)⟩
end Go.Proofs.Ytghkldodceamcaa
