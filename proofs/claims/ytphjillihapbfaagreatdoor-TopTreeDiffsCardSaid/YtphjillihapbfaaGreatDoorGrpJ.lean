/-
  RF OwnStr OwnFl OwnPath.
-/
import Derived.RangeFuncNested
import Derived.RangeFuncBound
import Derived.RangeFuncCalls
import Derived.RangeFuncLeaves
import Derived.Shelf.Abstract
import Derived.WalkKit
import Derived.OwnWalkIn
import Derived.TacticsInMore
import Derived.LoopNIn
import Derived.LoopIn
import Derived.Test.YtphjillihapbfaaGreatDoorGrpG
import Derived.Test.YtphjillihapbfaaGreatDoorGrpH
import Derived.Test.YtphjillihapbfaaGreatDoorSl
import Derived.Test.YtphjillihapbfaaGreatDoorGrpC
import Derived.Test.YtphjillihapbfaaGreatDoorChecked
import Derived.Test.YtphjillihapbfaaGreatDoorGrpA
import Derived.Lib.Bytealg
import Derived.Lib.Slices
import Derived.Lib.Strings
import Derived.Lib.Walk
import Derived.Test.YtphjillihapbfaaGreatDoorGrpI
import Derived.Laws.EntriesVeiled
namespace Go.Proofs.YtphjillihapbfaaGreatDoor
open Go.RowKit Go.Shelf

/-- What is no cells and lies at or above B lies as it lay, and so do the cells of c. -/
structure KF (c : Nat → Prop) (B : Nat) (W W' : World) : Prop where
  size : W.heap.size ≤ W'.heap.size
  same : ∀ (k : Nat) (o : Obj), B ≤ k → W.heap[k]? = some o → o.isCells = false → W'.heap[k]? = some o
  cells : ∀ (k : Nat) cs t f, c k → W.heap[k]? = some (.cells cs t f) → W'.heap[k]? = some (.cells cs t f)
theorem KF.refl (c : Nat → Prop) (B : Nat) (W : World) : KF c B W W := ⟨Nat.le_refl _, fun _ _ _ h _ => h, fun _ _ _ _ _ h => h⟩
theorem KF.trans {c : Nat → Prop} {B : Nat} {X Y Z : World} (h : KF c B X Y) (k : KF c B Y Z) : KF c B X Z :=
  ⟨Nat.le_trans h.size k.size, fun i o hi e ho => k.same i o hi (h.same i o hi e ho) ho, fun i cs t f hi e => k.cells i cs t f hi (h.cells i cs t f hi e)⟩
theorem KF.mono {c c' : Nat → Prop} {B B' : Nat} {X Y : World} (h : KF c B X Y) (hc : ∀ k, c' k → c k) (hb : B ≤ B') : KF c' B' X Y := ⟨h.size, fun i o hi e ho => h.same i o (Nat.le_trans hb hi) e ho, fun i cs t f hi e => h.cells i cs t f (hc i hi) e⟩
theorem KF.below {c : Nat → Prop} {B : Nat} {X Y : World} (h : Below X.heap.size X Y) : KF c B X Y := ⟨h.size, fun i _ _ e _ => (h.block i (Array.getElem?_eq_some_iff.1 e).1).trans e, fun i _ _ _ _ e => (h.block i (Array.getElem?_eq_some_iff.1 e).1).trans e⟩
theorem KF.put {c : Nat → Prop} {B l : Nat} {W : World} {o : Obj} (o' : Obj) (h : l < B) (hl : W.heap[l]? = some o) (ho : o.isCells = false) : KF c B W (W.putObj l o') :=
  ⟨by simp, fun i _ hi e _ => (World.putObj_heap_other (by omega)).trans e, fun i _ _ _ _ e => (World.putObj_heap_other (fun e2 => by subst e2; rw [hl] at e; cases e; cases ho)).trans e⟩
theorem KF.setCell {c : Nat → Prop} {B : Nat} (W : World) (p : Addr) (v : Value) (h0 : ¬ c p.block) : KF c B W (W.setCell p v) :=
  ⟨by show W.heap.size ≤ (W.heap.modify _ _).size; rw [Array.size_modify]; exact Nat.le_refl _, fun i o _ e ho => (KeepsOthers.setCell W p v).same i o e ho, fun i _ _ _ hi e => (Below.heap_setCell W p v i (fun e2 => by subst e2; exact h0 hi)).trans e⟩
theorem KF.sl {c : Nat → Prop} {B size n : Nat} {ao : Option Addr} {xs : List Value} {W W' : World} (h : KF c B W W') (hs : Sl W size ao n xs) (hf : ∀ b o, ao = some ⟨b, o, none⟩ → c b) : Sl W' size ao n xs := by
  refine ⟨hs.1, ?_⟩
  rcases hs.2 with h0 | ⟨b, o, e, hb, hc⟩
  · exact .inl h0
  · refine .inr ⟨b, o, e, Nat.lt_of_lt_of_le hb h.size, fun j u hu => ?_⟩
    have hcu := hc j u hu
    obtain ⟨ob, ho, hcl⟩ := cells_of_cell hcu
    cases ob <;> first | (cases hcl; done) | skip
    rename_i c t f
    rw [← hcu]
    exact World.cell?_of_block (w := W) (a := ⟨b, o + j, none⟩) ((h.cells b c t f (hf b o e) ho).trans ho.symm)
/-- Abides new blocks, and the turn of a block at or above B that is no cells. -/
def Ab (B : Nat) (I : World → Prop) : Prop :=
  ∀ W W' row, I W → W.grownBy W' row → (∀ r, row = some r → B ≤ r ∧ ∃ o : Obj, W.heap[r]? = some o ∧ o.isCells = false) → I W'
theorem Ab.putObj {B : Nat} {I : World → Prop} (h : Ab B I) {W : World} {l : Nat} {o : Obj} (o' : Obj) (hs : I W) (hB : B ≤ l) (hl : W.heap[l]? = some o) (ho : o.isCells = false) : I (W.putObj l o') :=
  h W _ (some l) hs (grownBy_putObj' W l o') (fun r e => by cases e; exact ⟨hB, o, hl, ho⟩)
theorem Ab.alloc {B : Nat} {I : World → Prop} (h : Ab B I) {W : World} (o : Obj) (hs : I W) : I (W.alloc o) := h W _ none hs (World.grownBy_alloc W o none) (fun r e => by cases e)
theorem Ab.below {B : Nat} {I : World → Prop} (h : Ab B I) {W W' : World} (hs : I W) (hb : Below W.heap.size W W') : I W' :=
  h W _ none hs ⟨hb.os, hb.tape, hb.output, hb.size, fun k hk _ => hb.block k hk⟩ (fun r e => by cases e)
theorem Ab.mono {B B' : Nat} {I : World → Prop} (h : Ab B I) (hb : B ≤ B') : Ab B' I := fun W W' row hs hg hr => h W W' row hs hg (fun r e => ⟨Nat.le_trans hb (hr r e).1, (hr r e).2⟩)
theorem Ab.and {B : Nat} {I I' : World → Prop} (h : Ab B I) (h' : Ab B I') : Ab B (fun W => I W ∧ I' W) := fun W W' row hs hg hr => ⟨h W W' row hs.1 hg hr, h' W W' row hs.2 hg hr⟩
theorem Ab.pure {B : Nat} (p : Prop) : Ab B (fun _ => p) := fun _ _ _ hs _ _ => hs
theorem Ab.ex {B : Nat} {α : Type} {I : α → World → Prop} (h : ∀ x, Ab B (I x)) : Ab B (fun W => ∃ x, I x W) := fun W W' row ⟨x, hs⟩ hg hr => ⟨x, h x W W' row hs hg hr⟩
/-- A block that lay below B. -/
theorem Ab.blk {B k : Nat} (hk : k < B) (o : Option Obj) (ho : o.isSome = true) : Ab B (fun W => W.heap[k]? = o) := fun W W' row hs hg hr => by
  refine (hg.block k ?_ (fun e => ?_)).trans hs
  · cases o with
    | none => cases ho
    | some o => exact (Array.getElem?_eq_some_iff.1 hs).1
  · have := (hr k e.symm).1
    omega
theorem Ab.belowW {n₀ B : Nat} {w₀ : World} (hn : n₀ ≤ w₀.heap.size) (hB : n₀ ≤ B) : Ab B (fun W => Below n₀ w₀ W) :=
  fun _ _ _ hs hg hr => hs.grown hg (Nat.le_trans hn hs.size) (fun k e => Nat.le_trans hB (hr k e).1)
theorem Ab.sl {B size n : Nat} {ao : Option Addr} {xs : List Value} : Ab B (fun W => Sl W size ao n xs) := fun W W' row hs hg hr => by
  refine ⟨hs.1, ?_⟩
  rcases hs.2 with h0 | ⟨b, o, e, hb, hc⟩
  · exact .inl h0
  · refine .inr ⟨b, o, e, Nat.lt_of_lt_of_le hb hg.size, fun j u hu => ?_⟩
    exact cell_kept (hc j u hu) hg (fun r e => (hr r e).2)

/-- What the body of a round must pay. -/
def rfPost {σ α : Type} (c : Nat → Prop) (B : Nat) (T : σ → α → σ → Prop) (I : σ → World → Prop) (Ix : Code → σ → α → World → Prop) (s : σ) (x : α) (W : World) : Exit → Act → World → Prop
  | .normal, _, W' => KF c B W W' ∧ ∃ s', T s x s' ∧ I s' W'
  | .ret, _, W' => KF c B W W' ∧ Ix .ret s x W'
  | .exit id, _, W' => KF c B W W' ∧ Ix (.exit id) s x W'
  | .goto t, _, W' => KF c B W W' ∧ Ix (.goto t) s x W'
  | .panic _, _, _ => False
  | .outgrown, _, _ => False

/-- The rounds of loop l, as an iterator meets them. -/
def RoundC {σ α : Type} (P : Program) (m l : Nat) (c : Nat → Prop) (B : Nat) (enc : α → Value) (X : σ → α → World → Prop) (T : σ → α → σ → Prop) (J : σ → World → Prop) (Jx : σ → α → World → Prop) : Prop :=
  ∀ s x W, J s W → X s x W → YieldAt Fence.wide m P l #[enc x] W fun e W' => (e = .returned (.bool true) ∧ KF c B W W' ∧ ∃ s', T s x s' ∧ J s' W') ∨ (e = .returned (.bool false) ∧ KF c B W W' ∧ Jx s x W')

variable {n : Nat} {P : Program} {w : World}
theorem wpIn_rf {σ α : Type} {g : Operand} {p : Tmp} {assign body : Code} {Q : Exit → Act → World → Prop} {a : Act}
    {gf : Nat} {pre lb : Array Value} (hg : a.eval g = .func (.func gf) pre lb) (eg : ∀ args w, (callFunc gf args).run P w = .ok (.enter gf args) w)
    (enc : α → Value) (X : σ → α → World → Prop) (T : σ → α → σ → Prop) (I : σ → World → Prop) (Ix : Code → σ → α → World → Prop)
    (hX : ∀ s x, Ab w.heap.size (X s x))
    (hI : ∀ s, Ab w.heap.size (I s)) (hIx : ∀ c s x, Ab w.heap.size (Ix c s x)) (s0 : σ) (h0 : I s0 w) (q : Tmp)
    (S : σ → Prop) (Sx : σ → α → Prop) (kc : Nat → Prop)
    (hcall : ∀ (l m : Nat) (rec : LoopState → Option Code → Loop) (W : World), W.heap.size = w.heap.size + 2 → Below w.heap.size w W →
      (∀ s, Ab W.heap.size (fun W => I s W ∧ W.heap[w.heap.size + 1]? = some (.loop (rec .ready none)) ∧ W.heap[w.heap.size]? = some (.deferred (some [])))) →
      (∀ s x, Ab W.heap.size (fun W => ∃ c, Ix c s x W ∧ W.heap[w.heap.size + 1]? = some (.loop (rec .done (some c))) ∧ W.heap[w.heap.size]? = some (.deferred (some [])))) →
      RoundC P m l kc W.heap.size enc X T (fun s W => I s W ∧ W.heap[w.heap.size + 1]? = some (.loop (rec .ready none)) ∧ W.heap[w.heap.size]? = some (.deferred (some [])))
        (fun s x W => ∃ c, Ix c s x W ∧ W.heap[w.heap.size + 1]? = some (.loop (rec .done (some c))) ∧ W.heap[w.heap.size]? = some (.deferred (some []))) →
      (I s0 W ∧ W.heap[w.heap.size + 1]? = some (.loop (rec .ready none)) ∧ W.heap[w.heap.size]? = some (.deferred (some []))) →
      Calls P gf (pre ++ #[.func (.yield l) #[] #[]] ++ lb) W fun e W' => e = .returned (.tuple #[]) ∧
        ((∃ s, S s ∧ I s W' ∧ W'.heap[w.heap.size + 1]? = some (.loop (rec .ready none)) ∧ W'.heap[w.heap.size]? = some (.deferred (some []))) ∨
         (∃ s x, Sx s x ∧ ∃ c, Ix c s x W' ∧ W'.heap[w.heap.size + 1]? = some (.loop (rec .done (some c))) ∧ W'.heap[w.heap.size]? = some (.deferred (some [])))))
    (hassign : ∀ (l m : Nat) (x : α) (W : World) (K : Act → World → Prop), K { tmps := (a.tmps.setIfInBounds p (enc x)).setIfInBounds q (enc x), defers := [] } W →
      assign.wpIn (Fence.wide.inRound l) m P (Exit.then K (fun _ _ _ => False)) { tmps := a.tmps.setIfInBounds p (enc x), defers := [] } W)
    (hbody : ∀ (l m : Nat) (s : σ) (x : α) (W : World), I s W → X s x W → w.heap.size ≤ W.heap.size → body.wpIn (Fence.wide.inRound l) m P (rfPost kc w.heap.size T I Ix s x W) { tmps := (a.tmps.setIfInBounds p (enc x)).setIfInBounds q (enc x), defers := [] } W)
    (hdone : ∀ (D : Nat) (s : σ) (W : World), w.heap.size ≤ D → S s → I s W → W.heap[D]? = some (.deferred (some [])) → Q .normal { a with defers := { target := .collected D, args := #[] } :: a.defers } W)
    (hstop : ∀ (D : Nat) (c : Code) (s : σ) (x : α) (W : World), w.heap.size ≤ D → Sx s x → Ix c s x W → W.heap[D]? = some (.deferred (some [])) → c.wpIn Fence.wide n P Q { a with defers := { target := .collected D, args := #[] } :: a.defers } W) :
    (Code.rangeFunc g #[p] assign body).wpIn Fence.wide n P Q a w := by
  refine wpIn_rangeFunc ?_
  intro fn hfn
  rw [show Fence.wide.round = none from rfl]
  obtain ⟨rec, hrec⟩ : ∃ rec : LoopState → Option Code → Loop, rec = fun st pe => { state := st, pending := pe, fn, tmps := a.tmps, params := #[p], assign, body, defers := w.heap.size } := ⟨_, rfl⟩
  obtain ⟨W1, hW1⟩ : ∃ W1, (w.alloc (.deferred (some []))).alloc (.loop (rec .ready none)) = W1 := ⟨_, rfl⟩
  have hL1 : W1.heap[w.heap.size + 1]? = some (.loop (rec .ready none)) := by
    rw [← hW1]; have := World.alloc_heap_new (w.alloc (.deferred (some []))) (.loop (rec .ready none)); rwa [World.size_alloc] at this
  have hK1 : W1.heap[w.heap.size]? = some (.deferred (some [])) := by
    rw [← hW1]; exact (Below.heap_alloc _ _ _ (by simp)).trans (World.alloc_heap_new w _)
  have hI1 : I s0 W1 := by rw [← hW1]; exact (hI s0).alloc _ ((hI s0).alloc _ h0)
  have hz1 : W1.heap.size = w.heap.size + 2 := by rw [← hW1]; simp
  refine ⟨w.heap.size + 1, [{ target := .collected w.heap.size, args := #[] }], W1, { target := .fn (.func gf) lb, args := pre ++ #[.func (.yield (w.heap.size + 1)) #[] #[]] }, W1, gf,
    pre ++ #[.func (.yield (w.heap.size + 1)) #[] #[]] ++ lb, W1, ?_, ?_, ?_, ?_, fun h => (by cases h), callsIn_wide.2 ?_⟩
  · rw [← hW1, hrec]; exact run_enterLoop_outer _ _ _ _ _
  · simp only [resolve, hg]
    simp [go_sem]
  · intro f' hf'; exact trivial
  · simp [invoke, go_sem, eg]
  · refine (hcall (w.heap.size + 1) (n - 1 - 1) rec W1 hz1 (by rw [← hW1]; exact ((Below.refl _ _).alloc (Nat.le_refl _) _).alloc (by simp) _) (fun s => ?_) (fun s x => ?_) ?_ ⟨hI1, hL1, hK1⟩).mono ?_
    · rw [hz1]
      exact ((hI s).mono (by omega)).and ((Ab.blk (by omega) _ rfl).and (Ab.blk (by omega) _ rfl))
    · rw [hz1]
      exact Ab.ex fun c => ((hIx c s x).mono (by omega)).and ((Ab.blk (by omega) _ rfl).and (Ab.blk (by omega) _ rfl))
    · rintro s x W ⟨hi, hl, hk⟩ hx
      have hlt : w.heap.size + 1 < W.heap.size := (Array.getElem?_eq_some_iff.1 hl).1
      have hy := run_yield (P := P) (args := #[enc x]) hl (by rw [hrec]; rfl)
      rw [hrec] at hy
      have hy : (Instr.yield (w.heap.size + 1) #[enc x]).run P W = .ok (.round (w.heap.size + 1) fn (a.tmps.setIfInBounds p (enc x)) assign body) W := by
        rw [hy]
        simp
      refine ⟨fn, _, assign, body, hy, roundIn_of_wpIn trivial (hassign _ _ x W _ ⟨_, run_beginRound hl (by rw [hrec]), ?_⟩)⟩
      have hl2 : (W.putObj (w.heap.size + 1) (.loop { rec .ready none with state := .busy })).heap[w.heap.size + 1]? = some (.loop { rec .ready none with state := .busy }) := World.putObj_heap_same hlt
      have hk2 : (W.putObj (w.heap.size + 1) (.loop { rec .ready none with state := .busy })).heap[w.heap.size]? = some (.deferred (some [])) := (World.putObj_heap_other (by omega)).trans hk
      have hKF := KF.put (c := kc) (B := w.heap.size + 2) (.loop { rec .ready none with state := .busy }) (show w.heap.size + 1 < w.heap.size + 2 by omega) hl rfl
      refine wpIn_mono (hbody _ _ s x _ ((hI s).putObj _ hi (by omega) hl rfl) ((hX s x).putObj _ hx (by omega) hl rfl) (by simp; omega)) ?_
      have fin : ∀ (jump : Option Code) (W3 : World), KF kc w.heap.size (W.putObj (w.heap.size + 1) (.loop { rec .ready none with state := .busy })) W3 →
          (Instr.endRound (w.heap.size + 1) jump).run P W3 = .ok (.bool jump.isNone) (W3.putObj (w.heap.size + 1) (.loop (rec (if jump.isNone then .ready else .done) jump))) ∧
          W3.heap[w.heap.size + 1]? = some (.loop { rec .ready none with state := .busy }) ∧
          (W3.putObj (w.heap.size + 1) (.loop (rec (if jump.isNone then .ready else .done) jump))).heap[w.heap.size + 1]? = some (.loop (rec (if jump.isNone then .ready else .done) jump)) ∧
          (W3.putObj (w.heap.size + 1) (.loop (rec (if jump.isNone then .ready else .done) jump))).heap[w.heap.size]? = some (.deferred (some [])) ∧
          KF kc W1.heap.size W (W3.putObj (w.heap.size + 1) (.loop (rec (if jump.isNone then .ready else .done) jump))) := fun jump W3 hk3 => by
        have hl3 := hk3.same _ _ (by omega) hl2 rfl
        have := run_endRound (P := P) jump hl3
        rw [hrec] at this ⊢
        refine ⟨this, by rw [hrec] at hl3; exact hl3, World.putObj_heap_same (Array.getElem?_eq_some_iff.1 hl3).1, (World.putObj_heap_other (by omega)).trans (hk3.same _ _ (Nat.le_refl _) hk2 rfl), ?_⟩
        rw [hz1]
        exact (hKF.trans (hk3.mono (fun _ h => h) (by omega))).trans (KF.put _ (by omega) hl3 rfl)
      rintro e a3 W3 hp
      cases e with
      | normal =>
        obtain ⟨hk3, s', hT, hi3⟩ := hp
        obtain ⟨hr, hl3, hl4, hk4, hkf⟩ := fin none W3 hk3
        exact ⟨_, _, hr, .inl ⟨rfl, hkf, s', hT, (hI s').putObj _ hi3 (by omega) hl3 rfl, hl4, hk4⟩⟩
      | ret =>
        obtain ⟨hk3, hi3⟩ := hp
        obtain ⟨hr, hl3, hl4, hk4, hkf⟩ := fin (some .ret) W3 hk3
        exact ⟨_, _, hr, .inr ⟨rfl, hkf, .ret, (hIx _ _ _).putObj _ hi3 (by omega) hl3 rfl, hl4, hk4⟩⟩
      | exit id =>
        obtain ⟨hk3, hi3⟩ := hp
        obtain ⟨hr, hl3, hl4, hk4, hkf⟩ := fin (some (.exit id)) W3 hk3
        exact ⟨_, _, hr, .inr ⟨rfl, hkf, .exit id, (hIx _ _ _).putObj _ hi3 (by omega) hl3 rfl, hl4, hk4⟩⟩
      | goto t =>
        obtain ⟨hk3, hi3⟩ := hp
        obtain ⟨hr, hl3, hl4, hk4, hkf⟩ := fin (some (.goto t)) W3 hk3
        exact ⟨_, _, hr, .inr ⟨rfl, hkf, .goto t, (hIx _ _ _).putObj _ hi3 (by omega) hl3 rfl, hl4, hk4⟩⟩
      | panic ch => exact hp.elim
      | outgrown => exact hp.elim
    · rintro e W2 ⟨rfl, (⟨s, hS, hi, hl, hk⟩ | ⟨s, x, hSx, c, hi, hl, hk⟩)⟩
      · exact ⟨none, _, by have := run_endLoop (P := P) hl (by rw [hrec]; simp); rw [hrec] at this; exact this, hdone _ s _ (Nat.le_refl _) hS ((hI s).putObj _ hi (by omega) hl rfl) ((World.putObj_heap_other (by omega)).trans hk)⟩
      · exact ⟨some c, _, by have := run_endLoop (P := P) hl (by rw [hrec]; simp); rw [hrec] at this; exact this, hstop _ c s x _ (Nat.le_refl _) hSx ((hIx c s x).putObj _ hi (by omega) hl rfl) ((World.putObj_heap_other (by omega)).trans hk)⟩
end Go.Proofs.YtphjillihapbfaaGreatDoor

namespace Go.Proofs.YtphjillihapbfaaGreatDoor
open Go.RowKit


set_option maxHeartbeats 1000000 in
set_option maxRecDepth 100000 in
theorem stringslite_IndexByte (s : ByteArray) (c : Int) (w : World) :
    Calls Tryz.prog 99 #[.string s, .int .u8 c] w fun e w' => e = .returned (.int .i64 (Lib.indexByte s.data.toList c.toNat.toUInt8)) ∧ w' = w := by
  go_enter Tryz.func99, Tryz.ntmps99
  go_wp2
  rw [run_callFunc_extern Tryz.func124 (by kernel_rfl) (by kernel_rfl) (by kernel_rfl) (e := Extern.BytealgIndexByte.indexByte) (by kernel_rfl), Lib.run_indexByteString]
  simp only [Result.andThen]
  rw [Oper.upon_value]
  go_wp2
  go_ret
  exact ⟨rfl, rfl⟩



set_option maxHeartbeats 2000000 in
set_option maxRecDepth 100000 in
theorem stringslite_Index_one (s : ByteArray) (c : UInt8) (w : World) :
    Calls Tryz.prog 71 #[.string s, .string ⟨#[c]⟩] w fun e w' => e = .returned (.int .i64 (Lib.indexByte s.data.toList c)) ∧ w' = w := by
  go_enter Tryz.func71, Tryz.ntmps71
  go_wp2_with (go_at_call 99; refine (stringslite_IndexByte _ _ _).mono ?_; rintro e w' ⟨rfl, rfl⟩)
  · have h : ([c] == s.toList) = true := by assumption
    go_ret
    refine ⟨?_, rfl⟩
    have e : s.data.toList = [c] := by rw [← Lib.toList_data]; exact (beq_iff_eq.1 h).symm
    rw [e]
    simp [Lib.indexByte]
  · go_ret
    exact ⟨rfl, rfl⟩



set_option maxHeartbeats 1000000 in
theorem strings_Index_one (s : ByteArray) (c : UInt8) (w : World) :
    Calls Tryz.prog 94 #[.string s, .string ⟨#[c]⟩] w fun e w' => e = .returned (.int .i64 (Lib.indexByte s.data.toList c)) ∧ w' = w := by
  go_enter Tryz.func94, Tryz.ntmps94
  go_wp2_with (go_at_call 71; refine (stringslite_Index_one _ _ _).mono ?_; rintro e w' ⟨rfl, rfl⟩)
  go_ret
  exact ⟨rfl, rfl⟩



end Go.Proofs.YtphjillihapbfaaGreatDoor

namespace Go.Proofs.YtphjillihapbfaaGreatDoor
open Go.RowKit
theorem h_new {w : World} {n : Nat} (h : w.heap.size = n) (o : Obj) : (w.alloc o).heap[n]? = some o := by subst h; exact World.alloc_heap_new w o
theorem h_old {w : World} {k : Nat} (h : k < w.heap.size) (o : Obj) : (w.alloc o).heap[k]? = w.heap[k]? := Below.heap_alloc w o k h
/-- A file: its path, its data. -/
abbrev Fl := ByteArray × ByteArray
abbrev fce (f : Fl) : List Value := [.string f.1, .string f.2]
abbrev fca (f : Fl) : Array Value := #[.string f.1, .string f.2]
def fcells (l : List Fl) : List Value := l.flatMap fce
theorem fce_length (f : Fl) : (fce f).length = 2 := rfl
theorem fcells_length (l : List Fl) : (fcells l).length = l.length * 2 := flat_length fce_length l
theorem fcells_at {l : List Fl} {k : Nat} (h : k < l.length) : (fcells l)[k * 2 + 0]? = some (.string l[k].1) ∧ (fcells l)[k * 2 + 1]? = some (.string l[k].2) := ⟨flat_at fce_length h (by omega), flat_at fce_length h (by omega)⟩
theorem fcells_append (l m : List Fl) : fcells (l ++ m) = fcells l ++ fcells m := by simp [fcells]
theorem fcells_one (l : List Fl) : ∀ u ∈ fcells l, u.oneCell' = true := by
  intro u hu
  simp only [fcells, List.mem_flatMap] at hu
  obtain ⟨r, _, hu⟩ := hu
  simp only [List.mem_cons, List.not_mem_nil, or_false] at hu
  rcases hu with rfl | rfl <;> rfl
/-- A slice value reads as files. -/
structure FA (w : World) (ao : Option Addr) (n cap : Nat) (l : List Fl) : Prop where
  len : l.length = n
  sl : Sl w 2 ao n (fcells l)
  le : n ≤ cap
  max : cap ≤ maxLen
  z : ao = none → cap = 0
  sz : ∀ f ∈ l, f.1.size ≤ maxLen ∧ f.2.size ≤ maxLen
theorem FA.below {w w' : World} {ao : Option Addr} {n cap : Nat} {l : List Fl} (h : FA w ao n cap l) (hb : Below w.heap.size w w') : FA w' ao n cap l := ⟨h.len, h.sl.below hb, h.le, h.max, h.z, h.sz⟩
theorem FA.nil (w : World) : FA w none 0 0 [] := ⟨rfl, Sl.nil, Nat.le_refl _, by simp [maxLen], (fun _ => rfl), (fun r hr => by cases hr)⟩
theorem ftake_succ {α : Type} {P : α → Bool} {l : List α} {k : Nat} (hk : k < l.length) (hn : (l.take k).any P = false) (hp : P l[k] = false) : (l.take (k + 1)).any P = false := by
  rw [List.take_succ_eq_append_getElem hk, List.any_append, hn]
  simp [hp]
/-- A file of more than the statements' size. -/
def longF (f : Fl) : Bool := decide (120 < f.1.size) || decide (200 < f.2.size)
def fgreat (l : List Fl) : Bool := decide (10 < l.length) || l.any longF
set_option maxRecDepth 100000 in
set_option maxHeartbeats 4000000 in
theorem fGreat_any (l : List Fl) (n cap : Nat) (ao : Option Addr) (w : World) (h : FA w ao n cap l) :
    Calls Tryz.prog 5 #[.slice ao n cap] w fun e w' => e = .returned (.bool (fgreat l)) ∧ w' = w := by
  have HA := lid h
  have hmx : n ≤ 9223372036854775807 := Nat.le_trans h.le h.max
  by_cases h10 : 10 < n
  · have HV : Hid (fgreat l = true) := lid (by unfold fgreat; rw [h.len, decide_eq_true h10]; rfl)
    have d : decide ((10 : Int) < (n : Int)) = true := by simp; omega
    clear h h10
    go_enter Tryz.func5, Tryz.ntmps5
    go_wp2_with fail
    go_ret
    exact ⟨ret_bool (by rw [HV.out]), rfl⟩
  have HV : Hid (fgreat l = l.any longF) := lid (by unfold fgreat; rw [h.len, decide_eq_false h10]; rfl)
  have d : decide ((10 : Int) < (n : Int)) = false := by simp; omega
  have hn10 : n ≤ 10 := by omega
  clear h h10
  go_enter Tryz.func5, Tryz.ntmps5
  go_wp2_with fail
  go_loopw [3] (fun i wr => ∃ j : Nat, j ≤ n ∧ i = .int .i64 j ∧ Hid ((l.take j).any longF = false) ∧ Hid (w = wr)) (fun i _ => n - (intOf i).toNat)
  case atStart => exact ⟨0, Nat.zero_le _, rfl, lid rfl, lid rfl⟩
  case round =>
    obtain ⟨j, hj, rfl, HT, HW⟩ := hrel
    have hW := HW.out
    subst hW
    by_cases hlt : j < n
    · have dj : decide ((j : Int) < (n : Int)) = true := by simp; omega
      have hjl : j < l.length := by rw [HA.out.len]; exact hlt
      obtain ⟨b1, o1, rfl, hlb, hcell⟩ := HA.out.sl.at_ hlt
      have x0 := hcell (j * 2 + 0) _ (fcells_at hjl).1
      have x1 := hcell (j * 2 + 1) _ (fcells_at hjl).2
      rw [← Nat.add_assoc] at x1
      rw [Nat.add_zero] at x0
      have HY : Hid (longF l[j] = true → l.any longF = true) := lid (fun e => List.any_eq_true.2 ⟨l[j], List.getElem_mem hjl, e⟩)
      have HZ : Hid (longF l[j] = false → (l.take (j + 1)).any longF = false) := lid (fun e => ftake_succ hjl HT.out e)
      have HSZ := lid (HA.out.sz _ (List.getElem_mem hjl))
      obtain ⟨⟨p, q⟩, hx⟩ : ∃ x, l[j] = x := ⟨_, rfl⟩
      rw [hx] at x0 x1 HY HZ HSZ
      have hp63 : p.size ≤ 9223372036854775807 := HSZ.out.1
      have hq63 : q.size ≤ 9223372036854775807 := HSZ.out.2
      clear hcell hx
      by_cases h1 : 120 < p.size
      · have d1 : decide ((120 : Int) < (p.size : Int)) = true := by simp; omega
        have HE := lid (HY.out (by unfold longF; simp [h1]))
        clear h1 HY HZ
        go_wp2_with fail
        go_ret
        exact ⟨ret_bool (by rw [HV.out, HE.out]), rfl⟩
      · have d1 : decide ((120 : Int) < (p.size : Int)) = false := by simp; omega
        by_cases h2 : 200 < q.size
        · have d2 : decide ((200 : Int) < (q.size : Int)) = true := by simp; omega
          have HE := lid (HY.out (by unfold longF; simp [h2]))
          clear h1 h2 HY HZ
          go_wp2_with fail
          go_ret
          exact ⟨ret_bool (by rw [HV.out, HE.out]), rfl⟩
        · have d2 : decide ((200 : Int) < (q.size : Int)) = false := by simp; omega
          have HE := lid (HZ.out (by unfold longF; simp [h1, h2]))
          clear h1 h2 HY HZ
          go_wp2_with fail
          go_roundw
          case rel => exact ⟨j + 1, by omega, by go_num, HE, lid trivial⟩
          case measure => simp [intOf]; omega
    · obtain rfl : j = n := by omega
      have dj : decide ((j : Int) < (j : Int)) = false := by simp
      have HE : Hid (l.any longF = false) := lid (by have := HT.out; rwa [List.take_of_length_le (Nat.le_of_eq HA.out.len)] at this)
      go_wp2_with fail
      go_ret
      exact ⟨ret_bool (by rw [HV.out, HE.out]), rfl⟩
/-- The data of a file. -/
def findF (l : List Fl) (p : ByteArray) : Option ByteArray := (l.find? fun f => decide (f.1 = p)).map (·.2)
theorem findF_none {l : List Fl} {p : ByteArray} {j : Nat} (h : j < l.length) (hn : (l.take j).any (fun f => decide (f.1 = p)) = false) (he : l[j].1 = p) : findF l p = some l[j].2 := by
  have h0 : l.drop j = l[j] :: l.drop (j + 1) := List.drop_eq_getElem_cons h
  have h2 : l.find? (fun f => decide (f.1 = p)) = some l[j] := by
    rw [show l.find? (fun f => decide (f.1 = p)) = (l.take j ++ l.drop j).find? (fun f => decide (f.1 = p)) from congrArg _ (List.take_append_drop j l).symm, List.find?_append, List.find?_eq_none.2 (fun x hx => by have := List.any_eq_false.1 hn x hx; simpa using this), h0]
    rw [List.find?_cons_of_pos (by simpa using he)]
    rfl
  unfold findF
  rw [h2]
  rfl
theorem findF_miss {l : List Fl} {p : ByteArray} (hn : l.any (fun f => decide (f.1 = p)) = false) : findF l p = none := by
  unfold findF
  rw [List.find?_eq_none.2 (fun x hx => by have := List.any_eq_false.1 hn x hx; simpa using this)]
  rfl
/-- The object with a file's data. -/
def obB (s : ByteArray) : Ob := ⟨1, s, [], (0, 0), [], ⟨#[]⟩, 0, ⟨#[]⟩⟩
end Go.Proofs.YtphjillihapbfaaGreatDoor

namespace Go.Proofs.YtphjillihapbfaaGreatDoor
open Go.RowKit Go.Shelf
attribute [local go_sem] Oper.semAt_some
/-- A text cut at each slash. -/
def splitL : List UInt8 → List (List UInt8)
  | [] => [[]]
  | c :: l => if c = 47 then [] :: splitL l else match splitL l with
    | p :: r => (c :: p) :: r
    | [] => [[c]]
theorem splitL_ne (l : List UInt8) : splitL l ≠ [] := by
  cases l with
  | nil => simp [splitL]
  | cons c l =>
    rw [splitL]
    split
    · simp
    · split <;> simp
theorem split_no : ∀ {l : List UInt8}, Lib.indexByte l 47 = -1 → splitL l = [l]
  | [], _ => rfl
  | c :: l, h => by
    rw [Lib.indexByte] at h
    by_cases hc : c = 47
    · subst hc
      simp at h
    · rw [if_neg (by simpa using hc)] at h
      have h2 : Lib.indexByte l 47 = -1 := by
        by_cases h3 : Lib.indexByte l 47 = -1
        · exact h3
        · rw [if_neg (by simpa using h3)] at h
          have := Lib.indexByte_ge l 47
          omega
      rw [splitL, if_neg hc, split_no h2]
theorem split_at : ∀ {l : List UInt8} {i : Nat}, Lib.indexByte l 47 = (i : Int) → i < l.length ∧ splitL l = l.take i :: splitL (l.drop (i + 1))
  | [], i, h => by rw [Lib.indexByte] at h; omega
  | c :: l, i, h => by
    rw [Lib.indexByte] at h
    by_cases hc : c = 47
    · subst hc
      rw [if_pos (by simp)] at h
      obtain rfl : i = 0 := by omega
      exact ⟨by simp, by rw [splitL, if_pos rfl]; rfl⟩
    · rw [if_neg (by simpa using hc)] at h
      by_cases h3 : Lib.indexByte l 47 = -1
      · rw [if_pos (by simpa using h3)] at h
        omega
      · rw [if_neg (by simpa using h3)] at h
        have h4 := Lib.indexByte_ge l 47
        obtain ⟨j, hj⟩ : ∃ j : Nat, Lib.indexByte l 47 = j := ⟨(Lib.indexByte l 47).toNat, by omega⟩
        obtain rfl : i = j + 1 := by omega
        obtain ⟨h5, h6⟩ := split_at hj
        refine ⟨by simp; omega, ?_⟩
        rw [splitL, if_neg hc, h6]
        simp
theorem bstr_take (l : List UInt8) (k : Nat) : (bstr l).extract 0 k = bstr (l.take k) := by
  apply ByteArray.ext
  simp [bstr]
theorem bstr_from (l : List UInt8) (k n : Nat) (h : n = l.length) : (bstr l).extract k n = bstr (l.drop k) := by
  subst h
  apply ByteArray.ext
  simp only [bstr, ByteArray.data_extract, List.extract_toArray, List.extract_eq_take_drop]
  rw [List.take_of_length_le (by simp)]
theorem splitL_len : ∀ {l : List UInt8} {x : List UInt8}, x ∈ splitL l → x.length ≤ l.length
  | [], x, h => by simp [splitL] at h; simp [h]
  | c :: l, x, h => by
    rw [splitL] at h
    split at h
    · rcases List.mem_cons.1 h with rfl | h
      · simp
      · have := splitL_len h
        simp; omega
    · split at h
      · rename_i p r hp
        rcases List.mem_cons.1 h with rfl | h
        · have := splitL_len (l := l) (x := p) (by rw [hp]; simp)
          simp; omega
        · have := splitL_len (l := l) (x := x) (by rw [hp]; simp [h])
          simp; omega
      · simp at h
        simp [h]
/-- The length of a text in a box. -/
def strAt (w : World) (b : Nat) : Nat := match w.cell? ⟨b, 0, none⟩ with
  | some (.string s) => s.size
  | _ => 0
def SpX (s : List (List UInt8)) (x : List UInt8) (_ : World) : Prop := ∃ t, s = x :: t
def SpT (s : List (List UInt8)) (x : List UInt8) (s' : List (List UInt8)) : Prop := s = x :: s'
abbrev spv (x : List UInt8) : Value := .string (bstr x)
set_option maxRecDepth 100000 in
set_option maxHeartbeats 4000000 in
theorem splitSeq_any (l m : Nat) (c : Nat → Prop) (B bs bp bk : Nat) (s0 : List UInt8) (J : List (List UInt8) → World → Prop) (Jx : List (List UInt8) → List UInt8 → World → Prop) (hJ : ∀ s, Ab B (J s)) (hJs : ∀ s W v, J s W → J s (W.setCell ⟨bs, 0, none⟩ v))
    (hY : RoundC Tryz.prog m l c B spv SpX SpT J Jx) (W : World) (hs : W.heap[bs]? = some (.cells #[.string (bstr s0)] 9 (0, 0))) (hp : W.heap[bp]? = some (.cells #[.string ⟨#[47]⟩] 9 (0, 0))) (hk : W.heap[bk]? = some (.cells #[.int .i64 0] 3 (0, 0))) (h1 : c bs) (h2 : c bp) (h3 : c bk) (hsp : bs ≠ bp) (hsk : bs ≠ bk) (hlen : s0.length ≤ 1000000) (hJ0 : J (splitL s0) W) :
    Calls Tryz.prog 92 #[.func (.yield l) #[] #[], .pointer (some ⟨bp, 0, none⟩), .pointer (some ⟨bs, 0, none⟩), .pointer (some ⟨bk, 0, none⟩)] W fun e W' => e = .returned (.tuple #[]) ∧ (J [] W' ∨ ∃ s x, Jx s x W') := by
  have HS := lid hs
  have HP := lid hp
  have HK := lid hk
  have HJ := lid hJ
  have HJS := lid hJs
  have HY := lid hY
  have HJ0 := lid hJ0
  have lP := row_lt hp
  have p0 := row_cell hp 0
  clear hs hp hk hJ hJs hY hJ0
  refine (callsIn_wide (n := m + 1)).1 ?_
  refine callsIn_of_wp Tryz.func92 rfl trivial ?_ rfl
  simp only [Tryz.ntmps92, List.size_toArray, List.length_cons, List.length_nil, Nat.reduceAdd, Nat.reduceSub, Array.replicate_succ, Array.replicate_zero, List.push_toArray, List.append_toArray, List.nil_append, List.cons_append]
  gi_wp2_with fail
  gi_loopw [7] (fun _ wr => ∃ t : List UInt8, t.length ≤ 1000000 ∧ Hid (wr.heap[bs]? = some (.cells #[.string (bstr t)] 9 (0, 0))) ∧ Hid (wr.heap[bp]? = some (.cells #[.string ⟨#[47]⟩] 9 (0, 0))) ∧ Hid (wr.heap[bk]? = some (.cells #[.int .i64 0] 3 (0, 0))) ∧ Hid (J (splitL t) wr)) (fun _ wr => strAt wr bs)
  case atStart => exact ⟨s0, hlen, HS, HP, HK, HJ0⟩
  case round =>
    obtain ⟨t, ht, HB, HP2, HK2, HJ2⟩ := hrel
    have hBS := HB
    replace p0 := row_cell HP2.out 0
    have q0 := row_cell HK2.out 0
    have s0' := row_cell HB.out 0
    have lS := row_lt HB.out
    have lP2 := row_lt HP2.out
    have lK := row_lt HK2.out
    have hsz : (bstr t).size = t.length := by simp [bstr, ByteArray.size]
    have CX := lid (strings_Index_one (bstr t) 47 wr)
    gi_wp2_with fail
    refine ⟨trivial, (callsIn_wide.2 CX.out).mono ?_⟩
    rintro e w2 ⟨rfl, rfl⟩
    rw [show (bstr t).data.toList = t by simp [bstr]]
    by_cases hx : Lib.indexByte t 47 = -1
    · rw [hx]
      obtain ⟨fn, tmps, assign, body, hy, hR⟩ := HY.out _ t w2 HJ2.out ⟨[], split_no hx⟩
      have HR1 := lid hR
      have HSP := lid (split_no hx)
      clear hx hR
      gi_wp2_with fail
      refine HR1.out.mono ?_
      rintro e W' (⟨rfl, hk', s', hT, hJ'⟩ | ⟨rfl, hk', hJx'⟩)
      · have hs' : s' = [] := by
          unfold SpT at hT
          rw [HSP.out] at hT
          exact (List.cons.inj hT).2.symm
        subst hs'
        have HJ' := lid hJ'
        clear hJ' hT hk'
        gi_wp2_with fail
        exact bodyPost_end (results_none rfl _ _ _) rfl ⟨rfl, .inl HJ'.out⟩
      · have HJ' := lid hJx'
        clear hJx' hk'
        gi_wp2_with fail
        exact bodyPost_end (results_none rfl _ _ _) rfl ⟨rfl, .inr ⟨_, _, HJ'.out⟩⟩
    · obtain ⟨i, hi⟩ : ∃ i : Nat, Lib.indexByte t 47 = i := ⟨(Lib.indexByte t 47).toNat, by have := Lib.indexByte_ge t 47; omega⟩
      rw [hi]
      obtain ⟨hil, hsp2⟩ := split_at hi
      obtain ⟨fn, tmps, assign, body, hy, hR⟩ := HY.out _ (t.take i) w2 HJ2.out ⟨_, hsp2⟩
      rw [show spv (t.take i) = .string ((bstr t).extract 0 i) by rw [bstr_take]] at hy
      have HR1 := lid hR
      have HSP := lid hsp2
      have d0 : decide ((i : Int) < 0) = false := by simp
      clear hx hi hR hsp2
      gi_wp2_with fail
      refine HR1.out.mono ?_
      rintro e W' (⟨rfl, hk', s', hT, hJ'⟩ | ⟨rfl, hk', hJx'⟩)
      · have hs' : s' = splitL (t.drop (i + 1)) := by
          unfold SpT at hT
          rw [HSP.out] at hT
          exact (List.cons.inj hT).2.symm
        subst hs'
        have HJ' := lid hJ'
        have HB' := lid (hk'.cells _ _ _ _ h1 HB.out)
        have HP' := lid (hk'.cells _ _ _ _ h2 HP2.out)
        have HK' := lid (hk'.cells _ _ _ _ h3 HK2.out)
        clear hJ' hT hk' p0 q0 s0' lS lP2 lK hy
        have p0 := row_cell HP'.out 0
        have s0' := row_cell HB'.out 0
        have f0 := row_fz HB'.out 0
        have lS := row_lt HB'.out
        have lP2 := row_lt HP'.out
        gi_wp2_with fail
        go_roundw
        case rel =>
          refine ⟨t.drop (i + 1), by rw [List.length_drop]; omega, lid ?_, lid (row_other HP'.out (by omega)), lid (row_other HK'.out (by omega)), lid (HJS.out _ _ _ HJ'.out)⟩
          rw [bstr_from _ _ _ rfl]
          have := row_set HB'.out 0 (.string (bstr (t.drop (i + 1))))
          simpa using this
        case measure =>
          have e1 := row_cell (row_set HB'.out 0 (.string ((bstr t).extract (i + 1) t.length))) 0
          have e2 := row_cell HB.out 0
          unfold strAt
          rw [e1, e2]
          rw [bstr_from _ _ _ rfl]
          simp [bstr, ByteArray.size]
          omega
      · have HJ' := lid hJx'
        clear hJx' hk'
        gi_wp2_with fail
        exact bodyPost_ret (results_none rfl _ _ _) rfl ⟨rfl, .inr ⟨_, _, HJ'.out⟩⟩
end Go.Proofs.YtphjillihapbfaaGreatDoor
