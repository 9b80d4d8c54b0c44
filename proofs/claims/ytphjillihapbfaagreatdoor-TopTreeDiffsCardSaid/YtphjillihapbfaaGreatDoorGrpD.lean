/-
  Pool RangeBox AppG Bld CodSpec CodIter.
-/
import Derived.Test.YtphjillihapbfaaGreatDoorDigCompare
import Derived.Test.YtphjillihapbfaaGreatDoorGrpC
import Derived.Test.YtphjillihapbfaaGreatDoorSl
import Derived.RangeFuncNested
import Derived.RangeFuncBound
import Derived.RangeFuncCalls
import Derived.RangeFuncLeaves
import Derived.Test.YtphjillihapbfaaGreatDoorGrpB
import Derived.Test.YtphjillihapbfaaGreatDoorGrpA
import Derived.Test.YtphjillihapbfaaGreatDoorRows
import Derived.Shelf.Strings.Builder1
import Derived.Lib.OthersKept
import Derived.Shelf.Abstract
import Derived.WalkKit
import Derived.OwnWalkIn
import Derived.TacticsInMore
import Derived.LoopNIn
import Derived.LoopIn
namespace Go.Proofs.YtphjillihapbfaaGreatDoor
open Go.RowKit

/-- An item: digest, data. -/
abbrev It := Dg × ByteArray
abbrev ice (x : It) : List Value := [.int .u64 x.1.1.toNat, .int .u64 x.1.2.toNat, .string x.2]
def icells (l : List It) : List Value := l.flatMap ice
theorem ice_length (x : It) : (ice x).length = 3 := rfl
theorem icells_length (l : List It) : (icells l).length = l.length * 3 := flat_length ice_length l
theorem icells_at {l : List It} {k : Nat} (h : k < l.length) : (icells l)[k * 3 + 0]? = some (.int .u64 l[k].1.1.toNat) ∧ (icells l)[k * 3 + 1]? = some (.int .u64 l[k].1.2.toNat) ∧ (icells l)[k * 3 + 2]? = some (.string l[k].2) := ⟨flat_at ice_length h (by omega), flat_at ice_length h (by omega), flat_at ice_length h (by omega)⟩
theorem icells_append (l m : List It) : icells (l ++ m) = icells l ++ icells m := by simp [icells]
theorem icells_one (l : List It) : ∀ u ∈ icells l, u.oneCell' = true := by
  intro u hu
  simp only [icells, List.mem_flatMap] at hu
  obtain ⟨r, _, hu⟩ := hu
  simp only [List.mem_cons, List.not_mem_nil, or_false] at hu
  rcases hu with rfl | rfl | rfl <;> rfl

/-- The order of digests. -/
def ltD (a b : Dg) : Bool := decide (cmpD a b < 0)
theorem cmpD_cases (a b : Dg) : (cmpD a b = -1 ∧ (a.1.toNat < b.1.toNat ∨ a.1.toNat = b.1.toNat ∧ a.2.toNat < b.2.toNat)) ∨ (cmpD a b = 0 ∧ a = b) ∨ (cmpD a b = 1 ∧ (b.1.toNat < a.1.toNat ∨ a.1.toNat = b.1.toNat ∧ b.2.toNat < a.2.toNat)) := by
  have k1 : a.1.toNat = b.1.toNat → a.1 = b.1 := fun h => UInt64.toNat_inj.1 h
  have k2 : a.2.toNat = b.2.toNat → a.2 = b.2 := fun h => UInt64.toNat_inj.1 h
  unfold cmpD or2 cmpI
  rcases Nat.lt_trichotomy a.1.toNat b.1.toNat with h | h | h
  · left
    have h' : ((a.1.toNat : Int)) < b.1.toNat := by omega
    simp [h', h]
  · have n1 : ¬ ((a.1.toNat : Int)) < b.1.toNat := by omega
    have n2 : ¬ ((b.1.toNat : Int)) < a.1.toNat := by omega
    rcases Nat.lt_trichotomy a.2.toNat b.2.toNat with g | g | g
    · left
      have g' : ((a.2.toNat : Int)) < b.2.toNat := by omega
      simp [g', g, h]
    · right; left
      have g1 : ¬ ((a.2.toNat : Int)) < b.2.toNat := by omega
      have g2 : ¬ ((b.2.toNat : Int)) < a.2.toNat := by omega
      exact ⟨by simp [n1, n2, g1, g2], Prod.ext (k1 h) (k2 g)⟩
    · right; right
      have g1 : ¬ ((a.2.toNat : Int)) < b.2.toNat := by omega
      have g2 : ((b.2.toNat : Int)) < a.2.toNat := by omega
      simp [g1, g2, g, h]
  · right; right
    have n1 : ¬ ((a.1.toNat : Int)) < b.1.toNat := by omega
    have n2 : ((b.1.toNat : Int)) < a.1.toNat := by omega
    simp [n1, n2, h]
theorem ltD_iff (a b : Dg) : ltD a b = true ↔ (a.1.toNat < b.1.toNat ∨ a.1.toNat = b.1.toNat ∧ a.2.toNat < b.2.toNat) := by
  unfold ltD
  rw [decide_eq_true_eq]
  rcases cmpD_cases a b with ⟨e, h⟩ | ⟨e, h⟩ | ⟨e, h⟩
  · rw [e]; exact ⟨fun _ => h, fun _ => by decide⟩
  · rw [e, h]; exact ⟨fun k => absurd k (by decide), fun k => by omega⟩
  · rw [e]; exact ⟨fun k => absurd k (by decide), fun k => by omega⟩
theorem ltD_irrefl (a : Dg) : ltD a a = false := by
  rw [Bool.eq_false_iff, Ne, ltD_iff]; omega
theorem ltD_trans {a b c : Dg} (h : ltD a b = true) (g : ltD b c = true) : ltD a c = true := by
  rw [ltD_iff] at *; omega
theorem ltD_tri {a b : Dg} (h : ltD a b = false) (g : a ≠ b) : ltD b a = true := by
  rw [Bool.eq_false_iff, Ne, ltD_iff] at h
  rw [ltD_iff]
  rcases cmpD_cases a b with ⟨_, k⟩ | ⟨_, k⟩ | ⟨_, k⟩
  · exact absurd k h
  · exact absurd k g
  · omega
theorem cmpD_eq (a b : Dg) : cmpD a b = 0 ↔ a = b := by
  rcases cmpD_cases a b with ⟨e, h⟩ | ⟨e, h⟩ | ⟨e, h⟩
  · rw [e]; exact ⟨fun k => absurd k (by decide), fun k => by subst k; omega⟩
  · exact ⟨fun _ => h, fun _ => e⟩
  · rw [e]; exact ⟨fun k => absurd k (by decide), fun k => by subst k; omega⟩

/-- Where the first element that is not below stands. -/
def idxB {α : Type} (p : α → Bool) (l : List α) : Nat := (l.takeWhile p).length
theorem idxB_le {α : Type} (p : α → Bool) (l : List α) : idxB p l ≤ l.length := (List.takeWhile_sublist p).length_le
theorem idxB_eq {α : Type} {p : α → Bool} : ∀ {l : List α} {i : Nat}, i ≤ l.length → (∀ t (h : t < l.length), t < i → p l[t] = true) → (∀ (h : i < l.length), p l[i] = false) → idxB p l = i
  | [], i, hi, _, _ => by simp [idxB] at *; omega
  | a :: l, 0, _, _, h2 => by
    have := h2 (by simp)
    simp at this
    simp [idxB, this]
  | a :: l, i + 1, hi, h1, h2 => by
    have ha : p a = true := h1 0 (by simp) (by omega)
    have ih := idxB_eq (p := p) (l := l) (i := i) (by simpa using hi) (fun t h ht => h1 (t + 1) (by simpa using h) (by omega)) (fun h => h2 (by simpa using h))
    unfold idxB at ih ⊢
    simp [ha, ih]
theorem idxB_lt {α : Type} {p : α → Bool} : ∀ {l : List α} {t : Nat} (h : t < l.length), t < idxB p l → p l[t] = true
  | [], _, h, _ => by simp at h
  | a :: l, 0, _, hi => by
    by_cases ha : p a = true
    · simpa using ha
    · simp [idxB, ha] at hi
  | a :: l, t + 1, h, hi => by
    by_cases ha : p a = true
    · have : t < idxB p l := by simpa [idxB, ha] using hi
      simpa using idxB_lt (by simpa using h) this
    · simp [idxB, ha] at hi
theorem idxB_at {α : Type} {p : α → Bool} : ∀ {l : List α} (h : idxB p l < l.length), p l[idxB p l] = false
  | [], h => by simp at h
  | a :: l, h => by
    by_cases ha : p a = true
    · have e : idxB p (a :: l) = idxB p l + 1 := by simp [idxB, ha]
      have h' : idxB p l < l.length := by rw [e] at h; simpa using h
      have ih := idxB_at h'
      simp only [e, List.getElem_cons_succ]
      exact ih
    · have e : idxB p (a :: l) = 0 := by simp [idxB, ha]
      simp only [e, List.getElem_cons_zero]
      simpa using ha
/-- Which elements are below: those at the list's beginning. -/
def Mono {α : Type} (p : α → Bool) (l : List α) : Prop := ∀ a b (ha : a < l.length) (hb : b < l.length), a ≤ b → p l[b] = true → p l[a] = true
theorem mono_of_pairwise {α : Type} {r : α → α → Bool} {p : α → Bool} {l : List α} (h : l.Pairwise fun x y => r x y = true) (hp : ∀ x y, r x y = true → p y = true → p x = true) : Mono p l := by
  intro a b ha hb hab hb'
  rcases Nat.lt_or_ge a b with g | g
  · exact hp _ _ (List.pairwise_iff_getElem.1 h a b ha hb g) hb'
  · obtain rfl : a = b := by omega
    exact hb'

/-- Items in ascending order of their digests. -/
def Asc (l : List It) : Prop := l.Pairwise fun x y => ltD x.1 y.1 = true
def idxP (l : List It) (d : Dg) : Nat := idxB (fun x => ltD x.1 d) l
/-- The data of a digest. -/
def getP (l : List It) (d : Dg) : Option ByteArray := (l.find? fun x => decide (x.1 = d)).map (·.2)
theorem asc_mono {l : List It} (h : Asc l) (d : Dg) : Mono (fun x => ltD x.1 d) l := by
  intro a b ha hb hab (hb' : ltD l[b].1 d = true)
  show ltD l[a].1 d = true
  rcases Nat.lt_or_ge a b with g | g
  · exact ltD_trans (List.pairwise_iff_getElem.1 h a b ha hb g) hb'
  · obtain rfl : a = b := by omega
    exact hb'
theorem asc_get {l : List It} (h : Asc l) {x : It} (hx : x ∈ l) : getP l x.1 = some x.2 := by
  unfold getP
  induction l with
  | nil => cases hx
  | cons a l ih =>
    rw [Asc, List.pairwise_cons] at h
    rcases List.mem_cons.1 hx with rfl | hm
    · simp
    · have hne : a.1 ≠ x.1 := fun e => by
        have := h.1 x hm
        rw [e, ltD_irrefl] at this
        cases this
      simp [hne]
      simpa using ih h.2 hm
theorem getP_mem {l : List It} {d : Dg} {s : ByteArray} (h : getP l d = some s) : (d, s) ∈ l := by
  unfold getP at h
  rw [Option.map_eq_some_iff] at h
  obtain ⟨x, hx, rfl⟩ := h
  have h1 := List.mem_of_find?_eq_some hx
  have h2 := List.find?_some hx
  have : x.1 = d := by simpa using h2
  rw [← this]
  exact h1
theorem getP_iff {l : List It} (h : Asc l) {d : Dg} {s : ByteArray} : getP l d = some s ↔ (d, s) ∈ l := ⟨getP_mem, fun hm => asc_get h hm⟩
/-- What stands where a digest would be. -/
theorem getP_at {l : List It} (h : Asc l) (d : Dg) : getP l d = if h' : idxP l d < l.length then (if l[idxP l d].1 = d then some l[idxP l d].2 else none) else none := by
  cases hg : getP l d with
  | some s =>
    have hm := getP_mem hg
    obtain ⟨k, hk, e⟩ := List.getElem_of_mem hm
    have hi : idxP l d = k := idxB_eq (by omega) (fun t ht hlt => by
        have := List.pairwise_iff_getElem.1 h t k ht hk hlt
        rw [e] at this
        exact this) (fun _ => by
        show ltD l[k].1 d = false
        rw [e]
        exact ltD_irrefl d)
    rw [dif_pos (by rw [hi]; exact hk)]
    simp only [hi, e, if_true]
  | none =>
    split
    · rename_i h'
      split
      · rename_i he
        have := asc_get h (List.getElem_mem h')
        rw [he, hg] at this
        cases this
      · rfl
    · rfl
/-- A pool with an item: nothing if there are other data. -/
def insP (l : List It) (d : Dg) (s : ByteArray) : Option (List It) :=
  match getP l d with
  | some t => if t = s then some l else none
  | none => some (l.take (idxP l d) ++ (d, s) :: l.drop (idxP l d))
theorem insP_mem {l m : List It} {d : Dg} {s : ByteArray} (h : insP l d s = some m) (x : It) : x ∈ m ↔ x ∈ l ∨ x = (d, s) := by
  unfold insP at h
  split at h
  · rename_i t ht
    split at h
    · rename_i e
      subst e
      obtain rfl := Option.some.inj h
      exact ⟨.inl, fun k => k.elim id (fun e => e ▸ getP_mem ht)⟩
    · cases h
  · obtain rfl := Option.some.inj h
    have := List.take_append_drop (idxP l d) l
    constructor
    · intro hx
      rcases List.mem_append.1 hx with h1 | h1
      · exact .inl (List.mem_of_mem_take h1)
      · rcases List.mem_cons.1 h1 with rfl | h2
        · exact .inr rfl
        · exact .inl (List.mem_of_mem_drop h2)
    · rintro (h1 | rfl)
      · rw [← this] at h1
        rcases List.mem_append.1 h1 with h2 | h2
        · exact List.mem_append.2 (.inl h2)
        · exact List.mem_append.2 (.inr (List.mem_cons_of_mem _ h2))
      · exact List.mem_append.2 (.inr (List.mem_cons_self ..))
theorem insP_asc {l m : List It} {d : Dg} {s : ByteArray} (hA : Asc l) (h : insP l d s = some m) : Asc m := by
  unfold insP at h
  split at h
  · split at h
    · obtain rfl := Option.some.inj h; exact hA
    · cases h
  · rename_i hg
    obtain rfl := Option.some.inj h
    have hne : ∀ x ∈ l, x.1 ≠ d := fun x hx e => by
      have := asc_get hA hx
      rw [e, hg] at this
      cases this
    have hsplit := hA
    rw [Asc, ← List.take_append_drop (idxP l d) l, List.pairwise_append] at hsplit
    have hlow : ∀ x ∈ l.take (idxP l d), ltD x.1 d = true := fun x hx => by
      obtain ⟨t, ht, rfl⟩ := List.getElem_of_mem hx
      rw [List.getElem_take]
      rw [List.length_take] at ht
      exact idxB_lt (p := fun x : It => ltD x.1 d) (by omega) (by have : t < idxP l d := by omega
                                                                  exact this)
    have hhigh : ∀ x ∈ l.drop (idxP l d), ltD d x.1 = true := fun x hx => by
      obtain ⟨t, ht, rfl⟩ := List.getElem_of_mem hx
      rw [List.getElem_drop]
      rw [List.length_drop] at ht
      refine ltD_tri ?_ (hne _ (List.getElem_mem _))
      rw [Bool.eq_false_iff]
      intro hlt
      have hi : idxP l d < l.length := by omega
      have h0 := asc_mono hA d (idxP l d) (idxP l d + t) hi (by omega) (by omega) hlt
      have h1 : ltD l[idxP l d].1 d = false := idxB_at (p := fun x : It => ltD x.1 d) hi
      have h0 : ltD l[idxP l d].1 d = true := h0
      rw [h1] at h0
      cases h0
    refine List.pairwise_append.2 ⟨hsplit.1, List.pairwise_cons.2 ⟨hhigh, hsplit.2.1⟩, fun x hx y hy => ?_⟩
    rcases List.mem_cons.1 hy with rfl | hy
    · exact hlow x hx
    · exact hsplit.2.2 x hx y hy

/-- A slice that reads as items. -/
structure PA (w : World) (ao : Option Addr) (n cap : Nat) (l : List It) : Prop where
  len : l.length = n
  sl : Sl w 3 ao n (icells l)
  le : n ≤ cap
  max : cap ≤ maxLen
  z : ao = none → cap = 0
theorem PA.below {w w' : World} {ao : Option Addr} {n cap : Nat} {l : List It} (h : PA w ao n cap l) (hb : Below w.heap.size w w') : PA w' ao n cap l := ⟨h.len, h.sl.below hb, h.le, h.max, h.z⟩
theorem PA.nil (w : World) : PA w none 0 0 [] := ⟨rfl, Sl.nil, Nat.le_refl _, by simp [maxLen], (fun _ => rfl)⟩
end Go.Proofs.YtphjillihapbfaaGreatDoor

namespace Go.Proofs.YtphjillihapbfaaGreatDoor
open Go.RowKit

/-- The iterator gives a list of S, whatever the rounds do that leave its own block bn as it was. -/
def SeqBox {α : Type} (F : Fence) (n : Nat) (P : Program) (gf : Nat) (lb : Array Value) (encs : α → Array Value) (bn : Nat) (S : List α → Prop) (N : Nat) (w : World) : Prop :=
  ∀ (l : Nat) (J : List α → World → Prop) (W : World), Below w.heap.size w W → (∀ s W v, J s W → J s (W.setCell ⟨bn, 0, none⟩ v)) →
    (∀ pre x W1, J pre W1 → pre.length < N → YieldAt F (n - 1) P l (encs x) W1 fun e W' => e = .returned (.bool true) ∧ J (pre ++ [x]) W' ∧ W'.heap[bn]? = W1.heap[bn]?) →
    J [] W → CallsIn F n P gf (#[.func (.yield l) #[] #[]] ++ lb) W fun e W' => (∃ v, e = .returned v) ∧ ∃ xs, S xs ∧ J xs W'

theorem setCell_keeps {W : World} {a : Addr} {v : Value} {k : Nat} {o : Obj} (h : W.heap[k]? = some o) (ho : o.isCells = false) : (W.setCell a v).heap[k]? = some o := (KeepsOthers.setCell W a v).same k o h ho

theorem wpIn_rangeFunc_box {α : Type} {F : Fence} {n : Nat} {P : Program} {g : Operand} {ps : Array Tmp} {assign body : Code} {Q : Exit → Act → World → Prop} {a : Act} {w : World}
    (hro : F.round = none) (h1 : 1 ≤ n) {gf : Nat} {lb : Array Value} (hg : a.eval g = .func (.func gf) #[] lb) (hFg : F.fn gf) (eg : ∀ args w, (callFunc gf args).run P w = .ok (.enter gf args) w)
    {encs : α → Array Value} {bn : Nat} {S : List α → Prop} {N : Nat} (hseq : SeqBox F (n - 1) P gf lb encs bn S N w) (hbn : bn < w.heap.size) (hps : ∀ x, (encs x).size = ps.size)
    (I : List α → World → Prop) (hI : OwnFrom w.heap.size I) (hIs : ∀ s W v, I s W → I s (W.setCell ⟨bn, 0, none⟩ v)) (h0 : I [] w) (a₁ : α → Act)
    (hassign : ∀ (l : Nat) (x : α) (W : World) (K : Act → World → Prop), K (a₁ x) W →
      assign.wpIn (F.inRound l) (n - 1 - 1) P (Exit.then K (fun _ _ _ => False)) { tmps := (ps.zip (encs x)).foldl (fun t (p, v) => t.setIfInBounds p v) a.tmps, defers := [] } W)
    (hbody : ∀ (l : Nat) (pre : List α) (x : α) (W : World), I pre W → pre.length < N → body.wpIn (F.inRound l) (n - 1 - 1) P (fun e _ W' => e = .normal ∧ KeepsFrom w.heap.size W W' ∧ W'.heap[bn]? = W.heap[bn]? ∧ I (pre ++ [x]) W') (a₁ x) W)
    (hdone : ∀ (D : Nat) (xs : List α) (W : World), w.heap.size ≤ D → S xs → I xs W → W.heap[D]? = some (.deferred (some [])) → Q .normal { a with defers := { target := .collected D, args := #[] } :: a.defers } W) :
    (Code.rangeFunc g ps assign body).wpIn F n P Q a w := by
  refine wpIn_rangeFunc fun fn hfn => ?_
  rw [hro]
  let rec0 : LoopState → Loop := fun st => { state := st, pending := none, fn, tmps := a.tmps, params := ps, assign, body, defers := w.heap.size }
  let D := w.heap.size
  let L := w.heap.size + 1
  obtain ⟨W1, hW1⟩ : ∃ W1, (w.alloc (.deferred (some []))).alloc (.loop (rec0 .ready)) = W1 := ⟨_, rfl⟩
  have hL1 : W1.heap[L]? = some (.loop (rec0 .ready)) := by
    rw [← hW1]
    have := World.alloc_heap_new (w.alloc (.deferred (some []))) (.loop (rec0 .ready))
    rwa [World.size_alloc] at this
  have hD1 : W1.heap[D]? = some (.deferred (some [])) := by
    rw [← hW1]
    exact (Below.heap_alloc _ _ _ (by simp [D])).trans (World.alloc_heap_new w _)
  have hI1 : I [] W1 := by rw [← hW1]; exact hI.alloc _ (hI.alloc _ h0)
  have hb1 : Below w.heap.size w W1 := by rw [← hW1]; exact ((Below.refl _ w).alloc (Nat.le_refl _) _).alloc (by simp) _
  refine ⟨L, [{ target := .collected D, args := #[] }], W1, { target := .fn (.func gf) lb, args := #[.func (.yield L) #[] #[]] }, W1, gf, #[.func (.yield L) #[] #[]] ++ lb, W1, ?_, ?_, ?_, ?_, fun _ => h1, ?_⟩
  · rw [← hW1]
    exact run_enterLoop_outer _ _ _ _ _
  · simp only [resolve, hg]
    simp [go_sem]
  · intro f' hf'
    simp [Target.leads] at hf'
    subst hf'
    exact hFg
  · simp [invoke, go_sem, eg]
  · refine (hseq L (fun pre W => I pre W ∧ W.heap[L]? = some (.loop (rec0 .ready)) ∧ W.heap[D]? = some (.deferred (some []))) W1 hb1
      (fun s W v h => ⟨hIs s W v h.1, setCell_keeps h.2.1 rfl, setCell_keeps h.2.2 rfl⟩) ?_ ⟨hI1, hL1, hD1⟩).mono ?_
    · rintro pre x W ⟨hi, hl, hd⟩ hlen
      have hlt : L < W.heap.size := (Array.getElem?_eq_some_iff.1 hl).1
      have hy := run_yield (P := P) (args := encs x) hl (hps x)
      refine ⟨fn, _, assign, body, hy, roundIn_of_wpIn hfn (hassign _ x W _ ⟨_, run_beginRound hl rfl, ?_⟩)⟩
      have hl2 : (W.putObj L (.loop (rec0 .busy))).heap[L]? = some (.loop (rec0 .busy)) := World.putObj_heap_same hlt
      have hd2 : (W.putObj L (.loop (rec0 .busy))).heap[D]? = some (.deferred (some [])) := (World.putObj_heap_other (by simp only [D, L]; omega)).trans hd
      have hn2 : (W.putObj L (.loop (rec0 .busy))).heap[bn]? = W.heap[bn]? := World.putObj_heap_other (by simp only [L]; omega)
      refine wpIn_mono (hbody _ pre x _ (hI.putObj _ hi (by simp only [L]; omega) hl rfl) hlen) ?_
      rintro e a3 W3 ⟨rfl, hk3, hn3, hi3⟩
      have hl3 := hk3.same L _ (by simp only [L]; omega) hl2 rfl
      have hd3 := hk3.same D _ (Nat.le_refl _) hd2 rfl
      refine ⟨_, _, run_endRound (P := P) none hl3, rfl, ⟨hI.putObj _ hi3 (by simp only [L]; omega) hl3 rfl, World.putObj_heap_same (Array.getElem?_eq_some_iff.1 hl3).1, (World.putObj_heap_other (by simp only [D, L]; omega)).trans hd3⟩, ?_⟩
      exact ((World.putObj_heap_other (by simp only [L]; omega)).trans hn3).trans hn2
    · rintro e W2 ⟨⟨v, rfl⟩, xs, hS, hi, hl, hd⟩
      exact ⟨none, _, run_endLoop (P := P) hl (by simp [rec0]), hdone _ xs _ (Nat.le_refl _) hS (hI.putObj _ hi (by simp only [L]; omega) hl rfl) ((World.putObj_heap_other (by simp only [D, L]; omega)).trans hd)⟩
end Go.Proofs.YtphjillihapbfaaGreatDoor

namespace Go.Proofs.YtphjillihapbfaaGreatDoor
open Go.RowKit
theorem wpList_append_newG {P : Program} {ops : Array Oper} {rest : List Oper} {o : Oper} {a : Act} {Q : Exit → Act → World → Prop} {w : World} (us : Array Value) (hgd : o.guard = none) (s x : Operand) (t : TypeId)
    (ho : o.op = .call { callee := .builtin .append, args := #[s, x], argTypes := #[t, t] })
    (base : Nat) (e : TypeId) (z : Value) (size bytes : Nat) (hinfo : (P.info? e).map (fun i => (i.zero, i.size, i.bytes)) = some (some z, size, bytes)) (ht : P.underlying t = some (.slice e)) (hzs : z.cells.size = size) (hsz : 0 < size)
    (v : Value) (n : Nat) (xs : List Value) (hown : w.ownsRow base e size v n xs) (hs : a.eval s = v)
    (hx : a.eval x = .slice (some ⟨w.heap.size, 0, none⟩) 1 1) (hl : us.size = size) (h1 : ∀ u ∈ us.toList, u.oneCell' = true)
    (h63 : n + 1 ≤ maxLen) (hbytes : (n + 1) * bytes ≤ 140737488355328) (hbase : base ≤ w.heap.size)
    (h : ∀ v' w', w'.ownsRow base e size v' (n + 1) (xs ++ us.toList) → (w.alloc (.cells us e)).grownBy w' v.ownBlock → wpList P ops Q rest (a.put o.dst v') w') : wpList P ops Q (o :: rest) a (w.alloc (.cells us e)) := by
  obtain ⟨i, hi, hz0, hz1, hz2⟩ := info_parts hinfo
  refine wpList_append_own _ hgd s x t ho base e i z size bytes ht hi hz0 hz1 hz2 hzs hsz v n xs hs (hown.alloc _) ⟨w.heap.size, 0, none⟩ 1 1 us.toList hx (by simp [hl]) ?_ h1 h63 hbytes (by simp; omega) ?_
  · intro j u hu
    rw [Addr.add_lit]
    simp only [World.cell?, Nat.zero_add]
    rw [heap_alloc_new]
    simpa using hu
  · intro v' w' hown' hg hn
    exact h v' w' hown' hg
theorem alloc_drew (w : World) (o : Obj) : (w.alloc o).drew = w.drew.alloc o := rfl
end Go.Proofs.YtphjillihapbfaaGreatDoor

namespace Go.Proofs.YtphjillihapbfaaGreatDoor
open Go.RowKit Go.Shelf

/-- A builder. -/
abbrev Bldr (B b : Nat) (bs : List Value) (w : World) : Prop := Lib.IsBuilder 174 5 B b bs w
abbrev BldU (B b : Nat) (bs : List Value) (w : World) : Prop := Lib.BuilderAt 174 5 B b (.pointer (some ⟨b, 0, none⟩)) bs w

theorem info_bld : (Tryz.prog.info? 174).map (fun i => i.size) = some 2 := by kernel_rfl
theorem lies_bld : liesAt Tryz.prog Tryz.prog.depth 174 (2 / Tryz.prog.cellsOf 174) 0 174 1 = true := by kernel_rfl
theorem info_byte : (Tryz.prog.info? 5).map (fun i => (i.zero, i.size, i.bytes)) = some (some (.int .u8 0), 1, 1) := by kernel_rfl

set_option maxRecDepth 100000 in
set_option maxHeartbeats 1000000 in
theorem copyCheck_used (b : Nat) (w : World) (h0 : w.cell? ⟨b, 0, none⟩ = some (.pointer (some ⟨b, 0, none⟩))) :
    Calls Tryz.prog 134 #[.pointer (some ⟨b, 0, none⟩)] w fun e w' => e = .returned (.tuple #[]) ∧ w' = w := by
  obtain ⟨j, hj, _⟩ := Option.map_eq_some_iff.1 info_bld
  go_enter Tryz.func134, Tryz.ntmps134
  go_wp2
  rw [Lib.run_neq_ptr_same w _ Tryz.underlying172 hj]
  go_wp2
  go_end0
  exact ⟨rfl, rfl⟩

set_option maxRecDepth 100000 in
set_option maxHeartbeats 1000000 in
theorem copyCheck_fresh (b : Nat) (w : World) (h0 : w.cell? ⟨b, 0, none⟩ = some (.pointer none)) (hsh : w.shape? b = some (174, 2)) (hfz : w.frozen? ⟨b, 0, none⟩ = false) :
    Calls Tryz.prog 134 #[.pointer (some ⟨b, 0, none⟩)] w fun e w' => e = .returned (.tuple #[]) ∧ w' = w.setCell ⟨b, 0, none⟩ (.pointer (some ⟨b, 0, none⟩)) := by
  obtain ⟨j, hj, hjs⟩ := Option.map_eq_some_iff.1 info_bld
  go_enter Tryz.func134, Tryz.ntmps134
  go_wp2
  rw [Lib.run_to_unsafe w ⟨b, 0, none⟩ Tryz.underlying172 Tryz.underlying201 hj (by rw [hjs]; decide) hsh (Nat.zero_lt_succ 1)]
  simp only [Result.andThen]
  rw [Oper.upon_value]
  go_wp2
  rw [run_callFunc_extern Tryz.func137 (by kernel_rfl) (by kernel_rfl) (by kernel_rfl) (e := Extern.AbiNoEscape.same) (by kernel_rfl)]
  rw [Lib.run_noEscape]
  simp only [Result.andThen]
  rw [Oper.upon_value]
  go_wp2
  rw [Lib.run_from_unsafe w ⟨b, 0, none⟩ Tryz.underlying201 Tryz.underlying172 hj hsh lies_bld]
  simp only [Result.andThen]
  rw [Oper.upon_value]
  go_wp2
  go_end0
  exact ⟨rfl, rfl⟩

theorem copyCheck_any (B b : Nat) (bs : List Value) (w : World) (h : Bldr B b bs w) :
    Calls Tryz.prog 134 #[.pointer (some ⟨b, 0, none⟩)] w fun e w' => e = .returned (.tuple #[]) ∧ BldU B b bs w' ∧ Below B w w' ∧ Lib.OthersKept 5 (some b) w w' := by
  rcases h with h | h
  · refine (copyCheck_fresh b w h.cell0 h.shape h.frozen0).mono ?_
    rintro e w' ⟨rfl, rfl⟩
    exact ⟨rfl, h.used _, (Below.refl B w).setCell (p := ⟨b, 0, none⟩) h.1 _, (Lib.OthersKept.refl _ _ _).setCell ⟨b, 0, none⟩ rfl _⟩
  · refine (copyCheck_used b w h.cell0).mono ?_
    rintro e w' ⟨rfl, rfl⟩
    exact ⟨rfl, h, Below.refl B _, Lib.OthersKept.refl _ _ _⟩

theorem own_kind {w : World} {B : Nat} {e : TypeId} {v : Value} {n : Nat} {xs : List Value} (h : w.ownsRow B e 1 v n xs) : ∀ g, v.ownBlock = some g → ∃ c fz, w.heap[g]? = some (.cells c e fz) := by
  intro g hg
  rcases h.2 with ⟨rfl, _⟩ | ⟨g', cap, cur, rfl, _, hgg, _⟩
  · simp [Value.ownBlock] at hg
  · simp [Value.ownBlock] at hg
    subst hg
    exact ⟨cur, _, hgg⟩

set_option maxRecDepth 100000 in
set_option maxHeartbeats 1000000 in
theorem WriteByte_any (B b : Nat) (bs : List Value) (c : Int) (w : World) (h : Bldr B b bs w) (hlen : bs.length + 1 ≤ 140737488355328) (hBw : B ≤ w.heap.size) :
    Calls Tryz.prog 133 #[.pointer (some ⟨b, 0, none⟩), .int .u8 c] w fun e w' => e = .returned .nilIface ∧ BldU B b (bs ++ [.int .u8 c]) w' ∧ Below B w w' ∧ Lib.OthersKept 5 (some b) w w' := by
  go_enter Tryz.func133, Tryz.ntmps133
  go_wp2_with fail
  (with_reducible refine (copyCheck_any B b bs _ h).mono ?_); rintro e w1 ⟨rfl, h1, hb1, hk1⟩
  obtain ⟨hB, v, hbk, hown, hne⟩ := h1
  have c0 : w1.cell? ⟨b, 0, none⟩ = some (.pointer (some ⟨b, 0, none⟩)) := by rw [Lib.cell_of_heap hbk]; rfl
  have c1 : w1.cell? ⟨b, 1, none⟩ = some v := by rw [Lib.cell_of_heap hbk]; rfl
  have hsz := hb1.size
  have HBK := lid hbk
  have HL := lid hlen
  clear hbk h hlen
  go_wp2_with (at_builtin; go_must (refine wpList_append_newG #[.int .u8 c] rfl _ _ 120 rfl B 5 (.int .u8 0) 1 1 info_byte Tryz.underlying120 rfl (by decide) _ _ _ hown rfl rfl rfl (by simp [Value.oneCell']) (by have := HL.out; unfold maxLen; omega) (by have := HL.out; omega) (by omega) ?_))
  intro v' w2 hown' hgrow
  have hlt : b < w1.heap.size := (Array.getElem?_eq_some_iff.1 HBK.out).1
  have hb2 : w2.heap[b]? = some (.cells #[.pointer (some ⟨b, 0, none⟩), v] 174 (0, 0)) := by
    rw [hgrow.block b (by simp; omega) (fun e => hne e.symm), Below.heap_alloc _ _ _ hlt]
    exact HBK.out
  have d0 : w2.cell? ⟨b, 0, none⟩ = some (.pointer (some ⟨b, 0, none⟩)) := by rw [Lib.cell_of_heap hb2]; rfl
  have d1 : w2.cell? ⟨b, 1, none⟩ = some v := by rw [Lib.cell_of_heap hb2]; rfl
  have f1 : w2.frozen? ⟨b, 1, none⟩ = false := Lib.frozen_of_heap hb2 1
  obtain ⟨g, cap, rfl⟩ : ∃ g cap, v' = .slice (some ⟨g, 0, none⟩) (bs.length + 1) cap := by
    rcases hown'.2 with ⟨_, h0⟩ | ⟨g, cap, cur, hv, _⟩
    · omega
    · exact ⟨g, cap, hv⟩
  have HB2 := lid hb2
  have HO' := lid hown'
  clear hb2 hown' c0 c1
  go_wp2_with fail
  go_ret
  refine ⟨rfl, Lib.BuilderAt.put hB HB2.out (bs' := bs ++ [.int .u8 c]) (by simpa using HO'.out) (by decide), ?_, ((hk1.alloc _).grown hgrow (own_kind (hown.alloc _))).setCell ⟨b, 1, none⟩ rfl _⟩
  exact (((hb1.alloc (by omega) _).grown hgrow (by simp; omega) (fun k hk => ownsRow_row hown k hk)).setCell (p := ⟨b, 1, none⟩) hB _)

set_option maxRecDepth 100000 in
set_option maxHeartbeats 1000000 in
theorem WriteString_any (B b : Nat) (bs : List Value) (s : ByteArray) (w : World) (h : Bldr B b bs w) (hlen : bs.length + s.size ≤ 140737488355328) (hBw : B ≤ w.heap.size) :
    Calls Tryz.prog 123 #[.pointer (some ⟨b, 0, none⟩), .string s] w fun e w' => e = .returned (.tuple #[.int .i64 s.size, .nilIface]) ∧ BldU B b (bs ++ Lib.strCells s) w' ∧ Below B w w' ∧ Lib.OthersKept 5 (some b) w w' := by
  obtain ⟨i0, hi, hz0, hz1, hz2⟩ := info_parts info_byte
  go_enter Tryz.func123, Tryz.ntmps123
  go_wp2_with fail
  (with_reducible refine (copyCheck_any B b bs _ h).mono ?_); rintro e w1 ⟨rfl, h1, hb1, hk1⟩
  obtain ⟨hB, v, hbk, hown, hne⟩ := h1
  have c0 : w1.cell? ⟨b, 0, none⟩ = some (.pointer (some ⟨b, 0, none⟩)) := by rw [Lib.cell_of_heap hbk]; rfl
  have c1 : w1.cell? ⟨b, 1, none⟩ = some v := by rw [Lib.cell_of_heap hbk]; rfl
  have hsz := hb1.size
  have HBK := lid hbk
  have HL := lid hlen
  clear hbk h hlen
  go_wp2_with (at_builtin; go_must (refine Lib.wpList_append_own_string _ rfl _ _ 120 9 rfl B 5 i0 Tryz.underlying120 Tryz.underlying9 hi hz0 hz1 hz2 _ _ _ rfl hown s rfl (by have := HL.out; unfold maxLen; omega) (by have := HL.out; omega) (by omega) ?_))
  intro v' w2 hown' hgrow _
  have hlt : b < w1.heap.size := (Array.getElem?_eq_some_iff.1 HBK.out).1
  have hb2 : w2.heap[b]? = some (.cells #[.pointer (some ⟨b, 0, none⟩), v] 174 (0, 0)) := by
    rw [hgrow.block b hlt (fun e => hne e.symm)]
    exact HBK.out
  have d0 : w2.cell? ⟨b, 0, none⟩ = some (.pointer (some ⟨b, 0, none⟩)) := by rw [Lib.cell_of_heap hb2]; rfl
  have d1 : w2.cell? ⟨b, 1, none⟩ = some v := by rw [Lib.cell_of_heap hb2]; rfl
  have f1 : w2.frozen? ⟨b, 1, none⟩ = false := Lib.frozen_of_heap hb2 1
  obtain ⟨ao, n', cap, rfl⟩ : ∃ ao n' cap, v' = .slice ao n' cap := by
    rcases hown'.2 with ⟨hv, _⟩ | ⟨g, cap, cur, hv, _⟩
    · exact ⟨_, _, _, hv⟩
    · exact ⟨_, _, _, hv⟩
  have HB2 := lid hb2
  have HO' := lid hown'
  have hs9 : s.size ≤ 9223372036854775807 := by have := HL.out; omega
  clear hb2 hown' c0 c1
  go_wp2_with fail
  go_ret2
  refine ⟨rfl, Lib.BuilderAt.put hB HB2.out (bs' := bs ++ Lib.strCells s) (by simpa [Lib.strCells] using HO'.out) (by decide), ?_, (hk1.grown hgrow (own_kind hown)).setCell ⟨b, 1, none⟩ rfl _⟩
  exact ((hb1.grown hgrow (by omega) (fun k hk => ownsRow_row hown k hk)).setCell (p := ⟨b, 1, none⟩) hB _)

/-- String: the shelf's contract at this program. -/
def bldS_ren : Go.Shelf.Ren := ⟨fun | 169 => 122 | n => n, fun | 70 => 172 | 9 => 9 | 0 => 0 | 72 => 174 | 37 => 120 | 127 => 198 | 3 => 3 | 5 => 5 | n => n, fun | n => n⟩
theorem bldS : Go.Proofs.Lays.n169 Tryz.prog bldS_ren := {
  mixed := by kernel_rfl
  f169 := Tryz.func122.trans (congrArg some (by kernel_rfl))
  t0 := Tryz.underlying0
  a0 := Tryz.isAgg0
  z0 := Tryz.sizeOf0
  v0 := Tryz.zeroValue0
  t3 := Tryz.underlying3
  a3 := Tryz.isAgg3
  z3 := Tryz.sizeOf3
  v3 := Tryz.zeroValue3
  t9 := Tryz.underlying9
  a9 := Tryz.isAgg9
  z9 := Tryz.sizeOf9
  v9 := Tryz.zeroValue9
  t37 := Tryz.underlying120
  a37 := Tryz.isAgg120
  z37 := Tryz.sizeOf120
  v37 := Tryz.zeroValue120
  t70 := Tryz.underlying172
  a70 := Tryz.isAgg172
  z70 := Tryz.sizeOf172
  v70 := Tryz.zeroValue172
  t72 := Tryz.underlying174
  a72 := Tryz.isAgg174
  z72 := Tryz.sizeOf174
  v72 := Tryz.zeroValue174
  t127 := Tryz.underlying198
  a127 := Tryz.isAgg198
  z127 := Tryz.sizeOf198
  v127 := Tryz.zeroValue198 }
theorem bldS_extra : Builder.Extra Tryz.prog bldS_ren := {
  sizeBuilder := by kernel_rfl
  liesBuilder := by kernel_rfl
  t5 := Tryz.underlying5
  a5 := Tryz.isAgg5
  z5 := Tryz.sizeOf5
  v5 := Tryz.zeroValue5
  infoByte := by kernel_rfl
  cellsByte := by kernel_rfl
  sizeByte := by kernel_rfl
  neB5 := by decide }
theorem String_any (B b : Nat) (l : List UInt8) (w : World) (h : Bldr B b (Lib.byteCells l) w) (hBw : B ≤ w.heap.size) :
    Calls Tryz.prog 122 #[.pointer (some ⟨b, 0, none⟩)] w fun e w' => e = .returned (.string ⟨l.toArray⟩) ∧ Below B w w' := Any.Builder_String_any bldS bldS_extra B b l w h hBw
end Go.Proofs.YtphjillihapbfaaGreatDoor

namespace Go.Proofs.YtphjillihapbfaaGreatDoor

/-- The bytes of a number: seven bits each, the least first. -/
def putN (n : Nat) : List UInt8 := if h : n < 128 then [UInt8.ofNat n] else UInt8.ofNat (n % 128 + 128) :: putN (n / 128)
termination_by n
decreasing_by omega
theorem putN_lo {n : Nat} (h : n < 128) : putN n = [UInt8.ofNat n] := by rw [putN, dif_pos h]
theorem putN_hi {n : Nat} (h : ¬ n < 128) : putN n = UInt8.ofNat (n % 128 + 128) :: putN (n / 128) := by rw [putN, dif_neg h]
theorem putN_ne (n : Nat) : putN n ≠ [] := by
  by_cases h : n < 128
  · rw [putN_lo h]; simp
  · rw [putN_hi h]; simp
theorem putN_len (k : Nat) : ∀ n, n < 128 ^ (k + 1) → (putN n).length ≤ k + 1 := by
  induction k with
  | zero => intro n h; rw [putN_lo (by simpa using h)]; simp
  | succ k ih =>
    intro n h
    by_cases h1 : n < 128
    · rw [putN_lo h1]; simp
    · rw [putN_hi h1, List.length_cons]
      have := ih (n / 128) (by rw [Nat.pow_succ] at h; omega)
      omega
theorem putN_six {n : Nat} (h : n ≤ 1099511627776) : (putN n).length ≤ 6 := putN_len 5 n (by omega)
/-- A text: its length, its bytes. -/
def putT (l : List UInt8) : List UInt8 := putN l.length ++ l
theorem ofNat_lo {m : Nat} (h : m < 128) : (UInt8.ofNat m).toNat = m := by simp; omega
theorem ofNat_hi (m : Nat) : (UInt8.ofNat (m % 128 + 128)).toNat = m % 128 + 128 := by simp; omega
end Go.Proofs.YtphjillihapbfaaGreatDoor

namespace Go.Proofs.YtphjillihapbfaaGreatDoor
open Go.RowKit Go.Shelf
attribute [local go_sem] Oper.semAt_some

/-- The number in a box. -/
def numAt (w : World) (bn : Nat) : Nat := match w.cell? ⟨bn, 0, none⟩ with
  | some v => (intOf v).toNat
  | none => 0

set_option maxRecDepth 100000 in
set_option maxHeartbeats 4000000 in
theorem digits_box (F : Fence) (n : Nat) (hF : F.fn 136) (hro : F.round = none) (hn : 1 ≤ n) (bn N0 : Nat) (w : World) (hN0 : N0 ≤ 9223372036854775807) (hbn : w.heap[bn]? = some (.cells #[.int .i64 N0] 3 (0, 0))) :
    SeqBox F n Tryz.prog 136 #[.pointer (some ⟨bn, 0, none⟩)] (fun (x : UInt8) => #[.int .u8 x.toNat]) bn (fun xs => xs = putN N0) (putN N0).length w := by
  intro l J W hW hJs hY h0
  have hlt := (Array.getElem?_eq_some_iff.1 hbn).1
  have hb0 := (hW.block bn hlt).trans hbn
  refine callsIn_of_wp Tryz.func136 rfl hF ?_ hro
  simp only [Tryz.ntmps136, List.size_toArray, List.length_cons, List.length_nil, Nat.reduceAdd, Nat.reduceSub, Array.replicate_succ, Array.replicate_zero, List.push_toArray, List.append_toArray, List.nil_append, List.cons_append]
  gi_wp2
  gi_loopw [3] (fun _ wr => ∃ (m : Nat) (pre : List UInt8), m ≤ N0 ∧ wr.heap[bn]? = some (.cells #[.int .i64 m] 3 (0, 0)) ∧ Hid (pre ++ putN m = putN N0) ∧ J pre wr) (fun _ wr => numAt wr bn)
  case atStart => exact ⟨N0, [], Nat.le_refl _, hb0, lid rfl, h0⟩
  case round =>
    obtain ⟨m, pre, hm, hb, HP, hJ⟩ := hrel
    have hc : wr.cell? ⟨bn, 0, none⟩ = some (.int .i64 m) := by rw [cell_of_row _ _ _ _ _ _ hb]; rfl
    have hf : wr.frozen? ⟨bn, 0, none⟩ = false := frozen_of_row _ _ _ _ _ hb
    have HB := lid hb
    clear hb
    by_cases hlo : m < 128
    · have HX := lid (putN_lo hlo)
      have hlen : pre.length < (putN N0).length := by rw [← HP.out, HX.out]; simp
      obtain ⟨fn, tmps, assign, body, hy, hR⟩ := hY pre (UInt8.ofNat m) wr hJ hlen
      rw [ofNat_lo hlo] at hy
      gi_wp2
      refine hR.mono ?_
      rintro e W' ⟨rfl, hJ', -⟩
      gi_wp2
      refine bodyPost_end (results_none rfl _ _ _) rfl ⟨⟨_, rfl⟩, pre ++ [UInt8.ofNat m], ?_, hJ'⟩
      rw [← HP.out, HX.out]
    · have HX := lid (putN_hi hlo)
      have hlen : pre.length < (putN N0).length := by rw [← HP.out, HX.out]; simp
      obtain ⟨fn, tmps, assign, body, hy, hR⟩ := hY pre (UInt8.ofNat (m % 128 + 128)) wr hJ hlen
      rw [ofNat_hi] at hy
      have hhi : (128 : Int) ≤ m := by omega
      have hmd : ((m % 128 + 128 : Nat) : Int) = (m : Int) % 128 + 128 := by omega
      rw [hmd] at hy
      clear hmd
      gi_wp2
      refine hR.mono ?_
      rintro e W' ⟨rfl, hJ', hk'⟩
      have hb' := hk'.trans HB.out
      have hc' : W'.cell? ⟨bn, 0, none⟩ = some (.int .i64 m) := by rw [cell_of_row _ _ _ _ _ _ hb']; rfl
      have hf' : W'.frozen? ⟨bn, 0, none⟩ = false := frozen_of_row _ _ _ _ _ hb'
      have HB' := lid hb'
      have HK := lid hk'
      clear hb' hk'
      gi_wp2
      go_roundw
      case rel =>
        refine ⟨m / 128, pre ++ [UInt8.ofNat (m % 128 + 128)], by omega, ?_, lid (by rw [List.append_assoc]; have := HP.out; rw [HX.out] at this; exact this), hJs _ _ _ hJ'⟩
        exact heap_setCell_same _ _ _ _ _ _ HB'.out
      case measure =>
        unfold numAt
        rw [World.cell?_setCell_same' _ _ _ (by rw [hc']; rfl), hc]
        simp [intOf]
        omega
end Go.Proofs.YtphjillihapbfaaGreatDoor
