/-
  The two roots that result from a growth proof: ledger.results and the reference's Roots.
-/
import Derived.Test.YtbghpjedldhnhaaLedGrow
import Derived.Test.YtbghpjedldhnhaaDigPair
import Derived.Test.YtbghpjedldhnhaaDigRefRoot
import Derived.Test.YtbghpjedldhnhaaDigBox
import Derived.Test.YtbghpjedldhnhaaMixF
namespace Go.Proofs.Ytbghpjedldhnhaa
open Go.RowKit

/-- The two roots; the code takes the first element of a proof of one, the reference the last. -/
def rootsD (fst : List Dg → Dg) (n m : Nat) (whole : Bool) (old : Dg) (p : List Dg) : Dg × Dg × Bool :=
  if n = m ∧ whole = true then (old, old, decide (p.length = 0))
  else if _h : p.length = 0 then ((0, 0), (0, 0), false)
  else if n = m then (fst p, fst p, decide (p.length = 1))
  else if n ≤ halfN m then ((rootsD fst n (halfN m) whole old p.dropLast).1, pairD (rootsD fst n (halfN m) whole old p.dropLast).2.1 (p.getLastD (0, 0)), (rootsD fst n (halfN m) whole old p.dropLast).2.2)
  else (pairD (p.getLastD (0, 0)) (rootsD fst (n - halfN m) (m - halfN m) false old p.dropLast).1, pairD (p.getLastD (0, 0)) (rootsD fst (n - halfN m) (m - halfN m) false old p.dropLast).2.1, (rootsD fst (n - halfN m) (m - halfN m) false old p.dropLast).2.2)
termination_by p.length
decreasing_by all_goals (simp; omega)
theorem rootsD_whole (fst : List Dg → Dg) (n : Nat) (old : Dg) (p : List Dg) : rootsD fst n n true old p = (old, old, decide (p.length = 0)) := by rw [rootsD, if_pos ⟨rfl, rfl⟩]
theorem rootsD_nil (fst : List Dg → Dg) {n m : Nat} {whole : Bool} (h : ¬ (n = m ∧ whole = true)) (old : Dg) : rootsD fst n m whole old [] = ((0, 0), (0, 0), false) := by rw [rootsD, if_neg h, dif_pos (show ([] : List Dg).length = 0 from rfl)]
theorem rootsD_same (fst : List Dg → Dg) (n : Nat) (old : Dg) (q : List Dg) (e : Dg) : rootsD fst n n false old (q ++ [e]) = (fst (q ++ [e]), fst (q ++ [e]), decide (q.length = 0)) := by
  rw [rootsD, if_neg (by simp), dif_neg (by simp), if_pos rfl]
  simp
theorem rootsD_lo (fst : List Dg → Dg) {n m : Nat} (h : n ≠ m) (hk : n ≤ halfN m) (whole : Bool) (old : Dg) (q : List Dg) (e : Dg) : rootsD fst n m whole old (q ++ [e]) = ((rootsD fst n (halfN m) whole old q).1, pairD (rootsD fst n (halfN m) whole old q).2.1 e, (rootsD fst n (halfN m) whole old q).2.2) := by
  rw [rootsD, if_neg (fun x => h x.1), dif_neg (by simp), if_neg h, if_pos hk]
  simp
theorem rootsD_hi (fst : List Dg → Dg) {n m : Nat} (h : n ≠ m) (hk : ¬ n ≤ halfN m) (whole : Bool) (old : Dg) (q : List Dg) (e : Dg) : rootsD fst n m whole old (q ++ [e]) = (pairD e (rootsD fst (n - halfN m) (m - halfN m) false old q).1, pairD e (rootsD fst (n - halfN m) (m - halfN m) false old q).2.1, (rootsD fst (n - halfN m) (m - halfN m) false old q).2.2) := by
  rw [rootsD, if_neg (fun x => h x.1), dif_neg (by simp), if_neg h, if_neg hk]
  simp
theorem pair_dg (a b : Dg) (w : World) : Calls Try.prog 40 #[dv a, dv b] w fun e w' => e = .returned (dv (pairD a b)) ∧ Below w.heap.size w w' := pair_any a.1 a.2 b.1 b.2 w
def fstL (p : List Dg) : Dg := p.headD (0, 0)
def fstR (p : List Dg) : Dg := p.getLastD (0, 0)
theorem head_at {l : List Dg} (h : 0 < l.length) : l[0] = fstL l := by
  cases l with
  | nil => simp at h
  | cons a l => rfl
/-- The three results as a value. -/
abbrev rtv (x : Dg × Dg × Bool) : Value := .tuple #[dv x.1, dv x.2.1, .bool x.2.2]

/-- The blocks below number B are as in W, all but blocks X and X + 1. -/
def KeptY (B X : Nat) (W w' : World) : Prop := ∀ k, k < B → k ≠ X → k ≠ X + 1 → w'.heap[k]? = W.heap[k]?
theorem KeptY.refl (B X : Nat) (W : World) : KeptY B X W W := fun _ _ _ _ => rfl
theorem KeptY.drew {B X : Nat} {W w' : World} (h : KeptY B X W w') : KeptY B X W w'.drew := h
theorem KeptY.below {B X : Nat} {W w1 w2 : World} (h : KeptY B X W w1) (hb : Below B w1 w2) : KeptY B X W w2 := fun k hk hx hy => (hb.block k hk).trans (h k hk hx hy)
theorem KeptY.setCell {B X : Nat} {W w' : World} (h : KeptY B X W w') {p : Addr} (hp : p.block = X ∨ p.block = X + 1) (u : Value) : KeptY B X W (w'.setCell p u) := fun k hk hx hy =>
  (Below.heap_setCell _ _ _ _ (by omega)).trans (h k hk hx hy)
def SinceY (B X : Nat) (W : World) : Type := { w' : World // KeptY B X W w' }
instance {B X : Nat} {W : World} : Nonempty (SinceY B X W) := ⟨⟨W, KeptY.refl _ _ _⟩⟩
def SinceY.world {B X : Nat} {W : World} (x : SinceY B X W) : World := x.1
theorem SinceY.cell {B X : Nat} {W : World} {b o : Nat} (h : b < B) (hx : b ≠ X) (hy : b ≠ X + 1) {v : Option Value} (hv : W.cell? ⟨b, o, none⟩ = v) : ∀ x : SinceY B X W, x.world.cell? ⟨b, o, none⟩ = v := fun x => by
  rw [← hv]
  exact World.cell?_of_block (w := W) (a := ⟨b, o, none⟩) (x.2 b h hx hy)
theorem sincey {B X : Nat} {W w' : World} (h : KeptY B X W w') : ∃ x : SinceY B X W, w' = x.world := ⟨⟨w', h⟩, rfl⟩

/-- The results as read. -/
theorem res_roots {fn : Func} (hf : fn.results = #[.cell 10 32, .cell 11 32, .tmp 12]) (t : Array Value) (w : World) (k1 k2 : Nat) (a b : Dg) (ok : Bool) (h10 : t.getD 10 undef = .pointer (some ⟨k1, 0, none⟩)) (h11 : t.getD 11 undef = .pointer (some ⟨k2, 0, none⟩)) (h12 : t.getD 12 undef = .bool ok)
    (e0 : w.cell? ⟨k1, 0, none⟩ = some (.int .u64 a.1.toNat)) (e1 : w.cell? ⟨k1, 1, none⟩ = some (.int .u64 a.2.toNat)) (e2 : w.cell? ⟨k2, 0, none⟩ = some (.int .u64 b.1.toNat)) (e3 : w.cell? ⟨k2, 1, none⟩ = some (.int .u64 b.2.toNat)) :
    (results fn t).run Try.prog w = .ok (rtv (a, b, ok)) w := by
  rw [Array.getD_eq_getD_getElem?] at h10 h11 h12
  unfold results
  rw [hf]
  simp [go_sem, h10, h11, h12, e0, e1, e2, e3, asAddr]

/-- What is known while one function is called, its three results are taken and two boxes made, in any order. -/
def RM (c : Nat) (X A B O : Value) (B0 : Nat) (W : World) (s : Nat → Bool) (vs : List Value) (w : World) : Prop :=
  ∃ x m p q o u v, vs = [x, m, p, q, o, u, v] ∧ Below B0 W w ∧ (s c = true → x = X) ∧ (s (c + 1) = true → m = X) ∧ (s (c + 2) = true → p = A) ∧ (s (c + 3) = true → q = B) ∧ (s (c + 4) = true → o = O) ∧
    (s (c + 5) = true → ∃ k, u = .pointer (some ⟨k, 0, none⟩) ∧ B0 ≤ k ∧ Two w k) ∧ (s (c + 6) = true → ∃ k, v = .pointer (some ⟨k, 0, none⟩) ∧ B0 ≤ k ∧ Two w k) ∧ (s (c + 5) = true → s (c + 6) = true → u ≠ v)
section
variable {c : Nat} {X A B O : Value} {B0 : Nat} {W w w' : World} {s : Nat → Bool} {x m p q o u v : Value}
theorem RM.seven {vs : List Value} (h : RM c X A B O B0 W s vs w) : ∃ x m p q o u v, vs = [x, m, p, q, o, u, v] := by
  obtain ⟨x, m, p, q, o, u, v, e, _⟩ := h
  exact ⟨x, m, p, q, o, u, v, e⟩
theorem RM.old {vs : List Value} (h : RM c X A B O B0 W s vs w) : Below B0 W w := by
  obtain ⟨x, m, p, q, o, u, v, e, hb, _⟩ := h
  exact hb
theorem RM.e0 (h : RM c X A B O B0 W s [x, m, p, q, o, u, v] w) (hs : s c = true) : x = X := by
  obtain ⟨_, _, _, _, _, _, _, e, hb, h0, _⟩ := h
  cases e
  exact h0 hs
theorem RM.e1 (h : RM c X A B O B0 W s [x, m, p, q, o, u, v] w) (hs : s (c + 1) = true) : m = X := by
  obtain ⟨_, _, _, _, _, _, _, e, hb, h0, h1, _⟩ := h
  cases e
  exact h1 hs
theorem RM.start (x m p q o u v : Value) (h0 : s c = false) (h1 : s (c + 1) = false) (h2 : s (c + 2) = false) (h3 : s (c + 3) = false) (h4 : s (c + 4) = false) (h5 : s (c + 5) = false) (h6 : s (c + 6) = false) : RM c X A B O B0 W s [x, m, p, q, o, u, v] W.drew := by
  refine ⟨x, m, p, q, o, u, v, rfl, (Below.refl _ _).drew, ?_, ?_, ?_, ?_, ?_, ?_, ?_, ?_⟩ <;> simp [h0, h1, h2, h3, h4, h5, h6]
theorem RM.call (h : RM c X A B O B0 W s [x, m, p, q, o, u, v] w) (hB : B0 ≤ w.heap.size) (hb : Below w.heap.size w w') : RM c X A B O B0 W (upd s c) [X, m, p, q, o, u, v] w' := by
  obtain ⟨_, _, _, _, _, _, _, e, h0, i0, i1, i2, i3, i4, i5, i6, i7⟩ := h
  cases e
  refine ⟨_, m, p, q, o, u, v, rfl, h0.trans (hb.mono hB), fun _ => rfl, by simpa [upd] using i1, by simpa [upd] using i2, by simpa [upd] using i3, by simpa [upd] using i4, ?_, ?_, by simpa [upd] using i7⟩
  · intro hs
    obtain ⟨k, e, hk, ht⟩ := i5 (by simpa [upd] using hs)
    exact ⟨k, e, hk, ht.below hb ht.lt⟩
  · intro hs
    obtain ⟨k, e, hk, ht⟩ := i6 (by simpa [upd] using hs)
    exact ⟨k, e, hk, ht.below hb ht.lt⟩
theorem RM.put1 (h : RM c X A B O B0 W s [x, m, p, q, o, u, v] w) : RM c X A B O B0 W (upd s (c + 1)) [x, X, p, q, o, u, v] w := by
  obtain ⟨_, _, _, _, _, _, _, e, h0, i0, i1, i2, i3, i4, i5, i6, i7⟩ := h
  cases e
  exact ⟨x, _, p, q, o, u, v, rfl, h0, by simpa [upd] using i0, fun _ => rfl, by simpa [upd] using i2, by simpa [upd] using i3, by simpa [upd] using i4, by simpa [upd] using i5, by simpa [upd] using i6, by simpa [upd] using i7⟩
theorem RM.put2 (h : RM c X A B O B0 W s [x, m, p, q, o, u, v] w) : RM c X A B O B0 W (upd s (c + 2)) [x, m, A, q, o, u, v] w := by
  obtain ⟨_, _, _, _, _, _, _, e, h0, i0, i1, i2, i3, i4, i5, i6, i7⟩ := h
  cases e
  exact ⟨x, m, _, q, o, u, v, rfl, h0, by simpa [upd] using i0, by simpa [upd] using i1, fun _ => rfl, by simpa [upd] using i3, by simpa [upd] using i4, by simpa [upd] using i5, by simpa [upd] using i6, by simpa [upd] using i7⟩
theorem RM.put3 (h : RM c X A B O B0 W s [x, m, p, q, o, u, v] w) : RM c X A B O B0 W (upd s (c + 3)) [x, m, p, B, o, u, v] w := by
  obtain ⟨_, _, _, _, _, _, _, e, h0, i0, i1, i2, i3, i4, i5, i6, i7⟩ := h
  cases e
  exact ⟨x, m, p, _, o, u, v, rfl, h0, by simpa [upd] using i0, by simpa [upd] using i1, by simpa [upd] using i2, fun _ => rfl, by simpa [upd] using i4, by simpa [upd] using i5, by simpa [upd] using i6, by simpa [upd] using i7⟩
theorem RM.put4 (h : RM c X A B O B0 W s [x, m, p, q, o, u, v] w) : RM c X A B O B0 W (upd s (c + 4)) [x, m, p, q, O, u, v] w := by
  obtain ⟨_, _, _, _, _, _, _, e, h0, i0, i1, i2, i3, i4, i5, i6, i7⟩ := h
  cases e
  exact ⟨x, m, p, q, _, u, v, rfl, h0, by simpa [upd] using i0, by simpa [upd] using i1, by simpa [upd] using i2, by simpa [upd] using i3, fun _ => rfl, by simpa [upd] using i5, by simpa [upd] using i6, by simpa [upd] using i7⟩
theorem RM.new5 (h : RM c X A B O B0 W s [x, m, p, q, o, u, v] w) (hB : B0 ≤ w.heap.size) (c0 c1 : Value) (t : TypeId) : RM c X A B O B0 W (upd s (c + 5)) [x, m, p, q, o, .pointer (some ⟨w.heap.size, 0, none⟩), v] (w.alloc (.cells #[c0, c1] t)) := by
  obtain ⟨_, _, _, _, _, _, _, e, h0, i0, i1, i2, i3, i4, i5, i6, i7⟩ := h
  cases e
  refine ⟨x, m, p, q, o, _, v, rfl, h0.trans ((ba w _).mono hB), by simpa [upd] using i0, by simpa [upd] using i1, by simpa [upd] using i2, by simpa [upd] using i3, by simpa [upd] using i4, fun _ => ⟨_, rfl, hB, Two.new w c0 c1 t⟩, ?_, ?_⟩
  · intro hs
    obtain ⟨k, e, hk, ht⟩ := i6 (by simpa [upd] using hs)
    exact ⟨k, e, hk, ht.below (ba w _) ht.lt⟩
  · intro _ hs
    obtain ⟨k, e, hk, ht⟩ := i6 (by simpa [upd] using hs)
    rw [e]
    intro hh
    simp at hh
    have := ht.lt
    omega
theorem RM.new6 (h : RM c X A B O B0 W s [x, m, p, q, o, u, v] w) (hB : B0 ≤ w.heap.size) (c0 c1 : Value) (t : TypeId) : RM c X A B O B0 W (upd s (c + 6)) [x, m, p, q, o, u, .pointer (some ⟨w.heap.size, 0, none⟩)] (w.alloc (.cells #[c0, c1] t)) := by
  obtain ⟨_, _, _, _, _, _, _, e, h0, i0, i1, i2, i3, i4, i5, i6, i7⟩ := h
  cases e
  refine ⟨x, m, p, q, o, u, _, rfl, h0.trans ((ba w _).mono hB), by simpa [upd] using i0, by simpa [upd] using i1, by simpa [upd] using i2, by simpa [upd] using i3, by simpa [upd] using i4, ?_, fun _ => ⟨_, rfl, hB, Two.new w c0 c1 t⟩, ?_⟩
  · intro hs
    obtain ⟨k, e, hk, ht⟩ := i5 (by simpa [upd] using hs)
    exact ⟨k, e, hk, ht.below (ba w _) ht.lt⟩
  · intro hs _
    obtain ⟨k, e, hk, ht⟩ := i5 (by simpa [upd] using hs)
    rw [e]
    intro hh
    simp at hh
    have := ht.lt
    omega
theorem RM.all {vs : List Value} (h : RM c X A B O B0 W s vs w) (h0 : s c = true) (h1 : s (c + 1) = true) (h2 : s (c + 2) = true) (h3 : s (c + 3) = true) (h4 : s (c + 4) = true) (h5 : s (c + 5) = true) (h6 : s (c + 6) = true) : ∃ k8 k9, vs = [X, X, A, B, O, .pointer (some ⟨k8, 0, none⟩), .pointer (some ⟨k9, 0, none⟩)] ∧ B0 ≤ k8 ∧ B0 ≤ k9 ∧ k8 ≠ k9 ∧ Two w k8 ∧ Two w k9 := by
  obtain ⟨x, m, p, q, o, u, v, e, hb, i0, i1, i2, i3, i4, i5, i6, i7⟩ := h
  obtain ⟨k8, ek8, b8, t8⟩ := i5 h5
  obtain ⟨k9, ek9, b9, t9⟩ := i6 h6
  have hne := i7 h5 h6
  rw [ek8, ek9] at hne
  exact ⟨k8, k9, by rw [e, i0 h0, i1 h1, i2 h2, i3 h3, i4 h4, ek8, ek9], b8, b9, fun e => hne (by rw [e]), t8, t9⟩
end

set_option maxRecDepth 100000 in
set_option maxHeartbeats 16000000 in
theorem results_any (q : Nat) : ∀ (p : List Dg) (n m : Nat) (whole : Bool) (old : Dg) (ao : Option Addr) (cap : Nat) (w : World), p.length = q → q ≤ cap → q ≤ 1000000 → 1 ≤ n → n ≤ m → m ≤ 10000 → DSl w ao p →
    Calls Try.prog 20 #[.int .i64 n, .int .i64 m, .bool whole, dv old, .slice ao q cap] w fun e w' => e = .returned (rtv (rootsD fstL n m whole old p)) ∧ Below w.heap.size w w' := by
  induction q using Nat.strongRecOn with
  | _ q ih =>
  intro p n m whole old ao cap w hp hcap hq h1 hnm hm hs
  have HP := lid hp
  have IH := lid ih
  clear ih
  have hwL : Below w.heap.size w (((w.alloc (Obj.cells #[Value.int .u64 old.1.toNat, Value.int .u64 old.2.toNat] 32)).alloc (Obj.cells #[Value.int .u64 0, Value.int .u64 0] 32)).alloc (Obj.cells #[Value.int .u64 0, Value.int .u64 0] 32)) := (((Below.refl _ _).alloc (Nat.le_refl _) _).alloc (by simp) _).alloc (by simp <;> omega) _
  obtain ⟨W, hW⟩ : ∃ W, (((w.alloc (Obj.cells #[Value.int .u64 old.1.toNat, Value.int .u64 old.2.toNat] 32)).alloc (Obj.cells #[Value.int .u64 0, Value.int .u64 0] 32)).alloc (Obj.cells #[Value.int .u64 0, Value.int .u64 0] 32)) = W := ⟨_, rfl⟩
  have hw0 : Below w.heap.size w W := by rw [← hW]; exact hwL
  have O : DBox W w.heap.size old := by rw [← hW]; exact ((DBox.new w old _).below (ba _ _) (by simp)).below (ba _ _) (by simp <;> omega)
  have T1 : Two W (w.heap.size + 1) := by rw [← hW]; exact (by have := Two.new (w.alloc (Obj.cells #[Value.int .u64 old.1.toNat, Value.int .u64 old.2.toNat] 32)) (.int .u64 0) (.int .u64 0) 32; rw [World.size_alloc] at this; exact this.below (ba _ _) (by simp <;> omega))
  have T2 : Two W (w.heap.size + 2) := by rw [← hW]; exact (by have := Two.new ((w.alloc (Obj.cells #[Value.int .u64 old.1.toNat, Value.int .u64 old.2.toNat] 32)).alloc (Obj.cells #[Value.int .u64 0, Value.int .u64 0] 32)) (.int .u64 0) (.int .u64 0) 32; rw [World.size_alloc, World.size_alloc] at this; exact this)
  have hsz : w.heap.size + 3 = W.heap.size := by rw [← hW, World.size_alloc, World.size_alloc, World.size_alloc]
  have HW := lid hW
  clear hW
  by_cases hne : n = m
  · subst hne
    cases whole with
    | true =>
      clear hwL
      obtain ⟨z, hz⟩ : ∃ z, decide (p.length = 0) = z := ⟨_, rfl⟩
      have hd : ((q : Int) == 0) = z := by rw [← hz, HP.out, Bool.eq_iff_iff]; simp
      have HV := lid (rootsD_whole fstL n old p)
      rw [hz] at HV
      obtain ⟨O0, O1, O2⟩ := O
      clear hz
      go_enter Try.func20, Try.ntmps20
      go_wp2_with fail
      rw [HW.out]
      clear HW
      have O1y := SinceY.cell (B := W.heap.size) (X := w.heap.size + 1) (W := W) (by omega) (by omega) (by omega) O1
      have O2y := SinceY.cell (B := W.heap.size) (X := w.heap.size + 1) (W := W) (by omega) (by omega) (by omega) O2
      clear O1 O2
      refine wp_region_seq (fun w' => ∃ s : SinceY W.heap.size (w.heap.size + 1) W, w' = s.world) [(0, true), (1, true), (2, true), (3, true), (4, true), (5, false), (6, false), (7, false)] (by kernel_rfl) (by kernel_rfl) (by intro c d v a w h; cases d <;> exact h) (sincey (KeptY.refl _ _ _).drew) ?_
      repeat (first | (refine seq_skip (by rfl) (by rfl) ?_; simp only [Act.put, List.setIfInBounds_toArray, List.set_cons_succ, List.set_cons_zero]) | (refine seq_float (by rfl) (by rfl) (by rfl) ?_; intro K hK; go_big_quiet_op; go_big_quiet_on))
      have hs0 : Below w.heap.size W W := Below.refl _ _
      have hy0 : KeptY W.heap.size (w.heap.size + 1) W W := KeptY.refl _ _ _
      obtain ⟨y0, y1, ya0, ya1, za0, za1⟩ := T1.cells
      refine seq_chain (by rfl) ?_
      intro K hK
      go_wp2_with fail
      obtain ⟨W8, hW8⟩ : ∃ W8, (W.setCell ⟨w.heap.size + 1, 0, none⟩ (.int .u64 old.1.toNat)).setCell ⟨w.heap.size + 1, 1, none⟩ (.int .u64 old.2.toNat) = W8 := ⟨_, rfl⟩
      have hX : DBox W8 (w.heap.size + 1) old := by rw [← hW8]; exact T1.set old
      have T2' : Two W8 (w.heap.size + 2) := by rw [← hW8]; exact (T2.other _ _ (by simp)).other _ _ (by simp)
      have hs8 := (hs0.setCell (p := ⟨w.heap.size + 1, 0, none⟩) (by show w.heap.size ≤ w.heap.size + 1; omega) (.int .u64 old.1.toNat)).setCell (p := ⟨w.heap.size + 1, 1, none⟩) (by show w.heap.size ≤ w.heap.size + 1; omega) (.int .u64 old.2.toNat)
      have hy8 := (hy0.setCell (p := ⟨w.heap.size + 1, 0, none⟩) (.inl rfl) (.int .u64 old.1.toNat)).setCell (p := ⟨w.heap.size + 1, 1, none⟩) (.inl rfl) (.int .u64 old.2.toNat)
      rw [hW8] at hs8 hy8 ⊢
      clear hW8 T1 T2 ya0 ya1 za0 za1 hs0 hy0
      refine hK.out _ _ (sincey hy8.drew) ?_
      clear hK K
      repeat (first | (refine seq_skip (by rfl) (by rfl) ?_; simp only [Act.put, List.setIfInBounds_toArray, List.set_cons_succ, List.set_cons_zero]) | (refine seq_float (by rfl) (by rfl) (by rfl) ?_; intro K hK; go_big_quiet_op; go_big_quiet_on))
      obtain ⟨y0', y1', yb0, yb1, zb0, zb1⟩ := T2'.cells
      refine seq_chain (by rfl) ?_
      intro K hK
      go_wp2_with fail
      obtain ⟨W9, hW9⟩ : ∃ W9, (W8.setCell ⟨w.heap.size + 2, 0, none⟩ (.int .u64 old.1.toNat)).setCell ⟨w.heap.size + 2, 1, none⟩ (.int .u64 old.2.toNat) = W9 := ⟨_, rfl⟩
      have hX9 : DBox W9 (w.heap.size + 1) old := by rw [← hW9]; exact (hX.other _ _ (by simp)).other _ _ (by simp)
      have hY9 : DBox W9 (w.heap.size + 2) old := by rw [← hW9]; exact T2'.set old
      have hs9 := (hs8.setCell (p := ⟨w.heap.size + 2, 0, none⟩) (by show w.heap.size ≤ w.heap.size + 2; omega) (.int .u64 old.1.toNat)).setCell (p := ⟨w.heap.size + 2, 1, none⟩) (by show w.heap.size ≤ w.heap.size + 2; omega) (.int .u64 old.2.toNat)
      have hy9 := (hy8.setCell (p := ⟨w.heap.size + 2, 0, none⟩) (.inr rfl) (.int .u64 old.1.toNat)).setCell (p := ⟨w.heap.size + 2, 1, none⟩) (.inr rfl) (.int .u64 old.2.toNat)
      rw [hW9] at hs9 hy9 ⊢
      clear hW9 T2' yb0 yb1 zb0 zb1 hX hs8 hy8
      refine hK.out _ _ (sincey hy9.drew) ?_
      clear hK K
      repeat (first | (refine seq_skip (by rfl) (by rfl) ?_; simp only [Act.put, List.setIfInBounds_toArray, List.set_cons_succ, List.set_cons_zero]) | (refine seq_float (by rfl) (by rfl) (by rfl) ?_; intro K hK; go_big_quiet_op; go_big_quiet_on))
      refine seq_chain (by rfl) ?_
      intro K hK
      go_wp2_with fail
      refine hK.out _ _ (sincey hy9.drew) ?_
      clear hK K
      repeat (first | (refine seq_skip (by rfl) (by rfl) ?_; simp only [Act.put, List.setIfInBounds_toArray, List.set_cons_succ, List.set_cons_zero]) | (refine seq_float (by rfl) (by rfl) (by rfl) ?_; intro K hK; go_big_quiet_op; go_big_quiet_on))
      refine seq_nil ?_
      obtain ⟨-, e0, e1⟩ := hX9
      obtain ⟨-, e2, e3⟩ := hY9
      go_wp2_with fail
      refine bodyPost_ret (v := rtv (old, old, z)) (res_roots Try.results20 _ _ (w.heap.size + 1) (w.heap.size + 2) _ _ _ rfl rfl rfl (by simpa using e0) (by simpa using e1) (by simpa using e2) (by simpa using e3)) rfl ⟨by rw [HV.out], ?_⟩
      exact hw0.trans hs9.drew
    | false =>
      rcases List.eq_nil_or_concat p with rfl | ⟨r, e, hqe⟩
      · obtain rfl : 0 = q := hp
        have HNM : Hid (¬ (n = n ∧ false = true)) := lid (by simp)
        have HV := lid (rootsD_nil fstL HNM.out old)
        go_enter Try.func20, Try.ntmps20
        go_wp2_with fail
        refine bodyPost_ret (v := rtv ((0, 0), (0, 0), false)) (by simp [results, Try.results20, go_sem]) rfl ⟨by rw [HV.out], ?_⟩
        exact hwL
      · rw [List.concat_eq_append] at hqe
        subst hqe
        obtain rfl : r.length + 1 = q := by simpa using hp
        obtain ⟨b, off, rfl, hb, hc⟩ : ∃ b off, ao = some ⟨b, off, none⟩ ∧ b < w.heap.size ∧ DCells w b off (r ++ [e]) := hs.resolve_left (by simp)
        have HS : Hid (DSl W (some ⟨b, off, none⟩) (r ++ [e])) := lid (hs.below hw0)
        obtain ⟨ce0, ce1⟩ := hc r.length (by simp)
        rw [List.getElem_concat_length rfl] at ce0 ce1
        have ce0 := (bc hw0 hb _).trans ce0
        have ce1 := (bc hw0 hb _).trans ce1
        have HF : Hid (W.cell? ⟨b, off, none⟩ = some (.int .u64 (fstL (r ++ [e])).1.toNat) ∧ W.cell? ⟨b, off + 1, none⟩ = some (.int .u64 (fstL (r ++ [e])).2.toNat)) := by
          have h := hc 0 (by simp)
          rw [head_at] at h
          exact lid ⟨(bc hw0 hb _).trans (by simpa using h.1), (bc hw0 hb _).trans (by simpa using h.2)⟩
        have hbW : b < W.heap.size := by omega
        clear hs hc hp hwL 
        obtain ⟨z, hz⟩ : ∃ z, decide (r.length = 0) = z := ⟨_, rfl⟩
        have hd : ((r.length : Int) + 1 == 1) = z := by rw [← hz, Bool.eq_iff_iff, beq_iff_eq, decide_eq_true_eq]; omega
        have hd' : ((r.length : Int) == 0) = z := by rw [← hz, Bool.eq_iff_iff, beq_iff_eq, decide_eq_true_eq]; omega
        have HV := lid (rootsD_same fstL n old r e)
        rw [hz] at HV
        clear hz
        obtain ⟨f0, f1⟩ := HF.out
        generalize fstL (r ++ [e]) = f at *
        go_enter Try.func20, Try.ntmps20
        go_wp2_with fail
        rw [HW.out]
        clear HW
        have f0y := SinceY.cell (B := W.heap.size) (X := w.heap.size + 1) (W := W) (by omega) (by omega) (by omega) f0
        have f1y := SinceY.cell (B := W.heap.size) (X := w.heap.size + 1) (W := W) (by omega) (by omega) (by omega) f1
        clear f0 f1
        refine wp_region_seq (fun w' => ∃ s : SinceY W.heap.size (w.heap.size + 1) W, w' = s.world) [(0, true), (1, true), (2, true), (3, true), (4, true), (5, true), (6, true), (7, true), (8, true), (9, false), (10, false), (11, false)] (by kernel_rfl) (by kernel_rfl) (by intro c d v a w h; cases d <;> exact h) (sincey (KeptY.refl _ _ _).drew) ?_
        repeat (first | (refine seq_skip (by rfl) (by rfl) ?_; simp only [Act.put, List.setIfInBounds_toArray, List.set_cons_succ, List.set_cons_zero]) | (refine seq_float (by rfl) (by rfl) (by rfl) ?_; intro K hK; go_big_quiet_op; go_big_quiet_on))
        have hs0 : Below w.heap.size W W := Below.refl _ _
        have hy0 : KeptY W.heap.size (w.heap.size + 1) W W := KeptY.refl _ _ _
        obtain ⟨y0, y1, ya0, ya1, za0, za1⟩ := T1.cells
        refine seq_chain (by rfl) ?_
        intro K hK
        go_wp2_with fail
        obtain ⟨W8, hW8⟩ : ∃ W8, (W.setCell ⟨w.heap.size + 1, 0, none⟩ (.int .u64 f.1.toNat)).setCell ⟨w.heap.size + 1, 1, none⟩ (.int .u64 f.2.toNat) = W8 := ⟨_, rfl⟩
        have hX : DBox W8 (w.heap.size + 1) f := by rw [← hW8]; exact T1.set f
        have T2' : Two W8 (w.heap.size + 2) := by rw [← hW8]; exact (T2.other _ _ (by simp)).other _ _ (by simp)
        have hs8 := (hs0.setCell (p := ⟨w.heap.size + 1, 0, none⟩) (by show w.heap.size ≤ w.heap.size + 1; omega) (.int .u64 f.1.toNat)).setCell (p := ⟨w.heap.size + 1, 1, none⟩) (by show w.heap.size ≤ w.heap.size + 1; omega) (.int .u64 f.2.toNat)
        have hy8 := (hy0.setCell (p := ⟨w.heap.size + 1, 0, none⟩) (.inl rfl) (.int .u64 f.1.toNat)).setCell (p := ⟨w.heap.size + 1, 1, none⟩) (.inl rfl) (.int .u64 f.2.toNat)
        rw [hW8] at hs8 hy8 ⊢
        clear hW8 T1 T2 ya0 ya1 za0 za1 hs0 hy0
        refine hK.out _ _ (sincey hy8.drew) ?_
        clear hK K
        repeat (first | (refine seq_skip (by rfl) (by rfl) ?_; simp only [Act.put, List.setIfInBounds_toArray, List.set_cons_succ, List.set_cons_zero]) | (refine seq_float (by rfl) (by rfl) (by rfl) ?_; intro K hK; go_big_quiet_op; go_big_quiet_on))
        obtain ⟨y0', y1', yb0, yb1, zb0, zb1⟩ := T2'.cells
        refine seq_chain (by rfl) ?_
        intro K hK
        go_wp2_with fail
        obtain ⟨W9, hW9⟩ : ∃ W9, (W8.setCell ⟨w.heap.size + 2, 0, none⟩ (.int .u64 f.1.toNat)).setCell ⟨w.heap.size + 2, 1, none⟩ (.int .u64 f.2.toNat) = W9 := ⟨_, rfl⟩
        have hX9 : DBox W9 (w.heap.size + 1) f := by rw [← hW9]; exact (hX.other _ _ (by simp)).other _ _ (by simp)
        have hY9 : DBox W9 (w.heap.size + 2) f := by rw [← hW9]; exact T2'.set f
        have hs9 := (hs8.setCell (p := ⟨w.heap.size + 2, 0, none⟩) (by show w.heap.size ≤ w.heap.size + 2; omega) (.int .u64 f.1.toNat)).setCell (p := ⟨w.heap.size + 2, 1, none⟩) (by show w.heap.size ≤ w.heap.size + 2; omega) (.int .u64 f.2.toNat)
        have hy9 := (hy8.setCell (p := ⟨w.heap.size + 2, 0, none⟩) (.inr rfl) (.int .u64 f.1.toNat)).setCell (p := ⟨w.heap.size + 2, 1, none⟩) (.inr rfl) (.int .u64 f.2.toNat)
        rw [hW9] at hs9 hy9 ⊢
        clear hW9 T2' yb0 yb1 zb0 zb1 hX hs8 hy8
        refine hK.out _ _ (sincey hy9.drew) ?_
        clear hK K
        repeat (first | (refine seq_skip (by rfl) (by rfl) ?_; simp only [Act.put, List.setIfInBounds_toArray, List.set_cons_succ, List.set_cons_zero]) | (refine seq_float (by rfl) (by rfl) (by rfl) ?_; intro K hK; go_big_quiet_op; go_big_quiet_on))
        refine seq_chain (by rfl) ?_
        intro K hK
        go_wp2_with fail
        refine hK.out _ _ (sincey hy9.drew) ?_
        clear hK K
        repeat (first | (refine seq_skip (by rfl) (by rfl) ?_; simp only [Act.put, List.setIfInBounds_toArray, List.set_cons_succ, List.set_cons_zero]) | (refine seq_float (by rfl) (by rfl) (by rfl) ?_; intro K hK; go_big_quiet_op; go_big_quiet_on))
        refine seq_nil ?_
        obtain ⟨-, e0, e1⟩ := hX9
        obtain ⟨-, e2, e3⟩ := hY9
        go_wp2_with fail
        refine bodyPost_ret (v := rtv (f, f, z)) (res_roots Try.results20 _ _ (w.heap.size + 1) (w.heap.size + 2) _ _ _ rfl rfl rfl (by simpa using e0) (by simpa using e1) (by simpa using e2) (by simpa using e3)) rfl ⟨by rw [HV.out], ?_⟩
        exact hw0.trans hs9.drew
  · have hnd : ((n : Int) == (m : Int)) = false := by simp; omega
    rcases List.eq_nil_or_concat p with rfl | ⟨r, e, hqe⟩
    · obtain rfl : 0 = q := hp
      have HNM : Hid (¬ (n = m ∧ whole = true)) := lid (fun x => hne x.1)
      have HV := lid (rootsD_nil fstL HNM.out old)
      go_enter Try.func20, Try.ntmps20
      go_wp2_with fail
      refine bodyPost_ret (v := rtv ((0, 0), (0, 0), false)) (by simp [results, Try.results20, go_sem]) rfl ⟨by rw [HV.out], ?_⟩
      exact hwL
    · rw [List.concat_eq_append] at hqe
      subst hqe
      obtain rfl : r.length + 1 = q := by simpa using hp
      obtain ⟨b, off, rfl, hb, hc⟩ : ∃ b off, ao = some ⟨b, off, none⟩ ∧ b < w.heap.size ∧ DCells w b off (r ++ [e]) := hs.resolve_left (by simp)
      have hsr : DSl w (some ⟨b, off, none⟩) r := .inr ⟨b, off, rfl, hb, by have := hc.take r.length; rwa [List.take_left' rfl] at this⟩
      have HS : Hid (DSl W (some ⟨b, off, none⟩) r) := lid (hsr.below hw0)
      obtain ⟨ce0, ce1⟩ := hc r.length (by simp)
      rw [List.getElem_concat_length rfl] at ce0 ce1
      have ce0 := (bc hw0 hb _).trans ce0
      have ce1 := (bc hw0 hb _).trans ce1
      have HF : Hid (W.cell? ⟨b, off, none⟩ = some (.int .u64 (fstL (r ++ [e])).1.toNat) ∧ W.cell? ⟨b, off + 1, none⟩ = some (.int .u64 (fstL (r ++ [e])).2.toNat)) := by
        have h := hc 0 (by simp)
        rw [head_at] at h
        exact lid ⟨(bc hw0 hb _).trans (by simpa using h.1), (bc hw0 hb _).trans (by simpa using h.2)⟩
      have hbW : b < W.heap.size := by omega
      have hk0 := halfN_pos m
      have hk1 : halfN m < m := halfN_lt (by omega)
      have hk2 : m ≤ 2 * halfN m := halfN_ge (by omega)
      have HNE := lid hne
      clear hs hc hp hwL hsr HF
      by_cases hk : n ≤ halfN m
      · have HV := lid (rootsD_lo fstL HNE.out hk whole old r e)
        have HC : Hid (∀ w1, DSl w1 (some ⟨b, off, none⟩) r → Calls Try.prog 20 #[.int .i64 n, .int .i64 ((halfN m) : Nat), .bool whole, dv old, .slice (some ⟨b, off, none⟩) r.length cap] w1 fun e w' => e = .returned (rtv (rootsD fstL n (halfN m) whole old r)) ∧ Below w1.heap.size w1 w') := lid fun w1 hs1 =>
          IH.out r.length (by omega) r n (halfN m) whole old _ cap w1 rfl (by omega) (by omega) (by omega) (by omega) (by omega) hs1
        generalize rootsD fstL n (halfN m) whole old r = R at *
        have CP1 := lid (fun w => pair_dg R.2.1 e w)
        generalize pairD R.2.1 e = D1 at *


        have hkd : decide ((n : Int) ≤ (halfN m : Int)) = true := by simp; omega
        go_enter Try.func20, Try.ntmps20
        go_wp2_with fail
        (with_reducible refine (split_any m _ (by omega) (by omega)).mono ?_); rintro e w1 ⟨rfl, rfl⟩
        go_wp2_with fail
        rw [HW.out]
        clear HW
        obtain ⟨lO, O0, O1⟩ := O
        refine wp_region_mixF (fun w' => ∃ s : Since W.heap.size W, w' = s.world) [(0, true), (1, true), (2, true), (3, true), (4, true), (5, true), (6, true)] [(7, []), (12, []), (13, [])] [(8, [7]), (9, [8]), (10, [8]), (11, [8])] [(14, false), (15, false), (16, false)] (by kernel_rfl) (by kernel_rfl) (by intro c d v a w h; cases d <;> exact h) (since (Below.refl _ _).drew) ?_
        repeat (first | (refine seq_skip (by rfl) (by rfl) ?_; simp only [Act.put, List.setIfInBounds_toArray, List.set_cons_succ, List.set_cons_zero]) | (refine seq_float (by rfl) (by rfl) (by rfl) ?_; intro K hK; go_big_quiet_op; go_big_quiet_on))
        refine seq_nil (mixF_go [64, 56, 65, 66, 67, 15, 16] [undef, undef, undef, undef, undef, undef, undef] (RM 7 (rtv R) (dv R.1) (dv R.2.1) (.bool R.2.2) W.heap.size W) rfl (by simp only [putAll, Act.put, List.setIfInBounds_toArray, List.set_cons_succ, List.set_cons_zero]) (fun s h g => RM.start _ _ _ _ _ _ _ (h (7, []) (by simp)) (g (8, [7]) (by simp)) (g (9, [8]) (by simp)) (g (10, [8]) (by simp)) (g (11, [8]) (by simp)) (h (12, []) (by simp)) (h (13, []) (by simp))) ⟨?_, ?_, ?_, trivial⟩ ⟨?_, ?_, ?_, ?_, trivial⟩ ?_)
        · intro s vs w1 _ _ hneed _ hR
          obtain ⟨x1, x2, x3, x4, x5, x6, x7, rfl⟩ := hR.seven
          have hB1 := hR.old
          simp only [putAll, Act.put, List.setIfInBounds_toArray, List.set_cons_succ, List.set_cons_zero]
          refine mix_op (by rfl) ?_
          intro K hK
          go_wp2_with fail
          (with_reducible refine (HC.out _ (HS.out.below hB1)).mono ?_); rintro e w2 ⟨rfl, hb2⟩
          go_wp2_with fail
          exact hK.out _ _ ⟨since (hB1.trans (hb2.mono hB1.size)), [(rtv R), x2, x3, x4, x5, x6, x7], rfl, by simp only [putAll, Act.put, List.setIfInBounds_toArray, List.set_cons_succ, List.set_cons_zero], hR.call hB1.size hb2⟩
        · intro s vs w1 _ _ hneed _ hR
          obtain ⟨x1, x2, x3, x4, x5, x6, x7, rfl⟩ := hR.seven
          have hB1 := hR.old
          simp only [putAll, Act.put, List.setIfInBounds_toArray, List.set_cons_succ, List.set_cons_zero]
          refine mix_op (by rfl) ?_
          intro K hK
          go_wp2_with fail
          exact hK.out _ _ ⟨since (hB1.trans ((ba _ _).mono hB1.size)), [x1, x2, x3, x4, x5, .pointer (some ⟨w1.heap.size, 0, none⟩), x7], rfl, by simp only [putAll, Act.put, List.setIfInBounds_toArray, List.set_cons_succ, List.set_cons_zero], hR.new5 hB1.size _ _ _⟩
        · intro s vs w1 _ _ hneed _ hR
          obtain ⟨x1, x2, x3, x4, x5, x6, x7, rfl⟩ := hR.seven
          have hB1 := hR.old
          simp only [putAll, Act.put, List.setIfInBounds_toArray, List.set_cons_succ, List.set_cons_zero]
          refine mix_op (by rfl) ?_
          intro K hK
          go_wp2_with fail
          exact hK.out _ _ ⟨since (hB1.trans ((ba _ _).mono hB1.size)), [x1, x2, x3, x4, x5, x6, .pointer (some ⟨w1.heap.size, 0, none⟩)], rfl, by simp only [putAll, Act.put, List.setIfInBounds_toArray, List.set_cons_succ, List.set_cons_zero], hR.new6 hB1.size _ _ _⟩
        · intro s vs w1 _ _ hneed _ hR
          obtain ⟨x1, x2, x3, x4, x5, x6, x7, rfl⟩ := hR.seven
          obtain rfl := hR.e0 (hneed 7 (by simp))
          refine mix_read (by rfl) (by rfl) (by rfl) ?_
          intro K hK
          simp only [putAll, Act.put, List.setIfInBounds_toArray, List.set_cons_succ, List.set_cons_zero]
          go_big_quiet_op
          go_big_quiet_on
          exact ⟨[(rtv R), (rtv R), x3, x4, x5, x6, x7], rfl, by simp only [putAll, Act.put, List.setIfInBounds_toArray, List.set_cons_succ, List.set_cons_zero], hR.put1⟩
        · intro s vs w1 _ _ hneed _ hR
          obtain ⟨x1, x2, x3, x4, x5, x6, x7, rfl⟩ := hR.seven
          obtain rfl := hR.e1 (hneed 8 (by simp))
          refine mix_read (by rfl) (by rfl) (by rfl) ?_
          intro K hK
          simp only [putAll, Act.put, List.setIfInBounds_toArray, List.set_cons_succ, List.set_cons_zero]
          go_big_quiet_op
          go_big_quiet_on
          exact ⟨[x1, (rtv R), dv R.1, x4, x5, x6, x7], rfl, by simp only [putAll, Act.put, List.setIfInBounds_toArray, List.set_cons_succ, List.set_cons_zero], hR.put2⟩
        · intro s vs w1 _ _ hneed _ hR
          obtain ⟨x1, x2, x3, x4, x5, x6, x7, rfl⟩ := hR.seven
          obtain rfl := hR.e1 (hneed 8 (by simp))
          refine mix_read (by rfl) (by rfl) (by rfl) ?_
          intro K hK
          simp only [putAll, Act.put, List.setIfInBounds_toArray, List.set_cons_succ, List.set_cons_zero]
          go_big_quiet_op
          go_big_quiet_on
          exact ⟨[x1, (rtv R), x3, dv R.2.1, x5, x6, x7], rfl, by simp only [putAll, Act.put, List.setIfInBounds_toArray, List.set_cons_succ, List.set_cons_zero], hR.put3⟩
        · intro s vs w1 _ _ hneed _ hR
          obtain ⟨x1, x2, x3, x4, x5, x6, x7, rfl⟩ := hR.seven
          obtain rfl := hR.e1 (hneed 8 (by simp))
          refine mix_read (by rfl) (by rfl) (by rfl) ?_
          intro K hK
          simp only [putAll, Act.put, List.setIfInBounds_toArray, List.set_cons_succ, List.set_cons_zero]
          go_big_quiet_op
          go_big_quiet_on
          exact ⟨[x1, (rtv R), x3, x4, .bool R.2.2, x6, x7], rfl, by simp only [putAll, Act.put, List.setIfInBounds_toArray, List.set_cons_succ, List.set_cons_zero], hR.put4⟩
        · intro s vs w1 _ hall hallf _ hR
          have hB1 := hR.old
          obtain ⟨k8, k9, rfl, hk8, hk9, hne89, T8, T9⟩ := hR.all (hall (7, []) (by simp)) (hallf (8, [7]) (by simp)) (hallf (9, [8]) (by simp)) (hallf (10, [8]) (by simp)) (hallf (11, [8]) (by simp)) (hall (12, []) (by simp)) (hall (13, []) (by simp))
          simp only [putAll, Act.put, List.setIfInBounds_toArray, List.set_cons_succ, List.set_cons_zero]
          clear hall hallf hR
          obtain ⟨a0, a1, xa0, xa1, va0, va1⟩ := T8.cells
          refine seq_chain (by rfl) ?_
          intro K hK
          go_wp2_with fail
          obtain ⟨W5, hW5⟩ : ∃ W5, (w1.setCell ⟨k8, 0, none⟩ (.int .u64 R.1.1.toNat)).setCell ⟨k8, 1, none⟩ (.int .u64 R.1.2.toNat) = W5 := ⟨_, rfl⟩
          have hA8 : DBox W5 k8 R.1 := by rw [← hW5]; exact T8.set R.1
          have T9' : Two W5 k9 := by rw [← hW5]; exact (T9.other _ _ (Ne.symm hne89)).other _ _ (Ne.symm hne89)
          have hB5 : Below W.heap.size W W5 := by rw [← hW5]; exact (hB1.setCell (p := ⟨k8, 0, none⟩) hk8 _).setCell (p := ⟨k8, 1, none⟩) hk8 _
          rw [hW5]
          clear hW5 hB1 T8 T9 xa0 xa1 va0 va1
          refine hK.out _ _ (since hB5) ?_
          clear hK K
          repeat (first | (refine seq_skip (by rfl) (by rfl) ?_; simp only [Act.put, List.setIfInBounds_toArray, List.set_cons_succ, List.set_cons_zero]) | (refine seq_float (by rfl) (by rfl) (by rfl) ?_; intro K hK; go_big_quiet_op; go_big_quiet_on))
          obtain ⟨b0, b1, xb0, xb1, vb0, vb1⟩ := T9'.cells
          refine seq_chain (by rfl) ?_
          intro K hK
          go_wp2_with fail
          obtain ⟨W6, hW6⟩ : ∃ W6, (W5.setCell ⟨k9, 0, none⟩ (.int .u64 R.2.1.1.toNat)).setCell ⟨k9, 1, none⟩ (.int .u64 R.2.1.2.toNat) = W6 := ⟨_, rfl⟩
          have hA9 : DBox W6 k8 R.1 := by rw [← hW6]; exact (hA8.other _ _ hne89).other _ _ hne89
          have hB9 : DBox W6 k9 R.2.1 := by rw [← hW6]; exact T9'.set R.2.1
          have hB6 : Below W.heap.size W W6 := by rw [← hW6]; exact (hB5.setCell (p := ⟨k9, 0, none⟩) hk9 _).setCell (p := ⟨k9, 1, none⟩) hk9 _
          rw [hW6]
          clear hW6 hB5 T9' xb0 xb1 vb0 vb1 hA8 hne89
          refine hK.out _ _ (since hB6) ?_
          clear hK K
          repeat (first | (refine seq_skip (by rfl) (by rfl) ?_; simp only [Act.put, List.setIfInBounds_toArray, List.set_cons_succ, List.set_cons_zero]) | (refine seq_float (by rfl) (by rfl) (by rfl) ?_; intro K hK; go_big_quiet_op; go_big_quiet_on))
          refine seq_chain (by rfl) ?_
          intro K hK
          go_wp2_with fail
          refine hK.out _ _ (since hB6) ?_
          clear hK K
          repeat (first | (refine seq_skip (by rfl) (by rfl) ?_; simp only [Act.put, List.setIfInBounds_toArray, List.set_cons_succ, List.set_cons_zero]) | (refine seq_float (by rfl) (by rfl) (by rfl) ?_; intro K hK; go_big_quiet_op; go_big_quiet_on))
          refine seq_nil ?_
          have hsz6 := hB6.size
          have hw6 := hw0.trans (hB6.mono hw0.size)
          have T1 := T1.below hB6 (by omega)
          have T2 := T2.below hB6 (by omega)
          have ce0 := (bc hB6 hbW _).trans ce0
          have ce1 := (bc hB6 hbW _).trans ce1
          have hbW6 : b < W6.heap.size := by omega
          obtain ⟨l8, u0, u1⟩ := hA9
          obtain ⟨l9, u2, u3⟩ := hB9
          clear hB6 HC
          have u0y := SinceY.cell (B := W6.heap.size) (X := w.heap.size + 1) (W := W6) (by omega) (by omega) (by omega) u0
          have u1y := SinceY.cell (B := W6.heap.size) (X := w.heap.size + 1) (W := W6) (by omega) (by omega) (by omega) u1
          have u2y := SinceY.cell (B := W6.heap.size) (X := w.heap.size + 1) (W := W6) (by omega) (by omega) (by omega) u2
          have u3y := SinceY.cell (B := W6.heap.size) (X := w.heap.size + 1) (W := W6) (by omega) (by omega) (by omega) u3
          have ce0y := SinceY.cell (B := W6.heap.size) (X := w.heap.size + 1) (W := W6) (by omega) (by omega) (by omega) ce0
          have ce1y := SinceY.cell (B := W6.heap.size) (X := w.heap.size + 1) (W := W6) (by omega) (by omega) (by omega) ce1
          clear u0 u1 u2 u3 ce0 ce1
          go_wp2_with fail
          refine wp_region_seq (fun w' => ∃ s : SinceY W6.heap.size (w.heap.size + 1) W6, w' = s.world) [(0, true), (1, true), (2, true), (3, true), (4, true), (5, true), (7, true), (6, false), (8, false), (9, false), (10, false)] (by kernel_rfl) (by kernel_rfl) (by intro c d v a w h; cases d <;> exact h) (sincey (KeptY.refl _ _ _).drew) ?_
          repeat (first | (refine seq_skip (by rfl) (by rfl) ?_; simp only [Act.put, List.setIfInBounds_toArray, List.set_cons_succ, List.set_cons_zero]) | (refine seq_float (by rfl) (by rfl) (by rfl) ?_; intro K hK; go_big_quiet_op; go_big_quiet_on))
          refine seq_chain (by rfl) ?_
          intro K hK
          go_wp2_with fail
          (with_reducible refine (CP1.out _).mono ?_); rintro e w7 ⟨rfl, hb7⟩
          have hs7 : Below W6.heap.size W6 w7 := (Below.refl _ _).drew.trans hb7
          have hs0 : Below w.heap.size W6 w7 := hs7.mono (by omega)
          have T1 := T1.below hs7 (by omega)
          have T2 := T2.below hs7 (by omega)
          have hy0 := (KeptY.refl W6.heap.size (w.heap.size + 1) W6).below hs7
          clear hs7 hb7
          go_wp2_with fail
          refine hK.out _ _ (sincey hy0) ?_
          clear hK K
          repeat (first | (refine seq_skip (by rfl) (by rfl) ?_; simp only [Act.put, List.setIfInBounds_toArray, List.set_cons_succ, List.set_cons_zero]) | (refine seq_float (by rfl) (by rfl) (by rfl) ?_; intro K hK; go_big_quiet_op; go_big_quiet_on))
          obtain ⟨y0, y1, ya0, ya1, za0, za1⟩ := T1.cells
          refine seq_chain (by rfl) ?_
          intro K hK
          go_wp2_with fail
          obtain ⟨W8, hW8⟩ : ∃ W8, (w7.setCell ⟨w.heap.size + 1, 0, none⟩ (.int .u64 R.1.1.toNat)).setCell ⟨w.heap.size + 1, 1, none⟩ (.int .u64 R.1.2.toNat) = W8 := ⟨_, rfl⟩
          have hX : DBox W8 (w.heap.size + 1) R.1 := by rw [← hW8]; exact T1.set R.1
          have T2' : Two W8 (w.heap.size + 2) := by rw [← hW8]; exact (T2.other _ _ (by simp)).other _ _ (by simp)
          have hs8 := (hs0.setCell (p := ⟨w.heap.size + 1, 0, none⟩) (by show w.heap.size ≤ w.heap.size + 1; omega) (.int .u64 R.1.1.toNat)).setCell (p := ⟨w.heap.size + 1, 1, none⟩) (by show w.heap.size ≤ w.heap.size + 1; omega) (.int .u64 R.1.2.toNat)
          have hy8 := (hy0.setCell (p := ⟨w.heap.size + 1, 0, none⟩) (.inl rfl) (.int .u64 R.1.1.toNat)).setCell (p := ⟨w.heap.size + 1, 1, none⟩) (.inl rfl) (.int .u64 R.1.2.toNat)
          rw [hW8] at hs8 hy8 ⊢
          clear hW8 T1 T2 ya0 ya1 za0 za1 hs0 hy0
          refine hK.out _ _ (sincey hy8) ?_
          clear hK K
          repeat (first | (refine seq_skip (by rfl) (by rfl) ?_; simp only [Act.put, List.setIfInBounds_toArray, List.set_cons_succ, List.set_cons_zero]) | (refine seq_float (by rfl) (by rfl) (by rfl) ?_; intro K hK; go_big_quiet_op; go_big_quiet_on))
          obtain ⟨y0', y1', yb0, yb1, zb0, zb1⟩ := T2'.cells
          refine seq_chain (by rfl) ?_
          intro K hK
          go_wp2_with fail
          obtain ⟨W9, hW9⟩ : ∃ W9, (W8.setCell ⟨w.heap.size + 2, 0, none⟩ (.int .u64 D1.1.toNat)).setCell ⟨w.heap.size + 2, 1, none⟩ (.int .u64 D1.2.toNat) = W9 := ⟨_, rfl⟩
          have hX9 : DBox W9 (w.heap.size + 1) R.1 := by rw [← hW9]; exact (hX.other _ _ (by simp)).other _ _ (by simp)
          have hY9 : DBox W9 (w.heap.size + 2) D1 := by rw [← hW9]; exact T2'.set D1
          have hs9 := (hs8.setCell (p := ⟨w.heap.size + 2, 0, none⟩) (by show w.heap.size ≤ w.heap.size + 2; omega) (.int .u64 D1.1.toNat)).setCell (p := ⟨w.heap.size + 2, 1, none⟩) (by show w.heap.size ≤ w.heap.size + 2; omega) (.int .u64 D1.2.toNat)
          have hy9 := (hy8.setCell (p := ⟨w.heap.size + 2, 0, none⟩) (.inr rfl) (.int .u64 D1.1.toNat)).setCell (p := ⟨w.heap.size + 2, 1, none⟩) (.inr rfl) (.int .u64 D1.2.toNat)
          rw [hW9] at hs9 hy9 ⊢
          clear hW9 T2' yb0 yb1 zb0 zb1 hX hs8 hy8
          refine hK.out _ _ (sincey hy9) ?_
          clear hK K
          repeat (first | (refine seq_skip (by rfl) (by rfl) ?_; simp only [Act.put, List.setIfInBounds_toArray, List.set_cons_succ, List.set_cons_zero]) | (refine seq_float (by rfl) (by rfl) (by rfl) ?_; intro K hK; go_big_quiet_op; go_big_quiet_on))
          refine seq_chain (by rfl) ?_
          intro K hK
          go_wp2_with fail
          refine hK.out _ _ (sincey hy9) ?_
          clear hK K
          repeat (first | (refine seq_skip (by rfl) (by rfl) ?_; simp only [Act.put, List.setIfInBounds_toArray, List.set_cons_succ, List.set_cons_zero]) | (refine seq_float (by rfl) (by rfl) (by rfl) ?_; intro K hK; go_big_quiet_op; go_big_quiet_on))
          refine seq_nil ?_
          obtain ⟨-, e0, e1⟩ := hX9
          obtain ⟨-, e2, e3⟩ := hY9
          go_wp2_with fail
          refine bodyPost_ret (v := rtv (R.1, D1, R.2.2)) (res_roots Try.results20 _ _ (w.heap.size + 1) (w.heap.size + 2) _ _ _ rfl rfl rfl (by simpa using e0) (by simpa using e1) (by simpa using e2) (by simpa using e3)) rfl ⟨by rw [HV.out], ?_⟩
          exact hw6.trans hs9
      · have HV := lid (rootsD_hi fstL HNE.out hk whole old r e)
        have HC : Hid (∀ w1, DSl w1 (some ⟨b, off, none⟩) r → Calls Try.prog 20 #[.int .i64 (((n - halfN m) : Nat) : Int), .int .i64 ((m - halfN m) : Nat), .bool false, dv old, .slice (some ⟨b, off, none⟩) r.length cap] w1 fun e w' => e = .returned (rtv (rootsD fstL (n - halfN m) (m - halfN m) false old r)) ∧ Below w1.heap.size w1 w') := lid fun w1 hs1 =>
          IH.out r.length (by omega) r (n - halfN m) (m - halfN m) false old _ cap w1 rfl (by omega) (by omega) (by omega) (by omega) (by omega) hs1
        rw [show ((n - halfN m : Nat) : Int) = (n : Int) - (halfN m : Int) by omega, show ((m - halfN m : Nat) : Int) = (m : Int) - (halfN m : Int) by omega] at HC
        generalize rootsD fstL (n - halfN m) (m - halfN m) false old r = R at *
        have CP1 := lid (fun w => pair_dg e R.1 w)
        have CP2 := lid (fun w => pair_dg e R.2.1 w)
        generalize pairD e R.1 = D1 at *
        generalize pairD e R.2.1 = D2 at *
        have hkd : decide ((n : Int) ≤ (halfN m : Int)) = false := by simp; omega
        go_enter Try.func20, Try.ntmps20
        go_wp2_with fail
        (with_reducible refine (split_any m _ (by omega) (by omega)).mono ?_); rintro e w1 ⟨rfl, rfl⟩
        go_wp2_with fail
        rw [HW.out]
        clear HW
        obtain ⟨lO, O0, O1⟩ := O
        refine wp_region_mixF (fun w' => ∃ s : Since W.heap.size W, w' = s.world) [(0, true), (1, true), (2, true), (3, true), (4, true), (5, true), (6, true), (7, true), (8, true), (9, true)] [(10, []), (15, []), (16, [])] [(11, [10]), (12, [11]), (13, [11]), (14, [11])] [(17, false), (18, false), (19, false)] (by kernel_rfl) (by kernel_rfl) (by intro c d v a w h; cases d <;> exact h) (since (Below.refl _ _).drew) ?_
        repeat (first | (refine seq_skip (by rfl) (by rfl) ?_; simp only [Act.put, List.setIfInBounds_toArray, List.set_cons_succ, List.set_cons_zero]) | (refine seq_float (by rfl) (by rfl) (by rfl) ?_; intro K hK; go_big_quiet_op; go_big_quiet_on))
        refine seq_nil (mixF_go [87, 76, 88, 89, 90, 18, 19] [undef, undef, undef, undef, undef, undef, undef] (RM 10 (rtv R) (dv R.1) (dv R.2.1) (.bool R.2.2) W.heap.size W) rfl (by simp only [putAll, Act.put, List.setIfInBounds_toArray, List.set_cons_succ, List.set_cons_zero]) (fun s h g => RM.start _ _ _ _ _ _ _ (h (10, []) (by simp)) (g (11, [10]) (by simp)) (g (12, [11]) (by simp)) (g (13, [11]) (by simp)) (g (14, [11]) (by simp)) (h (15, []) (by simp)) (h (16, []) (by simp))) ⟨?_, ?_, ?_, trivial⟩ ⟨?_, ?_, ?_, ?_, trivial⟩ ?_)
        · intro s vs w1 _ _ hneed _ hR
          obtain ⟨x1, x2, x3, x4, x5, x6, x7, rfl⟩ := hR.seven
          have hB1 := hR.old
          simp only [putAll, Act.put, List.setIfInBounds_toArray, List.set_cons_succ, List.set_cons_zero]
          refine mix_op (by rfl) ?_
          intro K hK
          go_wp2_with fail
          (with_reducible refine (HC.out _ (HS.out.below hB1)).mono ?_); rintro e w2 ⟨rfl, hb2⟩
          go_wp2_with fail
          exact hK.out _ _ ⟨since (hB1.trans (hb2.mono hB1.size)), [(rtv R), x2, x3, x4, x5, x6, x7], rfl, by simp only [putAll, Act.put, List.setIfInBounds_toArray, List.set_cons_succ, List.set_cons_zero], hR.call hB1.size hb2⟩
        · intro s vs w1 _ _ hneed _ hR
          obtain ⟨x1, x2, x3, x4, x5, x6, x7, rfl⟩ := hR.seven
          have hB1 := hR.old
          simp only [putAll, Act.put, List.setIfInBounds_toArray, List.set_cons_succ, List.set_cons_zero]
          refine mix_op (by rfl) ?_
          intro K hK
          go_wp2_with fail
          exact hK.out _ _ ⟨since (hB1.trans ((ba _ _).mono hB1.size)), [x1, x2, x3, x4, x5, .pointer (some ⟨w1.heap.size, 0, none⟩), x7], rfl, by simp only [putAll, Act.put, List.setIfInBounds_toArray, List.set_cons_succ, List.set_cons_zero], hR.new5 hB1.size _ _ _⟩
        · intro s vs w1 _ _ hneed _ hR
          obtain ⟨x1, x2, x3, x4, x5, x6, x7, rfl⟩ := hR.seven
          have hB1 := hR.old
          simp only [putAll, Act.put, List.setIfInBounds_toArray, List.set_cons_succ, List.set_cons_zero]
          refine mix_op (by rfl) ?_
          intro K hK
          go_wp2_with fail
          exact hK.out _ _ ⟨since (hB1.trans ((ba _ _).mono hB1.size)), [x1, x2, x3, x4, x5, x6, .pointer (some ⟨w1.heap.size, 0, none⟩)], rfl, by simp only [putAll, Act.put, List.setIfInBounds_toArray, List.set_cons_succ, List.set_cons_zero], hR.new6 hB1.size _ _ _⟩
        · intro s vs w1 _ _ hneed _ hR
          obtain ⟨x1, x2, x3, x4, x5, x6, x7, rfl⟩ := hR.seven
          obtain rfl := hR.e0 (hneed 10 (by simp))
          refine mix_read (by rfl) (by rfl) (by rfl) ?_
          intro K hK
          simp only [putAll, Act.put, List.setIfInBounds_toArray, List.set_cons_succ, List.set_cons_zero]
          go_big_quiet_op
          go_big_quiet_on
          exact ⟨[(rtv R), (rtv R), x3, x4, x5, x6, x7], rfl, by simp only [putAll, Act.put, List.setIfInBounds_toArray, List.set_cons_succ, List.set_cons_zero], hR.put1⟩
        · intro s vs w1 _ _ hneed _ hR
          obtain ⟨x1, x2, x3, x4, x5, x6, x7, rfl⟩ := hR.seven
          obtain rfl := hR.e1 (hneed 11 (by simp))
          refine mix_read (by rfl) (by rfl) (by rfl) ?_
          intro K hK
          simp only [putAll, Act.put, List.setIfInBounds_toArray, List.set_cons_succ, List.set_cons_zero]
          go_big_quiet_op
          go_big_quiet_on
          exact ⟨[x1, (rtv R), dv R.1, x4, x5, x6, x7], rfl, by simp only [putAll, Act.put, List.setIfInBounds_toArray, List.set_cons_succ, List.set_cons_zero], hR.put2⟩
        · intro s vs w1 _ _ hneed _ hR
          obtain ⟨x1, x2, x3, x4, x5, x6, x7, rfl⟩ := hR.seven
          obtain rfl := hR.e1 (hneed 11 (by simp))
          refine mix_read (by rfl) (by rfl) (by rfl) ?_
          intro K hK
          simp only [putAll, Act.put, List.setIfInBounds_toArray, List.set_cons_succ, List.set_cons_zero]
          go_big_quiet_op
          go_big_quiet_on
          exact ⟨[x1, (rtv R), x3, dv R.2.1, x5, x6, x7], rfl, by simp only [putAll, Act.put, List.setIfInBounds_toArray, List.set_cons_succ, List.set_cons_zero], hR.put3⟩
        · intro s vs w1 _ _ hneed _ hR
          obtain ⟨x1, x2, x3, x4, x5, x6, x7, rfl⟩ := hR.seven
          obtain rfl := hR.e1 (hneed 11 (by simp))
          refine mix_read (by rfl) (by rfl) (by rfl) ?_
          intro K hK
          simp only [putAll, Act.put, List.setIfInBounds_toArray, List.set_cons_succ, List.set_cons_zero]
          go_big_quiet_op
          go_big_quiet_on
          exact ⟨[x1, (rtv R), x3, x4, .bool R.2.2, x6, x7], rfl, by simp only [putAll, Act.put, List.setIfInBounds_toArray, List.set_cons_succ, List.set_cons_zero], hR.put4⟩
        · intro s vs w1 _ hall hallf _ hR
          have hB1 := hR.old
          obtain ⟨k8, k9, rfl, hk8, hk9, hne89, T8, T9⟩ := hR.all (hall (10, []) (by simp)) (hallf (11, [10]) (by simp)) (hallf (12, [11]) (by simp)) (hallf (13, [11]) (by simp)) (hallf (14, [11]) (by simp)) (hall (15, []) (by simp)) (hall (16, []) (by simp))
          simp only [putAll, Act.put, List.setIfInBounds_toArray, List.set_cons_succ, List.set_cons_zero]
          clear hall hallf hR
          obtain ⟨a0, a1, xa0, xa1, va0, va1⟩ := T8.cells
          refine seq_chain (by rfl) ?_
          intro K hK
          go_wp2_with fail
          obtain ⟨W5, hW5⟩ : ∃ W5, (w1.setCell ⟨k8, 0, none⟩ (.int .u64 R.1.1.toNat)).setCell ⟨k8, 1, none⟩ (.int .u64 R.1.2.toNat) = W5 := ⟨_, rfl⟩
          have hA8 : DBox W5 k8 R.1 := by rw [← hW5]; exact T8.set R.1
          have T9' : Two W5 k9 := by rw [← hW5]; exact (T9.other _ _ (Ne.symm hne89)).other _ _ (Ne.symm hne89)
          have hB5 : Below W.heap.size W W5 := by rw [← hW5]; exact (hB1.setCell (p := ⟨k8, 0, none⟩) hk8 _).setCell (p := ⟨k8, 1, none⟩) hk8 _
          rw [hW5]
          clear hW5 hB1 T8 T9 xa0 xa1 va0 va1
          refine hK.out _ _ (since hB5) ?_
          clear hK K
          repeat (first | (refine seq_skip (by rfl) (by rfl) ?_; simp only [Act.put, List.setIfInBounds_toArray, List.set_cons_succ, List.set_cons_zero]) | (refine seq_float (by rfl) (by rfl) (by rfl) ?_; intro K hK; go_big_quiet_op; go_big_quiet_on))
          obtain ⟨b0, b1, xb0, xb1, vb0, vb1⟩ := T9'.cells
          refine seq_chain (by rfl) ?_
          intro K hK
          go_wp2_with fail
          obtain ⟨W6, hW6⟩ : ∃ W6, (W5.setCell ⟨k9, 0, none⟩ (.int .u64 R.2.1.1.toNat)).setCell ⟨k9, 1, none⟩ (.int .u64 R.2.1.2.toNat) = W6 := ⟨_, rfl⟩
          have hA9 : DBox W6 k8 R.1 := by rw [← hW6]; exact (hA8.other _ _ hne89).other _ _ hne89
          have hB9 : DBox W6 k9 R.2.1 := by rw [← hW6]; exact T9'.set R.2.1
          have hB6 : Below W.heap.size W W6 := by rw [← hW6]; exact (hB5.setCell (p := ⟨k9, 0, none⟩) hk9 _).setCell (p := ⟨k9, 1, none⟩) hk9 _
          rw [hW6]
          clear hW6 hB5 T9' xb0 xb1 vb0 vb1 hA8 hne89
          refine hK.out _ _ (since hB6) ?_
          clear hK K
          repeat (first | (refine seq_skip (by rfl) (by rfl) ?_; simp only [Act.put, List.setIfInBounds_toArray, List.set_cons_succ, List.set_cons_zero]) | (refine seq_float (by rfl) (by rfl) (by rfl) ?_; intro K hK; go_big_quiet_op; go_big_quiet_on))
          refine seq_chain (by rfl) ?_
          intro K hK
          go_wp2_with fail
          refine hK.out _ _ (since hB6) ?_
          clear hK K
          repeat (first | (refine seq_skip (by rfl) (by rfl) ?_; simp only [Act.put, List.setIfInBounds_toArray, List.set_cons_succ, List.set_cons_zero]) | (refine seq_float (by rfl) (by rfl) (by rfl) ?_; intro K hK; go_big_quiet_op; go_big_quiet_on))
          refine seq_nil ?_
          have hsz6 := hB6.size
          have hw6 := hw0.trans (hB6.mono hw0.size)
          have T1 := T1.below hB6 (by omega)
          have T2 := T2.below hB6 (by omega)
          have ce0 := (bc hB6 hbW _).trans ce0
          have ce1 := (bc hB6 hbW _).trans ce1
          have hbW6 : b < W6.heap.size := by omega
          obtain ⟨l8, u0, u1⟩ := hA9
          obtain ⟨l9, u2, u3⟩ := hB9
          clear hB6 HC
          have u0y := SinceY.cell (B := W6.heap.size) (X := w.heap.size + 1) (W := W6) (by omega) (by omega) (by omega) u0
          have u1y := SinceY.cell (B := W6.heap.size) (X := w.heap.size + 1) (W := W6) (by omega) (by omega) (by omega) u1
          have u2y := SinceY.cell (B := W6.heap.size) (X := w.heap.size + 1) (W := W6) (by omega) (by omega) (by omega) u2
          have u3y := SinceY.cell (B := W6.heap.size) (X := w.heap.size + 1) (W := W6) (by omega) (by omega) (by omega) u3
          have ce0y := SinceY.cell (B := W6.heap.size) (X := w.heap.size + 1) (W := W6) (by omega) (by omega) (by omega) ce0
          have ce1y := SinceY.cell (B := W6.heap.size) (X := w.heap.size + 1) (W := W6) (by omega) (by omega) (by omega) ce1
          clear u0 u1 u2 u3 ce0 ce1
          go_wp2_with fail
          refine wp_region_seq (fun w' => ∃ s : SinceY W6.heap.size (w.heap.size + 1) W6, w' = s.world) [(0, true), (1, true), (2, true), (3, true), (4, true), (6, true), (7, true), (8, true), (9, true), (10, true), (12, true), (5, false), (11, false), (13, false), (14, false), (15, false)] (by kernel_rfl) (by kernel_rfl) (by intro c d v a w h; cases d <;> exact h) (sincey (KeptY.refl _ _ _).drew) ?_
          repeat (first | (refine seq_skip (by rfl) (by rfl) ?_; simp only [Act.put, List.setIfInBounds_toArray, List.set_cons_succ, List.set_cons_zero]) | (refine seq_float (by rfl) (by rfl) (by rfl) ?_; intro K hK; go_big_quiet_op; go_big_quiet_on))
          refine seq_chain (by rfl) ?_
          intro K hK
          go_wp2_with fail
          (with_reducible refine (CP1.out _).mono ?_); rintro e w5 ⟨rfl, hb7⟩
          have hs5 : Below W6.heap.size W6 w5 := (Below.refl _ _).drew.trans hb7
          go_wp2_with fail
          refine hK.out _ _ (sincey ((KeptY.refl W6.heap.size (w.heap.size + 1) W6).below hs5)) ?_
          clear hK K
          repeat (first | (refine seq_skip (by rfl) (by rfl) ?_; simp only [Act.put, List.setIfInBounds_toArray, List.set_cons_succ, List.set_cons_zero]) | (refine seq_float (by rfl) (by rfl) (by rfl) ?_; intro K hK; go_big_quiet_op; go_big_quiet_on))
          refine seq_chain (by rfl) ?_
          intro K hK
          go_wp2_with fail
          (with_reducible refine (CP2.out _).mono ?_); rintro e w7 ⟨rfl, hb7⟩
          have hs7 := hs5.trans (hb7.mono hs5.size)
          have hs0 : Below w.heap.size W6 w7 := hs7.mono (by omega)
          have T1 := T1.below hs7 (by omega)
          have T2 := T2.below hs7 (by omega)
          have hy0 := (KeptY.refl W6.heap.size (w.heap.size + 1) W6).below hs7
          clear hs7 hb7
          go_wp2_with fail
          refine hK.out _ _ (sincey hy0) ?_
          clear hK K
          repeat (first | (refine seq_skip (by rfl) (by rfl) ?_; simp only [Act.put, List.setIfInBounds_toArray, List.set_cons_succ, List.set_cons_zero]) | (refine seq_float (by rfl) (by rfl) (by rfl) ?_; intro K hK; go_big_quiet_op; go_big_quiet_on))
          obtain ⟨y0, y1, ya0, ya1, za0, za1⟩ := T1.cells
          refine seq_chain (by rfl) ?_
          intro K hK
          go_wp2_with fail
          obtain ⟨W8, hW8⟩ : ∃ W8, (w7.setCell ⟨w.heap.size + 1, 0, none⟩ (.int .u64 D1.1.toNat)).setCell ⟨w.heap.size + 1, 1, none⟩ (.int .u64 D1.2.toNat) = W8 := ⟨_, rfl⟩
          have hX : DBox W8 (w.heap.size + 1) D1 := by rw [← hW8]; exact T1.set D1
          have T2' : Two W8 (w.heap.size + 2) := by rw [← hW8]; exact (T2.other _ _ (by simp)).other _ _ (by simp)
          have hs8 := (hs0.setCell (p := ⟨w.heap.size + 1, 0, none⟩) (by show w.heap.size ≤ w.heap.size + 1; omega) (.int .u64 D1.1.toNat)).setCell (p := ⟨w.heap.size + 1, 1, none⟩) (by show w.heap.size ≤ w.heap.size + 1; omega) (.int .u64 D1.2.toNat)
          have hy8 := (hy0.setCell (p := ⟨w.heap.size + 1, 0, none⟩) (.inl rfl) (.int .u64 D1.1.toNat)).setCell (p := ⟨w.heap.size + 1, 1, none⟩) (.inl rfl) (.int .u64 D1.2.toNat)
          rw [hW8] at hs8 hy8 ⊢
          clear hW8 T1 T2 ya0 ya1 za0 za1 hs0 hy0
          refine hK.out _ _ (sincey hy8) ?_
          clear hK K
          repeat (first | (refine seq_skip (by rfl) (by rfl) ?_; simp only [Act.put, List.setIfInBounds_toArray, List.set_cons_succ, List.set_cons_zero]) | (refine seq_float (by rfl) (by rfl) (by rfl) ?_; intro K hK; go_big_quiet_op; go_big_quiet_on))
          obtain ⟨y0', y1', yb0, yb1, zb0, zb1⟩ := T2'.cells
          refine seq_chain (by rfl) ?_
          intro K hK
          go_wp2_with fail
          obtain ⟨W9, hW9⟩ : ∃ W9, (W8.setCell ⟨w.heap.size + 2, 0, none⟩ (.int .u64 D2.1.toNat)).setCell ⟨w.heap.size + 2, 1, none⟩ (.int .u64 D2.2.toNat) = W9 := ⟨_, rfl⟩
          have hX9 : DBox W9 (w.heap.size + 1) D1 := by rw [← hW9]; exact (hX.other _ _ (by simp)).other _ _ (by simp)
          have hY9 : DBox W9 (w.heap.size + 2) D2 := by rw [← hW9]; exact T2'.set D2
          have hs9 := (hs8.setCell (p := ⟨w.heap.size + 2, 0, none⟩) (by show w.heap.size ≤ w.heap.size + 2; omega) (.int .u64 D2.1.toNat)).setCell (p := ⟨w.heap.size + 2, 1, none⟩) (by show w.heap.size ≤ w.heap.size + 2; omega) (.int .u64 D2.2.toNat)
          have hy9 := (hy8.setCell (p := ⟨w.heap.size + 2, 0, none⟩) (.inr rfl) (.int .u64 D2.1.toNat)).setCell (p := ⟨w.heap.size + 2, 1, none⟩) (.inr rfl) (.int .u64 D2.2.toNat)
          rw [hW9] at hs9 hy9 ⊢
          clear hW9 T2' yb0 yb1 zb0 zb1 hX hs8 hy8
          refine hK.out _ _ (sincey hy9) ?_
          clear hK K
          repeat (first | (refine seq_skip (by rfl) (by rfl) ?_; simp only [Act.put, List.setIfInBounds_toArray, List.set_cons_succ, List.set_cons_zero]) | (refine seq_float (by rfl) (by rfl) (by rfl) ?_; intro K hK; go_big_quiet_op; go_big_quiet_on))
          refine seq_chain (by rfl) ?_
          intro K hK
          go_wp2_with fail
          refine hK.out _ _ (sincey hy9) ?_
          clear hK K
          repeat (first | (refine seq_skip (by rfl) (by rfl) ?_; simp only [Act.put, List.setIfInBounds_toArray, List.set_cons_succ, List.set_cons_zero]) | (refine seq_float (by rfl) (by rfl) (by rfl) ?_; intro K hK; go_big_quiet_op; go_big_quiet_on))
          refine seq_nil ?_
          obtain ⟨-, e0, e1⟩ := hX9
          obtain ⟨-, e2, e3⟩ := hY9
          go_wp2_with fail
          refine bodyPost_ret (v := rtv (D1, D2, R.2.2)) (res_roots Try.results20 _ _ (w.heap.size + 1) (w.heap.size + 2) _ _ _ rfl rfl rfl (by simpa using e0) (by simpa using e1) (by simpa using e2) (by simpa using e3)) rfl ⟨by rw [HV.out], ?_⟩
          exact hw6.trans hs9

end Go.Proofs.Ytbghpjedldhnhaa
