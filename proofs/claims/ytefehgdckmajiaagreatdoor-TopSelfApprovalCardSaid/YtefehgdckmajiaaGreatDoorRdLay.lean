/-
  What the reader of owners files has laid, and how each word changes it.
-/
import Derived.OneCell
import Derived.Laws.OwnMore
import Derived.RangeFuncBox
import Derived.Test.YtefehgdckmajiaaGreatDoorGrpL
namespace Go.Proofs.YtefehgdckmajiaaGreatDoor
open Go.RowKit

theorem rows_apart {w : World} {base base' : Nat} {e e' : TypeId} {size size' : Nat} {v v' : Value} {n n' : Nat} {xs xs' : List Value} (h : w.ownsRow base e size v n xs) (h' : w.ownsRow base' e' size' v' n' xs') (hne : e ≠ e') (k : Nat) (hk : v.ownBlock = some k) : v'.ownBlock ≠ some k := by
  rcases h'.2 with ⟨rfl, _⟩ | ⟨g', cap', cur', rfl, _, hg', _⟩
  · intro e2; cases e2
  · intro e2
    rcases h.2 with ⟨rfl, _⟩ | ⟨g, cap, cur, rfl, _, hg, _⟩
    · cases hk
    · obtain rfl : g = k := Option.some.inj hk
      obtain rfl : g' = g := Option.some.inj e2
      rw [hg] at hg'
      cases hg'
      exact hne rfl
/-- What slice values in blocks of c read as is kept. -/
def KeepS (c : Nat → Prop) (w w' : World) : Prop := ∀ (size n : Nat) (ao : Option Addr) (xs : List Value), (∀ a, ao = some a → c a.block) → Sl w size ao n xs → Sl w' size ao n xs
section
variable {c c' : Nat → Prop} {w w' : World}
theorem KeepC.s (h : KeepC c w w') : KeepS c w w' := fun _ _ _ _ hc hs =>
  ⟨hs.1, hs.2.imp id fun ⟨b, o, e, hlt, hx⟩ => ⟨b, o, e, Nat.lt_of_lt_of_le hlt h.size, fun j u hu => (World.cell?_of_block (w := w) (a := ⟨b, o + j, none⟩) (h.kept b hlt (hc _ e))).trans (hx j u hu)⟩⟩
theorem KeepS.grown {row : Option Nat} (h : w.grownBy w' row) (hr : ∀ r, row = some r → ∃ o : Obj, w.heap[r]? = some o ∧ o.isCells = false) : KeepS c w w' := fun size n ao xs _ hs => by
  refine ⟨hs.1, hs.2.imp id fun ⟨b, o, e, hlt, hx⟩ => ⟨b, o, e, Nat.lt_of_lt_of_le hlt h.size, fun j u hu => cell_kept (hx j u hu) h hr⟩⟩
theorem SlC.keepS {size : Nat} {v : SV} {xs : List Value} (h : SlC c w size v xs) (hk : KeepS c w w') : SlC c w' size v xs := ⟨hk _ _ _ _ h.cold h.sl, h.le, h.max, h.z, h.cold⟩
theorem GC.keepS {v : SV} {g : List ByteArray} (h : GC c w v g) (hk : KeepS c w w') : GC c w' v g := ⟨h.r.keepS hk, h.len, h.sz⟩
theorem GLs.keepS {vs : List SV} {gs : List (List ByteArray)} (h : GLs c w vs gs) (hk : KeepS c w w') : GLs c w' vs gs := ⟨h.1, fun i v g hv hg => (h.2 i v g hv hg).keepS hk⟩
theorem GS.keepS {v : SV} {gs : List (List ByteArray)} (h : GS c w v gs) (hk : KeepS c w w') : GS c w' v gs := ⟨let ⟨vs, p, q⟩ := h.r; ⟨vs, p.keepS hk, q.keepS hk⟩, h.len⟩
theorem RLs.keepS {ps : List PV} {l : List Rl} (h : RLs c w ps l) (hk : KeepS c w w') : RLs c w' ps l := ⟨h.1, fun i p r hp hr => let ⟨a, b, d⟩ := h.2 i p r hp hr; ⟨a, b, d.keepS hk⟩⟩
theorem RS.keepS {v : SV} {l : List Rl} (h : RS c w v l) (hk : KeepS c w w') : RS c w' v l := ⟨let ⟨vs, p, q⟩ := h.r; ⟨vs, p.keepS hk, q.keepS hk⟩, h.len⟩
theorem SlC.of_own {base : Nat} {e : TypeId} {size n : Nat} {v : SV} {xs : List Value} (h : w.ownsRow base e size (slv v) n xs) (hc : ∀ k, (slv v).ownBlock = some k → c k) : SlC c w size v xs ∧ v.2.1 = n := by
  obtain ⟨ao, cap, ev, h1, h2, h3⟩ := Sl.of_own h
  obtain ⟨a, m, q⟩ := v
  obtain ⟨rfl, rfl, rfl⟩ : a = ao ∧ m = n ∧ q = cap := by cases ev; exact ⟨rfl, rfl, rfl⟩
  refine ⟨⟨h3, h1, h2, fun e0 => ?_, fun a' e0 => hc _ ?_⟩, rfl⟩
  · rcases h.2 with ⟨e1, _⟩ | ⟨g, cap', cur, e1, _⟩
    · cases e1; rfl
    · have e0 : a = none := e0
      subst e0
      cases e1
  · have e0 : a = some a' := e0
    subst e0
    rfl
end
/-- Where nothing of the reader's open rows lies. -/
def coldR (base hi : Nat) (vr vg vp : SV) (k : Nat) : Prop := base ≤ k ∧ k < hi ∧ (slv vr).ownBlock ≠ some k ∧ (slv vg).ownBlock ≠ some k ∧ (slv vp).ownBlock ≠ some k
abbrev nv : SV := (none, 0, 0)
/-- What lies: the closed rules, the open one's prefix, its closed groups, the open group. -/
structure Lay (base : Nat) (l : List Rl) (op : List ByteArray) (gs og : List (List ByteArray)) (vr vg vp : SV) (ps : List PV) (vs : List SV) (w : World) : Prop where
  rows : w.ownsRow base 99 2 (slv vr) (l.length + op.length) (pcells (ps ++ op.map fun p => (p, vg)))
  grow : w.ownsRow base 36 1 (slv vg) (gs.length + og.length) ((vs ++ og.map fun _ => vp).map slv)
  prow : w.ownsRow base 9 1 (slv vp) og.flatten.length (svals og.flatten)
  cl : RLs (coldR base w.heap.size vr vg vp) w ps l
  gl : GLs (coldR base w.heap.size vr vg vp) w vs gs
  hb : base ≤ w.heap.size
  sz : ∀ p ∈ op, p.size ≤ maxLen
  gz : ∀ g ∈ og, ∀ s ∈ g, s.size ≤ maxLen
theorem Lay.new {base : Nat} {w : World} (hb : base ≤ w.heap.size) : Lay base [] [] [] [] nv nv nv [] [] w :=
  ⟨World.ownsRow_nil _ _ _ _, World.ownsRow_nil _ _ _ _, World.ownsRow_nil _ _ _ _, RLs.nil _ _, GLs.nil _ _, hb, (fun _ h => by cases h), (fun _ h => by cases h)⟩
section
variable {base : Nat} {l : List Rl} {op : List ByteArray} {gs og : List (List ByteArray)} {vr vg vp : SV} {ps : List PV} {vs : List SV} {w : World}
theorem own_ne_cells {e : TypeId} {size n : Nat} {v : Value} {xs : List Value} {row : Option Nat} (h : w.ownsRow base e size v n xs) (hr : ∀ r, row = some r → ∃ o : Obj, w.heap[r]? = some o ∧ o.isCells = false) : v.ownBlock = none ∨ v.ownBlock ≠ row := by
  rcases h.2 with ⟨rfl, _⟩ | ⟨g, cap, cur, rfl, _, hgb, _⟩
  · exact .inl rfl
  · refine .inr fun e' => ?_
    obtain ⟨o, ho, hw⟩ := hr g (by simpa [Value.ownBlock] using e'.symm)
    rw [hgb] at ho; cases ho; cases hw
/-- New blocks, and the turn of a block that is no cells. -/
theorem Lay.grown {w' : World} {row : Option Nat} (h : Lay base l op gs og vr vg vp ps vs w) (hg : w.grownBy w' row) (hr : ∀ r, row = some r → ∃ o : Obj, w.heap[r]? = some o ∧ o.isCells = false) : Lay base l op gs og vr vg vp ps vs w' := by
  have hk : KeepS (coldR base w.heap.size vr vg vp) w w' := KeepS.grown hg hr
  have hm : ∀ k, coldR base w.heap.size vr vg vp k → coldR base w'.heap.size vr vg vp k := fun k hc => ⟨hc.1, Nat.lt_of_lt_of_le hc.2.1 hg.size, hc.2.2⟩
  exact ⟨h.rows.kept hg (own_ne_cells h.rows hr), h.grow.kept hg (own_ne_cells h.grow hr), h.prow.kept hg (own_ne_cells h.prow hr), (h.cl.keepS hk).mono hm, (h.gl.keepS hk).mono hm, Nat.le_trans h.hb hg.size, h.sz, h.gz⟩
theorem Lay.below {w' : World} (h : Lay base l op gs og vr vg vp ps vs w) (hb : Below w.heap.size w w') : Lay base l op gs og vr vg vp ps vs w' :=
  h.grown (row := none) ⟨hb.os, hb.tape, hb.output, hb.size, fun k hk _ => hb.block k hk⟩ (fun r e => by cases e)
/-- A cell below the base. -/
theorem Lay.setCell (h : Lay base l op gs og vr vg vp ps vs w) {p : Addr} (hp : p.block < base) (v : Value) : Lay base l op gs og vr vg vp ps vs (w.setCell p v) := by
  have hs : (w.setCell p v).heap.size = w.heap.size := by show (w.heap.modify _ _).size = _; rw [Array.size_modify]
  have hk : KeepC (coldR base w.heap.size vr vg vp) w (w.setCell p v) := KeepC.setCell w p v (fun hc => by have := hc.1; omega)
  refine ⟨ownsRow_setCell_below h.rows hp v, ownsRow_setCell_below h.grow hp v, ownsRow_setCell_below h.prow hp v, ?_, ?_, by rw [hs]; exact h.hb, h.sz, h.gz⟩
  · rw [hs]; exact h.cl.keep hk
  · rw [hs]; exact h.gl.keep hk
/-- A rule is begun. -/
theorem Lay.begin {w' : World} {rb : Nat} {p : ByteArray} {vr' : SV} (h : Lay base l [] [] [] vr vg vp ps vs w) (hp : p.size ≤ maxLen) (hrb : rb < base)
    (own' : w'.ownsRow base 99 2 (slv vr') (l.length + 1) (pcells (ps ++ [(p, nv)]))) (hst : RowStep rb (slv vr) w w')
    (hat : (slv vr').ownBlock = (slv vr).ownBlock ∨ ∀ g, (slv vr').ownBlock = some g → w.heap.size ≤ g) : Lay base l [p] [] [] vr' nv nv ps [] w' := by
  have hk : KeepC (coldR base w.heap.size vr vg vp) w w' := ⟨hst.size, fun k hk hc => hst.kept k hk (by have := hc.1; omega) (fun e => hc.2.2.1 e.symm)⟩
  refine ⟨own', World.ownsRow_nil _ _ _ _, World.ownsRow_nil _ _ _ _, (h.cl.keep hk).mono fun k hc => ⟨hc.1, Nat.lt_of_lt_of_le hc.2.1 hst.size, fun e => ?_, (fun e => by cases e), (fun e => by cases e)⟩, GLs.nil _ _, Nat.le_trans h.hb hst.size, fun q hq => by simp only [List.mem_singleton] at hq; subst hq; exact hp, (fun _ h => by cases h)⟩
  rcases hat with h1 | h1
  · exact hc.2.2.1 (h1 ▸ e)
  · have := h1 k e
    have := hc.2.1
    omega
/-- A rule is closed. -/
theorem Lay.close {p : ByteArray} {g : List ByteArray} (h : Lay base l [p] gs [g] vr vg vp ps vs w) : Lay base (l ++ [(p, gs ++ [g])]) [] [] [] vr nv nv (ps ++ [(p, vg)]) [] w := by
  have hm : ∀ k, coldR base w.heap.size vr vg vp k → coldR base w.heap.size vr nv nv k := fun k hc => ⟨hc.1, hc.2.1, hc.2.2.1, (fun e => by cases e), (fun e => by cases e)⟩
  have hrg : ∀ k, (slv vg).ownBlock = some k → (slv vr).ownBlock ≠ some k := fun k e => rows_apart h.grow h.rows (by decide) k e
  have hrp : ∀ k, (slv vp).ownBlock = some k → (slv vr).ownBlock ≠ some k := fun k e => rows_apart h.prow h.rows (by decide) k e
  have cg : ∀ k, (slv vg).ownBlock = some k → coldR base w.heap.size vr nv nv k := fun k e => ⟨(h.grow.lt k e).1, (h.grow.lt k e).2, hrg k e, (fun e => by cases e), (fun e => by cases e)⟩
  have cp : ∀ k, (slv vp).ownBlock = some k → coldR base w.heap.size vr nv nv k := fun k e => ⟨(h.prow.lt k e).1, (h.prow.lt k e).2, hrp k e, (fun e => by cases e), (fun e => by cases e)⟩
  obtain ⟨sg, ng⟩ := SlC.of_own h.grow cg
  obtain ⟨sp, np⟩ := SlC.of_own h.prow cp
  have hgc : GC (coldR base w.heap.size vr nv nv) w vp g := ⟨by simpa using sp, by simpa using np.symm, h.gz g (by simp)⟩
  have hgl := (h.gl.mono hm).snoc hgc
  refine ⟨by simpa using h.rows, World.ownsRow_nil _ _ _ _, World.ownsRow_nil _ _ _ _, (h.cl.mono hm).snoc rfl (h.sz p (by simp)) ⟨⟨vs ++ [vp], sg, hgl⟩, by simpa using ng.symm⟩, GLs.nil _ _, h.hb, (fun _ h => by cases h), (fun _ h => by cases h)⟩
theorem pcells_set (ps : List PV) (p : ByteArray) (v v' : SV) : (pcells (ps ++ [(p, v)])).set (ps.length * 2 + 1) (slv v') = pcells (ps ++ [(p, v')]) := by
  rw [pcells_append, pcells_append, List.set_append_right _ _ (by rw [pcells_length]; omega), pcells_length, show ps.length * 2 + 1 - ps.length * 2 = 1 by omega]
  rfl
theorem slvs_set (vs : List SV) (v v' : SV) : ((vs ++ [v]).map slv).set vs.length (slv v') = (vs ++ [v']).map slv := by
  rw [List.map_append, List.map_append, List.set_append_right _ _ (by simp), List.length_map, Nat.sub_self]
  rfl
theorem set_size (w : World) (p : Addr) (v : Value) : (w.setCell p v).heap.size = w.heap.size := by show (w.heap.modify _ _).size = _; rw [Array.size_modify]
/-- A group is begun. -/
theorem Lay.group {w2 : World} {o : Obj} {p : ByteArray} {g cap : Nat} {vg' : SV} (h : Lay base l [p] gs og (some ⟨g, 0, none⟩, l.length + 1, cap) vg vp ps vs w) (ho : og.length ≤ 1)
    (own2 : w2.ownsRow base 36 1 (slv vg') (gs.length + og.length + 1) ((vs ++ og.map fun _ => vp).map slv ++ [slv nv]))
    (hg : (w.alloc o).grownBy w2 (slv vg).ownBlock) (hat : (slv vg').ownBlock = (slv vg).ownBlock ∨ (slv vg').ownBlock = some (w.alloc o).heap.size) :
    w2.cell? ⟨g, l.length * 2 + 1, none⟩ = some (slv vg) ∧ w2.frozen? ⟨g, l.length * 2 + 1, none⟩ = false ∧
    Lay base l [p] (gs ++ og) [[]] (some ⟨g, 0, none⟩, l.length + 1, cap) vg' nv ps (vs ++ og.map fun _ => vp) (w2.setCell ⟨g, l.length * 2 + 1, none⟩ (slv vg')) := by
  have hps : ps.length = l.length := h.cl.1
  have hz : w.heap.size + 1 ≤ w2.heap.size := by have := hg.size; simpa using this
  have rows : w.ownsRow base 99 2 (.slice (some ⟨g, 0, none⟩) (l.length + 1) cap) (l.length + 1) (pcells (ps ++ [(p, vg)])) := h.rows
  have hrg : (slv vg).ownBlock ≠ some g := rows_apart rows h.grow (by decide) g rfl
  have rows2 : w2.ownsRow base 99 2 (.slice (some ⟨g, 0, none⟩) (l.length + 1) cap) (l.length + 1) (pcells (ps ++ [(p, vg)])) := (rows.alloc o).kept hg (.inr fun e => hrg e.symm)
  have hrg2 : (slv vg').ownBlock ≠ some g := rows_apart rows2 own2 (by decide) g rfl
  have hpg : ∀ k, (slv vp).ownBlock = some k → (slv vg).ownBlock ≠ some k := fun k e => rows_apart h.prow h.grow (by decide) k e
  have hpr : ∀ k, (slv vp).ownBlock = some k → g ≠ k := fun k e e2 => rows_apart h.prow rows (by decide) k e (by show some g = some k; rw [e2])
  have hfresh : ∀ k, k < w.heap.size → (slv vg).ownBlock ≠ some k → (slv vg').ownBlock ≠ some k := fun k hk hn e => by
    rcases hat with h1 | h1
    · exact hn (h1 ▸ e)
    · rw [h1] at e
      have := Option.some.inj e
      simp at this
      omega
  have hk : KeepC (coldR base w.heap.size (some ⟨g, 0, none⟩, l.length + 1, cap) vg vp) w (w2.setCell ⟨g, l.length * 2 + 1, none⟩ (slv vg')) := by
    refine (KeepC.below ((Below.refl _ _).alloc (Nat.le_refl _) o)).trans ((KeepC.grown hg fun r e hc => hc.2.2.2.1 e).trans (KeepC.setCell _ _ _ fun hc => hc.2.2.1 rfl))
  have hm : ∀ k, coldR base w.heap.size (some ⟨g, 0, none⟩, l.length + 1, cap) vg vp k → coldR base w2.heap.size (some ⟨g, 0, none⟩, l.length + 1, cap) vg' nv k := fun k hc =>
    ⟨hc.1, by have := hc.2.1; omega, hc.2.2.1, hfresh k hc.2.1 hc.2.2.2.1, fun e => by cases e⟩
  refine ⟨?_, rows2.frozenAt _, ?_⟩
  · rw [rows2.cellAt _ (by omega), ← hps, pcells_append, List.getElem?_append_right (by rw [pcells_length]; omega), pcells_length, show ps.length * 2 + 1 - ps.length * 2 = 1 by omega]
    rfl
  have hst := (rows2.stored (l.length * 2 + 1) (slv vg')).1
  rw [← hps, pcells_set, hps] at hst
  refine ⟨hst, ?_, World.ownsRow_nil _ _ _ _, ?_, ?_, ?_, h.sz, fun g hg => ?_⟩
  · have e : ((vs ++ og.map fun _ => vp) ++ [[]].map fun (_ : List ByteArray) => nv).map slv = (vs ++ og.map fun _ => vp).map slv ++ [slv nv] := by simp
    rw [e, List.length_append]
    exact ownsRow_setCell_other own2 hrg2 _
  · rw [set_size]
    exact (h.cl.keep hk).mono hm
  · rw [set_size]
    match og, ho, h with
    | [], _, h =>
      simp only [List.map_nil, List.append_nil]
      exact (h.gl.keep hk).mono hm
    | [g1], _, h =>
      have cp : ∀ k, (slv vp).ownBlock = some k → coldR base w2.heap.size (some ⟨g, 0, none⟩, l.length + 1, cap) vg' nv k := fun k e => by
        have h1 := h.prow.lt k e
        refine ⟨h1.1, by omega, ?_, hfresh k h1.2 (hpg k e), fun e => by cases e⟩
        intro e2
        exact hpr k e (Option.some.inj e2)
      have hp2 : (w2.setCell ⟨g, l.length * 2 + 1, none⟩ (slv vg')).ownsRow base 9 1 (slv vp) g1.length (svals g1) := by
        have h1 : w.ownsRow base 9 1 (slv vp) g1.length (svals g1) := by simpa using h.prow
        refine ownsRow_setCell_other ((h1.alloc o).kept hg ?_) (fun e => hpr g e rfl) _
        cases hvp : (slv vp).ownBlock with
        | none => exact .inl rfl
        | some k => exact .inr fun e => hpg k hvp e.symm
      obtain ⟨sp, np⟩ := SlC.of_own hp2 cp
      exact ((h.gl.keep hk).mono hm).snoc ⟨sp, np.symm, h.gz g1 (by simp)⟩
  · rw [set_size]
    have := h.hb
    omega
  · simp only [List.mem_singleton] at hg
    subst hg
    intro s hs
    cases hs
/-- A person more. -/
theorem Lay.person {w2 : World} {o : Obj} {p x : ByteArray} {g : List ByteArray} {b cap : Nat} {vp' : SV} (h : Lay base l [p] gs [g] vr (some ⟨b, 0, none⟩, gs.length + 1, cap) vp ps vs w) (hx : x.size ≤ maxLen)
    (own2 : w2.ownsRow base 9 1 (slv vp') (g.length + 1) (svals g ++ [.string x]))
    (hg : (w.alloc o).grownBy w2 (slv vp).ownBlock) (hat : (slv vp').ownBlock = (slv vp).ownBlock ∨ (slv vp').ownBlock = some (w.alloc o).heap.size) :
    w2.cell? ⟨b, gs.length, none⟩ = some (slv vp) ∧ w2.frozen? ⟨b, gs.length, none⟩ = false ∧
    Lay base l [p] gs [g ++ [x]] vr (some ⟨b, 0, none⟩, gs.length + 1, cap) vp' ps vs (w2.setCell ⟨b, gs.length, none⟩ (slv vp')) := by
  have hvs : vs.length = gs.length := h.gl.1
  have hz : w.heap.size + 1 ≤ w2.heap.size := by have := hg.size; simpa using this
  have grow : w.ownsRow base 36 1 (.slice (some ⟨b, 0, none⟩) (gs.length + 1) cap) (gs.length + 1) ((vs ++ [vp]).map slv) := h.grow
  have hgp : (slv vp).ownBlock ≠ some b := rows_apart grow h.prow (by decide) b rfl
  have hrp : ∀ k, (slv vr).ownBlock = some k → (slv vp).ownBlock ≠ some k := fun k e => rows_apart h.rows h.prow (by decide) k e
  have hrg : (slv vr).ownBlock ≠ some b := rows_apart grow h.rows (by decide) b rfl
  have grow2 : w2.ownsRow base 36 1 (.slice (some ⟨b, 0, none⟩) (gs.length + 1) cap) (gs.length + 1) ((vs ++ [vp]).map slv) := (grow.alloc o).kept hg (.inr fun e => hgp e.symm)
  have hgp2 : (slv vp').ownBlock ≠ some b := rows_apart grow2 own2 (by decide) b rfl
  have hfresh : ∀ k, k < w.heap.size → (slv vp).ownBlock ≠ some k → (slv vp').ownBlock ≠ some k := fun k hk hn e => by
    rcases hat with h1 | h1
    · exact hn (h1 ▸ e)
    · rw [h1] at e
      have := Option.some.inj e
      simp at this
      omega
  have hk : KeepC (coldR base w.heap.size vr (some ⟨b, 0, none⟩, gs.length + 1, cap) vp) w (w2.setCell ⟨b, gs.length, none⟩ (slv vp')) := by
    refine (KeepC.below ((Below.refl _ _).alloc (Nat.le_refl _) o)).trans ((KeepC.grown hg fun r e hc => hc.2.2.2.2 e).trans (KeepC.setCell _ _ _ fun hc => hc.2.2.2.1 rfl))
  have hm : ∀ k, coldR base w.heap.size vr (some ⟨b, 0, none⟩, gs.length + 1, cap) vp k → coldR base w2.heap.size vr (some ⟨b, 0, none⟩, gs.length + 1, cap) vp' k := fun k hc =>
    ⟨hc.1, by have := hc.2.1; omega, hc.2.2.1, hc.2.2.2.1, hfresh k hc.2.1 hc.2.2.2.2⟩
  refine ⟨?_, grow2.frozenAt _, ?_⟩
  · rw [grow2.cellAt _ (by omega), ← hvs]
    simp
  have hst := (grow2.stored gs.length (slv vp')).1
  rw [← hvs, slvs_set, hvs] at hst
  refine ⟨?_, hst, ?_, ?_, ?_, ?_, h.sz, fun g2 hg2 => ?_⟩
  · refine ownsRow_setCell_other ((h.rows.alloc o).kept hg ?_) hrg _
    cases hvr : (slv vr).ownBlock with
    | none => exact .inl rfl
    | some k => exact .inr fun e => hrp k hvr e.symm
  · have := ownsRow_setCell_other own2 hgp2 (a := ⟨b, gs.length, none⟩) (slv vp')
    simpa [svals] using this
  · rw [set_size]
    exact (h.cl.keep hk).mono hm
  · rw [set_size]
    exact (h.gl.keep hk).mono hm
  · rw [set_size]
    have := h.hb
    omega
  · simp only [List.mem_singleton] at hg2
    subst hg2
    intro s hs
    rcases List.mem_append.1 hs with hs | hs
    · exact h.gz g (by simp) s hs
    · simp only [List.mem_singleton] at hs
      subst hs
      exact hx
end
end Go.Proofs.YtefehgdckmajiaaGreatDoor
