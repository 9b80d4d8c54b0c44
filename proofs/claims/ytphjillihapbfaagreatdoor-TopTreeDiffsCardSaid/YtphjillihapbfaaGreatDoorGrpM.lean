/-
  TreeW HMap PoolFind.
-/
import Derived.Test.YtphjillihapbfaaGreatDoorGrpL
import Derived.Test.YtphjillihapbfaaGreatDoorGrpK
import Derived.Sort.KeysCollected
import Derived.Test.YtphjillihapbfaaGreatDoorGrpD
import Derived.Test.YtphjillihapbfaaGreatDoorGrpF
namespace Go.Proofs.YtphjillihapbfaaGreatDoor
open Go.RowKit

def wt (l : List Fl) : Nat := (l.map fun f => f.1.size + 2).sum
theorem wt_append (l m : List Fl) : wt (l ++ m) = wt l + wt m := by simp [wt]
theorem wt_perm {l m : List Fl} (h : l.Perm m) : wt l = wt m := by
  unfold wt
  induction h with
  | nil => rfl
  | cons x _ ih => simp [ih]
  | swap x y l => simp; omega
  | trans _ _ i1 i2 => exact i1.trans i2
def grp (l : List Fl) (n : ByteArray) : List Fl := l.filter fun f => decide (firstB f.1 = n)
theorem wt_flat (l : List Fl) (ns : List ByteArray) : wt (ns.flatMap (grp l)) = (ns.map fun n => wt (grp l n)).sum := by
  induction ns with
  | nil => rfl
  | cons n ns ih => rw [List.flatMap_cons, wt_append, ih]; simp
theorem wt_sub {l : List Fl} {n : ByteArray} (hf : fileP n l = none) : wt (subP n l) + (subP n l).length ≤ wt (grp l n) := by
  unfold grp
  rw [group_dir hf]
  unfold wt
  rw [List.map_map]
  generalize subP n l = m
  induction m with
  | nil => simp
  | cons a m ih =>
    simp only [List.map_cons, List.sum_cons, List.length_cons, Function.comp]
    have : (addP (n.data.toList ++ [47]) a).1.size = n.size + 1 + a.1.size := by
      unfold addP
      rw [bstr_size, List.length_append, List.length_append, size_list, size_list]
      simp
    omega
theorem insP_len {l m : List It} {d : Dg} {s : ByteArray} (h : insP l d s = some m) : m.length ≤ l.length + 1 := by
  unfold insP at h
  split at h
  · split at h
    · cases h; omega
    · cases h
  · cases h
    rw [List.length_append, List.length_cons, List.length_take, List.length_drop]
    omega
theorem putP_len {p q : List It} {d : Dg} {o : Ob} (h : putP p o = some (q, d)) : q.length ≤ p.length + 1 := by
  unfold putP at h
  split at h
  · rw [Option.map_eq_some_iff] at h
    obtain ⟨q', hq, e⟩ := h
    obtain ⟨rfl, rfl⟩ := Prod.mk.inj e
    exact insP_len hq
  · cases h
/-- One name. -/
def stepP (st : List It → List Fl → Option (List It × Dg)) (l : List Fl) (p : List It) (n : ByteArray) : Option (List It × Ent) :=
  match fileP n l with
  | some data => (putP p (obB data)).map fun x => (x.1, (n, false, x.2))
  | none => (st p (subP n l)).map fun x => (x.1, (n, true, x.2))
theorem goP_cons (st : List It → List Fl → Option (List It × Dg)) (l : List Fl) (p : List It) (n : ByteArray) (ns : List ByteArray) :
    goP st l p (n :: ns) = (stepP st l p n).bind fun x => (goP st l x.1 ns).map fun y => (y.1, x.2 :: y.2) := by
  conv => lhs; unfold goP
  unfold stepP
  cases fileP n l with
  | some data =>
    simp only
    cases putP p (obB data) with
    | none => rfl
    | some x => rfl
  | none =>
    simp only
    cases st p (subP n l) with
    | none => rfl
    | some x => rfl
theorem goP_snoc {st : List It → List Fl → Option (List It × Dg)} {l : List Fl} : ∀ {ns : List ByteArray} {p q : List It} {es : List Ent} {n : ByteArray} {q' : List It} {x : Ent}, goP st l p ns = some (q, es) → stepP st l q n = some (q', x) → goP st l p (ns ++ [n]) = some (q', es ++ [x])
  | [], p, q, es, n, q', x, h, hs => by
    unfold goP at h
    obtain ⟨rfl, rfl⟩ := Prod.mk.inj (Option.some.inj h)
    rw [List.nil_append, goP_cons, hs, Option.bind_some]
    rfl
  | m :: ns, p, q, es, n, q', x, h, hs => by
    rw [goP_cons, Option.bind_eq_some_iff] at h
    obtain ⟨y, hy, h⟩ := h
    rw [Option.map_eq_some_iff] at h
    obtain ⟨z, hz, e⟩ := h
    obtain ⟨rfl, rfl⟩ := Prod.mk.inj e
    rw [List.cons_append, goP_cons, hy, Option.bind_some, goP_snoc hz hs]
    rfl
theorem goP_fail {st : List It → List Fl → Option (List It × Dg)} {l : List Fl} : ∀ {ns : List ByteArray} {p q : List It} {es : List Ent} {n : ByteArray} {rest : List ByteArray}, goP st l p ns = some (q, es) → stepP st l q n = none → goP st l p (ns ++ n :: rest) = none
  | [], p, q, es, n, rest, h, hs => by
    unfold goP at h
    obtain ⟨rfl, rfl⟩ := Prod.mk.inj (Option.some.inj h)
    rw [List.nil_append, goP_cons, hs]
    rfl
  | m :: ns, p, q, es, n, rest, h, hs => by
    rw [goP_cons, Option.bind_eq_some_iff] at h
    obtain ⟨y, hy, h⟩ := h
    rw [Option.map_eq_some_iff] at h
    obtain ⟨z, hz, e⟩ := h
    have e1 : z.1 = q := congrArg Prod.fst e
    rw [List.cons_append, goP_cons, hy, Option.bind_some, goP_fail (q := q) (es := z.2) (by rw [hz, ← e1]) hs]
    rfl
theorem fail_file {st : List It → List Fl → Option (List It × Dg)} {l : List Fl} {p : List It} {n data : ByteArray} (hf : fileP n l = some data) (h : putP p (obB data) = none) : stepP st l p n = none := by
  unfold stepP
  rw [hf]
  simp only
  rw [h]
  rfl
theorem fail_dir {st : List It → List Fl → Option (List It × Dg)} {l : List Fl} {p : List It} {n : ByteArray} (hf : fileP n l = none) (h : st p (subP n l) = none) : stepP st l p n = none := by
  unfold stepP
  rw [hf]
  simp only
  rw [h]
  rfl
theorem store_fail {k : Nat} {p q : List It} {l : List Fl} {es : List Ent} {i : Nat} {n : ByteArray} (hi : i < (namesP l).length) (hn : (namesP l)[i] = n) (h : goP (storeP k) l p ((namesP l).take i) = some (q, es)) (hs : stepP (storeP k) l q n = none) : storeP (k + 1) p l = none := by
  have e : namesP l = (namesP l).take i ++ n :: (namesP l).drop (i + 1) := by
    rw [← hn, List.getElem_cons_drop, List.take_append_drop]
  unfold storeP
  rw [e, goP_fail h hs]
  rfl
theorem step_file {st : List It → List Fl → Option (List It × Dg)} {l : List Fl} {p q : List It} {n data : ByteArray} {d : Dg} (hf : fileP n l = some data) (h : putP p (obB data) = some (q, d)) : stepP st l p n = some (q, (n, false, d)) := by
  unfold stepP
  rw [hf]
  simp only
  rw [h]
  rfl
theorem step_dir {st : List It → List Fl → Option (List It × Dg)} {l : List Fl} {p q : List It} {n : ByteArray} {d : Dg} (hf : fileP n l = none) (h : st p (subP n l) = some (q, d)) : stepP st l p n = some (q, (n, true, d)) := by
  unfold stepP
  rw [hf]
  simp only
  rw [h]
  rfl
theorem goP_len {st : List It → List Fl → Option (List It × Dg)} {l : List Fl} (hl : NF l) (hst : ∀ p l q d, NF l → st p l = some (q, d) → q.length ≤ p.length + wt l + 1) :
    ∀ {ns : List ByteArray} {p q : List It} {es : List Ent}, (∀ n ∈ ns, ∃ f ∈ l, firstB f.1 = n) → goP st l p ns = some (q, es) → q.length ≤ p.length + wt (ns.flatMap (grp l)) ∧ es.length = ns.length
  | [], p, q, es, _, h => by
    unfold goP at h
    obtain ⟨rfl, rfl⟩ := Prod.mk.inj (Option.some.inj h)
    exact ⟨by omega, rfl⟩
  | n :: ns, p, q, es, hn, h => by
    rw [goP_cons, Option.bind_eq_some_iff] at h
    obtain ⟨y, hy, h⟩ := h
    rw [Option.map_eq_some_iff] at h
    obtain ⟨z, hz, e⟩ := h
    obtain ⟨rfl, rfl⟩ := Prod.mk.inj e
    obtain ⟨i1, i2⟩ := goP_len hl hst (fun m hm => hn m (List.mem_cons_of_mem _ hm)) hz
    refine ⟨?_, by simp [i2]⟩
    rw [List.flatMap_cons, wt_append]
    have : y.1.length ≤ p.length + wt (grp l n) := by
      unfold stepP at hy
      cases hf : fileP n l with
      | some data =>
        rw [hf] at hy
        simp only at hy
        rw [Option.map_eq_some_iff] at hy
        obtain ⟨⟨q1, d⟩, h1, rfl⟩ := hy
        have := putP_len h1
        unfold grp
        rw [group_file hl hf]
        show q1.length ≤ p.length + wt [(n, data)]
        unfold wt
        simp only [List.map_cons, List.map_nil, List.sum_cons, List.sum_nil]
        omega
      | none =>
        rw [hf] at hy
        simp only at hy
        rw [Option.map_eq_some_iff] at hy
        obtain ⟨⟨q1, d⟩, h1, rfl⟩ := hy
        have h2 := hst p (subP n l) q1 d (hl.sub n) h1
        have h3 := wt_sub hf
        have hne : 0 < (subP n l).length := by
          rcases Nat.eq_zero_or_pos (subP n l).length with h0 | h0
          · have hgd := group_dir (l := l) hf
            rw [List.eq_nil_of_length_eq_zero h0, List.map_nil] at hgd
            obtain ⟨f, hm, hff⟩ := hn n (List.mem_cons_self ..)
            have : f ∈ l.filter fun f => decide (firstB f.1 = n) := List.mem_filter.2 ⟨hm, by simpa using hff⟩
            rw [hgd] at this
            cases this
          · exact h0
        show q1.length ≤ _
        omega
    omega
theorem goP_names {st : List It → List Fl → Option (List It × Dg)} {l : List Fl} : ∀ {ns : List ByteArray} {p q : List It} {es : List Ent}, goP st l p ns = some (q, es) → es.map (fun e => e.1) = ns
  | [], p, q, es, h => by
    unfold goP at h
    obtain ⟨rfl, rfl⟩ := Prod.mk.inj (Option.some.inj h)
    rfl
  | n :: ns, p, q, es, h => by
    rw [goP_cons, Option.bind_eq_some_iff] at h
    obtain ⟨y, hy, h⟩ := h
    rw [Option.map_eq_some_iff] at h
    obtain ⟨z, hz, e⟩ := h
    obtain ⟨rfl, rfl⟩ := Prod.mk.inj e
    rw [List.map_cons, goP_names hz]
    congr 1
    unfold stepP at hy
    split at hy
    · rw [Option.map_eq_some_iff] at hy
      obtain ⟨x, _, rfl⟩ := hy
      rfl
    · rw [Option.map_eq_some_iff] at hy
      obtain ⟨x, _, rfl⟩ := hy
      rfl
theorem wt_prefix {l : List Fl} (j : Nat) : wt (((namesP l).take j).flatMap (grp l)) ≤ wt l := by
  have h := wt_perm (group_perm (fun f : Fl => firstB f.1) (namesP l) l (asc_namesP l).nodup (fun x hx => mem_namesP.2 ⟨x, hx, rfl⟩))
  have e : wt l = wt ((namesP l).flatMap (grp l)) := h
  rw [e]
  conv => rhs; rw [← List.take_append_drop j (namesP l), List.flatMap_append, wt_append]
  omega
theorem storeP_len : ∀ {k : Nat} {p : List It} {l : List Fl} {q : List It} {d : Dg}, NF l → storeP k p l = some (q, d) → q.length ≤ p.length + wt l + 1
  | 0, _, _, _, _, _, h => by cases h
  | k + 1, p, l, q, d, hl, h => by
    unfold storeP at h
    rw [Option.bind_eq_some_iff] at h
    obtain ⟨⟨q', es⟩, h1, h2⟩ := h
    obtain ⟨i1, _⟩ := goP_len hl (fun p l q d a b => storeP_len a b) (fun n hn => mem_namesP.1 hn) h1
    have i2 := putP_len h2
    have i3 := wt_prefix (l := l) (namesP l).length
    rw [List.take_length] at i3
    simp only at i2
    omega
/-- What a prefix of the names does. -/
theorem go_prefix {k j : Nat} {p q : List It} {l : List Fl} {es : List Ent} (hp : GoodP p) (hl : NF l) (hz : ∀ f ∈ l, f.2.size ≤ 200) (h : goP (storeP k) l p ((namesP l).take j) = some (q, es)) : GoodP q ∧ q.length ≤ p.length + wt l ∧ es.length ≤ j := by
  have hm : ∀ n ∈ (namesP l).take j, ∃ f ∈ l, firstB f.1 = n := fun n hn => mem_namesP.1 (List.mem_of_mem_take hn)
  obtain ⟨g1, _, _, _⟩ := goP_load (k := k) (fun p l q d a b c e => store_load a b c e) hl hz hp hm h
  obtain ⟨i1, i2⟩ := goP_len hl (fun p l q d a b => storeP_len a b) hm h
  have i3 := wt_prefix (l := l) j
  refine ⟨g1, by omega, by rw [i2, List.length_take]; omega⟩
theorem go_room {k i : Nat} {p q : List It} {l : List Fl} {es : List Ent} (hl : NF l) (h : goP (storeP k) l p ((namesP l).take i) = some (q, es)) (hi : i < (namesP l).length) (hf : fileP (namesP l)[i] l = none) : q.length + wt (subP (namesP l)[i] l) ≤ p.length + wt l := by
  have hm : ∀ n ∈ (namesP l).take i, ∃ f ∈ l, firstB f.1 = n := fun n hn => mem_namesP.1 (List.mem_of_mem_take hn)
  obtain ⟨i1, _⟩ := goP_len hl (fun p l q d a b => storeP_len a b) hm h
  have i2 := wt_sub hf
  have i3 := wt_prefix (l := l) (i + 1)
  rw [List.take_succ_eq_append_getElem hi, List.flatMap_append, wt_append] at i3
  have e : [(namesP l)[i]].flatMap (grp l) = grp l (namesP l)[i] := by simp
  rw [e] at i3
  omega
theorem namesP_len (l : List Fl) : (namesP l).length ≤ l.length := by
  have hs : ∀ (s : ByteArray) (m : List ByteArray), (insN s m).length ≤ m.length + 1 := by
    intro s m
    induction m with
    | nil => simp [insN]
    | cons a m ih =>
      unfold insN
      split
      · omega
      · split
        · simp
        · simp only [List.length_cons]; omega
  induction l with
  | nil => simp [namesP]
  | cons a l ih =>
    have := hs (firstB a.1) (namesP l)
    show (insN (firstB a.1) (namesP l)).length ≤ _
    simp only [List.length_cons]
    omega
/-- Names are names of files, or of directories. -/
theorem names_or {l : List Fl} (n : ByteArray) : n ∈ namesP l ↔ (fileP n l).isSome = true ∨ subP n l ≠ [] := by
  rw [mem_namesP]
  constructor
  · rintro ⟨f, hf, he⟩
    cases hr : restB f.1 with
    | none =>
      left
      have := first_none hr
      unfold fileP
      rw [Option.isSome_map, List.find?_isSome]
      exact ⟨f, hf, by unfold isFile; rw [hr, ← this, he]; simp⟩
    | some r =>
      right
      intro e
      have : (r, f.2) ∈ subP n l := List.mem_filterMap.2 ⟨f, hf, by simp [he, hr]⟩
      rw [e] at this
      cases this
  · rintro (h | h)
    · obtain ⟨d, hd⟩ := Option.isSome_iff_exists.1 h
      have := find_mem hd
      unfold fileP at hd
      rw [Option.map_eq_some_iff] at hd
      obtain ⟨f, hf, _⟩ := hd
      have hp := List.find?_some hf
      unfold isFile at hp
      rw [Bool.and_eq_true, decide_eq_true_eq, decide_eq_true_eq] at hp
      exact ⟨f, List.mem_of_find?_eq_some hf, by rw [first_none hp.2, hp.1]⟩
    · obtain ⟨g, hg⟩ := List.exists_mem_of_ne_nil _ h
      obtain ⟨f, hf, e⟩ := List.mem_filterMap.1 hg
      exact ⟨f, hf, (sub_some e).1⟩
theorem file_not_dir {l : List Fl} (hl : NF l) {n data : ByteArray} (hf : fileP n l = some data) : subP n l = [] := by
  cases hs : subP n l with
  | nil => rfl
  | cons g r =>
    have hg : g ∈ subP n l := by rw [hs]; exact List.mem_cons_self ..
    obtain ⟨f, hm, _, e⟩ := sub_mem hg
    exact absurd e (hl.nest _ (find_mem hf) f hm _)
theorem asc_unique_s {l m : List ByteArray} (hl : AscS l) (hm : AscS m) (h : ∀ x, x ∈ l ↔ x ∈ m) : l = m := asc_unique (r := ltB) ltB_irrefl ltB_trans hl hm h
theorem names_eq {l : List Fl} {L : List ByteArray} (hL : AscS L) (hm : ∀ n, n ∈ L ↔ (fileP n l).isSome = true ∨ subP n l ≠ []) : L = namesP l :=
  asc_unique_s hL (asc_namesP l) fun n => by rw [hm n, names_or]
end Go.Proofs.YtphjillihapbfaaGreatDoor

namespace Go.Proofs.YtphjillihapbfaaGreatDoor
open Go.RowKit

/-- An element as it is. -/
def heldR (v : Value) : Option (DataW Value × List MemPlace) := some (.held v, [])
abbrev MF := ByteArray → Option Value
def putF (f : MF) (x : ByteArray) (v : Value) : MF := fun y => if y = x then some v else f y
def delF (f : MF) (x : ByteArray) : MF := fun y => if y = x then none else f y
/-- What a datum says. -/
structure MD (D : DataW Value) (f : MF) : Prop where
  map : Maps.IsMap D
  has : ∀ x, Maps.has D (keyS x) = (f x).isSome
  at_ : ∀ x v, f x = some v → ∀ z, D.atKey (keyS x) z = .held v
theorem MD.new : MD (.map []) (fun _ => none) := ⟨Maps.isMap_empty, fun _ => rfl, fun _ _ h => by cases h⟩
theorem MD.put {D : DataW Value} {f : MF} (h : MD D f) (x : ByteArray) (v : Value) : MD (D.put (keyS x) (.held v)) (putF f x v) := by
  refine ⟨h.map.put _ _, fun y => ?_, fun y u hy z => ?_⟩
  · unfold putF
    by_cases e : y = x
    · subst e
      rw [if_pos rfl, Maps.has_put_same h.map (keyS_key _)]
      rfl
    · rw [if_neg e, Maps.has_put_other (fun h => e (keyS_inj h)), h.has y]
  · unfold putF at hy
    by_cases e : y = x
    · subst e
      rw [if_pos rfl] at hy
      cases hy
      exact Maps.atKey_put_same h.map (keyS_key _) _ _
    · rw [if_neg e] at hy
      rw [Maps.atKey_put_other (fun h => e (keyS_inj h)), h.at_ y u hy]
theorem MD.del {D : DataW Value} {f : MF} (h : MD D f) (x : ByteArray) : MD (D.del (keyS x)) (delF f x) := by
  refine ⟨h.map.del _, fun y => ?_, fun y u hy z => ?_⟩
  · unfold delF
    by_cases e : y = x
    · subst e
      rw [if_pos rfl, Maps.has_del_same]
      rfl
    · rw [if_neg e, Maps.has_del_other (fun h => e (keyS_inj h)), h.has y]
  · unfold delF at hy
    by_cases e : y = x
    · subst e
      rw [if_pos rfl] at hy
      cases hy
    · rw [if_neg e] at hy
      rw [Maps.atKey_del_other (fun h => e (keyS_inj h)), h.at_ y u hy]
/-- Block b is a map that is f. -/
def HM (w : World) (b n : Nat) (f : MF) : Prop := ∃ D : DataW Value, MD D f ∧ w.ownsMap Tryz.prog 9 heldR b n D
theorem HM.new {w : World} {b n : Nat} (h : w.ownsMap Tryz.prog 9 heldR b n (.map [] : DataW Value)) : HM w b n (fun _ => none) := ⟨_, MD.new, h⟩
theorem HM.below {w w' : World} {b n : Nat} {f : MF} (h : HM w b n f) (hb : Below w.heap.size w w') : HM w' b n f := by
  obtain ⟨D, h1, h2⟩ := h
  exact ⟨D, h1, World.ownsMap.kept (row := none) h2 ⟨hb.os, hb.tape, hb.output, hb.size, fun k hk _ => hb.block k hk⟩ (by simp)⟩
theorem HM.grown {w w' : World} {b n : Nat} {f : MF} {row : Option Nat} (h : HM w b n f) (hg : w.grownBy w' row) (hr : some b ≠ row) : HM w' b n f := by
  obtain ⟨D, h1, h2⟩ := h
  exact ⟨D, h1, World.ownsMap.kept h2 hg hr⟩
theorem HM.lt {w : World} {b n : Nat} {f : MF} (h : HM w b n f) : b < w.heap.size := by
  obtain ⟨D, h1, h2⟩ := h
  exact h2.lt
theorem HM.mapped {w : World} {b n : Nat} {f : MF} (h : HM w b n f) : ∃ o : Obj, w.heap[b]? = some o ∧ o.isCells = false := by
  obtain ⟨D, _, ⟨es, clock, hb, _⟩⟩ := h
  exact ⟨_, hb, rfl⟩
theorem HM.more {w : World} {b n m : Nat} {f : MF} (h : HM w b n f) (hm : n ≤ m) : HM w b m f := by
  obtain ⟨D, h1, ⟨es, clock, h2, h3, h4, h5⟩⟩ := h
  exact ⟨D, h1, ⟨es, clock, h2, h3, Nat.le_trans h4 hm, h5⟩⟩
theorem HM.congr {w : World} {b n : Nat} {f g : MF} (h : HM w b n f) (e : ∀ x, f x = g x) : HM w b n g := by
  rw [← (funext e : f = g)]
  exact h
/-- 'm[k]'. -/
theorem HM.look {w : World} {b n : Nat} {f : MF} (h : HM w b n f) {t e : TypeId} (ht : Tryz.prog.underlying t = some (.map 9 e)) {z : Value} (hz : (zeroValue e).run Tryz.prog w = .ok z w) (x : ByteArray) (hx : x.size ≤ maxLen) :
    (Instr.lookup t (.map (some b)) (.string x) false).run Tryz.prog w = .ok ((f x).getD z) w := by
  obtain ⟨D, h1, h2⟩ := h
  obtain ⟨v, ps, hrun, hv⟩ := World.ownsMap.lookup h2 kstr ht hz (zd := .held z) (zp := []) rfl (key_of hx)
  rw [hrun]
  have : v = (f x).getD z := by
    unfold heldR at hv
    simp only [Option.some.injEq, Prod.mk.injEq] at hv
    cases hf : f x with
    | none =>
      have hh := h1.has x
      rw [hf] at hh
      rw [Maps.atKey_of_not_has hh] at hv
      simpa using hv.1
    | some u =>
      rw [h1.at_ x u hf] at hv
      simpa using hv.1
  rw [this]
/-- 'v, ok := m[k]'. -/
theorem HM.look_ok {w : World} {b n : Nat} {f : MF} (h : HM w b n f) {t e : TypeId} (ht : Tryz.prog.underlying t = some (.map 9 e)) {z : Value} (hz : (zeroValue e).run Tryz.prog w = .ok z w) (x : ByteArray) (hx : x.size ≤ maxLen) :
    (Instr.lookup t (.map (some b)) (.string x) true).run Tryz.prog w = .ok (.tuple #[(f x).getD z, .bool (f x).isSome]) w := by
  obtain ⟨D, h1, h2⟩ := h
  obtain ⟨v, ps, hrun, hv⟩ := World.ownsMap.look_ok h2 kstr ht hz (zd := .held z) (zp := []) rfl (key_of hx)
  rw [hrun, h1.has x]
  have : v = (f x).getD z := by
    unfold heldR at hv
    simp only [Option.some.injEq, Prod.mk.injEq] at hv
    cases hf : f x with
    | none =>
      have hh := h1.has x
      rw [hf] at hh
      rw [Maps.atKey_of_not_has hh] at hv
      simpa using hv.1
    | some u =>
      rw [h1.at_ x u hf] at hv
      simpa using hv.1
  rw [this]
section
variable (w : World) {ops : Array Oper} {rest : List Oper} {o : Oper} {a : Act} {Q : Exit → Act → World → Prop}
/-- 'm[k] = v'. -/
theorem wpList_hm_put (hg : o.guard = none) (m x v : Operand) (t e : TypeId) (hop : o.op = Op.mapUpdate t m x v) (ht : Tryz.prog.underlying t = some (.map 9 e)) (b n : Nat) (f : MF)
    (hm : a.eval m = .map (some b)) (h : HM w b n f) (hn : n < maxLen) (s : ByteArray) (val : Value) (hx : a.eval x = .string s) (hv : a.eval v = val) (hs : s.size ≤ maxLen)
    (hK : ∀ w', HM w' b (n + 1) (putF f s val) → w.grownBy w' (some b) → wpList Tryz.prog ops Q rest (a.put o.dst undef) w') :
    wpList Tryz.prog ops Q (o :: rest) a w := by
  obtain ⟨D, h1, h2⟩ := h
  exact wpList_mapUpdate_own w hg m x v t hop 9 e kstr ht heldR b n D hm h2 hn _ val (keyS s) hx hv (key_of hs) (.held val) [] rfl fun w' h3 h4 => hK w' ⟨_, h1.put s val, h3⟩ h4
/-- 'delete(m, k)'. -/
theorem wpList_hm_del (hg : o.guard = none) (m x : Operand) (t e : TypeId) (hop : o.op = Op.call { callee := Callee.builtin Builtin.delete, args := #[m, x], argTypes := #[t, 9] }) (ht : Tryz.prog.underlying t = some (.map 9 e)) (b n : Nat) (f : MF)
    (hm : a.eval m = .map (some b)) (h : HM w b n f) (s : ByteArray) (hx : a.eval x = .string s) (hs : s.size ≤ maxLen)
    (hK : ∀ w', HM w' b n (delF f s) → w.grownBy w' (some b) → wpList Tryz.prog ops Q rest (a.put o.dst (.tuple #[])) w') :
    wpList Tryz.prog ops Q (o :: rest) a w := by
  obtain ⟨D, h1, h2⟩ := h
  exact wpList_delete_own w hg m x t 9 hop e kstr ht heldR b n D hm h2 _ (keyS s) hx (key_of hs) fun w' h3 h4 => hK w' ⟨_, h1.del s, h3⟩ h4.grown
end

/-- The keys, in ascending order. -/
theorem bytes_le {x y : List UInt8} : x ≤ y ↔ Op.bytesLess y x = false := by
  have key : ∀ x y : List UInt8, y < x ↔ Op.bytesLess y x = true := by
    intro x
    induction x with
    | nil => intro y; cases y <;> simp [Op.bytesLess]
    | cons a x ih =>
      intro y
      cases y with
      | nil => simp [Op.bytesLess]
      | cons b y =>
        rw [List.cons_lt_cons_iff]
        unfold Op.bytesLess
        rw [Bool.or_eq_true, Bool.and_eq_true, decide_eq_true_eq, beq_iff_eq, ih y]
  rw [← List.not_lt, key x y]
  cases Op.bytesLess y x <;> simp
/-- What is sorted, if nothing stands twice. -/
theorem sort_asc {ss : List (List UInt8)} (hn : ss.Nodup) :
    AscS ((ss.mergeSort fun x y => decide (x ≤ y)).map bstr) ∧ ∀ p, p ∈ (ss.mergeSort fun x y => decide (x ≤ y)).map bstr ↔ p.data.toList ∈ ss := by
  have tr : ∀ a b c : List UInt8, decide (a ≤ b) = true → decide (b ≤ c) = true → decide (a ≤ c) = true := fun a b c h1 h2 => by simp only [decide_eq_true_eq] at *; exact List.le_trans h1 h2
  have to : ∀ a b : List UInt8, (decide (a ≤ b) || decide (b ≤ a)) = true := fun a b => by simp only [Bool.or_eq_true, decide_eq_true_eq]; exact List.le_total a b
  have hs := List.pairwise_mergeSort tr to ss
  have hpp := List.mergeSort_perm ss fun x y => decide (x ≤ y)
  have hn2 : (ss.mergeSort fun x y => decide (x ≤ y)).Nodup := (hpp.nodup_iff).2 hn
  refine ⟨?_, fun p => ?_⟩
  · unfold AscS
    rw [List.pairwise_map]
    refine (hs.and hn2).imp ?_
    rintro a b ⟨h1, h2⟩
    rw [decide_eq_true_eq, bytes_le] at h1
    unfold ltB
    rw [bstr_list, bstr_list]
    have := less_total a b
    rw [h1] at this
    cases hb : Op.bytesLess a b with
    | true => rfl
    | false =>
      rw [hb] at this
      simp at this
      exact absurd this.symm h2
  · rw [List.mem_map]
    constructor
    · rintro ⟨x, hx, rfl⟩
      exact hpp.mem_iff.1 hx
    · intro hh
      exact ⟨p.data.toList, hpp.mem_iff.2 hh, data_inj (bstr_list _)⟩
/-- The keys of a map. -/
theorem HM.keys {w : World} {b n : Nat} {f : MF} (h : HM w b n f) : ∃ D : DataW Value, w.ownsMap Tryz.prog 9 heldR b n D ∧ (strKeys D).Nodup ∧ (∀ x, x ∈ strKeys D ↔ (f (bstr x)).isSome = true) ∧ Maps.size D ≤ n := by
  obtain ⟨D, hD, ho⟩ := h
  obtain ⟨es, e, hk⟩ := ho.keysOf
  obtain ⟨es', e', hp⟩ := ho.tidy kstr
  subst e
  cases e'
  have hk' : ∀ p ∈ es, ∃ x, p.1 = .string x := fun p hp => by
    obtain ⟨v, hv⟩ := hk p hp
    obtain ⟨x, _, hx, _⟩ := Maps.keyOf_str Tryz.underlying9 hv
    exact ⟨x, hx⟩
  refine ⟨_, ho, ?_, fun x => ?_, ho.size_le⟩
  · show (es.map fun p => strOf p.1).Nodup
    refine List.pairwise_map.2 (hp.imp_of_mem fun {p q} hp' hq' hne e => hne ?_)
    obtain ⟨a, ha⟩ := hk' p hp'
    obtain ⟨b, hb⟩ := hk' q hq'
    rw [ha, hb] at e ⊢
    exact congrArg _ e
  · have hh := hD.has (bstr x)
    rw [← hh]
    unfold keyS
    rw [bstr_list, Maps.has_eq, List.any_eq_true]
    show x ∈ es.map (fun p => strOf p.1) ↔ _
    rw [List.mem_map]
    constructor
    · rintro ⟨p, hp', rfl⟩
      obtain ⟨a, ha⟩ := hk' p hp'
      exact ⟨p, hp', by rw [ha]; simp [Lit.sameKey, strOf]⟩
    · rintro ⟨p, hp', hs⟩
      obtain ⟨a, ha⟩ := hk' p hp'
      rw [ha] at hs
      exact ⟨p, hp', by rw [ha]; simpa [Lit.sameKey, strOf] using hs⟩
end Go.Proofs.YtphjillihapbfaaGreatDoor

namespace Go.Proofs.YtphjillihapbfaaGreatDoor
open Go.RowKit

abbrev iv (x : It) : Value := .agg #[.int .u64 x.1.1.toNat, .int .u64 x.1.2.toNat, .string x.2]
set_option maxRecDepth 100000 in
set_option maxHeartbeats 1000000 in
theorem find1_any (x : It) (d : Dg) (w : World) : Calls Tryz.prog 108 #[iv x, dv d] w fun e w' => e = .returned (.int .i64 (cmpD x.1 d)) ∧ Below w.heap.size w w' := by
  have CC := lid (fun W => Compare_any x.1 d W)
  have HB := lid ((ba w (Obj.cells #[.int .u64 x.1.1.toNat, .int .u64 x.1.2.toNat, .string x.2] 101)).trans ((ba (w.alloc (Obj.cells #[.int .u64 x.1.1.toNat, .int .u64 x.1.2.toNat, .string x.2] 101)) (Obj.cells #[.int .u64 d.1.toNat, .int .u64 d.2.toNat] 31)).mono (by simp)))
  go_enter Tryz.func108, Tryz.ntmps108
  go_wp2_with fail
  (with_reducible refine (CC.out _).mono ?_); rintro e w1 ⟨rfl, hb⟩
  go_wp2_with fail
  go_ret
  exact ⟨rfl, HB.out.trans (hb.mono HB.out.size)⟩
theorem mono_at {l : List It} {d : Dg} (h : Asc l) {m : Nat} (hm : m < l.length) (hp : ltD l[m].1 d = true) : ∀ t (ht : t < l.length), t < m + 1 → ltD l[t].1 d = true := fun t ht hlt => asc_mono h d t m ht hm (by omega) hp
/-- What the search knows. -/
def BsI (l : List It) (d : Dg) (a b : Nat) : Prop := (∀ t (h : t < l.length), t < a → ltD l[t].1 d = true) ∧ ∀ h : b < l.length, ltD l[b].1 d = false
theorem BsI.done {l : List It} {d : Dg} {a : Nat} (h : BsI l d a a) (ha : a ≤ l.length) : idxP l d = a := idxB_eq ha h.1 h.2
set_option maxRecDepth 100000 in
set_option maxHeartbeats 4000000 in
theorem bsearch_any (l : List It) (d : Dg) (n cap : Nat) (ao : Option Addr) (w : World) (h : PA w ao n cap l) (hA : Asc l) (hm1 : n ≤ 1000000) :
    Calls Tryz.prog 107 #[.slice ao n cap, dv d, .func (.func 108) #[] #[]] w fun e w' => e = .returned (.tuple #[.int .i64 (idxP l d), .bool (getP l d).isSome]) ∧ Below w.heap.size w w' := by
  have HP := lid h
  have HN := lid h.len
  have HA := lid hA
  obtain ⟨W, hW⟩ : ∃ W, w.alloc (Obj.cells #[.int .u64 d.1.toNat, .int .u64 d.2.toNat] 31) = W := ⟨_, rfl⟩
  have hbW : Below w.heap.size w W := by rw [← hW]; exact ba _ _
  have hP : W.heap[w.heap.size]? = some (.cells #[.int .u64 d.1.toNat, .int .u64 d.2.toNat] 31 (0, 0)) := by rw [← hW]; exact heap_alloc_new w _
  have HB := lid hP
  have HS : Hid (Sl W 3 ao n (icells l)) := lid (h.sl.below hbW)
  have HBW := lid hbW
  have HW := lid hW
  clear h hA hbW hP hW
  show Calls Tryz.prog 107 #[.slice ao n cap, .agg #[.int .u64 d.1.toNat, .int .u64 d.2.toNat], .func (.func 108) #[] #[]] w _
  go_enter Tryz.func107, Tryz.ntmps107
  go_wp2_with fail
  rw [HW.out]
  go_loopw [9, 10] (fun u9 u10 wr => ∃ a b : Nat, a ≤ b ∧ b ≤ n ∧ u9 = .int .i64 a ∧ u10 = .int .i64 b ∧ Hid (BsI l d a b) ∧ Below W.heap.size W wr) (fun u9 u10 _ => (intOf u10).toNat - (intOf u9).toNat)
  case atStart => exact ⟨0, n, Nat.zero_le _, Nat.le_refl _, rfl, rfl, lid ⟨fun t _ ht => by omega, fun h => by rw [HN.out] at h; omega⟩, Below.refl _ _⟩
  case round =>
    obtain ⟨a, b, hab, hbn, rfl, rfl, HI, hb⟩ := hrel
    by_cases hlt : a < b
    · have dk : decide ((a : Int) < (b : Int)) = true := by simp; omega
      obtain ⟨m, hm⟩ : ∃ m, (a + b) / 2 = m := ⟨_, rfl⟩
      have hmi : ((a : Int) + (b : Int)) / 2 = (m : Int) := by omega
      have hma : a ≤ m := by omega
      have hmb : m < b := by omega
      have hml : m < l.length := by rw [HN.out]; omega
      obtain ⟨b1, o1, rfl, hlb1, hc1⟩ := (HS.out.below hb).at_ (show m < n by omega)
      obtain ⟨z0, z1, z2⟩ := icells_at hml
      have x0 := hc1 _ _ z0
      have x1 := hc1 _ _ z1
      have x2 := hc1 _ _ z2
      rw [Nat.add_zero] at x0
      rw [← Nat.add_assoc] at x1 x2
      have y0 : wr.cell? ⟨w.heap.size, 0, none⟩ = some (.int .u64 d.1.toNat) := row_cell ((hb.block _ (row_lt HB.out)).trans HB.out) 0
      have y1 : wr.cell? ⟨w.heap.size, 1, none⟩ = some (.int .u64 d.2.toNat) := row_cell ((hb.block _ (row_lt HB.out)).trans HB.out) 1
      have ly := row_lt ((hb.block _ (row_lt HB.out)).trans HB.out)
      have HM : Hid (cmpD l[m].1 d < 0 → ∀ t (ht : t < l.length), t < m + 1 → ltD l[t].1 d = true) := lid (fun hq => mono_at HA.out hml (decide_eq_true hq))
      have HE : Hid (¬ cmpD l[m].1 d < 0 → ∀ h : m < l.length, ltD l[m].1 d = false) := lid (fun hq _ => decide_eq_false hq)
      have CF := lid (fun W => find1_any l[m] d W)
      obtain ⟨q, hq⟩ : ∃ q, cmpD l[m].1 d = q := ⟨_, rfl⟩
      rw [hq] at HM HE CF
      obtain ⟨x, hx⟩ : ∃ x, l[m] = x := ⟨_, rfl⟩
      rw [hx] at x0 x1 x2 CF
      clear hc1 z0 z1 z2 hx hq
      by_cases hc : q < 0
      · have u := decide_eq_true hc
        have HV := lid (HM.out hc)
        clear HM HE
        go_wp2_with fail
        refine wp_region_seq (fun w' => ∃ s : Since wr.heap.size wr, w' = s.world) [(0, true), (1, true), (2, true), (3, true), (4, true), (5, true), (6, false), (7, true)] (by kernel_rfl) (by kernel_rfl) (by intro c d v a w h; first | (cases d <;> exact h) | cases h.1) (since (Below.refl _ _).drew) ?_
        repeat (first | (refine seq_skip (by rfl) (by rfl) ?_; simp only [Act.put, List.setIfInBounds_toArray, List.set_cons_succ, List.set_cons_zero]) | (refine seq_float (by rfl) (by rfl) (by rfl) ?_; intro K hK; go_big_quiet_op; go_big_quiet_on))
        refine seq_chain (by rfl) ?_
        intro K hK
        go_wp2_with fail
        (with_reducible refine (CF.out _).mono ?_); rintro e w2 ⟨rfl, hb2⟩
        have hb3 : Below wr.heap.size wr w2 := (Below.refl wr.heap.size wr).drew.trans hb2
        have hw2 := hb.trans (hb3.mono hb.size)
        go_wp2_with fail
        refine hK.out _ _ (since hb3) ?_
        clear hK K
        repeat (first | (refine seq_skip (by rfl) (by rfl) ?_; simp only [Act.put, List.setIfInBounds_toArray, List.set_cons_succ, List.set_cons_zero]) | (refine seq_float (by rfl) (by rfl) (by rfl) ?_; intro K hK; go_big_quiet_op; go_big_quiet_on))
        refine seq_nil ?_
        go_wp2_with fail
        go_roundw
        case rel => exact ⟨m + 1, b, by omega, by omega, by go_num, rfl, lid ⟨HV.out, HI.out.2⟩, hw2⟩
        case measure => simp [intOf]; omega
      · have u := decide_eq_false hc
        have HV := lid (HE.out hc)
        clear HM HE
        go_wp2_with fail
        refine wp_region_seq (fun w' => ∃ s : Since wr.heap.size wr, w' = s.world) [(0, true), (1, true), (2, true), (3, true), (4, true), (5, true), (6, false), (7, true)] (by kernel_rfl) (by kernel_rfl) (by intro c d v a w h; first | (cases d <;> exact h) | cases h.1) (since (Below.refl _ _).drew) ?_
        repeat (first | (refine seq_skip (by rfl) (by rfl) ?_; simp only [Act.put, List.setIfInBounds_toArray, List.set_cons_succ, List.set_cons_zero]) | (refine seq_float (by rfl) (by rfl) (by rfl) ?_; intro K hK; go_big_quiet_op; go_big_quiet_on))
        refine seq_chain (by rfl) ?_
        intro K hK
        go_wp2_with fail
        (with_reducible refine (CF.out _).mono ?_); rintro e w2 ⟨rfl, hb2⟩
        have hb3 : Below wr.heap.size wr w2 := (Below.refl wr.heap.size wr).drew.trans hb2
        have hw2 := hb.trans (hb3.mono hb.size)
        go_wp2_with fail
        refine hK.out _ _ (since hb3) ?_
        clear hK K
        repeat (first | (refine seq_skip (by rfl) (by rfl) ?_; simp only [Act.put, List.setIfInBounds_toArray, List.set_cons_succ, List.set_cons_zero]) | (refine seq_float (by rfl) (by rfl) (by rfl) ?_; intro K hK; go_big_quiet_op; go_big_quiet_on))
        refine seq_nil ?_
        go_wp2_with fail
        go_roundw
        case rel => exact ⟨a, m, by omega, by omega, rfl, rfl, lid ⟨HI.out.1, HV.out⟩, hw2⟩
        case measure => simp [intOf]; omega
    · obtain rfl : a = b := by omega
      have dk : decide ((a : Int) < (a : Int)) = false := by simp
      have HIX : Hid (idxP l d = a) := lid (HI.out.done (by rw [HN.out]; omega))
      have hg := getP_at HA.out d
      by_cases han : a < n
      · have hal : a < l.length := by rw [HN.out]; exact han
        simp only [HIX.out, hal, dif_pos] at hg
        obtain ⟨b1, o1, rfl, hlb1, hc1⟩ := (HS.out.below hb).at_ han
        obtain ⟨z0, z1, z2⟩ := icells_at hal
        have x0 := hc1 _ _ z0
        have x1 := hc1 _ _ z1
        have x2 := hc1 _ _ z2
        rw [Nat.add_zero] at x0
        rw [← Nat.add_assoc] at x1 x2
        have y0 : wr.cell? ⟨w.heap.size, 0, none⟩ = some (.int .u64 d.1.toNat) := row_cell ((hb.block _ (row_lt HB.out)).trans HB.out) 0
        have y1 : wr.cell? ⟨w.heap.size, 1, none⟩ = some (.int .u64 d.2.toNat) := row_cell ((hb.block _ (row_lt HB.out)).trans HB.out) 1
        have ly := row_lt ((hb.block _ (row_lt HB.out)).trans HB.out)
        obtain ⟨x, hx⟩ : ∃ x, l[a] = x := ⟨_, rfl⟩
        rw [hx] at x0 x1 x2 hg
        have CF := lid (fun W => find1_any x d W)
        have HU : Hid ((cmpD x.1 d == 0) = (getP l d).isSome) := lid (by
          rw [hg, Bool.eq_iff_iff, beq_iff_eq, cmpD_eq]
          by_cases e : x.1 = d <;> simp [e])
        obtain ⟨q, hq⟩ : ∃ q, cmpD x.1 d = q := ⟨_, rfl⟩
        rw [hq] at CF HU
        have da : decide ((a : Int) < (n : Int)) = true := by simp; omega
        clear hc1 z0 z1 z2 hx hg hq
        go_wp2_with fail
        refine wp_region_seq (fun w' => ∃ s : Since wr.heap.size wr, w' = s.world) [(0, true), (1, true), (2, true), (3, true), (4, true), (5, true), (6, true), (7, true), (8, true), (9, true), (10, true), (11, false), (12, true), (13, true), (14, false), (15, false)] (by kernel_rfl) (by kernel_rfl) (by intro c d v a w h; first | (cases d <;> exact h) | cases h.1) (since (Below.refl _ _).drew) ?_
        repeat (first | (refine seq_skip (by rfl) (by rfl) ?_; simp only [Act.put, List.setIfInBounds_toArray, List.set_cons_succ, List.set_cons_zero]) | (refine seq_float (by rfl) (by rfl) (by rfl) ?_; intro K hK; go_big_quiet_op; go_big_quiet_on))
        refine seq_chain (by rfl) ?_
        intro K hK
        go_wp2_with fail
        (with_reducible refine (CF.out _).mono ?_); rintro e w2 ⟨rfl, hb2⟩
        have hb3 : Below wr.heap.size wr w2 := (Below.refl wr.heap.size wr).drew.trans hb2
        go_wp2_with fail
        refine hK.out _ _ (since hb3) ?_
        clear hK K
        repeat (first | (refine seq_skip (by rfl) (by rfl) ?_; simp only [Act.put, List.setIfInBounds_toArray, List.set_cons_succ, List.set_cons_zero]) | (refine seq_float (by rfl) (by rfl) (by rfl) ?_; intro K hK; go_big_quiet_op; go_big_quiet_on))
        refine seq_chain (by rfl) ?_
        intro K hK
        go_wp2_with fail
        refine hK.out _ _ (since hb3) ?_
        clear hK K
        repeat (first | (refine seq_skip (by rfl) (by rfl) ?_; simp only [Act.put, List.setIfInBounds_toArray, List.set_cons_succ, List.set_cons_zero]) | (refine seq_float (by rfl) (by rfl) (by rfl) ?_; intro K hK; go_big_quiet_op; go_big_quiet_on))
        refine seq_chain (by rfl) ?_
        intro K hK
        go_wp2_with fail
        refine hK.out _ _ (since hb3) ?_
        clear hK K
        repeat (first | (refine seq_skip (by rfl) (by rfl) ?_; simp only [Act.put, List.setIfInBounds_toArray, List.set_cons_succ, List.set_cons_zero]) | (refine seq_float (by rfl) (by rfl) (by rfl) ?_; intro K hK; go_big_quiet_op; go_big_quiet_on))
        refine seq_nil ?_
        go_wp2_with fail
        go_ret2
        rw [HIX.out, ← HU.out]
        exact ⟨rfl, (HBW.out.trans (hb.mono HBW.out.size)).trans (hb3.mono (by have h1 := HBW.out.size; have h2 := hb.size; omega))⟩
      · obtain rfl : a = n := by omega
        have hal : ¬ a < l.length := by rw [HN.out]; omega
        simp only [HIX.out, hal, dif_neg, not_false_eq_true] at hg
        have HG := lid hg
        clear hg
        go_wp2_with fail
        refine wp_region_seq (fun w' => ∃ s : Since wr.heap.size wr, w' = s.world) [(0, true), (1, true), (2, true), (3, true), (4, true), (5, true), (6, true), (7, true), (8, true), (9, true), (10, true), (11, false), (12, true), (13, true), (14, false), (15, false)] (by kernel_rfl) (by kernel_rfl) (by intro c d v a w h; first | (cases d <;> exact h) | cases h.1) (since (Below.refl _ _).drew) ?_
        repeat (first | (refine seq_skip (by rfl) (by rfl) ?_; simp only [Act.put, List.setIfInBounds_toArray, List.set_cons_succ, List.set_cons_zero]) | (refine seq_float (by rfl) (by rfl) (by rfl) ?_; intro K hK; go_big_quiet_op; go_big_quiet_on))
        refine seq_chain (by rfl) ?_
        intro K hK
        go_wp2_with fail
        refine hK.out _ _ (since ((Below.refl wr.heap.size wr).drew)) ?_
        clear hK K
        repeat (first | (refine seq_skip (by rfl) (by rfl) ?_; simp only [Act.put, List.setIfInBounds_toArray, List.set_cons_succ, List.set_cons_zero]) | (refine seq_float (by rfl) (by rfl) (by rfl) ?_; intro K hK; go_big_quiet_op; go_big_quiet_on))
        refine seq_chain (by rfl) ?_
        intro K hK
        go_wp2_with fail
        refine hK.out _ _ (since ((Below.refl wr.heap.size wr).drew)) ?_
        clear hK K
        repeat (first | (refine seq_skip (by rfl) (by rfl) ?_; simp only [Act.put, List.setIfInBounds_toArray, List.set_cons_succ, List.set_cons_zero]) | (refine seq_float (by rfl) (by rfl) (by rfl) ?_; intro K hK; go_big_quiet_op; go_big_quiet_on))
        refine seq_chain (by rfl) ?_
        intro K hK
        go_wp2_with fail
        refine hK.out _ _ (since ((Below.refl wr.heap.size wr).drew)) ?_
        clear hK K
        repeat (first | (refine seq_skip (by rfl) (by rfl) ?_; simp only [Act.put, List.setIfInBounds_toArray, List.set_cons_succ, List.set_cons_zero]) | (refine seq_float (by rfl) (by rfl) (by rfl) ?_; intro K hK; go_big_quiet_op; go_big_quiet_on))
        refine seq_nil ?_
        go_wp2_with fail
        go_ret2
        rw [HIX.out, HG.out]
        exact ⟨rfl, (HBW.out.trans (hb.mono HBW.out.size)).drew⟩
end Go.Proofs.YtphjillihapbfaaGreatDoor
