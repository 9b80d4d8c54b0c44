import Derived.Test.YtgcceepadlmelaaGreatDoorEdDecl
import Derived.Test.YtgcceepadlmelaaGreatDoorQAF
import Derived.Test.YtgcceepadlmelaaGreatDoorEdPairs
namespace Go.Proofs.YtgcceepadlmelaaGreatDoor
open Go.RowKit
theorem wpList_append_slo {P : Program} {ops : Array Oper} {rest : List Oper} {o : Oper} {a : Act} {Q : Exit → Act → World → Prop} {w : World} (hgd : o.guard = none) (s x : Operand) (t : TypeId)
  (ho : o.op = .call { callee := .builtin .append, args := #[s, x], argTypes := #[t, t] })
  (base : Nat) (e : TypeId) (z : Value) (size bytes : Nat) (hinfo : (P.info? e).map (fun i => (i.zero, i.size, i.bytes)) = some (some z, size, bytes)) (ht : P.underlying t = some (.slice e)) (hzs : z.cells.size = size) (hsz : 0 < size)
  (v : Value) (n : Nat) (xs : List Value) (hown : w.ownsRow base e size v n xs) (hs : a.eval s = v)
  (ao : Option Addr) (m c : Nat) (us : List Value) (hx : a.eval x = .slice ao m c) (hsl : Sl w size ao m us) (hz : ao = none → c = 0) (h1 : ∀ u ∈ us, u.oneCell' = true)
  (h63 : n + m ≤ maxLen) (hbytes : (n + m) * bytes ≤ 140737488355328) (hbase : base ≤ w.heap.size)
  (h : ∀ v' w', w'.ownsRow base e size v' (n + m) (xs ++ us) → Below base w w' → w.grownBy w' v.ownBlock → (v'.ownBlock = v.ownBlock ∨ v'.ownBlock = some w.heap.size) → wpList P ops Q rest (a.put o.dst v') w') : wpList P ops Q (o :: rest) a w := by
 cases ao with
 | none =>
  obtain ⟨i, hi, hz0, hz1, hz2⟩ := info_parts hinfo
  obtain rfl := hz rfl
  obtain rfl : m = 0 := by
   rcases hsl.2 with h0 | ⟨b, o, e', _⟩
   ·exact h0
   ·cases e'
  obtain rfl : us = [] := List.eq_nil_of_length_eq_zero (by rw [hsl.1]; simp)
  refine wpList_append_own_none hgd s x t ho base e i size ht hi v n xs hs hown hx ?_
  exact h v w (by simpa using hown) (Below.refl _ _) ⟨rfl, rfl, rfl, Nat.le_refl _, fun _ _ _ => rfl⟩ (.inl rfl)
 | some ad => exact wpList_append_sla hgd s x t ho base e z size bytes hinfo ht hzs hsz v n xs hown hs ad m c us hx hsl h1 h63 hbytes hbase h
def f5 {α : Type} (a b c d e : α) : Fin 5 → α
 | 0 => a
 | 1 => b
 | 2 => c
 | 3 => d
 | 4 => e
structure Own5 (w0 : World) (B : Nat) (w : World) (v : Fin 5 → Value) (n : Fin 5 → Nat) (K : Fin 5 → List Kw) : Prop where
 own : ∀ i, w.ownsRow B 52 5 (v i) (n i) (kcs (K i))
 len : ∀ i, (K i).length = n i
 ne : ∀ i l, i ≠ l → ∀ g, (v i).ownBlock = some g → (v l).ownBlock ≠ some g
 el : ∀ i, ∀ x ∈ K i, KAt w0 w (fun g => ∃ l, (v l).ownBlock = some g) x
theorem Own5.below {w0 w X : World} {B : Nat} {v : Fin 5 → Value} {n : Fin 5 → Nat} {K : Fin 5 → List Kw} (h : Own5 w0 B w v n K) (hX : Below w.heap.size w X) : Own5 w0 B X v n K :=
 ⟨fun i => own_keep (h.own i) (fun g hg => hX.block g ((h.own i).lt g hg).2), h.len, h.ne, fun i x hx => (h.el i x hx).keep (fun g hg hbad => ⟨hbad, hX.block g hg⟩)⟩
theorem Own5.add {w0 X w9 : World} {B : Nat} {v v' : Fin 5 → Value} {n n' : Fin 5 → Nat} {K K' : Fin 5 → List Kw} (h : Own5 w0 B X v n K) (i : Fin 5) {v9 : Value} {m : Nat} {KN : List Kw} (hm : KN.length = m) (hk : ∀ x ∈ KN, KAt w0 X (fun g => ∃ l, (v l).ownBlock = some g) x)
  (own9 : w9.ownsRow B 52 5 v9 (n i + m) (kcs (K i) ++ kcs KN)) (hg9 : X.grownBy w9 (v i).ownBlock) (hat : v9.ownBlock = (v i).ownBlock ∨ v9.ownBlock = some X.heap.size)
  (hv : ∀ l, l ≠ i → v' l = v l) (hvi : v' i = v9) (hn : ∀ l, l ≠ i → n' l = n l) (hni : n' i = n i + m) (hK : ∀ l, l ≠ i → K' l = K l) (hKi : K' i = K i ++ KN) :
  Own5 w0 B w9 v' n' K' ∧ ∀ z, z < X.heap.size → (∀ l, (v l).ownBlock ≠ some z) → w9.heap[z]? = X.heap[z]? ∧ ∀ l, (v' l).ownBlock ≠ some z := by
 have hlt : ∀ l g, (v l).ownBlock = some g → g < X.heap.size := fun l g e => ((h.own l).lt g e).2
 have hnew : ∀ g, v9.ownBlock = some g → (v i).ownBlock = some g ∨ g = X.heap.size := fun g e => by
  rcases hat with e' | e'
  ·exact .inl (e'.symm.trans e)
  ·rw [e'] at e
   injection e with e
   exact .inr e.symm
 have hkeep : ∀ g, g < X.heap.size → ¬ (∃ l, (v l).ownBlock = some g) → ¬ (∃ l, (v' l).ownBlock = some g) ∧ w9.heap[g]? = X.heap[g]? := fun g hg hbad => by
  refine ⟨fun ⟨l, e⟩ => ?_, grown_at hg9 hg (fun e => hbad ⟨i, e⟩)⟩
  by_cases hl : l = i
  ·rw [hl, hvi] at e
   rcases hnew g e with e | e
   ·exact hbad ⟨i, e⟩
   ·omega
  ·rw [hv l hl] at e
   exact hbad ⟨l, e⟩
 refine ⟨⟨fun l => ?_, fun l => ?_, fun l k hlk g e => ?_, fun l x hx => ?_⟩, fun z hz hne => ?_⟩
 ·by_cases hl : l = i
  ·rw [hl, hvi, hni, hKi, kcs_append]
   exact own9
  ·rw [hv l hl, hn l hl, hK l hl]
   exact own_keep (h.own l) (fun g hg => grown_at hg9 (hlt l g hg) (h.ne l i hl g hg))
 ·by_cases hl : l = i
  ·rw [hl, hni, hKi, List.length_append, h.len, hm]
  ·rw [hn l hl, hK l hl, h.len]
 ·by_cases hl : l = i
  ·have hk' : k ≠ i := fun e => hlk (hl.trans e.symm)
   rw [hl, hvi] at e
   rw [hv k hk']
   rcases hnew g e with e | e
   ·exact h.ne i k (Ne.symm hk') g e
   ·intro e2
    have := hlt k g e2
    omega
  ·rw [hv l hl] at e
   by_cases hk' : k = i
   ·rw [hk', hvi]
    intro e2
    rcases hnew g e2 with e2 | e2
    ·exact h.ne l i hl g e e2
    ·have := hlt l g e
     omega
   ·rw [hv k hk']
    exact h.ne l k hlk g e
 ·by_cases hl : l = i
  ·rw [hl, hKi] at hx
   rcases List.mem_append.1 hx with hx | hx
   ·exact (h.el i x hx).keep hkeep
   ·exact (hk x hx).keep hkeep
  ·rw [hK l hl] at hx
   exact (h.el l x hx).keep hkeep
 ·obtain ⟨h1, h2⟩ := hkeep z hz (fun ⟨l, e⟩ => hne l e)
  exact ⟨h2, fun l e => h1 ⟨l, e⟩⟩
theorem KAt.kwa {w0 V : World} {bad : Nat → Prop} {k : Kw} (h : KAt w0 V bad k) (hb : Below w0.heap.size w0 V) : KwA V k := by
 have hs : ∀ {ao : Option Addr} {cap : Nat} {L : List Dw}, SlAt w0 V bad ao cap L → DLA V ao L.length cap L := fun {ao cap L} hs => by
  rcases hs with ⟨rfl, rfl, rfl⟩ | ⟨g, d, rfl, _, hr, rfl, rfl, hd⟩
  ·exact DLA.empty
  ·exact dla_one hr rfl (hd.below hb)
 exact ⟨h.pack, h.text, hs h.old, hs h.new⟩
theorem ne5 {i l : Fin 5} {α : Type} {a b c d e : α} {a' b' c' d' e' : α} (h : l ≠ i) (h0 : i ≠ 0 → a' = a) (h1 : i ≠ 1 → b' = b) (h2 : i ≠ 2 → c' = c) (h3 : i ≠ 3 → d' = d) (h4 : i ≠ 4 → e' = e) : f5 a' b' c' d' e' l = f5 a b c d e l := by
 match l, h with
 | 0, h => exact h0 (Ne.symm h)
 | 1, h => exact h1 (Ne.symm h)
 | 2, h => exact h2 (Ne.symm h)
 | 3, h => exact h3 (Ne.symm h)
 | 4, h => exact h4 (Ne.symm h)
end Go.Proofs.YtgcceepadlmelaaGreatDoor
namespace Go.Proofs.YtgcceepadlmelaaGreatDoor
open Go.RowKit
def k1 (p : BoW) : List Kw := if p.inA = true then [] else [useK 1 p.label ⟨#[]⟩]
def k2 (p : BoW) : List Kw := useKs 3 p.label p.b.uses p.a.uses
noncomputable def k3 (p : BoW) : List Kc := declKs p.label (p.a.decls.map Dw.x) (p.b.decls.map Dw.x)
def k4 (p : BoW) : List Kw := useKs 4 p.label p.a.uses p.b.uses
def k5 (p : BoW) : List Kw := if p.inB = true then [] else [useK 2 p.label ⟨#[]⟩]
theorem bo_uA {w : World} {A B : List Mw} {p : BoW} (h : BoOk w A B p) : uO p.x.2.1 = p.a.uses ∧ dO p.x.2.1 = p.a.decls.map Dw.x ∧ (p.x.2.1.isSome = p.inA) := by
 have h1 := h.1
 unfold BoW.x
 cases e : p.inA with
 | true => exact ⟨rfl, rfl, rfl⟩
 | false =>
  rw [e] at h1
  have h1 : p.a = zMw := by simpa using h1
  rw [h1]
  exact ⟨rfl, rfl, rfl⟩
theorem bo_uB {w : World} {A B : List Mw} {p : BoW} (h : BoOk w A B p) : uO p.x.2.2 = p.b.uses ∧ dO p.x.2.2 = p.b.decls.map Dw.x ∧ (p.x.2.2.isSome = p.inB) := by
 have h1 := h.2.1
 unfold BoW.x
 cases e : p.inB with
 | true => exact ⟨rfl, rfl, rfl⟩
 | false =>
  rw [e] at h1
  have h1 : p.b = zMw := by simpa using h1
  rw [h1]
  exact ⟨rfl, rfl, rfl⟩
theorem inS_fnd (l : List ByteArray) (u : ByteArray) : inS l u = (fndU l u).isSome := by
 cases h : (fndU l u).isSome with
 | true => exact inS_iff.2 (fndU_mem.1 h)
 | false =>
  cases e : inS l u with
  | false => rfl
  | true => rw [fndU_mem.2 (inS_iff.1 e)] at h; cases h
theorem useKs_x (k : Int) (n : Bool) (l : ByteArray) (us os : List ByteArray) (h : ∀ u, (⟨k, l, u, [], []⟩ : Kc) = Ed.k ⟨l, .mod (.use u n)⟩) : (useKs k l us os).map Kw.x = (((useE n us os).map Ac.mod).map (Ed.mk l)).map Ed.k := by
 unfold useKs useE
 rw [List.map_map, List.map_map, List.map_map, List.map_map]
 rw [show (fun u => !inS os u) = fun u => !(fndU os u).isSome from funext fun u => by rw [inS_fnd]]
 refine List.map_congr_left fun u _ => ?_
 exact h u
theorem flat_x {f : BoW → List Kc} {ph : Option Mx → Option Mx → List Ac} : ∀ {P : List BoW}, (∀ p ∈ P, f p = ((ph p.x.2.1 p.x.2.2).map (Ed.mk p.x.1)).map Ed.k) → P.flatMap f = (flatE ph (P.map BoW.x)).map Ed.k
 | [], _ => rfl
 | p :: P, h => by
  rw [List.flatMap_cons, h p (List.mem_cons_self ..), flat_x (fun q hq => h q (List.mem_cons_of_mem _ hq))]
  show _ = ((((ph p.x.2.1 p.x.2.2).map (Ed.mk p.x.1)) ++ flatE ph (P.map BoW.x))).map Ed.k
  rw [List.map_append]
theorem fm_map {α β γ : Type} (f : α → List β) (g : β → γ) : ∀ P : List α, (P.flatMap f).map g = P.flatMap fun p => (f p).map g
 | [] => rfl
 | p :: P => by rw [List.flatMap_cons, List.flatMap_cons, List.map_append, fm_map f g P]
theorem diff_k {w : World} {A B : List Mw} {P : List BoW} (h : ∀ p ∈ P, BoOk w A B p) (hp : P.map BoW.x = pairsM (A.map Mw.x) (B.map Mw.x)) :
  (P.flatMap k1).map Kw.x ++ ((P.flatMap k2).map Kw.x ++ (P.flatMap k3 ++ ((P.flatMap k4).map Kw.x ++ (P.flatMap k5).map Kw.x))) = (diffE (A.map Mw.x) (B.map Mw.x)).map Ed.k := by
 unfold diffE
 rw [← hp, List.map_append, List.map_append, List.map_append, List.map_append]
 rw [fm_map, fm_map, fm_map, fm_map]
 rw [flat_x (ph := ph1), flat_x (ph := ph2), flat_x (ph := ph3), flat_x (ph := ph4), flat_x (ph := ph5)]
 ·intro p hp
  obtain ⟨_, _, h3⟩ := bo_uB (h p hp)
  unfold k5 ph5
  rw [h3]
  cases p.inB <;> rfl
 ·intro p hp
  obtain ⟨h1, _, _⟩ := bo_uA (h p hp)
  obtain ⟨h2, _, _⟩ := bo_uB (h p hp)
  unfold k4 ph4
  rw [h1, h2]
  exact useKs_x 4 false p.label _ _ (fun u => rfl)
 ·intro p hp
  obtain ⟨_, h1, _⟩ := bo_uA (h p hp)
  obtain ⟨_, h2, _⟩ := bo_uB (h p hp)
  unfold k3 ph3 declKs
  rw [h1, h2, List.map_map, List.map_map]
  refine List.map_congr_left fun a _ => rfl
 ·intro p hp
  obtain ⟨h1, _, _⟩ := bo_uA (h p hp)
  obtain ⟨h2, _, _⟩ := bo_uB (h p hp)
  unfold k2 ph2
  rw [h1, h2]
  exact useKs_x 3 true p.label _ _ (fun u => rfl)
 ·intro p hp
  obtain ⟨_, _, h3⟩ := bo_uA (h p hp)
  unfold k1 ph1
  rw [h3]
  cases p.inA <;> rfl
end Go.Proofs.YtgcceepadlmelaaGreatDoor
