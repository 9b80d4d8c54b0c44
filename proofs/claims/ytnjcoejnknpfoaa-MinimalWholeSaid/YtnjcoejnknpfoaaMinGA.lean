/-
  A slice of sets.
-/
import Derived.Maps.AppendAt
import Derived.Test.YtnjcoejnknpfoaaMinText
namespace Go.Proofs.Ytnjcoejnknpfoaa
open Go.RowKit
/-- A set as it lies. -/
structure Sw where
  vs : List Int
  ao : Option Addr
  cap : Nat
abbrev swc (r : Sw) : Value := .slice r.ao r.vs.length r.cap
def gcells (l : List Sw) : List Value := l.map swc
theorem gcells_length (l : List Sw) : (gcells l).length = l.length := by simp [gcells]
theorem gcells_at {l : List Sw} {k : Nat} (h : k < l.length) : (gcells l)[k]? = some (swc l[k]) := by simp [gcells, h]
theorem gcells_append (l m : List Sw) : gcells (l ++ m) = gcells l ++ gcells m := by simp [gcells]
/-- A slice value reads as sets. -/
structure GA (w : World) (ao : Option Addr) (n cap : Nat) (l : List Sw) : Prop where
  len : l.length = n
  sl : Sl w 1 ao n (gcells l)
  le : n ≤ cap
  max : cap ≤ maxLen
  z : ao = none → cap = 0
  ok : ∀ r ∈ l, IA w r.ao r.vs.length r.cap r.vs
theorem GA.below {w w' : World} {ao : Option Addr} {n cap : Nat} {l : List Sw} (h : GA w ao n cap l) (hb : Below w.heap.size w w') : GA w' ao n cap l := ⟨h.len, h.sl.below hb, h.le, h.max, h.z, fun r hr => (h.ok r hr).below hb⟩
theorem GA.of_own {w : World} {base : Nat} {e : TypeId} {v : Value} {n : Nat} {l : List Sw} (h : w.ownsRow base e 1 v n (gcells l)) (hs : ∀ r ∈ l, IA w r.ao r.vs.length r.cap r.vs) : ∃ ao cap, v = .slice ao n cap ∧ GA w ao n cap l := by
  have hl := h.1
  rw [gcells_length] at hl
  obtain ⟨ao, cap, rfl, h1, h2, h3⟩ := Sl.of_own h
  refine ⟨ao, cap, rfl, by omega, h3, h1, h2, fun e => ?_, hs⟩
  subst e
  rcases h.2 with ⟨hv, _⟩ | ⟨g, cap', cur, hv, _⟩
  · cases hv; rfl
  · cases hv
theorem info_ints : (Try.prog.info? 30).map (fun i => (i.zero, i.size, i.bytes)) = some (some (.slice none 0 0), 1, 24) := by kernel_rfl
/-- 'append(out, x)', x just laid in a block of its own; where the new slice lies. -/
theorem wpList_append_new_at {P : Program} {ops : Array Oper} {rest : List Oper} {o : Oper} {a : Act} {Q : Exit → Act → World → Prop} {w : World} (us : Array Value) (hgd : o.guard = none) (s x : Operand) (t : TypeId)
    (ho : o.op = .call { callee := .builtin .append, args := #[s, x], argTypes := #[t, t] })
    (base : Nat) (e : TypeId) (z : Value) (size bytes : Nat) (hinfo : (P.info? e).map (fun i => (i.zero, i.size, i.bytes)) = some (some z, size, bytes)) (ht : P.underlying t = some (.slice e)) (hzs : z.cells.size = size) (hsz : 0 < size)
    (v : Value) (n : Nat) (xs : List Value) (hown : w.ownsRow base e size v n xs) (hs : a.eval s = v)
    (hx : a.eval x = .slice (some ⟨w.heap.size, 0, none⟩) 1 1) (hl : us.size = size) (h1 : ∀ u ∈ us.toList, u.oneCell' = true)
    (h63 : n + 1 ≤ maxLen) (hbytes : (n + 1) * bytes ≤ 140737488355328) (hbase : base ≤ w.heap.size)
    (h : ∀ v' w', w'.ownsRow base e size v' (n + 1) (xs ++ us.toList) → (w.alloc (.cells us e)).grownBy w' v.ownBlock → (v'.ownBlock = v.ownBlock ∨ v'.ownBlock = some (w.alloc (.cells us e)).heap.size) → wpList P ops Q rest (a.put o.dst v') w') : wpList P ops Q (o :: rest) a (w.alloc (.cells us e)) := by
  obtain ⟨i, hi, hz0, hz1, hz2⟩ := info_parts hinfo
  refine wpList_append_own_at _ hgd s x t ho base e i z size bytes ht hi hz0 hz1 hz2 hzs hsz v n xs hs (hown.alloc _) ⟨w.heap.size, 0, none⟩ 1 1 us.toList hx (by simp [hl]) ?_ h1 h63 hbytes (by simp; omega) ?_
  · intro j u hu
    rw [Addr.add_lit]
    simp only [World.cell?, Nat.zero_add]
    rw [heap_alloc_new]
    simpa using hu
  · intro v' w' hown' hg hn hat
    exact h v' w' hown' hg hat

/-- What has been put out: sets in a row of the call's own, their numbers elsewhere. -/
structure OutG (w : World) (base : Nat) (vo : Value) (rs : List Sw) : Prop where
  own : w.ownsRow base 30 1 vo rs.length (gcells rs)
  ok : ∀ r ∈ rs, IA w r.ao r.vs.length r.cap r.vs
  far : ∀ r ∈ rs, ∀ b o, r.ao = some ⟨b, o, none⟩ → some b ≠ vo.ownBlock ∨ r.vs.length = 0
theorem OutG.below {w w' : World} {base : Nat} {vo : Value} {rs : List Sw} (h : OutG w base vo rs) (hb : Below w.heap.size w w') : OutG w' base vo rs := ⟨ownsRow_below h.own hb, fun r hr => (h.ok r hr).below hb, h.far⟩
theorem OutG.app {w w' : World} {base : Nat} {vo v' : Value} {rs : List Sw} {x : Sw} {tmp : Obj} (h : OutG w base vo rs) (hown : w'.ownsRow base 30 1 v' (rs.length + 1) (gcells rs ++ [swc x])) (hg : (w.alloc tmp).grownBy w' vo.ownBlock) (hat : v'.ownBlock = vo.ownBlock ∨ v'.ownBlock = some (w.heap.size + 1))
    (hx : IA w x.ao x.vs.length x.cap x.vs) (hf : ∀ b o, x.ao = some ⟨b, o, none⟩ → some b ≠ vo.ownBlock ∨ x.vs.length = 0) : OutG w' base v' (rs ++ [x]) := by
  have key : ∀ r : Sw, IA w r.ao r.vs.length r.cap r.vs → (∀ b o, r.ao = some ⟨b, o, none⟩ → some b ≠ vo.ownBlock ∨ r.vs.length = 0) → IA w' r.ao r.vs.length r.cap r.vs ∧ ∀ b o, r.ao = some ⟨b, o, none⟩ → some b ≠ v'.ownBlock ∨ r.vs.length = 0 := by
    intro r hV hF
    have hV1 := hV.below (ba w tmp)
    refine ⟨⟨hV1.len, ⟨hV1.sl.1, ?_⟩, hV1.le, hV1.max, hV1.z⟩, fun b o e => ?_⟩
    · rcases hV1.sl.2 with h0 | ⟨b, o, e, hb, hc⟩
      · exact .inl h0
      · rcases hF b o e with hne | h0
        · refine .inr ⟨b, o, e, Nat.lt_of_lt_of_le hb hg.size, fun j u hu => ?_⟩
          rw [← hc j u hu]
          exact World.cell?_of_block (w := w.alloc tmp) (a := ⟨b, o + j, none⟩) (hg.block b hb hne)
        · exact .inl h0
    · rcases hF b o e with hne | h0
      · rcases hV.sl.2 with h0 | ⟨b', o', e', hb, _⟩
        · exact .inr h0
        · rw [e'] at e
          cases e
          rcases hat with h1 | h1
          · rw [h1]; exact .inl hne
          · rw [h1]
            refine .inl fun e2 => ?_
            have := Option.some.inj e2
            omega
      · exact .inr h0
  refine ⟨by rw [List.length_append, gcells_append]; exact hown, fun r hr => ?_, fun r hr => ?_⟩
  · rcases List.mem_append.1 hr with hr | hr
    · exact (key r (h.ok r hr) (h.far r hr)).1
    · rw [List.mem_singleton.1 hr]; exact (key x hx hf).1
  · rcases List.mem_append.1 hr with hr | hr
    · exact (key r (h.ok r hr) (h.far r hr)).2
    · rw [List.mem_singleton.1 hr]; exact (key x hx hf).2
theorem OutG.ga {w : World} {base : Nat} {vo : Value} {rs : List Sw} (h : OutG w base vo rs) : ∃ ao cap, vo = .slice ao rs.length cap ∧ GA w ao rs.length cap rs := GA.of_own h.own h.ok
end Go.Proofs.Ytnjcoejnknpfoaa
