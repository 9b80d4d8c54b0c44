/-
  What a run of the law's keeps from round to round.
-/
import Derived.Test.YtnjcoejnknpfoaaMinTell
import Derived.Test.YtnjcoejnknpfoaaMinTraceB
import Derived.Test.YtnjcoejnknpfoaaMinBad
namespace Go.Proofs.Ytnjcoejnknpfoaa
open Go.RowKit Go.Shelf
theorem sl_set {w : World} {size n b0 j : Nat} {ao : Option Addr} {xs : List Value} {v : Value} (h : Sl w size ao n xs) (hf : ∀ b o, ao = some ⟨b, o, none⟩ → b ≠ b0) : Sl (w.setCell ⟨b0, j, none⟩ v) size ao n xs := by
  refine ⟨h.1, ?_⟩
  rcases h.2 with h0 | ⟨b, o, e, hb, hc⟩
  · exact .inl h0
  · refine .inr ⟨b, o, e, by rw [World.size_setCell]; exact hb, fun i u hu => ?_⟩
    rw [World.cell?_setCell_other _ _ _ _ (by intro e2; have := hf b o e; have := congrArg Addr.block e2; simp at this; omega)]
    exact hc i u hu
theorem ka_set {w : World} {n cap b0 j : Nat} {ao : Option Addr} {l : List Kw} {v : Value} (h : KA w ao n cap l) (hf : ∀ b o, ao = some ⟨b, o, none⟩ → b0 < b) (hq : ∀ q ∈ l, ∀ b o, q.ao = some ⟨b, o, none⟩ → b0 < b) : KA (w.setCell ⟨b0, j, none⟩ v) ao n cap l :=
  ⟨h.len, sl_set h.sl (fun b o e => by have := hf b o e; omega), h.le, h.max, h.z, fun r hr => ia_set (h.ok r hr) (hq r hr)⟩
theorem outg_set {w : World} {base b0 j : Nat} {vo : Value} {rs : List Sw} {v : Value} (h : OutG w base vo rs) (hb : b0 < base) (hq : ∀ r ∈ rs, ∀ b o, r.ao = some ⟨b, o, none⟩ → b0 < b) : OutG (w.setCell ⟨b0, j, none⟩ v) base vo rs :=
  ⟨own_cell h.own hb, fun r hr => ia_set (h.ok r hr) (hq r hr), h.far⟩
theorem sl_grown {w w' : World} {tmp : Obj} {size n : Nat} {row : Option Nat} {ao : Option Addr} {xs : List Value} (hg : (w.alloc tmp).grownBy w' row) (h : Sl w size ao n xs) (hf : ∀ b o, ao = some ⟨b, o, none⟩ → some b ≠ row ∨ n = 0) : Sl w' size ao n xs := by
  refine ⟨h.1, ?_⟩
  rcases h.2 with h0 | ⟨b, o, e, hb, hc⟩
  · exact .inl h0
  · rcases hf b o e with hne | h0
    · refine .inr ⟨b, o, e, Nat.lt_of_lt_of_le hb (Nat.le_trans (by simp) hg.size), fun i u hu => ?_⟩
      rw [← hc i u hu]
      exact (World.cell?_of_block (w := w.alloc tmp) (a := ⟨b, o + i, none⟩) (hg.block b (by simp; omega) hne)).trans (World.cell?_of_block (w := w) (a := ⟨b, o + i, none⟩) (h_old hb tmp))
    · exact .inl h0
theorem row_grown {w w' : World} {tmp o : Obj} {row : Option Nat} {k : Nat} (hg : (w.alloc tmp).grownBy w' row) (h : w.heap[k]? = some o) (hne : some k ≠ row) : w'.heap[k]? = some o := by
  have hk := (Array.getElem?_eq_some_iff.1 h).1
  exact (hg.block k (by simp; omega) hne).trans ((h_old hk tmp).trans h)
/-- The row of what was asked lies apart from what is known. -/
def FarK (v : Value) (ao : Option Addr) (lk : List Kw) : Prop :=
  ∀ g, v.ownBlock = some g → (∀ b o, ao = some ⟨b, o, none⟩ → b ≠ g ∨ lk = []) ∧ ∀ q ∈ lk, ∀ b o, q.ao = some ⟨b, o, none⟩ → b ≠ g ∨ q.vs.length = 0
/-- What a round keeps. -/
structure RunI (w : World) (b0 n : Nat) (oc : Array Value) (f : List Int → Bool) (T : List (List Int)) (i m : Nat) (v9 : Value) (ao : Option Addr) (cap : Nat) (lk : List Kw) (rs : List Sw) (wr : World) : Prop where
  b : Below w.heap.size w wr
  le0 : w.heap.size < b0
  orc : wr.heap[w.heap.size]? = some (.cells oc 42 (0, 0))
  srch : wr.heap[b0]? = some (.cells #[.int .i64 n, .slice ao i cap] 24 (0, 0))
  ka : KA wr ao i cap lk
  kn : lk.map Kw.kn = (T.take i).map (ans f)
  l20 : ∀ q ∈ lk, q.vs.length ≤ 20
  kb : ∀ b o, ao = some ⟨b, o, none⟩ → b0 < b
  kq : ∀ q ∈ lk, ∀ b o, q.ao = some ⟨b, o, none⟩ → b0 < b
  out : OutG wr (b0 + 1) v9 rs
  rq : ∀ r ∈ rs, ∀ b o, r.ao = some ⟨b, o, none⟩ → b0 < b
  rs : rs.map Sw.vs = T.take m
  far : FarK v9 ao lk
section
variable {w wr : World} {b0 n : Nat} {oc : Array Value} {f : List Int → Bool} {T : List (List Int)} {i m : Nat} {v9 : Value} {ao : Option Addr} {cap : Nat} {lk : List Kw} {rs : List Sw}
theorem RunI.below {w' : World} (h : RunI w b0 n oc f T i m v9 ao cap lk rs wr) (hb : Below wr.heap.size wr w') : RunI w b0 n oc f T i m v9 ao cap lk rs w' :=
  ⟨h.b.trans (hb.mono h.b.size), h.le0, (hb.block _ (row_lt h.orc)).trans h.orc, (hb.block _ (row_lt h.srch)).trans h.srch, h.ka.below hb, h.kn, h.l20, h.kb, h.kq, h.out.below hb, h.rq, h.rs, h.far⟩
/-- A set is put to what was asked. -/
theorem RunI.app {w' : World} {v' : Value} {x : Sw} {tmp : Obj} (h : RunI w b0 n oc f T i m v9 ao cap lk rs wr) (hown : w'.ownsRow (b0 + 1) 30 1 v' (rs.length + 1) (gcells rs ++ [swc x])) (hg : (wr.alloc tmp).grownBy w' v9.ownBlock) (hat : v'.ownBlock = v9.ownBlock ∨ v'.ownBlock = some (wr.heap.size + 1))
    (hx : IA wr x.ao x.vs.length x.cap x.vs) (hxf : ∀ b o, x.ao = some ⟨b, o, none⟩ → b0 < b ∧ (some b ≠ v9.ownBlock ∨ x.vs.length = 0)) (hxv : T[m]? = some x.vs) : RunI w b0 n oc f T i (m + 1) v' ao cap lk (rs ++ [x]) w' := by
  have hrow : ∀ g, v9.ownBlock = some g → b0 + 1 ≤ g := ownsRow_row h.out.own
  have hb0r := row_lt h.srch
  have hne : ∀ k, k ≤ b0 → some k ≠ v9.ownBlock := fun k hk e => by have := hrow k e.symm; omega
  have hbb : Below w.heap.size w w' := (h.b.alloc h.b.size _).grown hg (by have := h.b.size; simp; omega) (fun g e => by have := hrow g e; have := h.le0; omega)
  have hfar : ∀ g, v'.ownBlock = some g → v9.ownBlock = some g ∨ g = wr.heap.size + 1 := fun g e => by
    rcases hat with h1 | h1
    · exact .inl (h1 ▸ e)
    · rw [h1] at e; exact .inr (Option.some.inj e).symm
  have hak : ∀ b o, ao = some ⟨b, o, none⟩ → some b ≠ v9.ownBlock ∨ i = 0 := fun b o e => by
    cases hv : v9.ownBlock with
    | none => exact .inl (by simp)
    | some g =>
      rcases (h.far g hv).1 b o e with h1 | h1
      · exact .inl (by simpa using h1)
      · exact .inr (by rw [← h.ka.len, h1]; rfl)
  have hqk : ∀ q ∈ lk, ∀ b o, q.ao = some ⟨b, o, none⟩ → some b ≠ v9.ownBlock ∨ q.vs.length = 0 := fun q hq b o e => by
    cases hv : v9.ownBlock with
    | none => exact .inl (by simp)
    | some g =>
      rcases (h.far g hv).2 q hq b o e with h1 | h1
      · exact .inl (by simpa using h1)
      · exact .inr h1
  refine ⟨hbb, h.le0, row_grown hg h.orc (hne _ (Nat.le_of_lt h.le0)), row_grown hg h.srch (hne _ (Nat.le_refl _)),
    ⟨h.ka.len, sl_grown hg h.ka.sl hak, h.ka.le, h.ka.max, h.ka.z, fun r hr => ⟨(h.ka.ok r hr).len, sl_grown hg (h.ka.ok r hr).sl (hqk r hr), (h.ka.ok r hr).le, (h.ka.ok r hr).max, (h.ka.ok r hr).z⟩⟩,
    h.kn, h.l20, h.kb, h.kq, h.out.app hown hg hat hx (fun b o e => (hxf b o e).2), fun r hr b o e => ?_, ?_, fun g e => ⟨fun b o e2 => ?_, fun q hq b o e2 => ?_⟩⟩
  · rcases List.mem_append.1 hr with hr | hr
    · exact h.rq r hr b o e
    · rw [List.mem_singleton.1 hr] at e
      exact (hxf b o e).1
  · obtain ⟨hm, e⟩ := List.getElem?_eq_some_iff.1 hxv
    rw [List.map_append, h.rs, List.take_succ_eq_append_getElem hm, e]
    rfl
  · rcases hfar g e with h1 | h1
    · exact (h.far g h1).1 b o e2
    · rcases h.ka.sl.2 with h0 | ⟨b', o', e', hb, _⟩
      · exact .inr (List.eq_nil_of_length_eq_zero (by rw [h.ka.len, h0]))
      · rw [e'] at e2
        cases e2
        exact .inl (by omega)
  · rcases hfar g e with h1 | h1
    · exact (h.far g h1).2 q hq b o e2
    · rcases (h.ka.ok q hq).sl.2 with h0 | ⟨b', o', e', hb, _⟩
      · exact .inr h0
      · rw [e'] at e2
        cases e2
        exact .inl (by omega)
/-- The search is told an answer. -/
theorem RunI.tell {w' : World} {a' : Option Addr} {c' : Nat} {lk' : List Kw} (h : RunI w b0 n oc f T i m v9 ao cap lk rs wr) (hb : Below wr.heap.size wr w') (hka : KA w' a' (i + 1) c' lk') (hkn : lk'.map Kw.kn = (T.take (i + 1)).map (ans f)) (hl : ∀ q ∈ lk', q.vs.length ≤ 20)
    (hfa : ∀ b o, a' = some ⟨b, o, none⟩ → wr.heap.size ≤ b) (hfq' : ∀ q ∈ lk', q ∈ lk ∨ ∀ b o, q.ao = some ⟨b, o, none⟩ → wr.heap.size ≤ b) :
    RunI w b0 n oc f T (i + 1) m v9 a' c' lk' rs ((w'.setCell ⟨b0, 0, none⟩ (.int .i64 n)).setCell ⟨b0, 1, none⟩ (.slice a' (i + 1) c')) := by
  have hfq : ∀ q ∈ lk', ∀ b o, q.ao = some ⟨b, o, none⟩ → wr.heap.size ≤ b ∨ ∃ q2 ∈ lk, q2.vs.length = q.vs.length ∧ q2.ao = some ⟨b, o, none⟩ := fun q hq b o e => by
    rcases hfq' q hq with h1 | h1
    · exact .inr ⟨q, h1, rfl, e⟩
    · exact .inl (h1 b o e)
  have h2 := h.below hb
  have hb0r := row_lt h.srch
  have hkb : ∀ b o, a' = some ⟨b, o, none⟩ → b0 < b := fun b o e => by have := hfa b o e; omega
  have hkq : ∀ q ∈ lk', ∀ b o, q.ao = some ⟨b, o, none⟩ → b0 < b := fun q hq b o e => by
    rcases hfq q hq b o e with h1 | ⟨q2, h1, _, h3⟩
    · omega
    · exact h.kq q2 h1 b o h3
  refine ⟨set2_below h2.b (Nat.le_of_lt h.le0), h.le0, row_other (row_other h2.orc (by have := h.le0; omega)) (by have := h.le0; omega), set2_row h2.srch _ _, ka_set (ka_set hka hkb hkq) hkb hkq, hkn, hl, hkb, hkq, outg_set (outg_set h2.out (by omega) h2.rq) (by omega) h2.rq, h.rq, h.rs, fun g e => ⟨fun b o e2 => ?_, fun q hq b o e2 => ?_⟩⟩
  · have h1 := hfa b o e2
    have h3 := (h.out.own.lt g e).2
    exact .inl (by omega)
  · rcases hfq q hq b o e2 with h1 | ⟨q2, h1, hl2, h3⟩
    · have h3 := (h.out.own.lt g e).2
      exact .inl (by omega)
    · rw [← hl2]
      exact (h.far g e).2 q2 h1 b o h3
end
/-- Where the search is behind i answers. -/
theorem Trc.exm {f : List Int → Bool} {n : Nat} {T : List (List Int)} {R : List Int} (h : Trc f n T R) (hn : n ≤ 10) {i : Nat} (hi : i ≤ T.length) : Exm ((T.take i).map (ans f)) n ⟨0, (stAt T R i).done, (stAt T R i).set⟩ := by
  refine .inr ⟨n, stAt T R i, rfl, hn, h.leads i, ?_⟩
  rw [if_neg]
  rw [List.length_map, List.length_take, Nat.min_eq_left hi]
  unfold stAt
  split
  · simp
  · simp; omega
theorem stAt_open {T : List (List Int)} {R : List Int} {i : Nat} (h : i < T.length) : stAt T R i = ⟨T[i], false, i⟩ := by unfold stAt; rw [dif_pos h]
theorem stAt_done {T : List (List Int)} {R : List Int} : stAt T R T.length = ⟨R, true, T.length⟩ := by unfold stAt; rw [dif_neg (by omega)]
end Go.Proofs.Ytnjcoejnknpfoaa
