/-
  The answers of a simulation: a map from the texts of the sets.
-/
import Derived.Maps.OwnOps
import Derived.Maps.OwnSet
import Derived.Maps.Views
import Derived.Test.YtnjcoejnknpfoaaMinPlain
namespace Go.Proofs.Ytnjcoejnknpfoaa
open Go.RowKit
theorem kstr : Maps.Keyed Try.prog 9 := Maps.string_keyed Try.underlying9
theorem zero_bool (w : World) : (zeroValue 4).run Try.prog w = .ok (.bool false) w := by kernel_rfl
def keyT (s : List Int) : Lit := .string (bytesI s)
theorem keyT_key (s : List Int) : WideAt.IsKeyLit (keyT s) := by exact True.intro
theorem keyT_inj {s t : List Int} (hs : InR s) (ht : InR t) (h : keyT s = keyT t) : s = t := bytesI_inj hs ht (by simpa [keyT] using h)
theorem bytesI_length (s : List Int) : (bytesI s).length = s.length := by simp [bytesI]
theorem key_ofT {s : List Int} (h : s.length ≤ 1000000) : keyOf Try.prog 9 (.string (bstr (bytesI s))) = some (keyT s) := by
  have := WideMaps.keyOf_string_mk (P := Try.prog) (s := bstr (bytesI s)) Try.underlying9 (by show (bytesI s).toArray.size ≤ _; simp [bytesI_length, maxLen]; omega)
  simpa [keyT] using this
theorem plainElem_bool_inv {P : Program} {e : TypeId} (he : P.underlying e = some .bool) {v : Value} {z : DataW Unit × List MemPlace} (h : plainElem P e v = some z) : ∃ x, v = .bool x ∧ z = (.lit (.bool x), []) := by
  unfold plainElem at h
  rw [he] at h
  cases v <;> simp at h
  exact ⟨_, rfl, h.symm⟩
/-- What the map of answers holds. -/
structure KnOf (D : DataW Unit) (kn : List Kn) : Prop where
  map : Maps.IsMap D
  has : ∀ s, InR s → Maps.has D (keyT s) = (lookL kn s).isSome
  at_ : ∀ s, InR s → D.atKey (keyT s) (.lit (.bool false)) = .lit (.bool ((lookL kn s).getD false))
theorem KnOf.nil : KnOf (.map []) [] := ⟨Maps.isMap_empty, fun _ _ => rfl, fun _ _ => rfl⟩
theorem KnOf.put {D : DataW Unit} {kn : List Kn} (h : KnOf D kn) {s : List Int} (hs : InR s) (b : Bool) (hn : lookL kn s = none) : KnOf (D.put (keyT s) (.lit (.bool b))) (kn ++ [(s, b)]) := by
  refine ⟨h.map.put _ _, fun t ht => ?_, fun t ht => ?_⟩
  · rw [lookL_snoc]
    by_cases e : s = t
    · subst e
      rw [Maps.has_put_same h.map (keyT_key _), hn]
      simp
    · rw [Maps.has_put_other (fun hh => e (keyT_inj ht hs hh).symm), h.has t ht]
      cases lookL kn t <;> simp [e]
  · rw [lookL_snoc]
    by_cases e : s = t
    · subst e
      rw [Maps.atKey_put_same h.map (keyT_key _), hn]
      simp
    · rw [Maps.atKey_put_other (fun hh => e (keyT_inj ht hs hh).symm), h.at_ t ht]
      cases lookL kn t <;> simp [e]
/-- A simulation as it lies: u answers are used. -/
structure MS (kn : List Kn) (n mb bm u : Nat) (W : World) : Prop where
  sim : W.heap[mb]? = some (.cells #[.int .i64 n, .map (some bm), .slice none 0 0, .bool false] 66 (0, 0))
  map : ∃ D, W.ownsMap Try.prog 9 (plainElem Try.prog 4) bm u D ∧ KnOf D (kn.take u)
theorem MS.below {kn : List Kn} {n mb bm u : Nat} {W W' : World} (h : MS kn n mb bm u W) (hb : Below W.heap.size W W') : MS kn n mb bm u W' := by
  refine ⟨(hb.block _ (row_lt h.sim)).trans h.sim, ?_⟩
  obtain ⟨D, ⟨es, clock, h1, h2⟩, h3⟩ := h.map
  exact ⟨D, ⟨es, clock, (hb.block _ (Array.getElem?_eq_some_iff.1 h1).1).trans h1, h2⟩, h3⟩
theorem MS.look_ok {kn : List Kn} {n mb bm u : Nat} {W : World} (h : MS kn n mb bm u W) {s : List Int} (hr : InR s) (hl : s.length ≤ 1000000) :
    (Instr.lookup 64 (.map (some bm)) (.string (bstr (bytesI s))) true).run Try.prog W = .ok (.tuple #[.bool ((lookL (kn.take u) s).getD false), .bool (lookL (kn.take u) s).isSome]) W := by
  obtain ⟨D, ho, hk⟩ := h.map
  obtain ⟨v, ps, hrun, hv⟩ := World.ownsMap.look_ok ho kstr Try.underlying64 (zero_bool W) (plainElem_bool Try.underlying4 false) (key_ofT hl)
  obtain ⟨y, rfl, hy⟩ := plainElem_bool_inv Try.underlying4 hv
  rw [hk.at_ s hr] at hy
  simp only [Prod.mk.injEq, DataW.lit.injEq, Lit.bool.injEq] at hy
  rw [hrun, hy.1, hk.has s hr]
theorem MS.look {kn : List Kn} {n mb bm u : Nat} {W : World} (h : MS kn n mb bm u W) {s : List Int} (hr : InR s) (hl : s.length ≤ 1000000) :
    (Instr.lookup 64 (.map (some bm)) (.string (bstr (bytesI s))) false).run Try.prog W = .ok (.bool ((lookL (kn.take u) s).getD false)) W := by
  obtain ⟨D, ho, hk⟩ := h.map
  obtain ⟨v, ps, hrun, hv⟩ := World.ownsMap.lookup ho kstr Try.underlying64 (zero_bool W) (plainElem_bool Try.underlying4 false) (key_ofT hl)
  obtain ⟨y, rfl, hy⟩ := plainElem_bool_inv Try.underlying4 hv
  rw [hk.at_ s hr] at hy
  simp only [Prod.mk.injEq, DataW.lit.injEq, Lit.bool.injEq] at hy
  rw [hrun, hy.1]
theorem wpList_lookX {P : Program} (w : World) {ops : Array Oper} {rest : List Oper} {o : Oper} {a : Act} {Q : Exit → Act → World → Prop} (ok : Bool)
    (hg : o.guard = none) (m x : Operand) (t : TypeId) (hop : o.op = Op.lookup t m x ok) (v : Value) (mv xv : Value) (hm : a.eval m = mv) (hx : a.eval x = xv)
    (hrun : (Instr.lookup t mv xv ok).run P w = .ok v w) (hK : ∀ c : Value, c = v → wpList P ops Q rest (a.put o.dst c) w) : wpList P ops Q (o :: rest) a w := by
  refine wpList_plain hg fun K' hK' => ?_
  unfold Oper.wp
  simp [execOp, hop, hm, hx, hrun, Result.andThen]
  exact hK' _ _ (hK _ rfl)
end Go.Proofs.Ytnjcoejnknpfoaa
