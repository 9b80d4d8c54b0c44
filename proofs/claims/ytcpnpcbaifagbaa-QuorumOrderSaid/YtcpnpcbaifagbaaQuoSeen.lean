/-
  Ballots: a map[string]bool that the call itself has made: it reads as a set of strings.
-/
import Derived.Test.YtcpnpcbaifagbaaQuoMap
namespace Go.Proofs.Ytcpnpcbaifagbaa
open Go.RowKit
def hasS (x : ByteArray) (S : List ByteArray) : Bool := S.any fun y => decide (y = x)
theorem hasS_snoc (x c : ByteArray) (S : List ByteArray) : hasS x (S ++ [c]) = (hasS x S || decide (c = x)) := by simp [hasS]
theorem hasS_no {x : ByteArray} {S : List ByteArray} (h : hasS x S = false) : ∀ y ∈ S, y ≠ x := fun y hy e => by
  unfold hasS at h
  rw [List.any_eq_false] at h
  exact h y hy (decide_eq_true e)
/-- The set as a datum. -/
def setD (S : List ByteArray) : DataW Unit := S.foldl (fun D c => D.put (keyS c) (.lit (.bool true))) (.map [])
theorem setD_snoc (S : List ByteArray) (c : ByteArray) : setD (S ++ [c]) = (setD S).put (keyS c) (.lit (.bool true)) := by simp [setD]
theorem setD_map (S : List ByteArray) : Maps.IsMap (setD S) := by
  unfold setD
  have : ∀ (l : List ByteArray) (D : DataW Unit), Maps.IsMap D → Maps.IsMap (l.foldl (fun D c => D.put (keyS c) (.lit (.bool true))) D) := by
    intro l
    induction l with
    | nil => intro D h; exact h
    | cons c l ih => intro D h; exact ih _ (h.put _ _)
  exact this S _ Maps.isMap_empty
theorem setD_at (S : List ByteArray) (x : ByteArray) : (setD S).atKey (keyS x) (.lit (.bool false)) = .lit (.bool (hasS x S)) := by
  suffices h : ∀ n (S : List ByteArray), S.length = n → (setD S).atKey (keyS x) (.lit (.bool false)) = .lit (.bool (hasS x S)) from h _ S rfl
  intro n
  induction n with
  | zero =>
    intro S h
    obtain rfl := List.eq_nil_of_length_eq_zero h
    rfl
  | succ n ih =>
    intro S h
    have hne : S ≠ [] := by rintro rfl; cases h
    rw [← List.dropLast_concat_getLast hne, setD_snoc, hasS_snoc]
    have hl : S.dropLast.length = n := by simp [h]
    by_cases e : S.getLast hne = x
    · rw [e, Maps.atKey_put_same (setD_map _) (keyS_key _)]
      simp
    · rw [Maps.atKey_put_other (fun h => e (keyS_inj h).symm), ih _ hl]
      simp [e]
/-- Block b is a set of at most n strings. -/
def OwnSet (w : World) (b n : Nat) (S : List ByteArray) : Prop := w.ownsMap Try.prog 9 (plainElem Try.prog 4) b n (setD S)
theorem plainElem_bool_inv {P : Program} {e : TypeId} (he : P.underlying e = some .bool) {v : Value} {z : DataW Unit × List MemPlace} (h : plainElem P e v = some z) : ∃ x, v = .bool x ∧ z = (.lit (.bool x), []) := by
  unfold plainElem at h
  rw [he] at h
  cases v <;> simp at h
  exact ⟨_, rfl, h.symm⟩
theorem zero_bool (w : World) : (zeroValue 4).run Try.prog w = .ok (.bool false) w := by kernel_rfl
theorem OwnSet.look {w : World} {b n : Nat} {S : List ByteArray} (h : OwnSet w b n S) (x : ByteArray) (hx : x.size ≤ maxLen) : (Instr.lookup 38 (.map (some b)) (.string x) false).run Try.prog w = .ok (.bool (hasS x S)) w := by
  obtain ⟨v, ps, hrun, hv⟩ := World.ownsMap.lookup h (Maps.string_keyed Try.underlying9) Try.underlying38 (zero_bool w) (plainElem_bool Try.underlying4 false) (WideMaps.keyOf_string_mk Try.underlying9 hx)
  obtain ⟨y, rfl, hy⟩ := plainElem_bool_inv Try.underlying4 hv
  have := setD_at S x
  rw [keyS] at this
  rw [this] at hy
  simp only [Prod.mk.injEq, DataW.lit.injEq, Lit.bool.injEq] at hy
  rw [hrun, hy.1]
theorem wpList_look {P : Program} (w : World) {ops : Array Oper} {rest : List Oper} {o : Oper} {a : Act} {Q : Exit → Act → World → Prop}
    (hg : o.guard = none) (m x : Operand) (t : TypeId) (hop : o.op = Op.lookup t m x false) (v : Value) (mv xv : Value) (hm : a.eval m = mv) (hx : a.eval x = xv)
    (hrun : (Instr.lookup t mv xv false).run P w = .ok v w) (hK : ∀ c : Value, c = v → wpList P ops Q rest (a.put o.dst c) w) : wpList P ops Q (o :: rest) a w := by
  refine wpList_plain hg fun K' hK' => ?_
  unfold Oper.wp
  simp [execOp, hop, hm, hx, hrun, Result.andThen]
  exact hK' _ _ (hK _ rfl)
end Go.Proofs.Ytcpnpcbaifagbaa
