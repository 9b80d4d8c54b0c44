/-
  A map[string][]OwnerRule of the call's own: each element is held as it is.
-/
import Derived.Test.YtefehgdckmajiaaGreatDoorGrpK
import Derived.Test.YtefehgdckmajiaaGreatDoorRdLay
namespace Go.Proofs.YtefehgdckmajiaaGreatDoor
open Go.RowKit

/-- An element as it is. -/
def heldR (v : Value) : Option (DataW Value × List MemPlace) := some (.held v, [])
/-- An entry: the path, the slice, what it reads as. -/
abbrev En := ByteArray × SV × List Rl
def mapD (T : List En) : DataW Value := T.foldl (fun D t => D.put (keyS t.1) (.held (slv t.2.1))) (.map [])
theorem mapD_snoc (T : List En) (t : En) : mapD (T ++ [t]) = (mapD T).put (keyS t.1) (.held (slv t.2.1)) := by simp [mapD]
theorem mapD_map (T : List En) : Maps.IsMap (mapD T) := by
  unfold mapD
  have : ∀ (l : List En) (D : DataW Value), Maps.IsMap D → Maps.IsMap (l.foldl (fun D t => D.put (keyS t.1) (.held (slv t.2.1))) D) := by
    intro l
    induction l with
    | nil => intro D h; exact h
    | cons c l ih => intro D h; exact ih _ (h.put _ _)
  exact this T _ Maps.isMap_empty
/-- The entry of a path: the last one. -/
def entryOf (T : List En) (x : ByteArray) : SV × List Rl := T.foldl (fun a t => if t.1 = x then t.2 else a) (nv, [])
theorem entryOf_snoc (T : List En) (t : En) (x : ByteArray) : entryOf (T ++ [t]) x = if t.1 = x then t.2 else entryOf T x := by simp [entryOf]
/-- The rules of a path. -/
def rulesAt (R : List (ByteArray × List Rl)) (x : ByteArray) : List Rl := R.foldl (fun a t => if t.1 = x then t.2 else a) []
theorem entryOf_rules (T : List En) (x : ByteArray) : (entryOf T x).2 = rulesAt (T.map fun t => (t.1, t.2.2)) x := by
  unfold entryOf rulesAt
  suffices h : ∀ (a : SV × List Rl) (b : List Rl), a.2 = b → (T.foldl (fun a t => if t.1 = x then t.2 else a) a).2 = (T.map fun t => (t.1, t.2.2)).foldl (fun a t => if t.1 = x then t.2 else a) b from h _ _ rfl
  induction T with
  | nil => intro a b h; exact h
  | cons t T ih =>
    intro a b h
    rw [List.foldl_cons, List.map_cons, List.foldl_cons]
    apply ih
    show (if t.1 = x then t.2 else a).2 = if t.1 = x then t.2.2 else b
    split
    · rfl
    · exact h
theorem entryOf_mem (T : List En) (x : ByteArray) : entryOf T x = (nv, []) ∨ ∃ t ∈ T, t.2 = entryOf T x := by
  suffices h : ∀ n (T : List En), T.length = n → (entryOf T x = (nv, []) ∨ ∃ t ∈ T, t.2 = entryOf T x) from h _ T rfl
  intro n
  induction n with
  | zero =>
    intro T h
    obtain rfl := List.eq_nil_of_length_eq_zero h
    exact .inl rfl
  | succ n ih =>
    intro T h
    have hne : T ≠ [] := by rintro rfl; cases h
    rw [← List.dropLast_concat_getLast hne, entryOf_snoc]
    split
    · exact .inr ⟨_, by simp, rfl⟩
    · rcases ih T.dropLast (by simp [h]) with h1 | ⟨t, ht, h1⟩
      · exact .inl h1
      · exact .inr ⟨t, by simp [ht], h1⟩
theorem mapD_at (T : List En) (x : ByteArray) : (mapD T).atKey (keyS x) (.held (.slice none 0 0)) = .held (slv (entryOf T x).1) := by
  suffices h : ∀ n (T : List En), T.length = n → (mapD T).atKey (keyS x) (.held (.slice none 0 0)) = .held (slv (entryOf T x).1) from h _ T rfl
  intro n
  induction n with
  | zero =>
    intro T h
    obtain rfl := List.eq_nil_of_length_eq_zero h
    rfl
  | succ n ih =>
    intro T h
    have hne : T ≠ [] := by rintro rfl; cases h
    rw [← List.dropLast_concat_getLast hne, mapD_snoc, entryOf_snoc]
    have hl : T.dropLast.length = n := by simp [h]
    by_cases e : (T.getLast hne).1 = x
    · rw [← e, Maps.atKey_put_same (mapD_map _) (keyS_key _), if_pos rfl]
    · rw [Maps.atKey_put_other (fun h => e (keyS_inj h).symm), ih _ hl, if_neg e]
/-- Block b is a map of the rules R, which lie in blocks of c. -/
def OwnMap (c : Nat → Prop) (w : World) (b n : Nat) (R : List (ByteArray × List Rl)) : Prop :=
  ∃ T : List En, (T.map fun t => (t.1, t.2.2)) = R ∧ w.ownsMap Tryz.prog 9 heldR b n (mapD T) ∧ ∀ t ∈ T, RS c w t.2.1 t.2.2
theorem OwnMap.below {c : Nat → Prop} {w w' : World} {b n : Nat} {R : List (ByteArray × List Rl)} (h : OwnMap c w b n R) (hb : Below w.heap.size w w') : OwnMap c w' b n R := by
  obtain ⟨T, h1, h2, h3⟩ := h
  exact ⟨T, h1, World.ownsMap.kept (row := none) h2 ⟨hb.os, hb.tape, hb.output, hb.size, fun k hk _ => hb.block k hk⟩ (by simp), fun t ht => (h3 t ht).keep (KeepC.below hb)⟩
theorem zero_rules (w : World) : (zeroValue 92).run Tryz.prog w = .ok (.slice none 0 0) w := by kernel_rfl
theorem OwnMap.look {c : Nat → Prop} {w : World} {b n : Nat} {R : List (ByteArray × List Rl)} (h : OwnMap c w b n R) (x : ByteArray) (hx : x.size ≤ maxLen) :
    ∃ v : SV, (Instr.lookup 65 (.map (some b)) (.string x) false).run Tryz.prog w = .ok (slv v) w ∧ RS c w v (rulesAt R x) := by
  obtain ⟨T, rfl, h2, h3⟩ := h
  obtain ⟨v, ps, hrun, hv⟩ := World.ownsMap.lookup h2 (Maps.string_keyed Tryz.underlying9) Tryz.underlying65 (zero_rules w) (zd := .held (.slice none 0 0)) (zp := []) rfl (WideMaps.keyOf_string_mk Tryz.underlying9 hx)
  have := mapD_at T x
  rw [keyS] at this
  rw [this] at hv
  unfold heldR at hv
  simp only [Option.some.injEq, Prod.mk.injEq, DataW.held.injEq] at hv
  refine ⟨(entryOf T x).1, by rw [hrun, hv.1], ?_⟩
  rw [← entryOf_rules]
  rcases entryOf_mem T x with h1 | ⟨t, ht, h1⟩
  · rw [h1]
    exact RS.nil _ _
  · rw [← h1]
    exact h3 t ht
theorem OwnMap.lookB {c : Nat → Prop} {w w' : World} {b n : Nat} {R : List (ByteArray × List Rl)} (h : OwnMap c w b n R) (hb : Below w.heap.size w w') (x : ByteArray) (hx : x.size ≤ maxLen) :
    ∃ v : SV, (Instr.lookup 65 (.map (some b)) (.string x) false).run Tryz.prog w' = .ok (slv v) w' ∧ RS c w v (rulesAt R x) := by
  obtain ⟨T, rfl, h2, h3⟩ := h
  obtain ⟨v, ps, hrun, hv⟩ := World.ownsMap.lookup (World.ownsMap.kept (row := none) h2 ⟨hb.os, hb.tape, hb.output, hb.size, fun k hk _ => hb.block k hk⟩ (by simp)) (Maps.string_keyed Tryz.underlying9) Tryz.underlying65 (zero_rules w') (zd := .held (.slice none 0 0)) (zp := []) rfl (WideMaps.keyOf_string_mk Tryz.underlying9 hx)
  have := mapD_at T x
  rw [keyS] at this
  rw [this] at hv
  unfold heldR at hv
  simp only [Option.some.injEq, Prod.mk.injEq, DataW.held.injEq] at hv
  refine ⟨(entryOf T x).1, by rw [hrun, hv.1], ?_⟩
  rw [← entryOf_rules]
  rcases entryOf_mem T x with h1 | ⟨t, ht, h1⟩
  · rw [h1]
    exact RS.nil _ _
  · rw [← h1]
    exact h3 t ht
end Go.Proofs.YtefehgdckmajiaaGreatDoor
