/-
  slices.Clone of records; ledger.Append and its reference.
-/
import Derived.Laws.OwnMore
import Derived.Laws.AppendOwnNone
import Derived.Test.YtnfekadnjblciaaLedCheck
import Derived.Test.YtnfekadnjblciaaLedHead
import Derived.Test.YtnfekadnjblciaaBox
import Derived.Test.YtnfekadnjblciaaMix
namespace Go.Proofs.Ytnfekadnjblciaa
open Go.RowKit

theorem info_rec : (Try.prog.info? 30).map (fun i => (i.zero, i.size, i.bytes)) = some (some (.agg #[.int .i64 0, .string ⟨#[]⟩, .string ⟨#[]⟩, .string ⟨#[]⟩]), 4, 56) := by kernel_rfl
theorem rcells_one (l : List Rec) : ∀ u ∈ rcells l, u.oneCell' = true := by
  intro u hu
  simp only [rcells, List.mem_flatMap] at hu
  obtain ⟨r, _, hu⟩ := hu
  simp only [List.mem_cons, List.not_mem_nil, or_false] at hu
  rcases hu with rfl | rfl | rfl | rfl <;> rfl

/-- 'append(out, xs..)', xs what a slice value reads as. -/
theorem wpList_append_slg {P : Program} {ops : Array Oper} {rest : List Oper} {o : Oper} {a : Act} {Q : Exit → Act → World → Prop} {w : World} (hgd : o.guard = none) (s x : Operand) (t : TypeId)
    (ho : o.op = .call { callee := .builtin .append, args := #[s, x], argTypes := #[t, t] })
    (base : Nat) (e : TypeId) (z : Value) (size bytes : Nat) (hinfo : (P.info? e).map (fun i => (i.zero, i.size, i.bytes)) = some (some z, size, bytes)) (ht : P.underlying t = some (.slice e)) (hzs : z.cells.size = size) (hsz : 0 < size)
    (v : Value) (n : Nat) (xs : List Value) (hown : w.ownsRow base e size v n xs) (hs : a.eval s = v)
    (ao : Option Addr) (m c : Nat) (us : List Value) (hx : a.eval x = .slice ao m c) (hsl : Sl w size ao m us) (hz : ao = none → c = 0) (h1 : ∀ u ∈ us, u.oneCell' = true)
    (h63 : n + m ≤ maxLen) (hbytes : (n + m) * bytes ≤ 140737488355328) (hbase : base ≤ w.heap.size)
    (h : ∀ v' w', w'.ownsRow base e size v' (n + m) (xs ++ us) → Below base w w' → w.grownBy w' v.ownBlock → wpList P ops Q rest (a.put o.dst v') w') : wpList P ops Q (o :: rest) a w := by
  obtain ⟨i, hi, hz0, hz1, hz2⟩ := info_parts hinfo
  cases ao with
  | none =>
    obtain rfl := hz rfl
    obtain rfl : m = 0 := by
      rcases hsl.2 with h0 | ⟨b, o, e', _⟩
      · exact h0
      · cases e'
    obtain rfl : us = [] := List.eq_nil_of_length_eq_zero (by rw [hsl.1]; simp)
    refine wpList_append_own_none hgd s x t ho base e i size ht hi v n xs hs hown hx ?_
    exact h v w (by simpa using hown) (Below.refl _ _) ⟨rfl, rfl, rfl, Nat.le_refl _, fun _ _ _ => rfl⟩
  | some ad =>
    refine wpList_append_own _ hgd s x t ho base e i z size bytes ht hi hz0 hz1 hz2 hzs hsz v n xs hs hown ad m c us hx hsl.1 ?_ h1 h63 hbytes hbase ?_
    · intro j u hu
      rcases hsl.2 with h0 | ⟨b, o', e', hlt, hc⟩
      · have := hsl.1
        rw [h0, Nat.zero_mul] at this
        rw [List.eq_nil_of_length_eq_zero this] at hu
        simp at hu
      · cases e'
        rw [Addr.add_lit]
        exact hc j u hu
    · intro v' w' hown' hg hn
      exact h v' w' hown' ((Below.refl _ _).grown hg hbase (fun k hk => ownsRow_row hown k hk)) hg

theorem wpList_append_sl {P : Program} {ops : Array Oper} {rest : List Oper} {o : Oper} {a : Act} {Q : Exit → Act → World → Prop} {w : World} (hgd : o.guard = none) (s x : Operand) (t : TypeId)
    (ho : o.op = .call { callee := .builtin .append, args := #[s, x], argTypes := #[t, t] })
    (base : Nat) (e : TypeId) (z : Value) (size bytes : Nat) (hinfo : (P.info? e).map (fun i => (i.zero, i.size, i.bytes)) = some (some z, size, bytes)) (ht : P.underlying t = some (.slice e)) (hzs : z.cells.size = size) (hsz : 0 < size)
    (v : Value) (n : Nat) (xs : List Value) (hown : w.ownsRow base e size v n xs) (hs : a.eval s = v)
    (ao : Option Addr) (m c : Nat) (us : List Value) (hx : a.eval x = .slice ao m c) (hsl : Sl w size ao m us) (hz : ao = none → c = 0) (h1 : ∀ u ∈ us, u.oneCell' = true)
    (h63 : n + m ≤ maxLen) (hbytes : (n + m) * bytes ≤ 140737488355328) (hbase : base ≤ w.heap.size)
    (h : ∀ v' w', w'.ownsRow base e size v' (n + m) (xs ++ us) → Below base w w' → wpList P ops Q rest (a.put o.dst v') w') : wpList P ops Q (o :: rest) a w := by
  exact wpList_append_slg hgd s x t ho base e z size bytes hinfo ht hzs hsz v n xs hown hs ao m c us hx hsl hz h1 h63 hbytes hbase fun v' w' p q _ => h v' w' p q

theorem run_eql_slice_nil' {P : Program} (w : World) (t e : TypeId) (a : Option Addr) (n c n' c' : Nat) (h : P.underlying t = some (.slice e)) :
    (binOp .eql t (.slice a n c) (.slice none n' c')).run P w = .ok (.bool a.isNone) w := by
  simp only [binOp]
  simp [Op.equal, Op.maxDepth, Lib.run_equalIn_slice_nil w 9999 t e a n c n' c' h]

set_option maxRecDepth 100000 in
set_option maxHeartbeats 4000000 in
theorem Clone_any (l : List Rec) (n cap : Nat) (ao : Option Addr) (w : World) (h : LedA w ao n cap l) (hz : ao = none → cap = 0) (hn : n ≤ 10000) :
    Calls Try.prog 49 #[.slice ao n cap] w fun e w' => ∃ v', e = .returned v' ∧ w'.ownsRow w.heap.size 30 4 v' n (rcells l) ∧ Below w.heap.size w w' := by
  cases ao with
  | none =>
    obtain rfl := hz rfl
    obtain rfl : n = 0 := by
      rcases h.sl.2 with h0 | ⟨b, o, e', _⟩
      · exact h0
      · cases e'
    obtain rfl : l = [] := List.eq_nil_of_length_eq_zero h.len
    clear h hz hn
    go_enter Try.func49, Try.ntmps49
    go_wp2_with fail
    rw [run_eql_slice_nil' _ _ _ _ _ _ _ _ Try.underlying22]
    go_wp2_with fail
    go_ret
    exact ⟨_, rfl, World.ownsRow_nil _ _ _ _, Below.refl _ _⟩
  | some a =>
    have HA := lid h
    clear h hz
    go_enter Try.func49, Try.ntmps49
    go_wp2_with fail
    rw [run_eql_slice_nil' _ _ _ _ _ _ _ _ Try.underlying22]
    go_wp2_with (at_builtin; go_must (refine wpList_append_sl rfl _ _ 22 rfl w.heap.size 30 (.agg #[.int .i64 0, .string ⟨#[]⟩, .string ⟨#[]⟩, .string ⟨#[]⟩]) 4 56 info_rec Try.underlying22 rfl (by decide) _ 0 [] (World.ownsRow_lit w #[] 0 (Nat.le_refl _) (by simp [maxLen]) rfl) rfl (some a) n cap (rcells l) rfl (HA.out.below (ba _ _)).sl (by intro h; cases h) (rcells_one l) (by simp [maxLen]; omega) (by omega) (by simp) ?_))
    intro v5 w5 hown5 hb5
    go_wp2_with fail
    go_ret
    refine ⟨_, rfl, ?_, (ba _ _).trans hb5⟩
    simpa using hown5

/-- Is the record older than the ledger's last? -/
def lateB (l : List Rec) (r : Rec) : Bool := match l.getLast? with | some q => decide (r.1 < q.1) | none => false
/-- The ledger with a record more. -/
def appE (l : List Rec) (r : Rec) : List Rec × Int :=
  if checkL l = 0 then (if recB r = true then (if lateB l r = true then ([], 10) else if l.length = 10000 then ([], 19) else (l ++ [r], 0)) else ([], 1)) else ([], checkL l)
theorem appE_bad {l : List Rec} {r : Rec} (h : ¬ checkL l = 0) : appE l r = ([], checkL l) := by unfold appE; rw [if_neg h]
theorem appE_rec {l : List Rec} {r : Rec} (h : checkL l = 0) (hr : recB r = false) : appE l r = ([], 1) := by unfold appE; rw [if_pos h, if_neg (by simp [hr])]
theorem appE_late {l : List Rec} {r : Rec} (h : checkL l = 0) (hr : recB r = true) (hl : lateB l r = true) : appE l r = ([], 10) := by unfold appE; rw [if_pos h, if_pos hr, if_pos hl]
theorem appE_full {l : List Rec} {r : Rec} (h : checkL l = 0) (hr : recB r = true) (hl : lateB l r = false) (hf : l.length = 10000) : appE l r = ([], 19) := by unfold appE; rw [if_pos h, if_pos hr, if_neg (by simp [hl]), if_pos hf]
theorem appE_good {l : List Rec} {r : Rec} (h : checkL l = 0) (hr : recB r = true) (hl : lateB l r = false) (hf : ¬ l.length = 10000) : appE l r = (l ++ [r], 0) := by unfold appE; rw [if_pos h, if_pos hr, if_neg (by simp [hl]), if_neg hf]
theorem lateB_nil {l : List Rec} (r : Rec) (h : l.length = 0) : lateB l r = false := by
  obtain rfl := List.eq_nil_of_length_eq_zero h
  rfl
theorem lateB_some {l : List Rec} (r : Rec) {m : Nat} (h : l.length = m + 1) (hm : m < l.length) : lateB l r = decide (r.1 < (l[m]).1) := by
  unfold lateB
  rw [List.getLast?_eq_getElem?, h, Nat.add_sub_cancel, List.getElem?_eq_getElem hm]

/-- A ledger and an errno that come back. -/
def LedR (x : List Rec × Int) (w : World) (e : Ending) (w' : World) : Prop :=
  ∃ ao' n' cap', e = .returned (.tuple #[.agg #[.slice ao' n' cap'], .int .i64 x.2]) ∧ n' ≤ cap' ∧ LedA w' ao' n' cap' x.1 ∧ Below w.heap.size w w'
theorem LedR.empty {w w' : World} {c : Int} {x : List Rec × Int} (hx : x = ([], c)) (hb : Below w.heap.size w w') : LedR x w (.returned (.tuple #[.agg #[.slice none 0 0], .int .i64 c])) w' := by
  subst hx
  exact ⟨none, 0, 0, rfl, Nat.le_refl _, ⟨rfl, Sl.nil, (by intro r hr; cases hr), by simp [maxLen]⟩, hb⟩
/-- The results as read. -/
theorem res_led {fn : Func} (hf : fn.results = #[.cell 4 24, .tmp 5]) (t : Array Value) (w : World) (k : Nat) (ao : Option Addr) (n cap : Nat) (c : Int) (h4 : t.getD 4 undef = .pointer (some ⟨k, 0, none⟩)) (h5 : t.getD 5 undef = .int .i64 c)
    (e0 : w.cell? ⟨k, 0, none⟩ = some (.slice ao n cap)) : (results fn t).run Try.prog w = .ok (.tuple #[.agg #[.slice ao n cap], .int .i64 c]) w := by
  rw [Array.getD_eq_getD_getElem?] at h4 h5
  unfold results
  rw [hf]
  simp [go_sem, h4, h5, e0, asAddr]

/-- What is known while the records are cloned and the new one is laid, in any order. -/
def RA (i j B0 : Nat) (W : World) (n : Nat) (xs : List Value) (us : Array Value) (s : Nat → Bool) (vs : List Value) (w : World) : Prop :=
  ∃ x y, vs = [x, y] ∧ Below B0 W w ∧ (s i = true → w.ownsRow B0 30 4 x n xs) ∧ (s j = true → ∃ k, y = .slice (some ⟨k, 0, none⟩) 1 1 ∧ B0 ≤ k ∧ w.heap[k]? = some (.cells us 30 (0, 0)))
section
variable {i j B0 : Nat} {W w w' : World} {n : Nat} {xs : List Value} {us : Array Value} {s : Nat → Bool} {x y : Value}
theorem RA.start (i j B0 : Nat) (W : World) (n : Nat) (xs : List Value) (us : Array Value) (s : Nat → Bool) (hi : s i = false) (hj : s j = false) : RA i j B0 W n xs us s [undef, undef] W.drew :=
  ⟨_, _, rfl, (Below.refl _ _).drew, fun h => (by rw [hi] at h; cases h), fun h => (by rw [hj] at h; cases h)⟩
theorem RA.clone (h : RA i j B0 W n xs us s [x, y] w) (hij : j ≠ i) (hB : B0 ≤ w.heap.size) {v' : Value} (hown : w'.ownsRow w.heap.size 30 4 v' n xs) (hb : Below w.heap.size w w') : RA i j B0 W n xs us (upd s i) [v', y] w' := by
  obtain ⟨_, _, e, h0, h1, h2⟩ := h
  cases e
  refine ⟨_, _, rfl, h0.trans (hb.mono hB), fun _ => ownsRow_base hown hB, fun hs => ?_⟩
  obtain ⟨k, e, hk, hc⟩ := h2 (by rwa [upd_ne _ hij] at hs)
  exact ⟨k, e, hk, (hb.block k (Array.getElem?_eq_some_iff.1 hc).1).trans hc⟩
theorem RA.lay (h : RA i j B0 W n xs us s [x, y] w) (hij : i ≠ j) (hB : B0 ≤ w.heap.size) : RA i j B0 W n xs us (upd s j) [x, .slice (some ⟨w.heap.size, 0, none⟩) 1 1] (w.alloc (.cells us 30)) := by
  obtain ⟨_, _, e, h0, h1, h2⟩ := h
  cases e
  refine ⟨_, _, rfl, h0.trans ((ba _ _).mono hB), fun hs => ownsRow_below (h1 (by rwa [upd_ne _ hij] at hs)) (ba _ _), fun _ => ⟨_, rfl, hB, heap_alloc_new w _⟩⟩
end
/-- The same for the reference: the empty slice, its copy, the new record. -/
def RB (B0 : Nat) (W : World) (n : Nat) (xs : List Value) (us : Array Value) (s : Nat → Bool) (vs : List Value) (w : World) : Prop :=
  ∃ x y z, vs = [x, y, z] ∧ Below B0 W w ∧ (s 0 = true → s 3 = false → ∃ k, x = .slice (some ⟨k, 0, none⟩) 0 0 ∧ B0 ≤ k ∧ w.heap[k]? = some (.cells #[] 30 (0, 0))) ∧ (s 3 = true → w.ownsRow B0 30 4 y n xs) ∧ (s 5 = true → ∃ k, z = .slice (some ⟨k, 0, none⟩) 1 1 ∧ B0 ≤ k ∧ w.heap[k]? = some (.cells us 30 (0, 0)))
section
variable {B0 : Nat} {W w w' : World} {n : Nat} {xs : List Value} {us : Array Value} {s : Nat → Bool} {x y z : Value}
theorem RB.start (B0 : Nat) (W : World) (n : Nat) (xs : List Value) (us : Array Value) (s : Nat → Bool) (h0 : s 0 = false) (h3 : s 3 = false) (h5 : s 5 = false) : RB B0 W n xs us s [undef, undef, undef] W.drew :=
  ⟨_, _, _, rfl, (Below.refl _ _).drew, fun h => (by rw [h0] at h; cases h), fun h => (by rw [h3] at h; cases h), fun h => (by rw [h5] at h; cases h)⟩
theorem RB.empty (h : RB B0 W n xs us s [x, y, z] w) (hB : B0 ≤ w.heap.size) : RB B0 W n xs us (upd s 0) [.slice (some ⟨w.heap.size, 0, none⟩) 0 0, y, z] (w.alloc (.cells #[] 30)) := by
  obtain ⟨_, _, _, e, h0, h1, h2, h3⟩ := h
  cases e
  refine ⟨_, _, _, rfl, h0.trans ((ba _ _).mono hB), fun _ _ => ⟨_, rfl, hB, heap_alloc_new w _⟩, fun hs => ownsRow_below (h2 (by rwa [upd_ne _ (by decide)] at hs)) (ba _ _), fun hs => ?_⟩
  obtain ⟨k, e, hk, hc⟩ := h3 (by rwa [upd_ne _ (by decide)] at hs)
  exact ⟨k, e, hk, ((ba w _).block k (Array.getElem?_eq_some_iff.1 hc).1).trans hc⟩
theorem RB.copy {k : Nat} (h : RB B0 W n xs us s [.slice (some ⟨k, 0, none⟩) 0 0, y, z] w) (hu : us.size = 4) (hk : w.heap[k]? = some (.cells #[] 30 (0, 0))) {v' : Value} (hown : w'.ownsRow B0 30 4 v' n xs) (hg : w.grownBy w' (some k)) (hb : Below B0 w w') : RB B0 W n xs us (upd s 3) [.slice (some ⟨k, 0, none⟩) 0 0, v', z] w' := by
  obtain ⟨_, _, _, e, h0, h1, h2, h3⟩ := h
  cases e
  refine ⟨_, _, _, rfl, h0.trans hb, fun _ hs => (by rw [upd_same] at hs; cases hs), fun _ => hown, fun hs => ?_⟩
  obtain ⟨q, e, hq, hc⟩ := h3 (by rwa [upd_ne _ (by decide)] at hs)
  refine ⟨q, e, hq, (hg.block q (Array.getElem?_eq_some_iff.1 hc).1 (fun e2 => ?_)).trans hc⟩
  cases e2
  rw [hk] at hc
  cases hc
  simp at hu
theorem RB.lay (h : RB B0 W n xs us s [x, y, z] w) (hB : B0 ≤ w.heap.size) : RB B0 W n xs us (upd s 5) [x, y, .slice (some ⟨w.heap.size, 0, none⟩) 1 1] (w.alloc (.cells us 30)) := by
  obtain ⟨_, _, _, e, h0, h1, h2, h3⟩ := h
  cases e
  refine ⟨_, _, _, rfl, h0.trans ((ba _ _).mono hB), fun hs ht => ?_, fun hs => ownsRow_below (h2 (by rwa [upd_ne _ (by decide)] at hs)) (ba _ _), fun _ => ⟨_, rfl, hB, heap_alloc_new w _⟩⟩
  obtain ⟨k, e, hk, hc⟩ := h1 (by rwa [upd_ne _ (by decide)] at hs) (by rwa [upd_ne _ (by decide)] at ht)
  exact ⟨k, e, hk, ((ba w _).block k (Array.getElem?_eq_some_iff.1 hc).1).trans hc⟩
theorem own_empty {k : Nat} (h : w.heap[k]? = some (.cells #[] 30 (0, 0))) (hk : B0 ≤ k) : w.ownsRow B0 30 4 (.slice (some ⟨k, 0, none⟩) 0 0) 0 [] :=
  ⟨rfl, .inr ⟨k, 0, #[], rfl, hk, h, Nat.le_refl _, by simp [maxLen], rfl, rfl⟩⟩
end
theorem sl_one {w : World} {k : Nat} {us : Array Value} {t : TypeId} (h : w.heap[k]? = some (.cells us t (0, 0))) (hu : us.size = 4) : Sl w 4 (some ⟨k, 0, none⟩) 1 us.toList := by
  refine ⟨by simpa using hu, .inr ⟨k, 0, rfl, (Array.getElem?_eq_some_iff.1 h).1, fun j u hu => ?_⟩⟩
  rw [Nat.zero_add, cell_of_row _ _ _ _ _ _ h]
  simpa using hu
theorem led_set {w : World} {base X : Nat} {n cap cap' : Nat} {ao : Option Addr} {l : List Rec} {u : Value} (h : w.ownsRow base 30 4 (.slice ao n cap) n (rcells l)) (hA : LedA w ao n cap' l) (hX : X < base) : LedA (w.setCell ⟨X, 0, none⟩ u) ao n cap' l := by
  refine ⟨hA.len, ⟨hA.sl.1, ?_⟩, hA.sizes, hA.max⟩
  rcases h.2 with ⟨e, h0⟩ | ⟨g, c, cur, e, hg, hb, _⟩
  · exact .inl h0
  · rcases hA.sl.2 with h0 | ⟨b, o, e1, hlt, hc⟩
    · exact .inl h0
    · refine .inr ⟨b, o, e1, by rw [World.size_setCell]; exact hlt, fun j u hu => ?_⟩
      have : b = g := by rw [e1] at e; cases e; rfl
      rw [World.cell?_setCell_other _ _ _ _ (by intro e2; have := congrArg Addr.block e2; simp at this; omega)]
      exact hc j u hu
theorem led_grown {w : World} {base : Nat} {v : Value} {n : Nat} {l : List Rec} (h : w.ownsRow base 30 4 v n (rcells l)) (hl : l.length = n) (hr : ∀ r ∈ l, RecS r) : ∃ ao cap, v = .slice ao n cap ∧ n ≤ cap ∧ LedA w ao n cap l := by
  obtain ⟨ao, cap, e, h1, h2, h3⟩ := Sl.of_own h
  exact ⟨ao, cap, e, h1, ⟨hl, h3, hr, Nat.le_trans h1 h2⟩⟩

set_option maxRecDepth 100000 in
set_option maxHeartbeats 16000000 in
theorem Append_any (l : List Rec) (r : Rec) (n cap : Nat) (ao : Option Addr) (w : World) (h : LedA w ao n cap l) (hz : ao = none → cap = 0) (hr : RecS r) :
    Calls Try.prog 24 #[.agg #[.slice ao n cap], rv r] w fun e w' => LedR (appE l r) w e w' := by
  obtain ⟨t, a, b, d⟩ := r
  have HN := lid h.len
  have hnm : n ≤ 9223372036854775807 := h.max
  have HZ := lid hz
  have HRS := lid hr
  obtain ⟨W, hW⟩ : ∃ W, ((w.alloc (Obj.cells #[.slice ao n cap] 24)).alloc (Obj.cells #[.int .i64 t, .string a, .string b, .string d] 30)).alloc (Obj.cells #[.slice none 0 0] 24) = W := ⟨_, rfl⟩
  have hw0 : Below w.heap.size w W := by rw [← hW]; exact (((Below.refl _ _).alloc (Nat.le_refl _) _).alloc (by simp) _).alloc (by simp <;> omega) _
  have q0 : W.cell? ⟨w.heap.size, 0, none⟩ = some (.slice ao n cap) := by rw [← hW, cell_old_at (by simp <;> omega), cell_old_at (by simp), cell_new_at rfl]; rfl
  have r0 : W.cell? ⟨w.heap.size + 1, 0, none⟩ = some (.int .i64 t) := by rw [← hW, cell_old_at (by simp), cell_new_at (by simp)]; rfl
  have r1 : W.cell? ⟨w.heap.size + 1, 1, none⟩ = some (.string a) := by rw [← hW, cell_old_at (by simp), cell_new_at (by simp)]; rfl
  have r2 : W.cell? ⟨w.heap.size + 1, 2, none⟩ = some (.string b) := by rw [← hW, cell_old_at (by simp), cell_new_at (by simp)]; rfl
  have r3 : W.cell? ⟨w.heap.size + 1, 3, none⟩ = some (.string d) := by rw [← hW, cell_old_at (by simp), cell_new_at (by simp)]; rfl
  have B0 : Boxed W (w.heap.size + 2) 24 (.slice none 0 0) := by
    rw [← hW]
    have := Boxed.new ((w.alloc (Obj.cells #[.slice ao n cap] 24)).alloc (Obj.cells #[.int .i64 t, .string a, .string b, .string d] 30)) 24 (.slice none 0 0)
    rw [World.size_alloc, World.size_alloc] at this
    exact this
  have hsz : w.heap.size + 3 = W.heap.size := by rw [← hW, World.size_alloc, World.size_alloc, World.size_alloc]
  have HW := lid hW
  have HA := lid (h.below hw0)
  clear hW h hz hr
  have m0 : w.heap.size < W.heap.size := by omega
  have m1 : w.heap.size + 1 < W.heap.size := by omega
  have m2 : w.heap.size + 2 < W.heap.size := by omega
  have CC := lid (fun w' (hb : Below W.heap.size W w') => Check_any l n cap ao w' HA.out.len (HA.out.below hb).sl HA.out.sizes HA.out.max)
  go_enter Try.func24, Try.ntmps24
  go_wp2_with fail
  rw [HW.out]
  clear HW
  (with_reducible refine (CC.out _ (Below.refl _ _)).mono ?_); rintro e w2 ⟨rfl, hb2⟩
  have hw2 := hw0.trans (hb2.mono hw0.size)
  have B2 := lid (Boxed.below B0 hb2 m2)
  replace q0 := (bc hb2 m0 0).trans q0
  replace r0 := (bc hb2 m1 0).trans r0
  replace r1 := (bc hb2 m1 1).trans r1
  replace r2 := (bc hb2 m1 2).trans r2
  replace r3 := (bc hb2 m1 3).trans r3
  replace m0 : w.heap.size < w2.heap.size := by have := hb2.size; omega
  replace m1 : w.heap.size + 1 < w2.heap.size := by have := hb2.size; omega
  replace m2 : w.heap.size + 2 < w2.heap.size := by have := hb2.size; omega
  replace HA := lid (HA.out.below hb2)
  clear CC hb2 hw0 B0 hsz
  by_cases hc : checkL l = 0
  · have HC := lid hc
    rw [hc]
    clear hc
    go_wp2_with fail
    (with_reducible refine (validRecord_any (t, a, b, d) _ HRS.out).mono ?_); rintro e w3 ⟨rfl, hb3⟩
    have hw3 := hw2.trans (hb3.mono hw2.size)
    have BX := lid (Boxed.below B2.out hb3 m2)
    replace q0 := (bc hb3 m0 0).trans q0
    replace r0 := (bc hb3 m1 0).trans r0
    replace r1 := (bc hb3 m1 1).trans r1
    replace r2 := (bc hb3 m1 2).trans r2
    replace r3 := (bc hb3 m1 3).trans r3
    have k0 : w.heap.size < w3.heap.size := by have := hb3.size; omega
    have k1 : w.heap.size + 1 < w3.heap.size := by have := hb3.size; omega
    have k2 : w.heap.size + 2 < w3.heap.size := by have := hb3.size; omega
    replace HA := lid (HA.out.below hb3)
    clear m0 m1 m2 B2 hb3 hw2
    cases hB : recB (t, a, b, d) with
    | false =>
      have HV := lid (appE_rec HC.out hB)
      clear hB
      have B3 : Boxed w3 (w.heap.size + 2) 24 (.slice none 0 0) := BX.out
      have y0 := B3.cell
      have f0 := B3.frozen
      clear q0 r0 r1 r2 r3
      go_wp2_with fail
      refine bodyPost_ret (v := .tuple #[.agg #[.slice none 0 0], .int .i64 1]) (res_led Try.results24 _ _ (w.heap.size + 2) _ _ _ _ rfl rfl ((B3.set _).cell)) rfl (LedR.empty HV.out ?_)
      exact hw3.setCell (p := ⟨w.heap.size + 2, 0, none⟩) (by show w.heap.size ≤ w.heap.size + 2; omega) _
    | true =>
      have HB := lid hB
      clear hB
      cases n with
      | zero =>
        have HLT := lid (lateB_nil (t, a, b, d) HN.out)
        have HV := lid (appE_good HC.out HB.out HLT.out (by rw [HN.out]; decide))
        go_wp2_with fail
        refine wp_region_seq (fun w' => ∃ s : Since w3.heap.size w3, w' = s.world) [(0, true), (1, true), (2, true), (3, true), (4, true), (5, true), (6, true), (7, true), (8, true), (9, true), (10, true), (11, true), (12, true), (13, true), (14, false)] (by kernel_rfl) (by kernel_rfl) (by intro c d v a w h; cases d <;> exact h) (since (Below.refl _ _).drew) ?_
        repeat (first | (refine seq_skip (by rfl) (by rfl) ?_; simp only [Act.put, List.setIfInBounds_toArray, List.set_cons_succ, List.set_cons_zero]) | (refine seq_float (by rfl) (by rfl) (by rfl) ?_; intro K hK; go_big_quiet_op; go_big_quiet_on))
        refine seq_chain (by rfl) ?_
        intro K hK
        go_wp2_with fail
        refine hK.out _ _ (since (Below.refl _ _).drew) ?_
        clear hK K
        repeat (first | (refine seq_skip (by rfl) (by rfl) ?_; simp only [Act.put, List.setIfInBounds_toArray, List.set_cons_succ, List.set_cons_zero]) | (refine seq_float (by rfl) (by rfl) (by rfl) ?_; intro K hK; go_big_quiet_op; go_big_quiet_on))
        refine seq_nil ?_
        obtain ⟨W4, hW4⟩ : ∃ W4, w3.drew = W4 := ⟨_, rfl⟩
        have hw4 : Below w.heap.size w W4 := by rw [← hW4]; exact hw3.drew
        have BX := lid (show Boxed W4 (w.heap.size + 2) 24 (.slice none 0 0) by rw [← hW4]; exact BX.out)
        replace q0 : W4.cell? ⟨w.heap.size, 0, none⟩ = some (.slice ao 0 cap) := by rw [← hW4]; exact q0
        replace r0 : W4.cell? ⟨w.heap.size + 1, 0, none⟩ = some (.int .i64 t) := by rw [← hW4]; exact r0
        replace r1 : W4.cell? ⟨w.heap.size + 1, 1, none⟩ = some (.string a) := by rw [← hW4]; exact r1
        replace r2 : W4.cell? ⟨w.heap.size + 1, 2, none⟩ = some (.string b) := by rw [← hW4]; exact r2
        replace r3 : W4.cell? ⟨w.heap.size + 1, 3, none⟩ = some (.string d) := by rw [← hW4]; exact r3
        replace k0 : w.heap.size < W4.heap.size := by rw [← hW4]; exact k0
        replace k1 : w.heap.size + 1 < W4.heap.size := by rw [← hW4]; exact k1
        replace k2 : w.heap.size + 2 < W4.heap.size := by rw [← hW4]; exact k2
        replace HA : Hid (LedA W4 ao 0 cap l) := lid (by rw [← hW4]; exact HA.out.below (Below.refl _ _).drew)
        rw [hW4]
        clear hW4 hw3
        have hn10 : 0 ≤ 10000 := by have := check_len HC.out; rw [HN.out] at this; exact this
        go_wp2_with fail
        have c0 := SinceX.cell (B := W4.heap.size) (X := w.heap.size + 2) (W := W4) w.heap.size 0 k0 (by omega) q0
        have d0 := SinceX.cell (B := W4.heap.size) (X := w.heap.size + 2) (W := W4) (w.heap.size + 1) 0 k1 (by omega) r0
        have d1 := SinceX.cell (B := W4.heap.size) (X := w.heap.size + 2) (W := W4) (w.heap.size + 1) 1 k1 (by omega) r1
        have d2 := SinceX.cell (B := W4.heap.size) (X := w.heap.size + 2) (W := W4) (w.heap.size + 1) 2 k1 (by omega) r2
        have d3 := SinceX.cell (B := W4.heap.size) (X := w.heap.size + 2) (W := W4) (w.heap.size + 1) 3 k1 (by omega) r3
        clear q0 r0 r1 r2 r3
        have CL := lid (fun w1 (hb : Below W4.heap.size W4 w1) => Clone_any l 0 cap ao w1 (HA.out.below hb) HZ.out hn10)
        refine wp_region_mix (fun w' => ∃ s : SinceX W4.heap.size (w.heap.size + 2) W4, w' = s.world) [(0, true), (1, true), (3, true)] [(2, []), (4, [])] [(5, false), (6, true), (7, false), (8, false)] (by kernel_rfl) (by kernel_rfl) (by intro c d v a w h; cases d <;> exact h) (sincex (KeptX.refl _ _ _).drew) ?_
        repeat (first | (refine seq_skip (by rfl) (by rfl) ?_; simp only [Act.put, List.setIfInBounds_toArray, List.set_cons_succ, List.set_cons_zero]) | (refine seq_float (by rfl) (by rfl) (by rfl) ?_; intro K hK; go_big_quiet_op; go_big_quiet_on))
        refine seq_nil (mix_go [44, 46] [undef, undef] (RA 2 4 W4.heap.size W4 0 (rcells l) #[.int .i64 t, .string a, .string b, .string d]) rfl (by simp only [putAll, Act.put, List.setIfInBounds_toArray, List.set_cons_succ, List.set_cons_zero]) (fun s h => RA.start _ _ _ _ _ _ _ s (h (2, []) (by simp)) (h (4, []) (by simp))) ⟨?_, ?_, trivial⟩ ?_)
        · intro s vs w1 _ _ _ _ hR
          have hR' := lid hR
          obtain ⟨x, y, rfl, hB1, hx, hy⟩ := hR
          simp only [putAll, Act.put, List.setIfInBounds_toArray, List.set_cons_succ, List.set_cons_zero]
          refine mix_op (by rfl) ?_
          intro K hK
          go_wp2_with fail
          (with_reducible refine (CL.out _ hB1).mono ?_); rintro e w2 ⟨v', rfl, hown, hb2⟩
          go_wp2_with fail
          exact hK.out _ _ ⟨sincex ((KeptX.refl _ _ _).below (hB1.trans (hb2.mono hB1.size))), [v', y], rfl, by simp only [putAll, Act.put, List.setIfInBounds_toArray, List.set_cons_succ, List.set_cons_zero], hR'.out.clone (by decide) hB1.size hown hb2⟩
        · intro s vs w1 _ _ _ _ hR
          have hR' := lid hR
          obtain ⟨x, y, rfl, hB1, hx, hy⟩ := hR
          simp only [putAll, Act.put, List.setIfInBounds_toArray, List.set_cons_succ, List.set_cons_zero]
          refine mix_op (by rfl) ?_
          intro K hK
          go_wp2_with fail
          exact hK.out _ _ ⟨sincex ((KeptX.refl _ _ _).below (hB1.trans ((ba _ _).mono hB1.size))), [x, .slice (some ⟨w1.heap.size, 0, none⟩) 1 1], rfl, by simp only [putAll, Act.put, List.setIfInBounds_toArray, List.set_cons_succ, List.set_cons_zero], hR'.out.lay (by decide) hB1.size⟩
        · intro s vs w1 _ hall _ hR
          have hR' := lid hR
          obtain ⟨x, y, rfl, hB1, hx, hy⟩ := hR
          replace hx := hx (hall (2, []) (by simp))
          replace hy := hy (hall (4, []) (by simp))
          clear hR'
          have hR := hB1
          obtain ⟨k, rfl, hk, hkc⟩ := hy
          simp only [putAll, Act.put, List.setIfInBounds_toArray, List.set_cons_succ, List.set_cons_zero]
          clear hall hR
          refine seq_chain (by rfl) ?_
          intro K hK
          go_wp2_with (at_builtin; go_must (refine wpList_append_sl rfl _ _ 22 rfl W4.heap.size 30 (.agg #[.int .i64 0, .string ⟨#[]⟩, .string ⟨#[]⟩, .string ⟨#[]⟩]) 4 56 info_rec Try.underlying22 rfl (by decide) _ _ _ hx rfl _ 1 1 #[.int .i64 t, .string a, .string b, .string d].toList rfl (sl_one hkc rfl) (by intro h; cases h) (by simp [Value.oneCell']) (by simp only [maxLen]; omega) (by omega) hB1.size ?_))
          intro v5 w5 hown5 hb5
          have hB5 := hB1.trans hb5
          have hown5' : w5.ownsRow W4.heap.size 30 4 v5 (0 + 1) (rcells (l ++ [(t, a, b, d)])) := by rw [rcells_append]; exact hown5
          clear hown5
          obtain ⟨ao5, cap5, rfl, hc5, hA5⟩ := led_grown (l := l ++ [(t, a, b, d)]) hown5' (by simp [HN.out]) (by intro r hr; rcases List.mem_append.1 hr with h | h; exact HA.out.sizes r h; rw [List.mem_singleton.1 h]; exact HRS.out)
          go_wp2_with fail
          refine hK.out _ _ (sincex ((KeptX.refl _ _ _).below hB5)) ?_
          clear hK K
          repeat (first | (refine seq_skip (by rfl) (by rfl) ?_; simp only [Act.put, List.setIfInBounds_toArray, List.set_cons_succ, List.set_cons_zero]) | (refine seq_float (by rfl) (by rfl) (by rfl) ?_; intro K hK; go_big_quiet_op; go_big_quiet_on))
          have B5 : Boxed w5 (w.heap.size + 2) 24 (.slice none 0 0) := Boxed.below BX.out hB5 k2
          have y0 := B5.cell
          have f0 := B5.frozen
          refine seq_chain (by rfl) ?_
          intro K hK
          go_wp2_with fail
          obtain ⟨W6, hW6⟩ : ∃ W6, w5.setCell ⟨w.heap.size + 2, 0, none⟩ (.slice ao5 (0 + 1) cap5) = W6 := ⟨_, rfl⟩
          have B6 : Boxed W6 (w.heap.size + 2) 24 (.slice ao5 (0 + 1) cap5) := by rw [← hW6]; exact B5.set _
          have hX6 : KeptX W4.heap.size (w.heap.size + 2) W4 W6 := by rw [← hW6]; exact ((KeptX.refl _ _ _).below hB5).setCell (p := ⟨w.heap.size + 2, 0, none⟩) (.inl rfl) _
          have hw6 : Below w.heap.size w W6 := by rw [← hW6]; exact (hw4.trans (hB5.mono hw4.size)).setCell (p := ⟨w.heap.size + 2, 0, none⟩) (by show w.heap.size ≤ w.heap.size + 2; omega) _
          have hA6 : LedA W6 ao5 (0 + 1) cap5 (l ++ [(t, a, b, d)]) := by
            rw [← hW6]
            exact led_set hown5' hA5 k2
          rw [hW6]
          clear hW6 y0 f0 B5 hB5 hB1
          refine hK.out _ _ (sincex hX6) ?_
          clear hK K
          repeat (first | (refine seq_skip (by rfl) (by rfl) ?_; simp only [Act.put, List.setIfInBounds_toArray, List.set_cons_succ, List.set_cons_zero]) | (refine seq_float (by rfl) (by rfl) (by rfl) ?_; intro K hK; go_big_quiet_op; go_big_quiet_on))
          refine seq_chain (by rfl) ?_
          intro K hK
          go_wp2_with fail
          refine hK.out _ _ (sincex hX6) ?_
          clear hK K
          repeat (first | (refine seq_skip (by rfl) (by rfl) ?_; simp only [Act.put, List.setIfInBounds_toArray, List.set_cons_succ, List.set_cons_zero]) | (refine seq_float (by rfl) (by rfl) (by rfl) ?_; intro K hK; go_big_quiet_op; go_big_quiet_on))
          refine seq_nil ?_
          go_wp2_with fail
          refine bodyPost_ret (v := .tuple #[.agg #[.slice ao5 (0 + 1) cap5], .int .i64 0]) (res_led Try.results24 _ _ (w.heap.size + 2) _ _ _ _ rfl rfl B6.cell) rfl ⟨ao5, 0 + 1, cap5, by rw [HV.out], hc5, by rw [HV.out]; exact hA6, hw6⟩
      | succ m =>
        have hml : m < l.length := by rw [HN.out]; omega
        obtain ⟨b1, o1, rfl, hlb, hcell⟩ := HA.out.sl.at_ (k := m) (by omega)
        have x0 := hcell (m * 4 + 0) _ (rcells_at hml).1
        rw [Nat.add_zero] at x0
        have HL0 := lid (lateB_some (t, a, b, d) HN.out hml)
        obtain ⟨pt, hpt⟩ : ∃ pt, (l[m]).1 = pt := ⟨_, rfl⟩
        rw [hpt] at x0 HL0
        clear hcell hpt
        have e0 : ((m + 1 : Nat) : Int) = (m : Int) + 1 := by omega
        have hpos : decide ((0 : Int) < (m : Int) + 1) = true := decide_eq_true (by omega)
        have wj : IntKind.i64.wrap (m : Int) = m := IntWalk.i64_in _ (by omega)
        have hjn1 : (m : Int) < (m : Int) + 1 := by omega
        have hjl : decide (m < m + 1) = true := by simp
        by_cases hlp : t < pt
        · have hd : decide (t < pt) = true := by simpa using hlp
          have HV := lid (appE_late HC.out HB.out (by rw [HL0.out]; exact hd))
          go_wp2_with fail
          refine wp_region_seq (fun w' => ∃ s : Since w3.heap.size w3, w' = s.world) [(0, true), (1, true), (2, true), (3, true), (4, true), (5, true), (6, true), (7, true), (8, true), (9, true), (10, true), (11, true), (12, true), (13, true), (14, false)] (by kernel_rfl) (by kernel_rfl) (by intro c d v a w h; cases d <;> exact h) (since (Below.refl _ _).drew) ?_
          repeat (first | (refine seq_skip (by rfl) (by rfl) ?_; simp only [Act.put, List.setIfInBounds_toArray, List.set_cons_succ, List.set_cons_zero]) | (refine seq_float (by rfl) (by rfl) (by rfl) ?_; intro K hK; go_big_quiet_op; go_big_quiet_on))
          refine seq_chain (by rfl) ?_
          intro K hK
          go_wp2_with fail
          refine hK.out _ _ (since (Below.refl _ _).drew) ?_
          clear hK K
          repeat (first | (refine seq_skip (by rfl) (by rfl) ?_; simp only [Act.put, List.setIfInBounds_toArray, List.set_cons_succ, List.set_cons_zero]) | (refine seq_float (by rfl) (by rfl) (by rfl) ?_; intro K hK; go_big_quiet_op; go_big_quiet_on))
          refine seq_nil ?_
          have B3 : Boxed w3 (w.heap.size + 2) 24 (.slice none 0 0) := BX.out
          have y0 := B3.cell
          have f0 := B3.frozen
          clear q0 r0 r1 r2 r3
          go_wp2_with fail
          refine bodyPost_ret (v := .tuple #[.agg #[.slice none 0 0], .int .i64 10]) (res_led Try.results24 _ _ (w.heap.size + 2) _ _ _ _ rfl rfl ((B3.set _).cell)) rfl (LedR.empty HV.out ?_)
          exact hw3.drew.setCell (p := ⟨w.heap.size + 2, 0, none⟩) (by show w.heap.size ≤ w.heap.size + 2; omega) _
        · have hd : decide (t < pt) = false := by simpa using hlp
          have HLT : Hid (lateB l (t, a, b, d) = false) := lid (by rw [HL0.out]; exact hd)
          go_wp2_with fail
          refine wp_region_seq (fun w' => ∃ s : Since w3.heap.size w3, w' = s.world) [(0, true), (1, true), (2, true), (3, true), (4, true), (5, true), (6, true), (7, true), (8, true), (9, true), (10, true), (11, true), (12, true), (13, true), (14, false)] (by kernel_rfl) (by kernel_rfl) (by intro c d v a w h; cases d <;> exact h) (since (Below.refl _ _).drew) ?_
          repeat (first | (refine seq_skip (by rfl) (by rfl) ?_; simp only [Act.put, List.setIfInBounds_toArray, List.set_cons_succ, List.set_cons_zero]) | (refine seq_float (by rfl) (by rfl) (by rfl) ?_; intro K hK; go_big_quiet_op; go_big_quiet_on))
          refine seq_chain (by rfl) ?_
          intro K hK
          go_wp2_with fail
          refine hK.out _ _ (since (Below.refl _ _).drew) ?_
          clear hK K
          repeat (first | (refine seq_skip (by rfl) (by rfl) ?_; simp only [Act.put, List.setIfInBounds_toArray, List.set_cons_succ, List.set_cons_zero]) | (refine seq_float (by rfl) (by rfl) (by rfl) ?_; intro K hK; go_big_quiet_op; go_big_quiet_on))
          refine seq_nil ?_
          obtain ⟨W4, hW4⟩ : ∃ W4, w3.drew = W4 := ⟨_, rfl⟩
          have hw4 : Below w.heap.size w W4 := by rw [← hW4]; exact hw3.drew
          have BX := lid (show Boxed W4 (w.heap.size + 2) 24 (.slice none 0 0) by rw [← hW4]; exact BX.out)
          replace q0 : W4.cell? ⟨w.heap.size, 0, none⟩ = some (.slice (some ⟨b1, o1, none⟩) (m + 1) cap) := by rw [← hW4]; exact q0
          replace r0 : W4.cell? ⟨w.heap.size + 1, 0, none⟩ = some (.int .i64 t) := by rw [← hW4]; exact r0
          replace r1 : W4.cell? ⟨w.heap.size + 1, 1, none⟩ = some (.string a) := by rw [← hW4]; exact r1
          replace r2 : W4.cell? ⟨w.heap.size + 1, 2, none⟩ = some (.string b) := by rw [← hW4]; exact r2
          replace r3 : W4.cell? ⟨w.heap.size + 1, 3, none⟩ = some (.string d) := by rw [← hW4]; exact r3
          replace k0 : w.heap.size < W4.heap.size := by rw [← hW4]; exact k0
          replace k1 : w.heap.size + 1 < W4.heap.size := by rw [← hW4]; exact k1
          replace k2 : w.heap.size + 2 < W4.heap.size := by rw [← hW4]; exact k2
          replace HA : Hid (LedA W4 (some ⟨b1, o1, none⟩) (m + 1) cap l) := lid (by rw [← hW4]; exact HA.out.below (Below.refl _ _).drew)
          rw [hW4]
          clear hW4 hw3
          by_cases hf : (m + 1) = 10000
          · have HV := lid (appE_full HC.out HB.out HLT.out (by rw [HN.out]; exact hf))
            have df : ((m : Int) + 1 == 10000) = true := by simp; omega
            clear hf
            have B4 : Boxed W4 (w.heap.size + 2) 24 (.slice none 0 0) := BX.out
            have y0 := B4.cell
            have f0 := B4.frozen
            clear q0 r0 r1 r2 r3
            go_wp2_with fail
            refine bodyPost_ret (v := .tuple #[.agg #[.slice none 0 0], .int .i64 19]) (res_led Try.results24 _ _ (w.heap.size + 2) _ _ _ _ rfl rfl ((B4.set _).cell)) rfl (LedR.empty HV.out ?_)
            exact hw4.setCell (p := ⟨w.heap.size + 2, 0, none⟩) (by show w.heap.size ≤ w.heap.size + 2; omega) _
          · have HV := lid (appE_good HC.out HB.out HLT.out (by rw [HN.out]; exact hf))
            have df : ((m : Int) + 1 == 10000) = false := by simp; omega
            have hn10 : (m + 1) ≤ 10000 := by have := check_len HC.out; rw [HN.out] at this; exact this
            clear hf
            go_wp2_with fail
            have c0 := SinceX.cell (B := W4.heap.size) (X := w.heap.size + 2) (W := W4) w.heap.size 0 k0 (by omega) q0
            have d0 := SinceX.cell (B := W4.heap.size) (X := w.heap.size + 2) (W := W4) (w.heap.size + 1) 0 k1 (by omega) r0
            have d1 := SinceX.cell (B := W4.heap.size) (X := w.heap.size + 2) (W := W4) (w.heap.size + 1) 1 k1 (by omega) r1
            have d2 := SinceX.cell (B := W4.heap.size) (X := w.heap.size + 2) (W := W4) (w.heap.size + 1) 2 k1 (by omega) r2
            have d3 := SinceX.cell (B := W4.heap.size) (X := w.heap.size + 2) (W := W4) (w.heap.size + 1) 3 k1 (by omega) r3
            clear q0 r0 r1 r2 r3
            have CL := lid (fun w1 (hb : Below W4.heap.size W4 w1) => Clone_any l (m + 1) cap (some ⟨b1, o1, none⟩) w1 (HA.out.below hb) HZ.out hn10)
            refine wp_region_mix (fun w' => ∃ s : SinceX W4.heap.size (w.heap.size + 2) W4, w' = s.world) [(0, true), (1, true), (3, true)] [(2, []), (4, [])] [(5, false), (6, true), (7, false), (8, false)] (by kernel_rfl) (by kernel_rfl) (by intro c d v a w h; cases d <;> exact h) (sincex (KeptX.refl _ _ _).drew) ?_
            repeat (first | (refine seq_skip (by rfl) (by rfl) ?_; simp only [Act.put, List.setIfInBounds_toArray, List.set_cons_succ, List.set_cons_zero]) | (refine seq_float (by rfl) (by rfl) (by rfl) ?_; intro K hK; go_big_quiet_op; go_big_quiet_on))
            refine seq_nil (mix_go [44, 46] [undef, undef] (RA 2 4 W4.heap.size W4 (m + 1) (rcells l) #[.int .i64 t, .string a, .string b, .string d]) rfl (by simp only [putAll, Act.put, List.setIfInBounds_toArray, List.set_cons_succ, List.set_cons_zero]) (fun s h => RA.start _ _ _ _ _ _ _ s (h (2, []) (by simp)) (h (4, []) (by simp))) ⟨?_, ?_, trivial⟩ ?_)
            · intro s vs w1 _ _ _ _ hR
              have hR' := lid hR
              obtain ⟨x, y, rfl, hB1, hx, hy⟩ := hR
              simp only [putAll, Act.put, List.setIfInBounds_toArray, List.set_cons_succ, List.set_cons_zero]
              refine mix_op (by rfl) ?_
              intro K hK
              go_wp2_with fail
              (with_reducible refine (CL.out _ hB1).mono ?_); rintro e w2 ⟨v', rfl, hown, hb2⟩
              go_wp2_with fail
              exact hK.out _ _ ⟨sincex ((KeptX.refl _ _ _).below (hB1.trans (hb2.mono hB1.size))), [v', y], rfl, by simp only [putAll, Act.put, List.setIfInBounds_toArray, List.set_cons_succ, List.set_cons_zero], hR'.out.clone (by decide) hB1.size hown hb2⟩
            · intro s vs w1 _ _ _ _ hR
              have hR' := lid hR
              obtain ⟨x, y, rfl, hB1, hx, hy⟩ := hR
              simp only [putAll, Act.put, List.setIfInBounds_toArray, List.set_cons_succ, List.set_cons_zero]
              refine mix_op (by rfl) ?_
              intro K hK
              go_wp2_with fail
              exact hK.out _ _ ⟨sincex ((KeptX.refl _ _ _).below (hB1.trans ((ba _ _).mono hB1.size))), [x, .slice (some ⟨w1.heap.size, 0, none⟩) 1 1], rfl, by simp only [putAll, Act.put, List.setIfInBounds_toArray, List.set_cons_succ, List.set_cons_zero], hR'.out.lay (by decide) hB1.size⟩
            · intro s vs w1 _ hall _ hR
              have hR' := lid hR
              obtain ⟨x, y, rfl, hB1, hx, hy⟩ := hR
              replace hx := hx (hall (2, []) (by simp))
              replace hy := hy (hall (4, []) (by simp))
              clear hR'
              have hR := hB1
              obtain ⟨k, rfl, hk, hkc⟩ := hy
              simp only [putAll, Act.put, List.setIfInBounds_toArray, List.set_cons_succ, List.set_cons_zero]
              clear hall hR
              refine seq_chain (by rfl) ?_
              intro K hK
              go_wp2_with (at_builtin; go_must (refine wpList_append_sl rfl _ _ 22 rfl W4.heap.size 30 (.agg #[.int .i64 0, .string ⟨#[]⟩, .string ⟨#[]⟩, .string ⟨#[]⟩]) 4 56 info_rec Try.underlying22 rfl (by decide) _ _ _ hx rfl _ 1 1 #[.int .i64 t, .string a, .string b, .string d].toList rfl (sl_one hkc rfl) (by intro h; cases h) (by simp [Value.oneCell']) (by simp only [maxLen]; omega) (by omega) hB1.size ?_))
              intro v5 w5 hown5 hb5
              have hB5 := hB1.trans hb5
              have hown5' : w5.ownsRow W4.heap.size 30 4 v5 ((m + 1) + 1) (rcells (l ++ [(t, a, b, d)])) := by rw [rcells_append]; exact hown5
              clear hown5
              obtain ⟨ao5, cap5, rfl, hc5, hA5⟩ := led_grown (l := l ++ [(t, a, b, d)]) hown5' (by simp [HN.out]) (by intro r hr; rcases List.mem_append.1 hr with h | h; exact HA.out.sizes r h; rw [List.mem_singleton.1 h]; exact HRS.out)
              go_wp2_with fail
              refine hK.out _ _ (sincex ((KeptX.refl _ _ _).below hB5)) ?_
              clear hK K
              repeat (first | (refine seq_skip (by rfl) (by rfl) ?_; simp only [Act.put, List.setIfInBounds_toArray, List.set_cons_succ, List.set_cons_zero]) | (refine seq_float (by rfl) (by rfl) (by rfl) ?_; intro K hK; go_big_quiet_op; go_big_quiet_on))
              have B5 : Boxed w5 (w.heap.size + 2) 24 (.slice none 0 0) := Boxed.below BX.out hB5 k2
              have y0 := B5.cell
              have f0 := B5.frozen
              refine seq_chain (by rfl) ?_
              intro K hK
              go_wp2_with fail
              obtain ⟨W6, hW6⟩ : ∃ W6, w5.setCell ⟨w.heap.size + 2, 0, none⟩ (.slice ao5 ((m + 1) + 1) cap5) = W6 := ⟨_, rfl⟩
              have B6 : Boxed W6 (w.heap.size + 2) 24 (.slice ao5 ((m + 1) + 1) cap5) := by rw [← hW6]; exact B5.set _
              have hX6 : KeptX W4.heap.size (w.heap.size + 2) W4 W6 := by rw [← hW6]; exact ((KeptX.refl _ _ _).below hB5).setCell (p := ⟨w.heap.size + 2, 0, none⟩) (.inl rfl) _
              have hw6 : Below w.heap.size w W6 := by rw [← hW6]; exact (hw4.trans (hB5.mono hw4.size)).setCell (p := ⟨w.heap.size + 2, 0, none⟩) (by show w.heap.size ≤ w.heap.size + 2; omega) _
              have hA6 : LedA W6 ao5 ((m + 1) + 1) cap5 (l ++ [(t, a, b, d)]) := by
                rw [← hW6]
                exact led_set hown5' hA5 k2
              rw [hW6]
              clear hW6 y0 f0 B5 hB5 hB1
              refine hK.out _ _ (sincex hX6) ?_
              clear hK K
              repeat (first | (refine seq_skip (by rfl) (by rfl) ?_; simp only [Act.put, List.setIfInBounds_toArray, List.set_cons_succ, List.set_cons_zero]) | (refine seq_float (by rfl) (by rfl) (by rfl) ?_; intro K hK; go_big_quiet_op; go_big_quiet_on))
              refine seq_chain (by rfl) ?_
              intro K hK
              go_wp2_with fail
              refine hK.out _ _ (sincex hX6) ?_
              clear hK K
              repeat (first | (refine seq_skip (by rfl) (by rfl) ?_; simp only [Act.put, List.setIfInBounds_toArray, List.set_cons_succ, List.set_cons_zero]) | (refine seq_float (by rfl) (by rfl) (by rfl) ?_; intro K hK; go_big_quiet_op; go_big_quiet_on))
              refine seq_nil ?_
              go_wp2_with fail
              refine bodyPost_ret (v := .tuple #[.agg #[.slice ao5 ((m + 1) + 1) cap5], .int .i64 0]) (res_led Try.results24 _ _ (w.heap.size + 2) _ _ _ _ rfl rfl B6.cell) rfl ⟨ao5, (m + 1) + 1, cap5, by rw [HV.out], hc5, by rw [HV.out]; exact hA6, hw6⟩
  · have HV := lid (appE_bad (r := (t, a, b, d)) hc)
    have hc' : (checkL l != 0) = true := by simpa using hc
    have B3 : Boxed w2 (w.heap.size + 2) 24 (.slice none 0 0) := B2.out
    generalize checkL l = C at *
    clear hc
    have y0 := B3.cell
    have f0 := B3.frozen
    clear q0 r0 r1 r2 r3
    go_wp2_with fail
    refine bodyPost_ret (v := .tuple #[.agg #[.slice none 0 0], .int .i64 C]) (res_led Try.results24 _ _ (w.heap.size + 2) _ _ _ _ rfl rfl ((B3.set _).cell)) rfl (LedR.empty HV.out ?_)
    exact hw2.setCell (p := ⟨w.heap.size + 2, 0, none⟩) (by show w.heap.size ≤ w.heap.size + 2; omega) _

set_option maxRecDepth 100000 in
set_option maxHeartbeats 16000000 in
theorem refAppend_any (l : List Rec) (r : Rec) (n cap : Nat) (ao : Option Addr) (w : World) (h : LedA w ao n cap l) (hz : ao = none → cap = 0) (hr : RecS r) :
    Calls Try.prog 25 #[.agg #[.slice ao n cap], rv r] w fun e w' => LedR (appE l r) w e w' := by
  obtain ⟨t, a, b, d⟩ := r
  have HN := lid h.len
  have hnm : n ≤ 9223372036854775807 := h.max
  have HZ := lid hz
  have HRS := lid hr
  obtain ⟨W, hW⟩ : ∃ W, ((w.alloc (Obj.cells #[.slice ao n cap] 24)).alloc (Obj.cells #[.int .i64 t, .string a, .string b, .string d] 30)).alloc (Obj.cells #[.slice none 0 0] 24) = W := ⟨_, rfl⟩
  have hw0 : Below w.heap.size w W := by rw [← hW]; exact (((Below.refl _ _).alloc (Nat.le_refl _) _).alloc (by simp) _).alloc (by simp <;> omega) _
  have q0 : W.cell? ⟨w.heap.size, 0, none⟩ = some (.slice ao n cap) := by rw [← hW, cell_old_at (by simp <;> omega), cell_old_at (by simp), cell_new_at rfl]; rfl
  have r0 : W.cell? ⟨w.heap.size + 1, 0, none⟩ = some (.int .i64 t) := by rw [← hW, cell_old_at (by simp), cell_new_at (by simp)]; rfl
  have r1 : W.cell? ⟨w.heap.size + 1, 1, none⟩ = some (.string a) := by rw [← hW, cell_old_at (by simp), cell_new_at (by simp)]; rfl
  have r2 : W.cell? ⟨w.heap.size + 1, 2, none⟩ = some (.string b) := by rw [← hW, cell_old_at (by simp), cell_new_at (by simp)]; rfl
  have r3 : W.cell? ⟨w.heap.size + 1, 3, none⟩ = some (.string d) := by rw [← hW, cell_old_at (by simp), cell_new_at (by simp)]; rfl
  have B0 : Boxed W (w.heap.size + 2) 24 (.slice none 0 0) := by
    rw [← hW]
    have := Boxed.new ((w.alloc (Obj.cells #[.slice ao n cap] 24)).alloc (Obj.cells #[.int .i64 t, .string a, .string b, .string d] 30)) 24 (.slice none 0 0)
    rw [World.size_alloc, World.size_alloc] at this
    exact this
  have hsz : w.heap.size + 3 = W.heap.size := by rw [← hW, World.size_alloc, World.size_alloc, World.size_alloc]
  have HW := lid hW
  have HA := lid (h.below hw0)
  clear hW h hz hr
  have m0 : w.heap.size < W.heap.size := by omega
  have m1 : w.heap.size + 1 < W.heap.size := by omega
  have m2 : w.heap.size + 2 < W.heap.size := by omega
  have CC := lid (fun w' (hb : Below W.heap.size W w') => refCheck_any l n cap ao w' HA.out.len (HA.out.below hb).sl HA.out.sizes HA.out.max)
  go_enter Try.func25, Try.ntmps25
  go_wp2_with fail
  rw [HW.out]
  clear HW
  (with_reducible refine (CC.out _ (Below.refl _ _)).mono ?_); rintro e w2 ⟨rfl, hb2⟩
  have hw2 := hw0.trans (hb2.mono hw0.size)
  have B2 := lid (Boxed.below B0 hb2 m2)
  replace q0 := (bc hb2 m0 0).trans q0
  replace r0 := (bc hb2 m1 0).trans r0
  replace r1 := (bc hb2 m1 1).trans r1
  replace r2 := (bc hb2 m1 2).trans r2
  replace r3 := (bc hb2 m1 3).trans r3
  replace m0 : w.heap.size < w2.heap.size := by have := hb2.size; omega
  replace m1 : w.heap.size + 1 < w2.heap.size := by have := hb2.size; omega
  replace m2 : w.heap.size + 2 < w2.heap.size := by have := hb2.size; omega
  replace HA := lid (HA.out.below hb2)
  clear CC hb2 hw0 B0 hsz
  by_cases hc : checkL l = 0
  · have HC := lid hc
    rw [hc]
    clear hc
    go_wp2_with fail
    (with_reducible refine (refValid_any (t, a, b, d) _ HRS.out).mono ?_); rintro e w3 ⟨rfl, hb3⟩
    have hw3 := hw2.trans (hb3.mono hw2.size)
    have BX := lid (Boxed.below B2.out hb3 m2)
    replace q0 := (bc hb3 m0 0).trans q0
    replace r0 := (bc hb3 m1 0).trans r0
    replace r1 := (bc hb3 m1 1).trans r1
    replace r2 := (bc hb3 m1 2).trans r2
    replace r3 := (bc hb3 m1 3).trans r3
    have k0 : w.heap.size < w3.heap.size := by have := hb3.size; omega
    have k1 : w.heap.size + 1 < w3.heap.size := by have := hb3.size; omega
    have k2 : w.heap.size + 2 < w3.heap.size := by have := hb3.size; omega
    replace HA := lid (HA.out.below hb3)
    clear m0 m1 m2 B2 hb3 hw2
    cases hB : recB (t, a, b, d) with
    | false =>
      have HV := lid (appE_rec HC.out hB)
      clear hB
      have B3 : Boxed w3 (w.heap.size + 2) 24 (.slice none 0 0) := BX.out
      have y0 := B3.cell
      have f0 := B3.frozen
      clear q0 r0 r1 r2 r3
      go_wp2_with fail
      refine bodyPost_ret (v := .tuple #[.agg #[.slice none 0 0], .int .i64 1]) (res_led Try.results25 _ _ (w.heap.size + 2) _ _ _ _ rfl rfl ((B3.set _).cell)) rfl (LedR.empty HV.out ?_)
      exact hw3.setCell (p := ⟨w.heap.size + 2, 0, none⟩) (by show w.heap.size ≤ w.heap.size + 2; omega) _
    | true =>
      have HB := lid hB
      clear hB
      cases n with
      | zero =>
        have HLT := lid (lateB_nil (t, a, b, d) HN.out)
        have HV := lid (appE_good HC.out HB.out HLT.out (by rw [HN.out]; decide))
        go_wp2_with fail
        refine wp_region_seq (fun w' => ∃ s : Since w3.heap.size w3, w' = s.world) [(0, true), (1, true), (2, true), (3, true), (4, true), (5, true), (6, true), (7, true), (8, true), (9, true), (10, true), (11, true), (12, true), (13, true)] (by kernel_rfl) (by kernel_rfl) (by intro c d v a w h; cases d <;> exact h) (since (Below.refl _ _).drew) ?_
        repeat (first | (refine seq_skip (by rfl) (by rfl) ?_; simp only [Act.put, List.setIfInBounds_toArray, List.set_cons_succ, List.set_cons_zero]) | (refine seq_float (by rfl) (by rfl) (by rfl) ?_; intro K hK; go_big_quiet_op; go_big_quiet_on))
        refine seq_nil ?_
        obtain ⟨W4, hW4⟩ : ∃ W4, w3.drew = W4 := ⟨_, rfl⟩
        have hw4 : Below w.heap.size w W4 := by rw [← hW4]; exact hw3.drew
        have BX := lid (show Boxed W4 (w.heap.size + 2) 24 (.slice none 0 0) by rw [← hW4]; exact BX.out)
        replace q0 : W4.cell? ⟨w.heap.size, 0, none⟩ = some (.slice ao 0 cap) := by rw [← hW4]; exact q0
        replace r0 : W4.cell? ⟨w.heap.size + 1, 0, none⟩ = some (.int .i64 t) := by rw [← hW4]; exact r0
        replace r1 : W4.cell? ⟨w.heap.size + 1, 1, none⟩ = some (.string a) := by rw [← hW4]; exact r1
        replace r2 : W4.cell? ⟨w.heap.size + 1, 2, none⟩ = some (.string b) := by rw [← hW4]; exact r2
        replace r3 : W4.cell? ⟨w.heap.size + 1, 3, none⟩ = some (.string d) := by rw [← hW4]; exact r3
        replace k0 : w.heap.size < W4.heap.size := by rw [← hW4]; exact k0
        replace k1 : w.heap.size + 1 < W4.heap.size := by rw [← hW4]; exact k1
        replace k2 : w.heap.size + 2 < W4.heap.size := by rw [← hW4]; exact k2
        replace HA : Hid (LedA W4 ao 0 cap l) := lid (by rw [← hW4]; exact HA.out.below (Below.refl _ _).drew)
        rw [hW4]
        clear hW4 hw3
        have hn10 : 0 ≤ 10000 := by have := check_len HC.out; rw [HN.out] at this; exact this
        go_wp2_with fail
        have c0 := SinceX.cell (B := W4.heap.size) (X := w.heap.size + 2) (W := W4) w.heap.size 0 k0 (by omega) q0
        have d0 := SinceX.cell (B := W4.heap.size) (X := w.heap.size + 2) (W := W4) (w.heap.size + 1) 0 k1 (by omega) r0
        have d1 := SinceX.cell (B := W4.heap.size) (X := w.heap.size + 2) (W := W4) (w.heap.size + 1) 1 k1 (by omega) r1
        have d2 := SinceX.cell (B := W4.heap.size) (X := w.heap.size + 2) (W := W4) (w.heap.size + 1) 2 k1 (by omega) r2
        have d3 := SinceX.cell (B := W4.heap.size) (X := w.heap.size + 2) (W := W4) (w.heap.size + 1) 3 k1 (by omega) r3
        clear q0 r0 r1 r2 r3
        refine wp_region_mix (fun w' => ∃ s : SinceX W4.heap.size (w.heap.size + 2) W4, w' = s.world) [(1, true), (2, true), (4, true)] [(0, []), (3, [0]), (5, [])] [(6, false), (7, true), (8, false), (9, false)] (by kernel_rfl) (by kernel_rfl) (by intro c d v a w h; cases d <;> exact h) (sincex (KeptX.refl _ _ _).drew) ?_
        repeat (first | (refine seq_skip (by rfl) (by rfl) ?_; simp only [Act.put, List.setIfInBounds_toArray, List.set_cons_succ, List.set_cons_zero]) | (refine seq_float (by rfl) (by rfl) (by rfl) ?_; intro K hK; go_big_quiet_op; go_big_quiet_on))
        refine seq_nil (mix_go [39, 42, 44] [undef, undef, undef] (RB W4.heap.size W4 0 (rcells l) #[.int .i64 t, .string a, .string b, .string d]) rfl (by simp only [putAll, Act.put, List.setIfInBounds_toArray, List.set_cons_succ, List.set_cons_zero]) (fun s h => RB.start _ _ _ _ _ s (h (0, []) (by simp)) (h (3, [0]) (by simp)) (h (5, []) (by simp))) ⟨?_, ?_, ?_, trivial⟩ ?_)
        · intro s vs w1 _ _ _ _ hR
          have hR' := lid hR
          obtain ⟨x, y, z, rfl, hB1, hx, hy, hz⟩ := hR
          simp only [putAll, Act.put, List.setIfInBounds_toArray, List.set_cons_succ, List.set_cons_zero]
          refine mix_op (by rfl) ?_
          intro K hK
          go_wp2_with fail
          exact hK.out _ _ ⟨sincex ((KeptX.refl _ _ _).below (hB1.trans ((ba _ _).mono hB1.size))), [.slice (some ⟨w1.heap.size, 0, none⟩) 0 0, y, z], rfl, by simp only [putAll, Act.put, List.setIfInBounds_toArray, List.set_cons_succ, List.set_cons_zero], hR'.out.empty hB1.size⟩
        · intro s vs w1 _ h3 hneed _ hR
          have hR' := lid hR
          obtain ⟨x, y, z, rfl, hB1, hx, hy, hz⟩ := hR
          obtain ⟨k, rfl, hk, hkc⟩ := hx (hneed 0 (by simp)) h3
          clear hx hy hz
          simp only [putAll, Act.put, List.setIfInBounds_toArray, List.set_cons_succ, List.set_cons_zero]
          refine mix_op (by rfl) ?_
          intro K hK
          go_wp2_with (at_builtin; go_must (refine wpList_append_slg rfl _ _ 22 rfl W4.heap.size 30 (.agg #[.int .i64 0, .string ⟨#[]⟩, .string ⟨#[]⟩, .string ⟨#[]⟩]) 4 56 info_rec Try.underlying22 rfl (by decide) _ 0 [] (own_empty hkc hk) rfl ao 0 cap (rcells l) rfl (HA.out.below hB1).sl HZ.out (rcells_one l) (by simp only [maxLen]; omega) (by omega) hB1.size ?_))
          intro v5 w5 hown5 hb5 hg5
          go_wp2_with fail
          exact hK.out _ _ ⟨sincex ((KeptX.refl _ _ _).below (hB1.trans hb5)), [.slice (some ⟨k, 0, none⟩) 0 0, v5, z], rfl, by simp only [putAll, Act.put, List.setIfInBounds_toArray, List.set_cons_succ, List.set_cons_zero], hR'.out.copy rfl hkc (by simpa using hown5) hg5 hb5⟩
        · intro s vs w1 _ _ _ _ hR
          have hR' := lid hR
          obtain ⟨x, y, z, rfl, hB1, hx, hy, hz⟩ := hR
          simp only [putAll, Act.put, List.setIfInBounds_toArray, List.set_cons_succ, List.set_cons_zero]
          refine mix_op (by rfl) ?_
          intro K hK
          go_wp2_with fail
          exact hK.out _ _ ⟨sincex ((KeptX.refl _ _ _).below (hB1.trans ((ba _ _).mono hB1.size))), [x, y, .slice (some ⟨w1.heap.size, 0, none⟩) 1 1], rfl, by simp only [putAll, Act.put, List.setIfInBounds_toArray, List.set_cons_succ, List.set_cons_zero], hR'.out.lay hB1.size⟩
        · intro s vs w1 _ hall _ hR
          obtain ⟨x0, x, y, rfl, hB1, -, hx, hy⟩ := hR
          replace hx := hx (hall (3, [0]) (by simp))
          replace hy := hy (hall (5, []) (by simp))
          have hR := hB1
          obtain ⟨k, rfl, hk, hkc⟩ := hy
          simp only [putAll, Act.put, List.setIfInBounds_toArray, List.set_cons_succ, List.set_cons_zero]
          clear hall hR
          refine seq_chain (by rfl) ?_
          intro K hK
          go_wp2_with (at_builtin; go_must (refine wpList_append_sl rfl _ _ 22 rfl W4.heap.size 30 (.agg #[.int .i64 0, .string ⟨#[]⟩, .string ⟨#[]⟩, .string ⟨#[]⟩]) 4 56 info_rec Try.underlying22 rfl (by decide) _ _ _ hx rfl _ 1 1 #[.int .i64 t, .string a, .string b, .string d].toList rfl (sl_one hkc rfl) (by intro h; cases h) (by simp [Value.oneCell']) (by simp only [maxLen]; omega) (by omega) hB1.size ?_))
          intro v5 w5 hown5 hb5
          have hB5 := hB1.trans hb5
          have hown5' : w5.ownsRow W4.heap.size 30 4 v5 (0 + 1) (rcells (l ++ [(t, a, b, d)])) := by rw [rcells_append]; exact hown5
          clear hown5
          obtain ⟨ao5, cap5, rfl, hc5, hA5⟩ := led_grown (l := l ++ [(t, a, b, d)]) hown5' (by simp [HN.out]) (by intro r hr; rcases List.mem_append.1 hr with h | h; exact HA.out.sizes r h; rw [List.mem_singleton.1 h]; exact HRS.out)
          go_wp2_with fail
          refine hK.out _ _ (sincex ((KeptX.refl _ _ _).below hB5)) ?_
          clear hK K
          repeat (first | (refine seq_skip (by rfl) (by rfl) ?_; simp only [Act.put, List.setIfInBounds_toArray, List.set_cons_succ, List.set_cons_zero]) | (refine seq_float (by rfl) (by rfl) (by rfl) ?_; intro K hK; go_big_quiet_op; go_big_quiet_on))
          have B5 : Boxed w5 (w.heap.size + 2) 24 (.slice none 0 0) := Boxed.below BX.out hB5 k2
          have y0 := B5.cell
          have f0 := B5.frozen
          refine seq_chain (by rfl) ?_
          intro K hK
          go_wp2_with fail
          obtain ⟨W6, hW6⟩ : ∃ W6, w5.setCell ⟨w.heap.size + 2, 0, none⟩ (.slice ao5 (0 + 1) cap5) = W6 := ⟨_, rfl⟩
          have B6 : Boxed W6 (w.heap.size + 2) 24 (.slice ao5 (0 + 1) cap5) := by rw [← hW6]; exact B5.set _
          have hX6 : KeptX W4.heap.size (w.heap.size + 2) W4 W6 := by rw [← hW6]; exact ((KeptX.refl _ _ _).below hB5).setCell (p := ⟨w.heap.size + 2, 0, none⟩) (.inl rfl) _
          have hw6 : Below w.heap.size w W6 := by rw [← hW6]; exact (hw4.trans (hB5.mono hw4.size)).setCell (p := ⟨w.heap.size + 2, 0, none⟩) (by show w.heap.size ≤ w.heap.size + 2; omega) _
          have hA6 : LedA W6 ao5 (0 + 1) cap5 (l ++ [(t, a, b, d)]) := by
            rw [← hW6]
            exact led_set hown5' hA5 k2
          rw [hW6]
          clear hW6 y0 f0 B5 hB5 hB1
          refine hK.out _ _ (sincex hX6) ?_
          clear hK K
          repeat (first | (refine seq_skip (by rfl) (by rfl) ?_; simp only [Act.put, List.setIfInBounds_toArray, List.set_cons_succ, List.set_cons_zero]) | (refine seq_float (by rfl) (by rfl) (by rfl) ?_; intro K hK; go_big_quiet_op; go_big_quiet_on))
          refine seq_chain (by rfl) ?_
          intro K hK
          go_wp2_with fail
          refine hK.out _ _ (sincex hX6) ?_
          clear hK K
          repeat (first | (refine seq_skip (by rfl) (by rfl) ?_; simp only [Act.put, List.setIfInBounds_toArray, List.set_cons_succ, List.set_cons_zero]) | (refine seq_float (by rfl) (by rfl) (by rfl) ?_; intro K hK; go_big_quiet_op; go_big_quiet_on))
          refine seq_nil ?_
          go_wp2_with fail
          refine bodyPost_ret (v := .tuple #[.agg #[.slice ao5 (0 + 1) cap5], .int .i64 0]) (res_led Try.results25 _ _ (w.heap.size + 2) _ _ _ _ rfl rfl B6.cell) rfl ⟨ao5, 0 + 1, cap5, by rw [HV.out], hc5, by rw [HV.out]; exact hA6, hw6⟩
      | succ m =>
        have hml : m < l.length := by rw [HN.out]; omega
        obtain ⟨b1, o1, rfl, hlb, hcell⟩ := HA.out.sl.at_ (k := m) (by omega)
        have x0 := hcell (m * 4 + 0) _ (rcells_at hml).1
        rw [Nat.add_zero] at x0
        have HL0 := lid (lateB_some (t, a, b, d) HN.out hml)
        obtain ⟨pt, hpt⟩ : ∃ pt, (l[m]).1 = pt := ⟨_, rfl⟩
        rw [hpt] at x0 HL0
        clear hcell hpt
        have e0 : ((m + 1 : Nat) : Int) = (m : Int) + 1 := by omega
        have hpos : decide ((0 : Int) < (m : Int) + 1) = true := decide_eq_true (by omega)
        have wj : IntKind.i64.wrap (m : Int) = m := IntWalk.i64_in _ (by omega)
        have hjn1 : (m : Int) < (m : Int) + 1 := by omega
        have hjl : decide (m < m + 1) = true := by simp
        by_cases hlp : t < pt
        · have hd : decide (t < pt) = true := by simpa using hlp
          have HV := lid (appE_late HC.out HB.out (by rw [HL0.out]; exact hd))
          go_wp2_with fail
          refine wp_region_seq (fun w' => ∃ s : Since w3.heap.size w3, w' = s.world) [(0, true), (1, true), (2, true), (3, true), (4, true), (5, true), (6, true), (7, true), (8, true), (9, true), (10, true), (11, true), (12, true), (13, true)] (by kernel_rfl) (by kernel_rfl) (by intro c d v a w h; cases d <;> exact h) (since (Below.refl _ _).drew) ?_
          repeat (first | (refine seq_skip (by rfl) (by rfl) ?_; simp only [Act.put, List.setIfInBounds_toArray, List.set_cons_succ, List.set_cons_zero]) | (refine seq_float (by rfl) (by rfl) (by rfl) ?_; intro K hK; go_big_quiet_op; go_big_quiet_on))
          refine seq_nil ?_
          have B3 : Boxed w3 (w.heap.size + 2) 24 (.slice none 0 0) := BX.out
          have y0 := B3.cell
          have f0 := B3.frozen
          clear q0 r0 r1 r2 r3
          go_wp2_with fail
          refine bodyPost_ret (v := .tuple #[.agg #[.slice none 0 0], .int .i64 10]) (res_led Try.results25 _ _ (w.heap.size + 2) _ _ _ _ rfl rfl ((B3.set _).cell)) rfl (LedR.empty HV.out ?_)
          exact hw3.drew.setCell (p := ⟨w.heap.size + 2, 0, none⟩) (by show w.heap.size ≤ w.heap.size + 2; omega) _
        · have hd : decide (t < pt) = false := by simpa using hlp
          have HLT : Hid (lateB l (t, a, b, d) = false) := lid (by rw [HL0.out]; exact hd)
          go_wp2_with fail
          refine wp_region_seq (fun w' => ∃ s : Since w3.heap.size w3, w' = s.world) [(0, true), (1, true), (2, true), (3, true), (4, true), (5, true), (6, true), (7, true), (8, true), (9, true), (10, true), (11, true), (12, true), (13, true)] (by kernel_rfl) (by kernel_rfl) (by intro c d v a w h; cases d <;> exact h) (since (Below.refl _ _).drew) ?_
          repeat (first | (refine seq_skip (by rfl) (by rfl) ?_; simp only [Act.put, List.setIfInBounds_toArray, List.set_cons_succ, List.set_cons_zero]) | (refine seq_float (by rfl) (by rfl) (by rfl) ?_; intro K hK; go_big_quiet_op; go_big_quiet_on))
          refine seq_nil ?_
          obtain ⟨W4, hW4⟩ : ∃ W4, w3.drew = W4 := ⟨_, rfl⟩
          have hw4 : Below w.heap.size w W4 := by rw [← hW4]; exact hw3.drew
          have BX := lid (show Boxed W4 (w.heap.size + 2) 24 (.slice none 0 0) by rw [← hW4]; exact BX.out)
          replace q0 : W4.cell? ⟨w.heap.size, 0, none⟩ = some (.slice (some ⟨b1, o1, none⟩) (m + 1) cap) := by rw [← hW4]; exact q0
          replace r0 : W4.cell? ⟨w.heap.size + 1, 0, none⟩ = some (.int .i64 t) := by rw [← hW4]; exact r0
          replace r1 : W4.cell? ⟨w.heap.size + 1, 1, none⟩ = some (.string a) := by rw [← hW4]; exact r1
          replace r2 : W4.cell? ⟨w.heap.size + 1, 2, none⟩ = some (.string b) := by rw [← hW4]; exact r2
          replace r3 : W4.cell? ⟨w.heap.size + 1, 3, none⟩ = some (.string d) := by rw [← hW4]; exact r3
          replace k0 : w.heap.size < W4.heap.size := by rw [← hW4]; exact k0
          replace k1 : w.heap.size + 1 < W4.heap.size := by rw [← hW4]; exact k1
          replace k2 : w.heap.size + 2 < W4.heap.size := by rw [← hW4]; exact k2
          replace HA : Hid (LedA W4 (some ⟨b1, o1, none⟩) (m + 1) cap l) := lid (by rw [← hW4]; exact HA.out.below (Below.refl _ _).drew)
          rw [hW4]
          clear hW4 hw3
          by_cases hf : (m + 1) = 10000
          · have HV := lid (appE_full HC.out HB.out HLT.out (by rw [HN.out]; exact hf))
            have df : ((m : Int) + 1 == 10000) = true := by simp; omega
            clear hf
            have B4 : Boxed W4 (w.heap.size + 2) 24 (.slice none 0 0) := BX.out
            have y0 := B4.cell
            have f0 := B4.frozen
            clear q0 r0 r1 r2 r3
            go_wp2_with fail
            refine bodyPost_ret (v := .tuple #[.agg #[.slice none 0 0], .int .i64 19]) (res_led Try.results25 _ _ (w.heap.size + 2) _ _ _ _ rfl rfl ((B4.set _).cell)) rfl (LedR.empty HV.out ?_)
            exact hw4.setCell (p := ⟨w.heap.size + 2, 0, none⟩) (by show w.heap.size ≤ w.heap.size + 2; omega) _
          · have HV := lid (appE_good HC.out HB.out HLT.out (by rw [HN.out]; exact hf))
            have df : ((m : Int) + 1 == 10000) = false := by simp; omega
            have hn10 : (m + 1) ≤ 10000 := by have := check_len HC.out; rw [HN.out] at this; exact this
            clear hf
            go_wp2_with fail
            have c0 := SinceX.cell (B := W4.heap.size) (X := w.heap.size + 2) (W := W4) w.heap.size 0 k0 (by omega) q0
            have d0 := SinceX.cell (B := W4.heap.size) (X := w.heap.size + 2) (W := W4) (w.heap.size + 1) 0 k1 (by omega) r0
            have d1 := SinceX.cell (B := W4.heap.size) (X := w.heap.size + 2) (W := W4) (w.heap.size + 1) 1 k1 (by omega) r1
            have d2 := SinceX.cell (B := W4.heap.size) (X := w.heap.size + 2) (W := W4) (w.heap.size + 1) 2 k1 (by omega) r2
            have d3 := SinceX.cell (B := W4.heap.size) (X := w.heap.size + 2) (W := W4) (w.heap.size + 1) 3 k1 (by omega) r3
            clear q0 r0 r1 r2 r3
            refine wp_region_mix (fun w' => ∃ s : SinceX W4.heap.size (w.heap.size + 2) W4, w' = s.world) [(1, true), (2, true), (4, true)] [(0, []), (3, [0]), (5, [])] [(6, false), (7, true), (8, false), (9, false)] (by kernel_rfl) (by kernel_rfl) (by intro c d v a w h; cases d <;> exact h) (sincex (KeptX.refl _ _ _).drew) ?_
            repeat (first | (refine seq_skip (by rfl) (by rfl) ?_; simp only [Act.put, List.setIfInBounds_toArray, List.set_cons_succ, List.set_cons_zero]) | (refine seq_float (by rfl) (by rfl) (by rfl) ?_; intro K hK; go_big_quiet_op; go_big_quiet_on))
            refine seq_nil (mix_go [39, 42, 44] [undef, undef, undef] (RB W4.heap.size W4 (m + 1) (rcells l) #[.int .i64 t, .string a, .string b, .string d]) rfl (by simp only [putAll, Act.put, List.setIfInBounds_toArray, List.set_cons_succ, List.set_cons_zero]) (fun s h => RB.start _ _ _ _ _ s (h (0, []) (by simp)) (h (3, [0]) (by simp)) (h (5, []) (by simp))) ⟨?_, ?_, ?_, trivial⟩ ?_)
            · intro s vs w1 _ _ _ _ hR
              have hR' := lid hR
              obtain ⟨x, y, z, rfl, hB1, hx, hy, hz⟩ := hR
              simp only [putAll, Act.put, List.setIfInBounds_toArray, List.set_cons_succ, List.set_cons_zero]
              refine mix_op (by rfl) ?_
              intro K hK
              go_wp2_with fail
              exact hK.out _ _ ⟨sincex ((KeptX.refl _ _ _).below (hB1.trans ((ba _ _).mono hB1.size))), [.slice (some ⟨w1.heap.size, 0, none⟩) 0 0, y, z], rfl, by simp only [putAll, Act.put, List.setIfInBounds_toArray, List.set_cons_succ, List.set_cons_zero], hR'.out.empty hB1.size⟩
            · intro s vs w1 _ h3 hneed _ hR
              have hR' := lid hR
              obtain ⟨x, y, z, rfl, hB1, hx, hy, hz⟩ := hR
              obtain ⟨k, rfl, hk, hkc⟩ := hx (hneed 0 (by simp)) h3
              clear hx hy hz
              simp only [putAll, Act.put, List.setIfInBounds_toArray, List.set_cons_succ, List.set_cons_zero]
              refine mix_op (by rfl) ?_
              intro K hK
              go_wp2_with (at_builtin; go_must (refine wpList_append_slg rfl _ _ 22 rfl W4.heap.size 30 (.agg #[.int .i64 0, .string ⟨#[]⟩, .string ⟨#[]⟩, .string ⟨#[]⟩]) 4 56 info_rec Try.underlying22 rfl (by decide) _ 0 [] (own_empty hkc hk) rfl (some ⟨b1, o1, none⟩) (m + 1) cap (rcells l) rfl (HA.out.below hB1).sl HZ.out (rcells_one l) (by simp only [maxLen]; omega) (by omega) hB1.size ?_))
              intro v5 w5 hown5 hb5 hg5
              go_wp2_with fail
              exact hK.out _ _ ⟨sincex ((KeptX.refl _ _ _).below (hB1.trans hb5)), [.slice (some ⟨k, 0, none⟩) 0 0, v5, z], rfl, by simp only [putAll, Act.put, List.setIfInBounds_toArray, List.set_cons_succ, List.set_cons_zero], hR'.out.copy rfl hkc (by simpa using hown5) hg5 hb5⟩
            · intro s vs w1 _ _ _ _ hR
              have hR' := lid hR
              obtain ⟨x, y, z, rfl, hB1, hx, hy, hz⟩ := hR
              simp only [putAll, Act.put, List.setIfInBounds_toArray, List.set_cons_succ, List.set_cons_zero]
              refine mix_op (by rfl) ?_
              intro K hK
              go_wp2_with fail
              exact hK.out _ _ ⟨sincex ((KeptX.refl _ _ _).below (hB1.trans ((ba _ _).mono hB1.size))), [x, y, .slice (some ⟨w1.heap.size, 0, none⟩) 1 1], rfl, by simp only [putAll, Act.put, List.setIfInBounds_toArray, List.set_cons_succ, List.set_cons_zero], hR'.out.lay hB1.size⟩
            · intro s vs w1 _ hall _ hR
              obtain ⟨x0, x, y, rfl, hB1, -, hx, hy⟩ := hR
              replace hx := hx (hall (3, [0]) (by simp))
              replace hy := hy (hall (5, []) (by simp))
              have hR := hB1
              obtain ⟨k, rfl, hk, hkc⟩ := hy
              simp only [putAll, Act.put, List.setIfInBounds_toArray, List.set_cons_succ, List.set_cons_zero]
              clear hall hR
              refine seq_chain (by rfl) ?_
              intro K hK
              go_wp2_with (at_builtin; go_must (refine wpList_append_sl rfl _ _ 22 rfl W4.heap.size 30 (.agg #[.int .i64 0, .string ⟨#[]⟩, .string ⟨#[]⟩, .string ⟨#[]⟩]) 4 56 info_rec Try.underlying22 rfl (by decide) _ _ _ hx rfl _ 1 1 #[.int .i64 t, .string a, .string b, .string d].toList rfl (sl_one hkc rfl) (by intro h; cases h) (by simp [Value.oneCell']) (by simp only [maxLen]; omega) (by omega) hB1.size ?_))
              intro v5 w5 hown5 hb5
              have hB5 := hB1.trans hb5
              have hown5' : w5.ownsRow W4.heap.size 30 4 v5 ((m + 1) + 1) (rcells (l ++ [(t, a, b, d)])) := by rw [rcells_append]; exact hown5
              clear hown5
              obtain ⟨ao5, cap5, rfl, hc5, hA5⟩ := led_grown (l := l ++ [(t, a, b, d)]) hown5' (by simp [HN.out]) (by intro r hr; rcases List.mem_append.1 hr with h | h; exact HA.out.sizes r h; rw [List.mem_singleton.1 h]; exact HRS.out)
              go_wp2_with fail
              refine hK.out _ _ (sincex ((KeptX.refl _ _ _).below hB5)) ?_
              clear hK K
              repeat (first | (refine seq_skip (by rfl) (by rfl) ?_; simp only [Act.put, List.setIfInBounds_toArray, List.set_cons_succ, List.set_cons_zero]) | (refine seq_float (by rfl) (by rfl) (by rfl) ?_; intro K hK; go_big_quiet_op; go_big_quiet_on))
              have B5 : Boxed w5 (w.heap.size + 2) 24 (.slice none 0 0) := Boxed.below BX.out hB5 k2
              have y0 := B5.cell
              have f0 := B5.frozen
              refine seq_chain (by rfl) ?_
              intro K hK
              go_wp2_with fail
              obtain ⟨W6, hW6⟩ : ∃ W6, w5.setCell ⟨w.heap.size + 2, 0, none⟩ (.slice ao5 ((m + 1) + 1) cap5) = W6 := ⟨_, rfl⟩
              have B6 : Boxed W6 (w.heap.size + 2) 24 (.slice ao5 ((m + 1) + 1) cap5) := by rw [← hW6]; exact B5.set _
              have hX6 : KeptX W4.heap.size (w.heap.size + 2) W4 W6 := by rw [← hW6]; exact ((KeptX.refl _ _ _).below hB5).setCell (p := ⟨w.heap.size + 2, 0, none⟩) (.inl rfl) _
              have hw6 : Below w.heap.size w W6 := by rw [← hW6]; exact (hw4.trans (hB5.mono hw4.size)).setCell (p := ⟨w.heap.size + 2, 0, none⟩) (by show w.heap.size ≤ w.heap.size + 2; omega) _
              have hA6 : LedA W6 ao5 ((m + 1) + 1) cap5 (l ++ [(t, a, b, d)]) := by
                rw [← hW6]
                exact led_set hown5' hA5 k2
              rw [hW6]
              clear hW6 y0 f0 B5 hB5 hB1
              refine hK.out _ _ (sincex hX6) ?_
              clear hK K
              repeat (first | (refine seq_skip (by rfl) (by rfl) ?_; simp only [Act.put, List.setIfInBounds_toArray, List.set_cons_succ, List.set_cons_zero]) | (refine seq_float (by rfl) (by rfl) (by rfl) ?_; intro K hK; go_big_quiet_op; go_big_quiet_on))
              refine seq_chain (by rfl) ?_
              intro K hK
              go_wp2_with fail
              refine hK.out _ _ (sincex hX6) ?_
              clear hK K
              repeat (first | (refine seq_skip (by rfl) (by rfl) ?_; simp only [Act.put, List.setIfInBounds_toArray, List.set_cons_succ, List.set_cons_zero]) | (refine seq_float (by rfl) (by rfl) (by rfl) ?_; intro K hK; go_big_quiet_op; go_big_quiet_on))
              refine seq_nil ?_
              go_wp2_with fail
              refine bodyPost_ret (v := .tuple #[.agg #[.slice ao5 ((m + 1) + 1) cap5], .int .i64 0]) (res_led Try.results25 _ _ (w.heap.size + 2) _ _ _ _ rfl rfl B6.cell) rfl ⟨ao5, (m + 1) + 1, cap5, by rw [HV.out], hc5, by rw [HV.out]; exact hA6, hw6⟩
  · have HV := lid (appE_bad (r := (t, a, b, d)) hc)
    have hc' : (checkL l != 0) = true := by simpa using hc
    have B3 : Boxed w2 (w.heap.size + 2) 24 (.slice none 0 0) := B2.out
    generalize checkL l = C at *
    clear hc
    have y0 := B3.cell
    have f0 := B3.frozen
    clear q0 r0 r1 r2 r3
    go_wp2_with fail
    refine bodyPost_ret (v := .tuple #[.agg #[.slice none 0 0], .int .i64 C]) (res_led Try.results25 _ _ (w.heap.size + 2) _ _ _ _ rfl rfl ((B3.set _).cell)) rfl (LedR.empty HV.out ?_)
    exact hw2.setCell (p := ⟨w.heap.size + 2, 0, none⟩) (by show w.heap.size ≤ w.heap.size + 2; omega) _
end Go.Proofs.Ytnfekadnjblciaa
