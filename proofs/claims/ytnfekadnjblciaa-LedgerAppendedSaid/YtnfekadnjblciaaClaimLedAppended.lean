/-
  LedgerAppended: appending keeps the records before, and the head of the ledger before is a beginning of the new one.
-/
import Derived.Laws.OwnMore
import Derived.Laws.AppendOwnNone
import Derived.Test.YtnfekadnjblciaaLedCheck
import Derived.Test.YtnfekadnjblciaaLedHead
import Derived.Test.YtnfekadnjblciaaBox
import Derived.Test.YtnfekadnjblciaaMix
import Derived.Test.YtnfekadnjblciaaLedLawGrowth
import Derived.Test.YtnfekadnjblciaaLedAwake
import Derived.Test.YtnfekadnjblciaaLawLed
namespace Go.Proofs.Ytnfekadnjblciaa
open Go.RowKit

theorem info_rec : (Try.prog.info? 30).map (fun i => (i.zero, i.size, i.bytes)) = some (some (.agg #[.int .i64 0, .string ⟨#[]⟩, .string ⟨#[]⟩, .string ⟨#[]⟩]), 4, 56) := by kernel_rfl
theorem rcells_one (l : List Rec) : ∀ u ∈ rcells l, u.oneCell' = true := by
  intro u hu
  simp only [rcells, List.mem_flatMap] at hu
  obtain ⟨r, _, hu⟩ := hu
  simp only [List.mem_cons, List.not_mem_nil, or_false] at hu
  rcases hu with rfl | rfl | rfl | rfl <;> rfl

/-- 'append(out, xs..)', xs what a slice value reads as. -/
theorem wpList_append_slg {P : Program} {ops : Array Oper} {rest : List Oper} {o : Oper} {a : Act} {Q : Exit → Act → World → Prop} {w : World} (hgd : o.guard = none) (s x : Operand) (t : TypeId)
    (ho : o.op = .call { callee := .builtin .append, args := #[s, x], argTypes := #[t, t] })
    (base : Nat) (e : TypeId) (z : Value) (size bytes : Nat) (hinfo : (P.info? e).map (fun i => (i.zero, i.size, i.bytes)) = some (some z, size, bytes)) (ht : P.underlying t = some (.slice e)) (hzs : z.cells.size = size) (hsz : 0 < size)
    (v : Value) (n : Nat) (xs : List Value) (hown : w.ownsRow base e size v n xs) (hs : a.eval s = v)
    (ao : Option Addr) (m c : Nat) (us : List Value) (hx : a.eval x = .slice ao m c) (hsl : Sl w size ao m us) (hz : ao = none → c = 0) (h1 : ∀ u ∈ us, u.oneCell' = true)
    (h63 : n + m ≤ maxLen) (hbytes : (n + m) * bytes ≤ 140737488355328) (hbase : base ≤ w.heap.size)
    (h : ∀ v' w', w'.ownsRow base e size v' (n + m) (xs ++ us) → Below base w w' → w.grownBy w' v.ownBlock → wpList P ops Q rest (a.put o.dst v') w') : wpList P ops Q (o :: rest) a w := by
  obtain ⟨i, hi, hz0, hz1, hz2⟩ := info_parts hinfo
  cases ao with
  | none =>
    obtain rfl := hz rfl
    obtain rfl : m = 0 := by
      rcases hsl.2 with h0 | ⟨b, o, e', _⟩
      · exact h0
      · cases e'
    obtain rfl : us = [] := List.eq_nil_of_length_eq_zero (by rw [hsl.1]; simp)
    refine wpList_append_own_none hgd s x t ho base e i size ht hi v n xs hs hown hx ?_
    exact h v w (by simpa using hown) (Below.refl _ _) ⟨rfl, rfl, rfl, Nat.le_refl _, fun _ _ _ => rfl⟩
  | some ad =>
    refine wpList_append_own _ hgd s x t ho base e i z size bytes ht hi hz0 hz1 hz2 hzs hsz v n xs hs hown ad m c us hx hsl.1 ?_ h1 h63 hbytes hbase ?_
    · intro j u hu
      rcases hsl.2 with h0 | ⟨b, o', e', hlt, hc⟩
      · have := hsl.1
        rw [h0, Nat.zero_mul] at this
        rw [List.eq_nil_of_length_eq_zero this] at hu
        simp at hu
      · cases e'
        rw [Addr.add_lit]
        exact hc j u hu
    · intro v' w' hown' hg hn
      exact h v' w' hown' ((Below.refl _ _).grown hg hbase (fun k hk => ownsRow_row hown k hk)) hg

theorem wpList_append_sl {P : Program} {ops : Array Oper} {rest : List Oper} {o : Oper} {a : Act} {Q : Exit → Act → World → Prop} {w : World} (hgd : o.guard = none) (s x : Operand) (t : TypeId)
    (ho : o.op = .call { callee := .builtin .append, args := #[s, x], argTypes := #[t, t] })
    (base : Nat) (e : TypeId) (z : Value) (size bytes : Nat) (hinfo : (P.info? e).map (fun i => (i.zero, i.size, i.bytes)) = some (some z, size, bytes)) (ht : P.underlying t = some (.slice e)) (hzs : z.cells.size = size) (hsz : 0 < size)
    (v : Value) (n : Nat) (xs : List Value) (hown : w.ownsRow base e size v n xs) (hs : a.eval s = v)
    (ao : Option Addr) (m c : Nat) (us : List Value) (hx : a.eval x = .slice ao m c) (hsl : Sl w size ao m us) (hz : ao = none → c = 0) (h1 : ∀ u ∈ us, u.oneCell' = true)
    (h63 : n + m ≤ maxLen) (hbytes : (n + m) * bytes ≤ 140737488355328) (hbase : base ≤ w.heap.size)
    (h : ∀ v' w', w'.ownsRow base e size v' (n + m) (xs ++ us) → Below base w w' → wpList P ops Q rest (a.put o.dst v') w') : wpList P ops Q (o :: rest) a w := by
  exact wpList_append_slg hgd s x t ho base e z size bytes hinfo ht hzs hsz v n xs hown hs ao m c us hx hsl hz h1 h63 hbytes hbase fun v' w' p q _ => h v' w' p q

theorem run_eql_slice_nil' {P : Program} (w : World) (t e : TypeId) (a : Option Addr) (n c n' c' : Nat) (h : P.underlying t = some (.slice e)) :
    (binOp .eql t (.slice a n c) (.slice none n' c')).run P w = .ok (.bool a.isNone) w := by
  simp only [binOp]
  simp [Op.equal, Op.maxDepth, Lib.run_equalIn_slice_nil w 9999 t e a n c n' c' h]

set_option maxRecDepth 100000 in
set_option maxHeartbeats 4000000 in
theorem Clone_any (l : List Rec) (n cap : Nat) (ao : Option Addr) (w : World) (h : LedA w ao n cap l) (hz : ao = none → cap = 0) (hn : n ≤ 10000) :
    Calls Try.prog 49 #[.slice ao n cap] w fun e w' => ∃ v', e = .returned v' ∧ w'.ownsRow w.heap.size 30 4 v' n (rcells l) ∧ Below w.heap.size w w' := by
  cases ao with
  | none =>
    obtain rfl := hz rfl
    obtain rfl : n = 0 := by
      rcases h.sl.2 with h0 | ⟨b, o, e', _⟩
      · exact h0
      · cases e'
    obtain rfl : l = [] := List.eq_nil_of_length_eq_zero h.len
    clear h hz hn
    go_enter Try.func49, Try.ntmps49
    go_wp2_with fail
    rw [run_eql_slice_nil' _ _ _ _ _ _ _ _ Try.underlying22]
    go_wp2_with fail
    go_ret
    exact ⟨_, rfl, World.ownsRow_nil _ _ _ _, Below.refl _ _⟩
  | some a =>
    have HA := lid h
    clear h hz
    go_enter Try.func49, Try.ntmps49
    go_wp2_with fail
    rw [run_eql_slice_nil' _ _ _ _ _ _ _ _ Try.underlying22]
    go_wp2_with (at_builtin; go_must (refine wpList_append_sl rfl _ _ 22 rfl w.heap.size 30 (.agg #[.int .i64 0, .string ⟨#[]⟩, .string ⟨#[]⟩, .string ⟨#[]⟩]) 4 56 info_rec Try.underlying22 rfl (by decide) _ 0 [] (World.ownsRow_lit w #[] 0 (Nat.le_refl _) (by simp [maxLen]) rfl) rfl (some a) n cap (rcells l) rfl (HA.out.below (ba _ _)).sl (by intro h; cases h) (rcells_one l) (by simp [maxLen]; omega) (by omega) (by simp) ?_))
    intro v5 w5 hown5 hb5
    go_wp2_with fail
    go_ret
    refine ⟨_, rfl, ?_, (ba _ _).trans hb5⟩
    simpa using hown5

/-- Is the record older than the ledger's last? -/
def lateB (l : List Rec) (r : Rec) : Bool := match l.getLast? with | some q => decide (r.1 < q.1) | none => false
/-- The ledger with a record more. -/
def appE (l : List Rec) (r : Rec) : List Rec × Int :=
  if checkL l = 0 then (if recB r = true then (if lateB l r = true then ([], 10) else if l.length = 10000 then ([], 19) else (l ++ [r], 0)) else ([], 1)) else ([], checkL l)
theorem appE_bad {l : List Rec} {r : Rec} (h : ¬ checkL l = 0) : appE l r = ([], checkL l) := by unfold appE; rw [if_neg h]
theorem appE_rec {l : List Rec} {r : Rec} (h : checkL l = 0) (hr : recB r = false) : appE l r = ([], 1) := by unfold appE; rw [if_pos h, if_neg (by simp [hr])]
theorem appE_late {l : List Rec} {r : Rec} (h : checkL l = 0) (hr : recB r = true) (hl : lateB l r = true) : appE l r = ([], 10) := by unfold appE; rw [if_pos h, if_pos hr, if_pos hl]
theorem appE_full {l : List Rec} {r : Rec} (h : checkL l = 0) (hr : recB r = true) (hl : lateB l r = false) (hf : l.length = 10000) : appE l r = ([], 19) := by unfold appE; rw [if_pos h, if_pos hr, if_neg (by simp [hl]), if_pos hf]
theorem appE_good {l : List Rec} {r : Rec} (h : checkL l = 0) (hr : recB r = true) (hl : lateB l r = false) (hf : ¬ l.length = 10000) : appE l r = (l ++ [r], 0) := by unfold appE; rw [if_pos h, if_pos hr, if_neg (by simp [hl]), if_neg hf]
theorem lateB_nil {l : List Rec} (r : Rec) (h : l.length = 0) : lateB l r = false := by
  obtain rfl := List.eq_nil_of_length_eq_zero h
  rfl
theorem lateB_some {l : List Rec} (r : Rec) {m : Nat} (h : l.length = m + 1) (hm : m < l.length) : lateB l r = decide (r.1 < (l[m]).1) := by
  unfold lateB
  rw [List.getLast?_eq_getElem?, h, Nat.add_sub_cancel, List.getElem?_eq_getElem hm]

/-- A ledger and an errno that come back. -/
def LedR (x : List Rec × Int) (w : World) (e : Ending) (w' : World) : Prop :=
  ∃ ao' n' cap', e = .returned (.tuple #[.agg #[.slice ao' n' cap'], .int .i64 x.2]) ∧ n' ≤ cap' ∧ LedA w' ao' n' cap' x.1 ∧ Below w.heap.size w w'
theorem LedR.empty {w w' : World} {c : Int} {x : List Rec × Int} (hx : x = ([], c)) (hb : Below w.heap.size w w') : LedR x w (.returned (.tuple #[.agg #[.slice none 0 0], .int .i64 c])) w' := by
  subst hx
  exact ⟨none, 0, 0, rfl, Nat.le_refl _, ⟨rfl, Sl.nil, (by intro r hr; cases hr), by simp [maxLen]⟩, hb⟩
/-- The results as read. -/
theorem res_led {fn : Func} (hf : fn.results = #[.cell 4 24, .tmp 5]) (t : Array Value) (w : World) (k : Nat) (ao : Option Addr) (n cap : Nat) (c : Int) (h4 : t.getD 4 undef = .pointer (some ⟨k, 0, none⟩)) (h5 : t.getD 5 undef = .int .i64 c)
    (e0 : w.cell? ⟨k, 0, none⟩ = some (.slice ao n cap)) : (results fn t).run Try.prog w = .ok (.tuple #[.agg #[.slice ao n cap], .int .i64 c]) w := by
  rw [Array.getD_eq_getD_getElem?] at h4 h5
  unfold results
  rw [hf]
  simp [go_sem, h4, h5, e0, asAddr]

/-- What is known while the records are cloned and the new one is laid, in any order. -/
def RA (i j B0 : Nat) (W : World) (n : Nat) (xs : List Value) (us : Array Value) (s : Nat → Bool) (vs : List Value) (w : World) : Prop :=
  ∃ x y, vs = [x, y] ∧ Below B0 W w ∧ (s i = true → w.ownsRow B0 30 4 x n xs) ∧ (s j = true → ∃ k, y = .slice (some ⟨k, 0, none⟩) 1 1 ∧ B0 ≤ k ∧ w.heap[k]? = some (.cells us 30 (0, 0)))
section
variable {i j B0 : Nat} {W w w' : World} {n : Nat} {xs : List Value} {us : Array Value} {s : Nat → Bool} {x y : Value}
theorem RA.start (i j B0 : Nat) (W : World) (n : Nat) (xs : List Value) (us : Array Value) (s : Nat → Bool) (hi : s i = false) (hj : s j = false) : RA i j B0 W n xs us s [undef, undef] W.drew :=
  ⟨_, _, rfl, (Below.refl _ _).drew, fun h => (by rw [hi] at h; cases h), fun h => (by rw [hj] at h; cases h)⟩
theorem RA.clone (h : RA i j B0 W n xs us s [x, y] w) (hij : j ≠ i) (hB : B0 ≤ w.heap.size) {v' : Value} (hown : w'.ownsRow w.heap.size 30 4 v' n xs) (hb : Below w.heap.size w w') : RA i j B0 W n xs us (upd s i) [v', y] w' := by
  obtain ⟨_, _, e, h0, h1, h2⟩ := h
  cases e
  refine ⟨_, _, rfl, h0.trans (hb.mono hB), fun _ => ownsRow_base hown hB, fun hs => ?_⟩
  obtain ⟨k, e, hk, hc⟩ := h2 (by rwa [upd_ne _ hij] at hs)
  exact ⟨k, e, hk, (hb.block k (Array.getElem?_eq_some_iff.1 hc).1).trans hc⟩
theorem RA.lay (h : RA i j B0 W n xs us s [x, y] w) (hij : i ≠ j) (hB : B0 ≤ w.heap.size) : RA i j B0 W n xs us (upd s j) [x, .slice (some ⟨w.heap.size, 0, none⟩) 1 1] (w.alloc (.cells us 30)) := by
  obtain ⟨_, _, e, h0, h1, h2⟩ := h
  cases e
  refine ⟨_, _, rfl, h0.trans ((ba _ _).mono hB), fun hs => ownsRow_below (h1 (by rwa [upd_ne _ hij] at hs)) (ba _ _), fun _ => ⟨_, rfl, hB, heap_alloc_new w _⟩⟩
end
/-- The same for the reference: the empty slice, its copy, the new record. -/
def RB (B0 : Nat) (W : World) (n : Nat) (xs : List Value) (us : Array Value) (s : Nat → Bool) (vs : List Value) (w : World) : Prop :=
  ∃ x y z, vs = [x, y, z] ∧ Below B0 W w ∧ (s 0 = true → s 3 = false → ∃ k, x = .slice (some ⟨k, 0, none⟩) 0 0 ∧ B0 ≤ k ∧ w.heap[k]? = some (.cells #[] 30 (0, 0))) ∧ (s 3 = true → w.ownsRow B0 30 4 y n xs) ∧ (s 5 = true → ∃ k, z = .slice (some ⟨k, 0, none⟩) 1 1 ∧ B0 ≤ k ∧ w.heap[k]? = some (.cells us 30 (0, 0)))
section
variable {B0 : Nat} {W w w' : World} {n : Nat} {xs : List Value} {us : Array Value} {s : Nat → Bool} {x y z : Value}
theorem RB.start (B0 : Nat) (W : World) (n : Nat) (xs : List Value) (us : Array Value) (s : Nat → Bool) (h0 : s 0 = false) (h3 : s 3 = false) (h5 : s 5 = false) : RB B0 W n xs us s [undef, undef, undef] W.drew :=
  ⟨_, _, _, rfl, (Below.refl _ _).drew, fun h => (by rw [h0] at h; cases h), fun h => (by rw [h3] at h; cases h), fun h => (by rw [h5] at h; cases h)⟩
theorem RB.empty (h : RB B0 W n xs us s [x, y, z] w) (hB : B0 ≤ w.heap.size) : RB B0 W n xs us (upd s 0) [.slice (some ⟨w.heap.size, 0, none⟩) 0 0, y, z] (w.alloc (.cells #[] 30)) := by
  obtain ⟨_, _, _, e, h0, h1, h2, h3⟩ := h
  cases e
  refine ⟨_, _, _, rfl, h0.trans ((ba _ _).mono hB), fun _ _ => ⟨_, rfl, hB, heap_alloc_new w _⟩, fun hs => ownsRow_below (h2 (by rwa [upd_ne _ (by decide)] at hs)) (ba _ _), fun hs => ?_⟩
  obtain ⟨k, e, hk, hc⟩ := h3 (by rwa [upd_ne _ (by decide)] at hs)
  exact ⟨k, e, hk, ((ba w _).block k (Array.getElem?_eq_some_iff.1 hc).1).trans hc⟩
theorem RB.copy {k : Nat} (h : RB B0 W n xs us s [.slice (some ⟨k, 0, none⟩) 0 0, y, z] w) (hu : us.size = 4) (hk : w.heap[k]? = some (.cells #[] 30 (0, 0))) {v' : Value} (hown : w'.ownsRow B0 30 4 v' n xs) (hg : w.grownBy w' (some k)) (hb : Below B0 w w') : RB B0 W n xs us (upd s 3) [.slice (some ⟨k, 0, none⟩) 0 0, v', z] w' := by
  obtain ⟨_, _, _, e, h0, h1, h2, h3⟩ := h
  cases e
  refine ⟨_, _, _, rfl, h0.trans hb, fun _ hs => (by rw [upd_same] at hs; cases hs), fun _ => hown, fun hs => ?_⟩
  obtain ⟨q, e, hq, hc⟩ := h3 (by rwa [upd_ne _ (by decide)] at hs)
  refine ⟨q, e, hq, (hg.block q (Array.getElem?_eq_some_iff.1 hc).1 (fun e2 => ?_)).trans hc⟩
  cases e2
  rw [hk] at hc
  cases hc
  simp at hu
theorem RB.lay (h : RB B0 W n xs us s [x, y, z] w) (hB : B0 ≤ w.heap.size) : RB B0 W n xs us (upd s 5) [x, y, .slice (some ⟨w.heap.size, 0, none⟩) 1 1] (w.alloc (.cells us 30)) := by
  obtain ⟨_, _, _, e, h0, h1, h2, h3⟩ := h
  cases e
  refine ⟨_, _, _, rfl, h0.trans ((ba _ _).mono hB), fun hs ht => ?_, fun hs => ownsRow_below (h2 (by rwa [upd_ne _ (by decide)] at hs)) (ba _ _), fun _ => ⟨_, rfl, hB, heap_alloc_new w _⟩⟩
  obtain ⟨k, e, hk, hc⟩ := h1 (by rwa [upd_ne _ (by decide)] at hs) (by rwa [upd_ne _ (by decide)] at ht)
  exact ⟨k, e, hk, ((ba w _).block k (Array.getElem?_eq_some_iff.1 hc).1).trans hc⟩
theorem own_empty {k : Nat} (h : w.heap[k]? = some (.cells #[] 30 (0, 0))) (hk : B0 ≤ k) : w.ownsRow B0 30 4 (.slice (some ⟨k, 0, none⟩) 0 0) 0 [] :=
  ⟨rfl, .inr ⟨k, 0, #[], rfl, hk, h, Nat.le_refl _, by simp [maxLen], rfl, rfl⟩⟩
end
theorem sl_one {w : World} {k : Nat} {us : Array Value} {t : TypeId} (h : w.heap[k]? = some (.cells us t (0, 0))) (hu : us.size = 4) : Sl w 4 (some ⟨k, 0, none⟩) 1 us.toList := by
  refine ⟨by simpa using hu, .inr ⟨k, 0, rfl, (Array.getElem?_eq_some_iff.1 h).1, fun j u hu => ?_⟩⟩
  rw [Nat.zero_add, cell_of_row _ _ _ _ _ _ h]
  simpa using hu
theorem led_set {w : World} {base X : Nat} {n cap cap' : Nat} {ao : Option Addr} {l : List Rec} {u : Value} (h : w.ownsRow base 30 4 (.slice ao n cap) n (rcells l)) (hA : LedA w ao n cap' l) (hX : X < base) : LedA (w.setCell ⟨X, 0, none⟩ u) ao n cap' l := by
  refine ⟨hA.len, ⟨hA.sl.1, ?_⟩, hA.sizes, hA.max⟩
  rcases h.2 with ⟨e, h0⟩ | ⟨g, c, cur, e, hg, hb, _⟩
  · exact .inl h0
  · rcases hA.sl.2 with h0 | ⟨b, o, e1, hlt, hc⟩
    · exact .inl h0
    · refine .inr ⟨b, o, e1, by rw [World.size_setCell]; exact hlt, fun j u hu => ?_⟩
      have : b = g := by rw [e1] at e; cases e; rfl
      rw [World.cell?_setCell_other _ _ _ _ (by intro e2; have := congrArg Addr.block e2; simp at this; omega)]
      exact hc j u hu
theorem led_grown {w : World} {base : Nat} {v : Value} {n : Nat} {l : List Rec} (h : w.ownsRow base 30 4 v n (rcells l)) (hl : l.length = n) (hr : ∀ r ∈ l, RecS r) : ∃ ao cap, v = .slice ao n cap ∧ n ≤ cap ∧ LedA w ao n cap l := by
  obtain ⟨ao, cap, e, h1, h2, h3⟩ := Sl.of_own h
  exact ⟨ao, cap, e, h1, ⟨hl, h3, hr, Nat.le_trans h1 h2⟩⟩

set_option maxRecDepth 100000 in
set_option maxHeartbeats 16000000 in
theorem Append_any (l : List Rec) (r : Rec) (n cap : Nat) (ao : Option Addr) (w : World) (h : LedA w ao n cap l) (hz : ao = none → cap = 0) (hr : RecS r) :
    Calls Try.prog 24 #[.agg #[.slice ao n cap], rv r] w fun e w' => LedR (appE l r) w e w' := by
  obtain ⟨t, a, b, d⟩ := r
  have HN := lid h.len
  have hnm : n ≤ 9223372036854775807 := h.max
  have HZ := lid hz
  have HRS := lid hr
  obtain ⟨W, hW⟩ : ∃ W, ((w.alloc (Obj.cells #[.slice ao n cap] 24)).alloc (Obj.cells #[.int .i64 t, .string a, .string b, .string d] 30)).alloc (Obj.cells #[.slice none 0 0] 24) = W := ⟨_, rfl⟩
  have hw0 : Below w.heap.size w W := by rw [← hW]; exact (((Below.refl _ _).alloc (Nat.le_refl _) _).alloc (by simp) _).alloc (by simp <;> omega) _
  have q0 : W.cell? ⟨w.heap.size, 0, none⟩ = some (.slice ao n cap) := by rw [← hW, cell_old_at (by simp <;> omega), cell_old_at (by simp), cell_new_at rfl]; rfl
  have r0 : W.cell? ⟨w.heap.size + 1, 0, none⟩ = some (.int .i64 t) := by rw [← hW, cell_old_at (by simp), cell_new_at (by simp)]; rfl
  have r1 : W.cell? ⟨w.heap.size + 1, 1, none⟩ = some (.string a) := by rw [← hW, cell_old_at (by simp), cell_new_at (by simp)]; rfl
  have r2 : W.cell? ⟨w.heap.size + 1, 2, none⟩ = some (.string b) := by rw [← hW, cell_old_at (by simp), cell_new_at (by simp)]; rfl
  have r3 : W.cell? ⟨w.heap.size + 1, 3, none⟩ = some (.string d) := by rw [← hW, cell_old_at (by simp), cell_new_at (by simp)]; rfl
  have B0 : Boxed W (w.heap.size + 2) 24 (.slice none 0 0) := by
    rw [← hW]
    have := Boxed.new ((w.alloc (Obj.cells #[.slice ao n cap] 24)).alloc (Obj.cells #[.int .i64 t, .string a, .string b, .string d] 30)) 24 (.slice none 0 0)
    rw [World.size_alloc, World.size_alloc] at this
    exact this
  have hsz : w.heap.size + 3 = W.heap.size := by rw [← hW, World.size_alloc, World.size_alloc, World.size_alloc]
  have HW := lid hW
  have HA := lid (h.below hw0)
  clear hW h hz hr
  have m0 : w.heap.size < W.heap.size := by omega
  have m1 : w.heap.size + 1 < W.heap.size := by omega
  have m2 : w.heap.size + 2 < W.heap.size := by omega
  have CC := lid (fun w' (hb : Below W.heap.size W w') => Check_any l n cap ao w' HA.out.len (HA.out.below hb).sl HA.out.sizes HA.out.max)
  go_enter Try.func24, Try.ntmps24
  go_wp2_with fail
  rw [HW.out]
  clear HW
  (with_reducible refine (CC.out _ (Below.refl _ _)).mono ?_); rintro e w2 ⟨rfl, hb2⟩
  have hw2 := hw0.trans (hb2.mono hw0.size)
  have B2 := lid (Boxed.below B0 hb2 m2)
  replace q0 := (bc hb2 m0 0).trans q0
  replace r0 := (bc hb2 m1 0).trans r0
  replace r1 := (bc hb2 m1 1).trans r1
  replace r2 := (bc hb2 m1 2).trans r2
  replace r3 := (bc hb2 m1 3).trans r3
  replace m0 : w.heap.size < w2.heap.size := by have := hb2.size; omega
  replace m1 : w.heap.size + 1 < w2.heap.size := by have := hb2.size; omega
  replace m2 : w.heap.size + 2 < w2.heap.size := by have := hb2.size; omega
  replace HA := lid (HA.out.below hb2)
  clear CC hb2 hw0 B0 hsz
  by_cases hc : checkL l = 0
  · have HC := lid hc
    rw [hc]
    clear hc
    go_wp2_with fail
    (with_reducible refine (validRecord_any (t, a, b, d) _ HRS.out).mono ?_); rintro e w3 ⟨rfl, hb3⟩
    have hw3 := hw2.trans (hb3.mono hw2.size)
    have BX := lid (Boxed.below B2.out hb3 m2)
    replace q0 := (bc hb3 m0 0).trans q0
    replace r0 := (bc hb3 m1 0).trans r0
    replace r1 := (bc hb3 m1 1).trans r1
    replace r2 := (bc hb3 m1 2).trans r2
    replace r3 := (bc hb3 m1 3).trans r3
    have k0 : w.heap.size < w3.heap.size := by have := hb3.size; omega
    have k1 : w.heap.size + 1 < w3.heap.size := by have := hb3.size; omega
    have k2 : w.heap.size + 2 < w3.heap.size := by have := hb3.size; omega
    replace HA := lid (HA.out.below hb3)
    clear m0 m1 m2 B2 hb3 hw2
    cases hB : recB (t, a, b, d) with
    | false =>
      have HV := lid (appE_rec HC.out hB)
      clear hB
      have B3 : Boxed w3 (w.heap.size + 2) 24 (.slice none 0 0) := BX.out
      have y0 := B3.cell
      have f0 := B3.frozen
      clear q0 r0 r1 r2 r3
      go_wp2_with fail
      refine bodyPost_ret (v := .tuple #[.agg #[.slice none 0 0], .int .i64 1]) (res_led Try.results24 _ _ (w.heap.size + 2) _ _ _ _ rfl rfl ((B3.set _).cell)) rfl (LedR.empty HV.out ?_)
      exact hw3.setCell (p := ⟨w.heap.size + 2, 0, none⟩) (by show w.heap.size ≤ w.heap.size + 2; omega) _
    | true =>
      have HB := lid hB
      clear hB
      cases n with
      | zero =>
        have HLT := lid (lateB_nil (t, a, b, d) HN.out)
        have HV := lid (appE_good HC.out HB.out HLT.out (by rw [HN.out]; decide))
        go_wp2_with fail
        refine wp_region_seq (fun w' => ∃ s : Since w3.heap.size w3, w' = s.world) [(0, true), (1, true), (2, true), (3, true), (4, true), (5, true), (6, true), (7, true), (8, true), (9, true), (10, true), (11, true), (12, true), (13, true), (14, false)] (by kernel_rfl) (by kernel_rfl) (by intro c d v a w h; cases d <;> exact h) (since (Below.refl _ _).drew) ?_
        repeat (first | (refine seq_skip (by rfl) (by rfl) ?_; simp only [Act.put, List.setIfInBounds_toArray, List.set_cons_succ, List.set_cons_zero]) | (refine seq_float (by rfl) (by rfl) (by rfl) ?_; intro K hK; go_big_quiet_op; go_big_quiet_on))
        refine seq_chain (by rfl) ?_
        intro K hK
        go_wp2_with fail
        refine hK.out _ _ (since (Below.refl _ _).drew) ?_
        clear hK K
        repeat (first | (refine seq_skip (by rfl) (by rfl) ?_; simp only [Act.put, List.setIfInBounds_toArray, List.set_cons_succ, List.set_cons_zero]) | (refine seq_float (by rfl) (by rfl) (by rfl) ?_; intro K hK; go_big_quiet_op; go_big_quiet_on))
        refine seq_nil ?_
        obtain ⟨W4, hW4⟩ : ∃ W4, w3.drew = W4 := ⟨_, rfl⟩
        have hw4 : Below w.heap.size w W4 := by rw [← hW4]; exact hw3.drew
        have BX := lid (show Boxed W4 (w.heap.size + 2) 24 (.slice none 0 0) by rw [← hW4]; exact BX.out)
        replace q0 : W4.cell? ⟨w.heap.size, 0, none⟩ = some (.slice ao 0 cap) := by rw [← hW4]; exact q0
        replace r0 : W4.cell? ⟨w.heap.size + 1, 0, none⟩ = some (.int .i64 t) := by rw [← hW4]; exact r0
        replace r1 : W4.cell? ⟨w.heap.size + 1, 1, none⟩ = some (.string a) := by rw [← hW4]; exact r1
        replace r2 : W4.cell? ⟨w.heap.size + 1, 2, none⟩ = some (.string b) := by rw [← hW4]; exact r2
        replace r3 : W4.cell? ⟨w.heap.size + 1, 3, none⟩ = some (.string d) := by rw [← hW4]; exact r3
        replace k0 : w.heap.size < W4.heap.size := by rw [← hW4]; exact k0
        replace k1 : w.heap.size + 1 < W4.heap.size := by rw [← hW4]; exact k1
        replace k2 : w.heap.size + 2 < W4.heap.size := by rw [← hW4]; exact k2
        replace HA : Hid (LedA W4 ao 0 cap l) := lid (by rw [← hW4]; exact HA.out.below (Below.refl _ _).drew)
        rw [hW4]
        clear hW4 hw3
        have hn10 : 0 ≤ 10000 := by have := check_len HC.out; rw [HN.out] at this; exact this
        go_wp2_with fail
        have c0 := SinceX.cell (B := W4.heap.size) (X := w.heap.size + 2) (W := W4) w.heap.size 0 k0 (by omega) q0
        have d0 := SinceX.cell (B := W4.heap.size) (X := w.heap.size + 2) (W := W4) (w.heap.size + 1) 0 k1 (by omega) r0
        have d1 := SinceX.cell (B := W4.heap.size) (X := w.heap.size + 2) (W := W4) (w.heap.size + 1) 1 k1 (by omega) r1
        have d2 := SinceX.cell (B := W4.heap.size) (X := w.heap.size + 2) (W := W4) (w.heap.size + 1) 2 k1 (by omega) r2
        have d3 := SinceX.cell (B := W4.heap.size) (X := w.heap.size + 2) (W := W4) (w.heap.size + 1) 3 k1 (by omega) r3
        clear q0 r0 r1 r2 r3
        have CL := lid (fun w1 (hb : Below W4.heap.size W4 w1) => Clone_any l 0 cap ao w1 (HA.out.below hb) HZ.out hn10)
        refine wp_region_mix (fun w' => ∃ s : SinceX W4.heap.size (w.heap.size + 2) W4, w' = s.world) [(0, true), (1, true), (3, true)] [(2, []), (4, [])] [(5, false), (6, true), (7, false), (8, false)] (by kernel_rfl) (by kernel_rfl) (by intro c d v a w h; cases d <;> exact h) (sincex (KeptX.refl _ _ _).drew) ?_
        repeat (first | (refine seq_skip (by rfl) (by rfl) ?_; simp only [Act.put, List.setIfInBounds_toArray, List.set_cons_succ, List.set_cons_zero]) | (refine seq_float (by rfl) (by rfl) (by rfl) ?_; intro K hK; go_big_quiet_op; go_big_quiet_on))
        refine seq_nil (mix_go [44, 46] [undef, undef] (RA 2 4 W4.heap.size W4 0 (rcells l) #[.int .i64 t, .string a, .string b, .string d]) rfl (by simp only [putAll, Act.put, List.setIfInBounds_toArray, List.set_cons_succ, List.set_cons_zero]) (fun s h => RA.start _ _ _ _ _ _ _ s (h (2, []) (by simp)) (h (4, []) (by simp))) ⟨?_, ?_, trivial⟩ ?_)
        · intro s vs w1 _ _ _ _ hR
          have hR' := lid hR
          obtain ⟨x, y, rfl, hB1, hx, hy⟩ := hR
          simp only [putAll, Act.put, List.setIfInBounds_toArray, List.set_cons_succ, List.set_cons_zero]
          refine mix_op (by rfl) ?_
          intro K hK
          go_wp2_with fail
          (with_reducible refine (CL.out _ hB1).mono ?_); rintro e w2 ⟨v', rfl, hown, hb2⟩
          go_wp2_with fail
          exact hK.out _ _ ⟨sincex ((KeptX.refl _ _ _).below (hB1.trans (hb2.mono hB1.size))), [v', y], rfl, by simp only [putAll, Act.put, List.setIfInBounds_toArray, List.set_cons_succ, List.set_cons_zero], hR'.out.clone (by decide) hB1.size hown hb2⟩
        · intro s vs w1 _ _ _ _ hR
          have hR' := lid hR
          obtain ⟨x, y, rfl, hB1, hx, hy⟩ := hR
          simp only [putAll, Act.put, List.setIfInBounds_toArray, List.set_cons_succ, List.set_cons_zero]
          refine mix_op (by rfl) ?_
          intro K hK
          go_wp2_with fail
          exact hK.out _ _ ⟨sincex ((KeptX.refl _ _ _).below (hB1.trans ((ba _ _).mono hB1.size))), [x, .slice (some ⟨w1.heap.size, 0, none⟩) 1 1], rfl, by simp only [putAll, Act.put, List.setIfInBounds_toArray, List.set_cons_succ, List.set_cons_zero], hR'.out.lay (by decide) hB1.size⟩
        · intro s vs w1 _ hall _ hR
          have hR' := lid hR
          obtain ⟨x, y, rfl, hB1, hx, hy⟩ := hR
          replace hx := hx (hall (2, []) (by simp))
          replace hy := hy (hall (4, []) (by simp))
          clear hR'
          have hR := hB1
          obtain ⟨k, rfl, hk, hkc⟩ := hy
          simp only [putAll, Act.put, List.setIfInBounds_toArray, List.set_cons_succ, List.set_cons_zero]
          clear hall hR
          refine seq_chain (by rfl) ?_
          intro K hK
          go_wp2_with (at_builtin; go_must (refine wpList_append_sl rfl _ _ 22 rfl W4.heap.size 30 (.agg #[.int .i64 0, .string ⟨#[]⟩, .string ⟨#[]⟩, .string ⟨#[]⟩]) 4 56 info_rec Try.underlying22 rfl (by decide) _ _ _ hx rfl _ 1 1 #[.int .i64 t, .string a, .string b, .string d].toList rfl (sl_one hkc rfl) (by intro h; cases h) (by simp [Value.oneCell']) (by simp only [maxLen]; omega) (by omega) hB1.size ?_))
          intro v5 w5 hown5 hb5
          have hB5 := hB1.trans hb5
          have hown5' : w5.ownsRow W4.heap.size 30 4 v5 (0 + 1) (rcells (l ++ [(t, a, b, d)])) := by rw [rcells_append]; exact hown5
          clear hown5
          obtain ⟨ao5, cap5, rfl, hc5, hA5⟩ := led_grown (l := l ++ [(t, a, b, d)]) hown5' (by simp [HN.out]) (by intro r hr; rcases List.mem_append.1 hr with h | h; exact HA.out.sizes r h; rw [List.mem_singleton.1 h]; exact HRS.out)
          go_wp2_with fail
          refine hK.out _ _ (sincex ((KeptX.refl _ _ _).below hB5)) ?_
          clear hK K
          repeat (first | (refine seq_skip (by rfl) (by rfl) ?_; simp only [Act.put, List.setIfInBounds_toArray, List.set_cons_succ, List.set_cons_zero]) | (refine seq_float (by rfl) (by rfl) (by rfl) ?_; intro K hK; go_big_quiet_op; go_big_quiet_on))
          have B5 : Boxed w5 (w.heap.size + 2) 24 (.slice none 0 0) := Boxed.below BX.out hB5 k2
          have y0 := B5.cell
          have f0 := B5.frozen
          refine seq_chain (by rfl) ?_
          intro K hK
          go_wp2_with fail
          obtain ⟨W6, hW6⟩ : ∃ W6, w5.setCell ⟨w.heap.size + 2, 0, none⟩ (.slice ao5 (0 + 1) cap5) = W6 := ⟨_, rfl⟩
          have B6 : Boxed W6 (w.heap.size + 2) 24 (.slice ao5 (0 + 1) cap5) := by rw [← hW6]; exact B5.set _
          have hX6 : KeptX W4.heap.size (w.heap.size + 2) W4 W6 := by rw [← hW6]; exact ((KeptX.refl _ _ _).below hB5).setCell (p := ⟨w.heap.size + 2, 0, none⟩) (.inl rfl) _
          have hw6 : Below w.heap.size w W6 := by rw [← hW6]; exact (hw4.trans (hB5.mono hw4.size)).setCell (p := ⟨w.heap.size + 2, 0, none⟩) (by show w.heap.size ≤ w.heap.size + 2; omega) _
          have hA6 : LedA W6 ao5 (0 + 1) cap5 (l ++ [(t, a, b, d)]) := by
            rw [← hW6]
            exact led_set hown5' hA5 k2
          rw [hW6]
          clear hW6 y0 f0 B5 hB5 hB1
          refine hK.out _ _ (sincex hX6) ?_
          clear hK K
          repeat (first | (refine seq_skip (by rfl) (by rfl) ?_; simp only [Act.put, List.setIfInBounds_toArray, List.set_cons_succ, List.set_cons_zero]) | (refine seq_float (by rfl) (by rfl) (by rfl) ?_; intro K hK; go_big_quiet_op; go_big_quiet_on))
          refine seq_chain (by rfl) ?_
          intro K hK
          go_wp2_with fail
          refine hK.out _ _ (sincex hX6) ?_
          clear hK K
          repeat (first | (refine seq_skip (by rfl) (by rfl) ?_; simp only [Act.put, List.setIfInBounds_toArray, List.set_cons_succ, List.set_cons_zero]) | (refine seq_float (by rfl) (by rfl) (by rfl) ?_; intro K hK; go_big_quiet_op; go_big_quiet_on))
          refine seq_nil ?_
          go_wp2_with fail
          refine bodyPost_ret (v := .tuple #[.agg #[.slice ao5 (0 + 1) cap5], .int .i64 0]) (res_led Try.results24 _ _ (w.heap.size + 2) _ _ _ _ rfl rfl B6.cell) rfl ⟨ao5, 0 + 1, cap5, by rw [HV.out], hc5, by rw [HV.out]; exact hA6, hw6⟩
      | succ m =>
        have hml : m < l.length := by rw [HN.out]; omega
        obtain ⟨b1, o1, rfl, hlb, hcell⟩ := HA.out.sl.at_ (k := m) (by omega)
        have x0 := hcell (m * 4 + 0) _ (rcells_at hml).1
        rw [Nat.add_zero] at x0
        have HL0 := lid (lateB_some (t, a, b, d) HN.out hml)
        obtain ⟨pt, hpt⟩ : ∃ pt, (l[m]).1 = pt := ⟨_, rfl⟩
        rw [hpt] at x0 HL0
        clear hcell hpt
        have e0 : ((m + 1 : Nat) : Int) = (m : Int) + 1 := by omega
        have hpos : decide ((0 : Int) < (m : Int) + 1) = true := decide_eq_true (by omega)
        have wj : IntKind.i64.wrap (m : Int) = m := IntWalk.i64_in _ (by omega)
        have hjn1 : (m : Int) < (m : Int) + 1 := by omega
        have hjl : decide (m < m + 1) = true := by simp
        by_cases hlp : t < pt
        · have hd : decide (t < pt) = true := by simpa using hlp
          have HV := lid (appE_late HC.out HB.out (by rw [HL0.out]; exact hd))
          go_wp2_with fail
          refine wp_region_seq (fun w' => ∃ s : Since w3.heap.size w3, w' = s.world) [(0, true), (1, true), (2, true), (3, true), (4, true), (5, true), (6, true), (7, true), (8, true), (9, true), (10, true), (11, true), (12, true), (13, true), (14, false)] (by kernel_rfl) (by kernel_rfl) (by intro c d v a w h; cases d <;> exact h) (since (Below.refl _ _).drew) ?_
          repeat (first | (refine seq_skip (by rfl) (by rfl) ?_; simp only [Act.put, List.setIfInBounds_toArray, List.set_cons_succ, List.set_cons_zero]) | (refine seq_float (by rfl) (by rfl) (by rfl) ?_; intro K hK; go_big_quiet_op; go_big_quiet_on))
          refine seq_chain (by rfl) ?_
          intro K hK
          go_wp2_with fail
          refine hK.out _ _ (since (Below.refl _ _).drew) ?_
          clear hK K
          repeat (first | (refine seq_skip (by rfl) (by rfl) ?_; simp only [Act.put, List.setIfInBounds_toArray, List.set_cons_succ, List.set_cons_zero]) | (refine seq_float (by rfl) (by rfl) (by rfl) ?_; intro K hK; go_big_quiet_op; go_big_quiet_on))
          refine seq_nil ?_
          have B3 : Boxed w3 (w.heap.size + 2) 24 (.slice none 0 0) := BX.out
          have y0 := B3.cell
          have f0 := B3.frozen
          clear q0 r0 r1 r2 r3
          go_wp2_with fail
          refine bodyPost_ret (v := .tuple #[.agg #[.slice none 0 0], .int .i64 10]) (res_led Try.results24 _ _ (w.heap.size + 2) _ _ _ _ rfl rfl ((B3.set _).cell)) rfl (LedR.empty HV.out ?_)
          exact hw3.drew.setCell (p := ⟨w.heap.size + 2, 0, none⟩) (by show w.heap.size ≤ w.heap.size + 2; omega) _
        · have hd : decide (t < pt) = false := by simpa using hlp
          have HLT : Hid (lateB l (t, a, b, d) = false) := lid (by rw [HL0.out]; exact hd)
          go_wp2_with fail
          refine wp_region_seq (fun w' => ∃ s : Since w3.heap.size w3, w' = s.world) [(0, true), (1, true), (2, true), (3, true), (4, true), (5, true), (6, true), (7, true), (8, true), (9, true), (10, true), (11, true), (12, true), (13, true), (14, false)] (by kernel_rfl) (by kernel_rfl) (by intro c d v a w h; cases d <;> exact h) (since (Below.refl _ _).drew) ?_
          repeat (first | (refine seq_skip (by rfl) (by rfl) ?_; simp only [Act.put, List.setIfInBounds_toArray, List.set_cons_succ, List.set_cons_zero]) | (refine seq_float (by rfl) (by rfl) (by rfl) ?_; intro K hK; go_big_quiet_op; go_big_quiet_on))
          refine seq_chain (by rfl) ?_
          intro K hK
          go_wp2_with fail
          refine hK.out _ _ (since (Below.refl _ _).drew) ?_
          clear hK K
          repeat (first | (refine seq_skip (by rfl) (by rfl) ?_; simp only [Act.put, List.setIfInBounds_toArray, List.set_cons_succ, List.set_cons_zero]) | (refine seq_float (by rfl) (by rfl) (by rfl) ?_; intro K hK; go_big_quiet_op; go_big_quiet_on))
          refine seq_nil ?_
          obtain ⟨W4, hW4⟩ : ∃ W4, w3.drew = W4 := ⟨_, rfl⟩
          have hw4 : Below w.heap.size w W4 := by rw [← hW4]; exact hw3.drew
          have BX := lid (show Boxed W4 (w.heap.size + 2) 24 (.slice none 0 0) by rw [← hW4]; exact BX.out)
          replace q0 : W4.cell? ⟨w.heap.size, 0, none⟩ = some (.slice (some ⟨b1, o1, none⟩) (m + 1) cap) := by rw [← hW4]; exact q0
          replace r0 : W4.cell? ⟨w.heap.size + 1, 0, none⟩ = some (.int .i64 t) := by rw [← hW4]; exact r0
          replace r1 : W4.cell? ⟨w.heap.size + 1, 1, none⟩ = some (.string a) := by rw [← hW4]; exact r1
          replace r2 : W4.cell? ⟨w.heap.size + 1, 2, none⟩ = some (.string b) := by rw [← hW4]; exact r2
          replace r3 : W4.cell? ⟨w.heap.size + 1, 3, none⟩ = some (.string d) := by rw [← hW4]; exact r3
          replace k0 : w.heap.size < W4.heap.size := by rw [← hW4]; exact k0
          replace k1 : w.heap.size + 1 < W4.heap.size := by rw [← hW4]; exact k1
          replace k2 : w.heap.size + 2 < W4.heap.size := by rw [← hW4]; exact k2
          replace HA : Hid (LedA W4 (some ⟨b1, o1, none⟩) (m + 1) cap l) := lid (by rw [← hW4]; exact HA.out.below (Below.refl _ _).drew)
          rw [hW4]
          clear hW4 hw3
          by_cases hf : (m + 1) = 10000
          · have HV := lid (appE_full HC.out HB.out HLT.out (by rw [HN.out]; exact hf))
            have df : ((m : Int) + 1 == 10000) = true := by simp; omega
            clear hf
            have B4 : Boxed W4 (w.heap.size + 2) 24 (.slice none 0 0) := BX.out
            have y0 := B4.cell
            have f0 := B4.frozen
            clear q0 r0 r1 r2 r3
            go_wp2_with fail
            refine bodyPost_ret (v := .tuple #[.agg #[.slice none 0 0], .int .i64 19]) (res_led Try.results24 _ _ (w.heap.size + 2) _ _ _ _ rfl rfl ((B4.set _).cell)) rfl (LedR.empty HV.out ?_)
            exact hw4.setCell (p := ⟨w.heap.size + 2, 0, none⟩) (by show w.heap.size ≤ w.heap.size + 2; omega) _
          · have HV := lid (appE_good HC.out HB.out HLT.out (by rw [HN.out]; exact hf))
            have df : ((m : Int) + 1 == 10000) = false := by simp; omega
            have hn10 : (m + 1) ≤ 10000 := by have := check_len HC.out; rw [HN.out] at this; exact this
            clear hf
            go_wp2_with fail
            have c0 := SinceX.cell (B := W4.heap.size) (X := w.heap.size + 2) (W := W4) w.heap.size 0 k0 (by omega) q0
            have d0 := SinceX.cell (B := W4.heap.size) (X := w.heap.size + 2) (W := W4) (w.heap.size + 1) 0 k1 (by omega) r0
            have d1 := SinceX.cell (B := W4.heap.size) (X := w.heap.size + 2) (W := W4) (w.heap.size + 1) 1 k1 (by omega) r1
            have d2 := SinceX.cell (B := W4.heap.size) (X := w.heap.size + 2) (W := W4) (w.heap.size + 1) 2 k1 (by omega) r2
            have d3 := SinceX.cell (B := W4.heap.size) (X := w.heap.size + 2) (W := W4) (w.heap.size + 1) 3 k1 (by omega) r3
            clear q0 r0 r1 r2 r3
            have CL := lid (fun w1 (hb : Below W4.heap.size W4 w1) => Clone_any l (m + 1) cap (some ⟨b1, o1, none⟩) w1 (HA.out.below hb) HZ.out hn10)
            refine wp_region_mix (fun w' => ∃ s : SinceX W4.heap.size (w.heap.size + 2) W4, w' = s.world) [(0, true), (1, true), (3, true)] [(2, []), (4, [])] [(5, false), (6, true), (7, false), (8, false)] (by kernel_rfl) (by kernel_rfl) (by intro c d v a w h; cases d <;> exact h) (sincex (KeptX.refl _ _ _).drew) ?_
            repeat (first | (refine seq_skip (by rfl) (by rfl) ?_; simp only [Act.put, List.setIfInBounds_toArray, List.set_cons_succ, List.set_cons_zero]) | (refine seq_float (by rfl) (by rfl) (by rfl) ?_; intro K hK; go_big_quiet_op; go_big_quiet_on))
            refine seq_nil (mix_go [44, 46] [undef, undef] (RA 2 4 W4.heap.size W4 (m + 1) (rcells l) #[.int .i64 t, .string a, .string b, .string d]) rfl (by simp only [putAll, Act.put, List.setIfInBounds_toArray, List.set_cons_succ, List.set_cons_zero]) (fun s h => RA.start _ _ _ _ _ _ _ s (h (2, []) (by simp)) (h (4, []) (by simp))) ⟨?_, ?_, trivial⟩ ?_)
            · intro s vs w1 _ _ _ _ hR
              have hR' := lid hR
              obtain ⟨x, y, rfl, hB1, hx, hy⟩ := hR
              simp only [putAll, Act.put, List.setIfInBounds_toArray, List.set_cons_succ, List.set_cons_zero]
              refine mix_op (by rfl) ?_
              intro K hK
              go_wp2_with fail
              (with_reducible refine (CL.out _ hB1).mono ?_); rintro e w2 ⟨v', rfl, hown, hb2⟩
              go_wp2_with fail
              exact hK.out _ _ ⟨sincex ((KeptX.refl _ _ _).below (hB1.trans (hb2.mono hB1.size))), [v', y], rfl, by simp only [putAll, Act.put, List.setIfInBounds_toArray, List.set_cons_succ, List.set_cons_zero], hR'.out.clone (by decide) hB1.size hown hb2⟩
            · intro s vs w1 _ _ _ _ hR
              have hR' := lid hR
              obtain ⟨x, y, rfl, hB1, hx, hy⟩ := hR
              simp only [putAll, Act.put, List.setIfInBounds_toArray, List.set_cons_succ, List.set_cons_zero]
              refine mix_op (by rfl) ?_
              intro K hK
              go_wp2_with fail
              exact hK.out _ _ ⟨sincex ((KeptX.refl _ _ _).below (hB1.trans ((ba _ _).mono hB1.size))), [x, .slice (some ⟨w1.heap.size, 0, none⟩) 1 1], rfl, by simp only [putAll, Act.put, List.setIfInBounds_toArray, List.set_cons_succ, List.set_cons_zero], hR'.out.lay (by decide) hB1.size⟩
            · intro s vs w1 _ hall _ hR
              have hR' := lid hR
              obtain ⟨x, y, rfl, hB1, hx, hy⟩ := hR
              replace hx := hx (hall (2, []) (by simp))
              replace hy := hy (hall (4, []) (by simp))
              clear hR'
              have hR := hB1
              obtain ⟨k, rfl, hk, hkc⟩ := hy
              simp only [putAll, Act.put, List.setIfInBounds_toArray, List.set_cons_succ, List.set_cons_zero]
              clear hall hR
              refine seq_chain (by rfl) ?_
              intro K hK
              go_wp2_with (at_builtin; go_must (refine wpList_append_sl rfl _ _ 22 rfl W4.heap.size 30 (.agg #[.int .i64 0, .string ⟨#[]⟩, .string ⟨#[]⟩, .string ⟨#[]⟩]) 4 56 info_rec Try.underlying22 rfl (by decide) _ _ _ hx rfl _ 1 1 #[.int .i64 t, .string a, .string b, .string d].toList rfl (sl_one hkc rfl) (by intro h; cases h) (by simp [Value.oneCell']) (by simp only [maxLen]; omega) (by omega) hB1.size ?_))
              intro v5 w5 hown5 hb5
              have hB5 := hB1.trans hb5
              have hown5' : w5.ownsRow W4.heap.size 30 4 v5 ((m + 1) + 1) (rcells (l ++ [(t, a, b, d)])) := by rw [rcells_append]; exact hown5
              clear hown5
              obtain ⟨ao5, cap5, rfl, hc5, hA5⟩ := led_grown (l := l ++ [(t, a, b, d)]) hown5' (by simp [HN.out]) (by intro r hr; rcases List.mem_append.1 hr with h | h; exact HA.out.sizes r h; rw [List.mem_singleton.1 h]; exact HRS.out)
              go_wp2_with fail
              refine hK.out _ _ (sincex ((KeptX.refl _ _ _).below hB5)) ?_
              clear hK K
              repeat (first | (refine seq_skip (by rfl) (by rfl) ?_; simp only [Act.put, List.setIfInBounds_toArray, List.set_cons_succ, List.set_cons_zero]) | (refine seq_float (by rfl) (by rfl) (by rfl) ?_; intro K hK; go_big_quiet_op; go_big_quiet_on))
              have B5 : Boxed w5 (w.heap.size + 2) 24 (.slice none 0 0) := Boxed.below BX.out hB5 k2
              have y0 := B5.cell
              have f0 := B5.frozen
              refine seq_chain (by rfl) ?_
              intro K hK
              go_wp2_with fail
              obtain ⟨W6, hW6⟩ : ∃ W6, w5.setCell ⟨w.heap.size + 2, 0, none⟩ (.slice ao5 ((m + 1) + 1) cap5) = W6 := ⟨_, rfl⟩
              have B6 : Boxed W6 (w.heap.size + 2) 24 (.slice ao5 ((m + 1) + 1) cap5) := by rw [← hW6]; exact B5.set _
              have hX6 : KeptX W4.heap.size (w.heap.size + 2) W4 W6 := by rw [← hW6]; exact ((KeptX.refl _ _ _).below hB5).setCell (p := ⟨w.heap.size + 2, 0, none⟩) (.inl rfl) _
              have hw6 : Below w.heap.size w W6 := by rw [← hW6]; exact (hw4.trans (hB5.mono hw4.size)).setCell (p := ⟨w.heap.size + 2, 0, none⟩) (by show w.heap.size ≤ w.heap.size + 2; omega) _
              have hA6 : LedA W6 ao5 ((m + 1) + 1) cap5 (l ++ [(t, a, b, d)]) := by
                rw [← hW6]
                exact led_set hown5' hA5 k2
              rw [hW6]
              clear hW6 y0 f0 B5 hB5 hB1
              refine hK.out _ _ (sincex hX6) ?_
              clear hK K
              repeat (first | (refine seq_skip (by rfl) (by rfl) ?_; simp only [Act.put, List.setIfInBounds_toArray, List.set_cons_succ, List.set_cons_zero]) | (refine seq_float (by rfl) (by rfl) (by rfl) ?_; intro K hK; go_big_quiet_op; go_big_quiet_on))
              refine seq_chain (by rfl) ?_
              intro K hK
              go_wp2_with fail
              refine hK.out _ _ (sincex hX6) ?_
              clear hK K
              repeat (first | (refine seq_skip (by rfl) (by rfl) ?_; simp only [Act.put, List.setIfInBounds_toArray, List.set_cons_succ, List.set_cons_zero]) | (refine seq_float (by rfl) (by rfl) (by rfl) ?_; intro K hK; go_big_quiet_op; go_big_quiet_on))
              refine seq_nil ?_
              go_wp2_with fail
              refine bodyPost_ret (v := .tuple #[.agg #[.slice ao5 ((m + 1) + 1) cap5], .int .i64 0]) (res_led Try.results24 _ _ (w.heap.size + 2) _ _ _ _ rfl rfl B6.cell) rfl ⟨ao5, (m + 1) + 1, cap5, by rw [HV.out], hc5, by rw [HV.out]; exact hA6, hw6⟩
  · have HV := lid (appE_bad (r := (t, a, b, d)) hc)
    have hc' : (checkL l != 0) = true := by simpa using hc
    have B3 : Boxed w2 (w.heap.size + 2) 24 (.slice none 0 0) := B2.out
    generalize checkL l = C at *
    clear hc
    have y0 := B3.cell
    have f0 := B3.frozen
    clear q0 r0 r1 r2 r3
    go_wp2_with fail
    refine bodyPost_ret (v := .tuple #[.agg #[.slice none 0 0], .int .i64 C]) (res_led Try.results24 _ _ (w.heap.size + 2) _ _ _ _ rfl rfl ((B3.set _).cell)) rfl (LedR.empty HV.out ?_)
    exact hw2.setCell (p := ⟨w.heap.size + 2, 0, none⟩) (by show w.heap.size ≤ w.heap.size + 2; omega) _

set_option maxRecDepth 100000 in
set_option maxHeartbeats 16000000 in
theorem refAppend_any (l : List Rec) (r : Rec) (n cap : Nat) (ao : Option Addr) (w : World) (h : LedA w ao n cap l) (hz : ao = none → cap = 0) (hr : RecS r) :
    Calls Try.prog 25 #[.agg #[.slice ao n cap], rv r] w fun e w' => LedR (appE l r) w e w' := by
  obtain ⟨t, a, b, d⟩ := r
  have HN := lid h.len
  have hnm : n ≤ 9223372036854775807 := h.max
  have HZ := lid hz
  have HRS := lid hr
  obtain ⟨W, hW⟩ : ∃ W, ((w.alloc (Obj.cells #[.slice ao n cap] 24)).alloc (Obj.cells #[.int .i64 t, .string a, .string b, .string d] 30)).alloc (Obj.cells #[.slice none 0 0] 24) = W := ⟨_, rfl⟩
  have hw0 : Below w.heap.size w W := by rw [← hW]; exact (((Below.refl _ _).alloc (Nat.le_refl _) _).alloc (by simp) _).alloc (by simp <;> omega) _
  have q0 : W.cell? ⟨w.heap.size, 0, none⟩ = some (.slice ao n cap) := by rw [← hW, cell_old_at (by simp <;> omega), cell_old_at (by simp), cell_new_at rfl]; rfl
  have r0 : W.cell? ⟨w.heap.size + 1, 0, none⟩ = some (.int .i64 t) := by rw [← hW, cell_old_at (by simp), cell_new_at (by simp)]; rfl
  have r1 : W.cell? ⟨w.heap.size + 1, 1, none⟩ = some (.string a) := by rw [← hW, cell_old_at (by simp), cell_new_at (by simp)]; rfl
  have r2 : W.cell? ⟨w.heap.size + 1, 2, none⟩ = some (.string b) := by rw [← hW, cell_old_at (by simp), cell_new_at (by simp)]; rfl
  have r3 : W.cell? ⟨w.heap.size + 1, 3, none⟩ = some (.string d) := by rw [← hW, cell_old_at (by simp), cell_new_at (by simp)]; rfl
  have B0 : Boxed W (w.heap.size + 2) 24 (.slice none 0 0) := by
    rw [← hW]
    have := Boxed.new ((w.alloc (Obj.cells #[.slice ao n cap] 24)).alloc (Obj.cells #[.int .i64 t, .string a, .string b, .string d] 30)) 24 (.slice none 0 0)
    rw [World.size_alloc, World.size_alloc] at this
    exact this
  have hsz : w.heap.size + 3 = W.heap.size := by rw [← hW, World.size_alloc, World.size_alloc, World.size_alloc]
  have HW := lid hW
  have HA := lid (h.below hw0)
  clear hW h hz hr
  have m0 : w.heap.size < W.heap.size := by omega
  have m1 : w.heap.size + 1 < W.heap.size := by omega
  have m2 : w.heap.size + 2 < W.heap.size := by omega
  have CC := lid (fun w' (hb : Below W.heap.size W w') => refCheck_any l n cap ao w' HA.out.len (HA.out.below hb).sl HA.out.sizes HA.out.max)
  go_enter Try.func25, Try.ntmps25
  go_wp2_with fail
  rw [HW.out]
  clear HW
  (with_reducible refine (CC.out _ (Below.refl _ _)).mono ?_); rintro e w2 ⟨rfl, hb2⟩
  have hw2 := hw0.trans (hb2.mono hw0.size)
  have B2 := lid (Boxed.below B0 hb2 m2)
  replace q0 := (bc hb2 m0 0).trans q0
  replace r0 := (bc hb2 m1 0).trans r0
  replace r1 := (bc hb2 m1 1).trans r1
  replace r2 := (bc hb2 m1 2).trans r2
  replace r3 := (bc hb2 m1 3).trans r3
  replace m0 : w.heap.size < w2.heap.size := by have := hb2.size; omega
  replace m1 : w.heap.size + 1 < w2.heap.size := by have := hb2.size; omega
  replace m2 : w.heap.size + 2 < w2.heap.size := by have := hb2.size; omega
  replace HA := lid (HA.out.below hb2)
  clear CC hb2 hw0 B0 hsz
  by_cases hc : checkL l = 0
  · have HC := lid hc
    rw [hc]
    clear hc
    go_wp2_with fail
    (with_reducible refine (refValid_any (t, a, b, d) _ HRS.out).mono ?_); rintro e w3 ⟨rfl, hb3⟩
    have hw3 := hw2.trans (hb3.mono hw2.size)
    have BX := lid (Boxed.below B2.out hb3 m2)
    replace q0 := (bc hb3 m0 0).trans q0
    replace r0 := (bc hb3 m1 0).trans r0
    replace r1 := (bc hb3 m1 1).trans r1
    replace r2 := (bc hb3 m1 2).trans r2
    replace r3 := (bc hb3 m1 3).trans r3
    have k0 : w.heap.size < w3.heap.size := by have := hb3.size; omega
    have k1 : w.heap.size + 1 < w3.heap.size := by have := hb3.size; omega
    have k2 : w.heap.size + 2 < w3.heap.size := by have := hb3.size; omega
    replace HA := lid (HA.out.below hb3)
    clear m0 m1 m2 B2 hb3 hw2
    cases hB : recB (t, a, b, d) with
    | false =>
      have HV := lid (appE_rec HC.out hB)
      clear hB
      have B3 : Boxed w3 (w.heap.size + 2) 24 (.slice none 0 0) := BX.out
      have y0 := B3.cell
      have f0 := B3.frozen
      clear q0 r0 r1 r2 r3
      go_wp2_with fail
      refine bodyPost_ret (v := .tuple #[.agg #[.slice none 0 0], .int .i64 1]) (res_led Try.results25 _ _ (w.heap.size + 2) _ _ _ _ rfl rfl ((B3.set _).cell)) rfl (LedR.empty HV.out ?_)
      exact hw3.setCell (p := ⟨w.heap.size + 2, 0, none⟩) (by show w.heap.size ≤ w.heap.size + 2; omega) _
    | true =>
      have HB := lid hB
      clear hB
      cases n with
      | zero =>
        have HLT := lid (lateB_nil (t, a, b, d) HN.out)
        have HV := lid (appE_good HC.out HB.out HLT.out (by rw [HN.out]; decide))
        go_wp2_with fail
        refine wp_region_seq (fun w' => ∃ s : Since w3.heap.size w3, w' = s.world) [(0, true), (1, true), (2, true), (3, true), (4, true), (5, true), (6, true), (7, true), (8, true), (9, true), (10, true), (11, true), (12, true), (13, true)] (by kernel_rfl) (by kernel_rfl) (by intro c d v a w h; cases d <;> exact h) (since (Below.refl _ _).drew) ?_
        repeat (first | (refine seq_skip (by rfl) (by rfl) ?_; simp only [Act.put, List.setIfInBounds_toArray, List.set_cons_succ, List.set_cons_zero]) | (refine seq_float (by rfl) (by rfl) (by rfl) ?_; intro K hK; go_big_quiet_op; go_big_quiet_on))
        refine seq_nil ?_
        obtain ⟨W4, hW4⟩ : ∃ W4, w3.drew = W4 := ⟨_, rfl⟩
        have hw4 : Below w.heap.size w W4 := by rw [← hW4]; exact hw3.drew
        have BX := lid (show Boxed W4 (w.heap.size + 2) 24 (.slice none 0 0) by rw [← hW4]; exact BX.out)
        replace q0 : W4.cell? ⟨w.heap.size, 0, none⟩ = some (.slice ao 0 cap) := by rw [← hW4]; exact q0
        replace r0 : W4.cell? ⟨w.heap.size + 1, 0, none⟩ = some (.int .i64 t) := by rw [← hW4]; exact r0
        replace r1 : W4.cell? ⟨w.heap.size + 1, 1, none⟩ = some (.string a) := by rw [← hW4]; exact r1
        replace r2 : W4.cell? ⟨w.heap.size + 1, 2, none⟩ = some (.string b) := by rw [← hW4]; exact r2
        replace r3 : W4.cell? ⟨w.heap.size + 1, 3, none⟩ = some (.string d) := by rw [← hW4]; exact r3
        replace k0 : w.heap.size < W4.heap.size := by rw [← hW4]; exact k0
        replace k1 : w.heap.size + 1 < W4.heap.size := by rw [← hW4]; exact k1
        replace k2 : w.heap.size + 2 < W4.heap.size := by rw [← hW4]; exact k2
        replace HA : Hid (LedA W4 ao 0 cap l) := lid (by rw [← hW4]; exact HA.out.below (Below.refl _ _).drew)
        rw [hW4]
        clear hW4 hw3
        have hn10 : 0 ≤ 10000 := by have := check_len HC.out; rw [HN.out] at this; exact this
        go_wp2_with fail
        have c0 := SinceX.cell (B := W4.heap.size) (X := w.heap.size + 2) (W := W4) w.heap.size 0 k0 (by omega) q0
        have d0 := SinceX.cell (B := W4.heap.size) (X := w.heap.size + 2) (W := W4) (w.heap.size + 1) 0 k1 (by omega) r0
        have d1 := SinceX.cell (B := W4.heap.size) (X := w.heap.size + 2) (W := W4) (w.heap.size + 1) 1 k1 (by omega) r1
        have d2 := SinceX.cell (B := W4.heap.size) (X := w.heap.size + 2) (W := W4) (w.heap.size + 1) 2 k1 (by omega) r2
        have d3 := SinceX.cell (B := W4.heap.size) (X := w.heap.size + 2) (W := W4) (w.heap.size + 1) 3 k1 (by omega) r3
        clear q0 r0 r1 r2 r3
        refine wp_region_mix (fun w' => ∃ s : SinceX W4.heap.size (w.heap.size + 2) W4, w' = s.world) [(1, true), (2, true), (4, true)] [(0, []), (3, [0]), (5, [])] [(6, false), (7, true), (8, false), (9, false)] (by kernel_rfl) (by kernel_rfl) (by intro c d v a w h; cases d <;> exact h) (sincex (KeptX.refl _ _ _).drew) ?_
        repeat (first | (refine seq_skip (by rfl) (by rfl) ?_; simp only [Act.put, List.setIfInBounds_toArray, List.set_cons_succ, List.set_cons_zero]) | (refine seq_float (by rfl) (by rfl) (by rfl) ?_; intro K hK; go_big_quiet_op; go_big_quiet_on))
        refine seq_nil (mix_go [39, 42, 44] [undef, undef, undef] (RB W4.heap.size W4 0 (rcells l) #[.int .i64 t, .string a, .string b, .string d]) rfl (by simp only [putAll, Act.put, List.setIfInBounds_toArray, List.set_cons_succ, List.set_cons_zero]) (fun s h => RB.start _ _ _ _ _ s (h (0, []) (by simp)) (h (3, [0]) (by simp)) (h (5, []) (by simp))) ⟨?_, ?_, ?_, trivial⟩ ?_)
        · intro s vs w1 _ _ _ _ hR
          have hR' := lid hR
          obtain ⟨x, y, z, rfl, hB1, hx, hy, hz⟩ := hR
          simp only [putAll, Act.put, List.setIfInBounds_toArray, List.set_cons_succ, List.set_cons_zero]
          refine mix_op (by rfl) ?_
          intro K hK
          go_wp2_with fail
          exact hK.out _ _ ⟨sincex ((KeptX.refl _ _ _).below (hB1.trans ((ba _ _).mono hB1.size))), [.slice (some ⟨w1.heap.size, 0, none⟩) 0 0, y, z], rfl, by simp only [putAll, Act.put, List.setIfInBounds_toArray, List.set_cons_succ, List.set_cons_zero], hR'.out.empty hB1.size⟩
        · intro s vs w1 _ h3 hneed _ hR
          have hR' := lid hR
          obtain ⟨x, y, z, rfl, hB1, hx, hy, hz⟩ := hR
          obtain ⟨k, rfl, hk, hkc⟩ := hx (hneed 0 (by simp)) h3
          clear hx hy hz
          simp only [putAll, Act.put, List.setIfInBounds_toArray, List.set_cons_succ, List.set_cons_zero]
          refine mix_op (by rfl) ?_
          intro K hK
          go_wp2_with (at_builtin; go_must (refine wpList_append_slg rfl _ _ 22 rfl W4.heap.size 30 (.agg #[.int .i64 0, .string ⟨#[]⟩, .string ⟨#[]⟩, .string ⟨#[]⟩]) 4 56 info_rec Try.underlying22 rfl (by decide) _ 0 [] (own_empty hkc hk) rfl ao 0 cap (rcells l) rfl (HA.out.below hB1).sl HZ.out (rcells_one l) (by simp only [maxLen]; omega) (by omega) hB1.size ?_))
          intro v5 w5 hown5 hb5 hg5
          go_wp2_with fail
          exact hK.out _ _ ⟨sincex ((KeptX.refl _ _ _).below (hB1.trans hb5)), [.slice (some ⟨k, 0, none⟩) 0 0, v5, z], rfl, by simp only [putAll, Act.put, List.setIfInBounds_toArray, List.set_cons_succ, List.set_cons_zero], hR'.out.copy rfl hkc (by simpa using hown5) hg5 hb5⟩
        · intro s vs w1 _ _ _ _ hR
          have hR' := lid hR
          obtain ⟨x, y, z, rfl, hB1, hx, hy, hz⟩ := hR
          simp only [putAll, Act.put, List.setIfInBounds_toArray, List.set_cons_succ, List.set_cons_zero]
          refine mix_op (by rfl) ?_
          intro K hK
          go_wp2_with fail
          exact hK.out _ _ ⟨sincex ((KeptX.refl _ _ _).below (hB1.trans ((ba _ _).mono hB1.size))), [x, y, .slice (some ⟨w1.heap.size, 0, none⟩) 1 1], rfl, by simp only [putAll, Act.put, List.setIfInBounds_toArray, List.set_cons_succ, List.set_cons_zero], hR'.out.lay hB1.size⟩
        · intro s vs w1 _ hall _ hR
          obtain ⟨x0, x, y, rfl, hB1, -, hx, hy⟩ := hR
          replace hx := hx (hall (3, [0]) (by simp))
          replace hy := hy (hall (5, []) (by simp))
          have hR := hB1
          obtain ⟨k, rfl, hk, hkc⟩ := hy
          simp only [putAll, Act.put, List.setIfInBounds_toArray, List.set_cons_succ, List.set_cons_zero]
          clear hall hR
          refine seq_chain (by rfl) ?_
          intro K hK
          go_wp2_with (at_builtin; go_must (refine wpList_append_sl rfl _ _ 22 rfl W4.heap.size 30 (.agg #[.int .i64 0, .string ⟨#[]⟩, .string ⟨#[]⟩, .string ⟨#[]⟩]) 4 56 info_rec Try.underlying22 rfl (by decide) _ _ _ hx rfl _ 1 1 #[.int .i64 t, .string a, .string b, .string d].toList rfl (sl_one hkc rfl) (by intro h; cases h) (by simp [Value.oneCell']) (by simp only [maxLen]; omega) (by omega) hB1.size ?_))
          intro v5 w5 hown5 hb5
          have hB5 := hB1.trans hb5
          have hown5' : w5.ownsRow W4.heap.size 30 4 v5 (0 + 1) (rcells (l ++ [(t, a, b, d)])) := by rw [rcells_append]; exact hown5
          clear hown5
          obtain ⟨ao5, cap5, rfl, hc5, hA5⟩ := led_grown (l := l ++ [(t, a, b, d)]) hown5' (by simp [HN.out]) (by intro r hr; rcases List.mem_append.1 hr with h | h; exact HA.out.sizes r h; rw [List.mem_singleton.1 h]; exact HRS.out)
          go_wp2_with fail
          refine hK.out _ _ (sincex ((KeptX.refl _ _ _).below hB5)) ?_
          clear hK K
          repeat (first | (refine seq_skip (by rfl) (by rfl) ?_; simp only [Act.put, List.setIfInBounds_toArray, List.set_cons_succ, List.set_cons_zero]) | (refine seq_float (by rfl) (by rfl) (by rfl) ?_; intro K hK; go_big_quiet_op; go_big_quiet_on))
          have B5 : Boxed w5 (w.heap.size + 2) 24 (.slice none 0 0) := Boxed.below BX.out hB5 k2
          have y0 := B5.cell
          have f0 := B5.frozen
          refine seq_chain (by rfl) ?_
          intro K hK
          go_wp2_with fail
          obtain ⟨W6, hW6⟩ : ∃ W6, w5.setCell ⟨w.heap.size + 2, 0, none⟩ (.slice ao5 (0 + 1) cap5) = W6 := ⟨_, rfl⟩
          have B6 : Boxed W6 (w.heap.size + 2) 24 (.slice ao5 (0 + 1) cap5) := by rw [← hW6]; exact B5.set _
          have hX6 : KeptX W4.heap.size (w.heap.size + 2) W4 W6 := by rw [← hW6]; exact ((KeptX.refl _ _ _).below hB5).setCell (p := ⟨w.heap.size + 2, 0, none⟩) (.inl rfl) _
          have hw6 : Below w.heap.size w W6 := by rw [← hW6]; exact (hw4.trans (hB5.mono hw4.size)).setCell (p := ⟨w.heap.size + 2, 0, none⟩) (by show w.heap.size ≤ w.heap.size + 2; omega) _
          have hA6 : LedA W6 ao5 (0 + 1) cap5 (l ++ [(t, a, b, d)]) := by
            rw [← hW6]
            exact led_set hown5' hA5 k2
          rw [hW6]
          clear hW6 y0 f0 B5 hB5 hB1
          refine hK.out _ _ (sincex hX6) ?_
          clear hK K
          repeat (first | (refine seq_skip (by rfl) (by rfl) ?_; simp only [Act.put, List.setIfInBounds_toArray, List.set_cons_succ, List.set_cons_zero]) | (refine seq_float (by rfl) (by rfl) (by rfl) ?_; intro K hK; go_big_quiet_op; go_big_quiet_on))
          refine seq_chain (by rfl) ?_
          intro K hK
          go_wp2_with fail
          refine hK.out _ _ (sincex hX6) ?_
          clear hK K
          repeat (first | (refine seq_skip (by rfl) (by rfl) ?_; simp only [Act.put, List.setIfInBounds_toArray, List.set_cons_succ, List.set_cons_zero]) | (refine seq_float (by rfl) (by rfl) (by rfl) ?_; intro K hK; go_big_quiet_op; go_big_quiet_on))
          refine seq_nil ?_
          go_wp2_with fail
          refine bodyPost_ret (v := .tuple #[.agg #[.slice ao5 (0 + 1) cap5], .int .i64 0]) (res_led Try.results25 _ _ (w.heap.size + 2) _ _ _ _ rfl rfl B6.cell) rfl ⟨ao5, 0 + 1, cap5, by rw [HV.out], hc5, by rw [HV.out]; exact hA6, hw6⟩
      | succ m =>
        have hml : m < l.length := by rw [HN.out]; omega
        obtain ⟨b1, o1, rfl, hlb, hcell⟩ := HA.out.sl.at_ (k := m) (by omega)
        have x0 := hcell (m * 4 + 0) _ (rcells_at hml).1
        rw [Nat.add_zero] at x0
        have HL0 := lid (lateB_some (t, a, b, d) HN.out hml)
        obtain ⟨pt, hpt⟩ : ∃ pt, (l[m]).1 = pt := ⟨_, rfl⟩
        rw [hpt] at x0 HL0
        clear hcell hpt
        have e0 : ((m + 1 : Nat) : Int) = (m : Int) + 1 := by omega
        have hpos : decide ((0 : Int) < (m : Int) + 1) = true := decide_eq_true (by omega)
        have wj : IntKind.i64.wrap (m : Int) = m := IntWalk.i64_in _ (by omega)
        have hjn1 : (m : Int) < (m : Int) + 1 := by omega
        have hjl : decide (m < m + 1) = true := by simp
        by_cases hlp : t < pt
        · have hd : decide (t < pt) = true := by simpa using hlp
          have HV := lid (appE_late HC.out HB.out (by rw [HL0.out]; exact hd))
          go_wp2_with fail
          refine wp_region_seq (fun w' => ∃ s : Since w3.heap.size w3, w' = s.world) [(0, true), (1, true), (2, true), (3, true), (4, true), (5, true), (6, true), (7, true), (8, true), (9, true), (10, true), (11, true), (12, true), (13, true)] (by kernel_rfl) (by kernel_rfl) (by intro c d v a w h; cases d <;> exact h) (since (Below.refl _ _).drew) ?_
          repeat (first | (refine seq_skip (by rfl) (by rfl) ?_; simp only [Act.put, List.setIfInBounds_toArray, List.set_cons_succ, List.set_cons_zero]) | (refine seq_float (by rfl) (by rfl) (by rfl) ?_; intro K hK; go_big_quiet_op; go_big_quiet_on))
          refine seq_nil ?_
          have B3 : Boxed w3 (w.heap.size + 2) 24 (.slice none 0 0) := BX.out
          have y0 := B3.cell
          have f0 := B3.frozen
          clear q0 r0 r1 r2 r3
          go_wp2_with fail
          refine bodyPost_ret (v := .tuple #[.agg #[.slice none 0 0], .int .i64 10]) (res_led Try.results25 _ _ (w.heap.size + 2) _ _ _ _ rfl rfl ((B3.set _).cell)) rfl (LedR.empty HV.out ?_)
          exact hw3.drew.setCell (p := ⟨w.heap.size + 2, 0, none⟩) (by show w.heap.size ≤ w.heap.size + 2; omega) _
        · have hd : decide (t < pt) = false := by simpa using hlp
          have HLT : Hid (lateB l (t, a, b, d) = false) := lid (by rw [HL0.out]; exact hd)
          go_wp2_with fail
          refine wp_region_seq (fun w' => ∃ s : Since w3.heap.size w3, w' = s.world) [(0, true), (1, true), (2, true), (3, true), (4, true), (5, true), (6, true), (7, true), (8, true), (9, true), (10, true), (11, true), (12, true), (13, true)] (by kernel_rfl) (by kernel_rfl) (by intro c d v a w h; cases d <;> exact h) (since (Below.refl _ _).drew) ?_
          repeat (first | (refine seq_skip (by rfl) (by rfl) ?_; simp only [Act.put, List.setIfInBounds_toArray, List.set_cons_succ, List.set_cons_zero]) | (refine seq_float (by rfl) (by rfl) (by rfl) ?_; intro K hK; go_big_quiet_op; go_big_quiet_on))
          refine seq_nil ?_
          obtain ⟨W4, hW4⟩ : ∃ W4, w3.drew = W4 := ⟨_, rfl⟩
          have hw4 : Below w.heap.size w W4 := by rw [← hW4]; exact hw3.drew
          have BX := lid (show Boxed W4 (w.heap.size + 2) 24 (.slice none 0 0) by rw [← hW4]; exact BX.out)
          replace q0 : W4.cell? ⟨w.heap.size, 0, none⟩ = some (.slice (some ⟨b1, o1, none⟩) (m + 1) cap) := by rw [← hW4]; exact q0
          replace r0 : W4.cell? ⟨w.heap.size + 1, 0, none⟩ = some (.int .i64 t) := by rw [← hW4]; exact r0
          replace r1 : W4.cell? ⟨w.heap.size + 1, 1, none⟩ = some (.string a) := by rw [← hW4]; exact r1
          replace r2 : W4.cell? ⟨w.heap.size + 1, 2, none⟩ = some (.string b) := by rw [← hW4]; exact r2
          replace r3 : W4.cell? ⟨w.heap.size + 1, 3, none⟩ = some (.string d) := by rw [← hW4]; exact r3
          replace k0 : w.heap.size < W4.heap.size := by rw [← hW4]; exact k0
          replace k1 : w.heap.size + 1 < W4.heap.size := by rw [← hW4]; exact k1
          replace k2 : w.heap.size + 2 < W4.heap.size := by rw [← hW4]; exact k2
          replace HA : Hid (LedA W4 (some ⟨b1, o1, none⟩) (m + 1) cap l) := lid (by rw [← hW4]; exact HA.out.below (Below.refl _ _).drew)
          rw [hW4]
          clear hW4 hw3
          by_cases hf : (m + 1) = 10000
          · have HV := lid (appE_full HC.out HB.out HLT.out (by rw [HN.out]; exact hf))
            have df : ((m : Int) + 1 == 10000) = true := by simp; omega
            clear hf
            have B4 : Boxed W4 (w.heap.size + 2) 24 (.slice none 0 0) := BX.out
            have y0 := B4.cell
            have f0 := B4.frozen
            clear q0 r0 r1 r2 r3
            go_wp2_with fail
            refine bodyPost_ret (v := .tuple #[.agg #[.slice none 0 0], .int .i64 19]) (res_led Try.results25 _ _ (w.heap.size + 2) _ _ _ _ rfl rfl ((B4.set _).cell)) rfl (LedR.empty HV.out ?_)
            exact hw4.setCell (p := ⟨w.heap.size + 2, 0, none⟩) (by show w.heap.size ≤ w.heap.size + 2; omega) _
          · have HV := lid (appE_good HC.out HB.out HLT.out (by rw [HN.out]; exact hf))
            have df : ((m : Int) + 1 == 10000) = false := by simp; omega
            have hn10 : (m + 1) ≤ 10000 := by have := check_len HC.out; rw [HN.out] at this; exact this
            clear hf
            go_wp2_with fail
            have c0 := SinceX.cell (B := W4.heap.size) (X := w.heap.size + 2) (W := W4) w.heap.size 0 k0 (by omega) q0
            have d0 := SinceX.cell (B := W4.heap.size) (X := w.heap.size + 2) (W := W4) (w.heap.size + 1) 0 k1 (by omega) r0
            have d1 := SinceX.cell (B := W4.heap.size) (X := w.heap.size + 2) (W := W4) (w.heap.size + 1) 1 k1 (by omega) r1
            have d2 := SinceX.cell (B := W4.heap.size) (X := w.heap.size + 2) (W := W4) (w.heap.size + 1) 2 k1 (by omega) r2
            have d3 := SinceX.cell (B := W4.heap.size) (X := w.heap.size + 2) (W := W4) (w.heap.size + 1) 3 k1 (by omega) r3
            clear q0 r0 r1 r2 r3
            refine wp_region_mix (fun w' => ∃ s : SinceX W4.heap.size (w.heap.size + 2) W4, w' = s.world) [(1, true), (2, true), (4, true)] [(0, []), (3, [0]), (5, [])] [(6, false), (7, true), (8, false), (9, false)] (by kernel_rfl) (by kernel_rfl) (by intro c d v a w h; cases d <;> exact h) (sincex (KeptX.refl _ _ _).drew) ?_
            repeat (first | (refine seq_skip (by rfl) (by rfl) ?_; simp only [Act.put, List.setIfInBounds_toArray, List.set_cons_succ, List.set_cons_zero]) | (refine seq_float (by rfl) (by rfl) (by rfl) ?_; intro K hK; go_big_quiet_op; go_big_quiet_on))
            refine seq_nil (mix_go [39, 42, 44] [undef, undef, undef] (RB W4.heap.size W4 (m + 1) (rcells l) #[.int .i64 t, .string a, .string b, .string d]) rfl (by simp only [putAll, Act.put, List.setIfInBounds_toArray, List.set_cons_succ, List.set_cons_zero]) (fun s h => RB.start _ _ _ _ _ s (h (0, []) (by simp)) (h (3, [0]) (by simp)) (h (5, []) (by simp))) ⟨?_, ?_, ?_, trivial⟩ ?_)
            · intro s vs w1 _ _ _ _ hR
              have hR' := lid hR
              obtain ⟨x, y, z, rfl, hB1, hx, hy, hz⟩ := hR
              simp only [putAll, Act.put, List.setIfInBounds_toArray, List.set_cons_succ, List.set_cons_zero]
              refine mix_op (by rfl) ?_
              intro K hK
              go_wp2_with fail
              exact hK.out _ _ ⟨sincex ((KeptX.refl _ _ _).below (hB1.trans ((ba _ _).mono hB1.size))), [.slice (some ⟨w1.heap.size, 0, none⟩) 0 0, y, z], rfl, by simp only [putAll, Act.put, List.setIfInBounds_toArray, List.set_cons_succ, List.set_cons_zero], hR'.out.empty hB1.size⟩
            · intro s vs w1 _ h3 hneed _ hR
              have hR' := lid hR
              obtain ⟨x, y, z, rfl, hB1, hx, hy, hz⟩ := hR
              obtain ⟨k, rfl, hk, hkc⟩ := hx (hneed 0 (by simp)) h3
              clear hx hy hz
              simp only [putAll, Act.put, List.setIfInBounds_toArray, List.set_cons_succ, List.set_cons_zero]
              refine mix_op (by rfl) ?_
              intro K hK
              go_wp2_with (at_builtin; go_must (refine wpList_append_slg rfl _ _ 22 rfl W4.heap.size 30 (.agg #[.int .i64 0, .string ⟨#[]⟩, .string ⟨#[]⟩, .string ⟨#[]⟩]) 4 56 info_rec Try.underlying22 rfl (by decide) _ 0 [] (own_empty hkc hk) rfl (some ⟨b1, o1, none⟩) (m + 1) cap (rcells l) rfl (HA.out.below hB1).sl HZ.out (rcells_one l) (by simp only [maxLen]; omega) (by omega) hB1.size ?_))
              intro v5 w5 hown5 hb5 hg5
              go_wp2_with fail
              exact hK.out _ _ ⟨sincex ((KeptX.refl _ _ _).below (hB1.trans hb5)), [.slice (some ⟨k, 0, none⟩) 0 0, v5, z], rfl, by simp only [putAll, Act.put, List.setIfInBounds_toArray, List.set_cons_succ, List.set_cons_zero], hR'.out.copy rfl hkc (by simpa using hown5) hg5 hb5⟩
            · intro s vs w1 _ _ _ _ hR
              have hR' := lid hR
              obtain ⟨x, y, z, rfl, hB1, hx, hy, hz⟩ := hR
              simp only [putAll, Act.put, List.setIfInBounds_toArray, List.set_cons_succ, List.set_cons_zero]
              refine mix_op (by rfl) ?_
              intro K hK
              go_wp2_with fail
              exact hK.out _ _ ⟨sincex ((KeptX.refl _ _ _).below (hB1.trans ((ba _ _).mono hB1.size))), [x, y, .slice (some ⟨w1.heap.size, 0, none⟩) 1 1], rfl, by simp only [putAll, Act.put, List.setIfInBounds_toArray, List.set_cons_succ, List.set_cons_zero], hR'.out.lay hB1.size⟩
            · intro s vs w1 _ hall _ hR
              obtain ⟨x0, x, y, rfl, hB1, -, hx, hy⟩ := hR
              replace hx := hx (hall (3, [0]) (by simp))
              replace hy := hy (hall (5, []) (by simp))
              have hR := hB1
              obtain ⟨k, rfl, hk, hkc⟩ := hy
              simp only [putAll, Act.put, List.setIfInBounds_toArray, List.set_cons_succ, List.set_cons_zero]
              clear hall hR
              refine seq_chain (by rfl) ?_
              intro K hK
              go_wp2_with (at_builtin; go_must (refine wpList_append_sl rfl _ _ 22 rfl W4.heap.size 30 (.agg #[.int .i64 0, .string ⟨#[]⟩, .string ⟨#[]⟩, .string ⟨#[]⟩]) 4 56 info_rec Try.underlying22 rfl (by decide) _ _ _ hx rfl _ 1 1 #[.int .i64 t, .string a, .string b, .string d].toList rfl (sl_one hkc rfl) (by intro h; cases h) (by simp [Value.oneCell']) (by simp only [maxLen]; omega) (by omega) hB1.size ?_))
              intro v5 w5 hown5 hb5
              have hB5 := hB1.trans hb5
              have hown5' : w5.ownsRow W4.heap.size 30 4 v5 ((m + 1) + 1) (rcells (l ++ [(t, a, b, d)])) := by rw [rcells_append]; exact hown5
              clear hown5
              obtain ⟨ao5, cap5, rfl, hc5, hA5⟩ := led_grown (l := l ++ [(t, a, b, d)]) hown5' (by simp [HN.out]) (by intro r hr; rcases List.mem_append.1 hr with h | h; exact HA.out.sizes r h; rw [List.mem_singleton.1 h]; exact HRS.out)
              go_wp2_with fail
              refine hK.out _ _ (sincex ((KeptX.refl _ _ _).below hB5)) ?_
              clear hK K
              repeat (first | (refine seq_skip (by rfl) (by rfl) ?_; simp only [Act.put, List.setIfInBounds_toArray, List.set_cons_succ, List.set_cons_zero]) | (refine seq_float (by rfl) (by rfl) (by rfl) ?_; intro K hK; go_big_quiet_op; go_big_quiet_on))
              have B5 : Boxed w5 (w.heap.size + 2) 24 (.slice none 0 0) := Boxed.below BX.out hB5 k2
              have y0 := B5.cell
              have f0 := B5.frozen
              refine seq_chain (by rfl) ?_
              intro K hK
              go_wp2_with fail
              obtain ⟨W6, hW6⟩ : ∃ W6, w5.setCell ⟨w.heap.size + 2, 0, none⟩ (.slice ao5 ((m + 1) + 1) cap5) = W6 := ⟨_, rfl⟩
              have B6 : Boxed W6 (w.heap.size + 2) 24 (.slice ao5 ((m + 1) + 1) cap5) := by rw [← hW6]; exact B5.set _
              have hX6 : KeptX W4.heap.size (w.heap.size + 2) W4 W6 := by rw [← hW6]; exact ((KeptX.refl _ _ _).below hB5).setCell (p := ⟨w.heap.size + 2, 0, none⟩) (.inl rfl) _
              have hw6 : Below w.heap.size w W6 := by rw [← hW6]; exact (hw4.trans (hB5.mono hw4.size)).setCell (p := ⟨w.heap.size + 2, 0, none⟩) (by show w.heap.size ≤ w.heap.size + 2; omega) _
              have hA6 : LedA W6 ao5 ((m + 1) + 1) cap5 (l ++ [(t, a, b, d)]) := by
                rw [← hW6]
                exact led_set hown5' hA5 k2
              rw [hW6]
              clear hW6 y0 f0 B5 hB5 hB1
              refine hK.out _ _ (sincex hX6) ?_
              clear hK K
              repeat (first | (refine seq_skip (by rfl) (by rfl) ?_; simp only [Act.put, List.setIfInBounds_toArray, List.set_cons_succ, List.set_cons_zero]) | (refine seq_float (by rfl) (by rfl) (by rfl) ?_; intro K hK; go_big_quiet_op; go_big_quiet_on))
              refine seq_chain (by rfl) ?_
              intro K hK
              go_wp2_with fail
              refine hK.out _ _ (sincex hX6) ?_
              clear hK K
              repeat (first | (refine seq_skip (by rfl) (by rfl) ?_; simp only [Act.put, List.setIfInBounds_toArray, List.set_cons_succ, List.set_cons_zero]) | (refine seq_float (by rfl) (by rfl) (by rfl) ?_; intro K hK; go_big_quiet_op; go_big_quiet_on))
              refine seq_nil ?_
              go_wp2_with fail
              refine bodyPost_ret (v := .tuple #[.agg #[.slice ao5 ((m + 1) + 1) cap5], .int .i64 0]) (res_led Try.results25 _ _ (w.heap.size + 2) _ _ _ _ rfl rfl B6.cell) rfl ⟨ao5, (m + 1) + 1, cap5, by rw [HV.out], hc5, by rw [HV.out]; exact hA6, hw6⟩
  · have HV := lid (appE_bad (r := (t, a, b, d)) hc)
    have hc' : (checkL l != 0) = true := by simpa using hc
    have B3 : Boxed w2 (w.heap.size + 2) 24 (.slice none 0 0) := B2.out
    generalize checkL l = C at *
    clear hc
    have y0 := B3.cell
    have f0 := B3.frozen
    clear q0 r0 r1 r2 r3
    go_wp2_with fail
    refine bodyPost_ret (v := .tuple #[.agg #[.slice none 0 0], .int .i64 C]) (res_led Try.results25 _ _ (w.heap.size + 2) _ _ _ _ rfl rfl ((B3.set _).cell)) rfl (LedR.empty HV.out ?_)
    exact hw2.setCell (p := ⟨w.heap.size + 2, 0, none⟩) (by show w.heap.size ≤ w.heap.size + 2; omega) _
end Go.Proofs.Ytnfekadnjblciaa

namespace Go.Proofs.Ytnfekadnjblciaa
open Go.RowKit

theorem eqGuardRec : Try.prog.eqGuardType Try.prog.depth 30 = false := by kernel_rfl
set_option maxRecDepth 100000 in
/-- '!=' of a record and itself, in a region. -/
theorem quiet_ne_rec {C : World → Prop} {K : Act → Prop} {a : Act} {o : Oper} (r : Rec) (x y : Operand) (h : o.op = .binOp .neq 30 x y 30)
    (hx : a.eval x = rv r) (hy : a.eval y = rv r) (hk : K (a.put o.dst (.bool false))) : o.quiet Try.prog a C K := by
  refine ⟨.bool false, fun w _ => ?_, hk⟩
  unfold Oper.quietAt execOp
  rw [h]
  simp only [hx, hy]
  simp [go_sem]

set_option maxRecDepth 100000 in
set_option maxHeartbeats 8000000 in
theorem Same_same (l : List Rec) (n n' cap cap' : Nat) (ao ao' : Option Addr) (w : World) (h : LedA w ao n cap l) (h' : LedA w ao' n' cap' l) :
    Calls Try.prog 26 #[.agg #[.slice ao n cap], .agg #[.slice ao' n' cap']] w fun e w' => e = .returned (.bool true) ∧ Below w.heap.size w w' := by
  obtain rfl : n = n' := h.len.symm.trans h'.len
  have HN := lid h.len
  have hm' : n ≤ 9223372036854775807 := h.max
  obtain ⟨W, hW⟩ : ∃ W, (w.alloc (Obj.cells #[.slice ao n cap] 24)).alloc (Obj.cells #[.slice ao' n cap'] 24) = W := ⟨_, rfl⟩
  have hb0 : Below w.heap.size w W := by rw [← hW]; exact ((Below.refl _ _).alloc (Nat.le_refl _) _).alloc (by simp) _
  have q0 : W.cell? ⟨w.heap.size, 0, none⟩ = some (.slice ao n cap) := by rw [← hW]; simp
  have q1 : W.cell? ⟨w.heap.size + 1, 0, none⟩ = some (.slice ao' n cap') := by
    have := cell_new_at (w := w.alloc (Obj.cells #[.slice ao n cap] 24)) rfl #[.slice ao' n cap'] 24 0
    rw [World.size_alloc] at this
    rw [← hW]
    exact this
  have hlt : w.heap.size + 1 < W.heap.size := by rw [← hW]; simp
  have HW := lid hW
  have HA := lid (h.below hb0)
  have HB := lid (h'.below hb0)
  clear hW h h'
  go_enter Try.func26, Try.ntmps26
  go_wp2_with fail
  rw [HW.out]
  clear HW
  have Q0 := lid q0
  have Q1 := lid q1
  go_wp2_with fail
  clear q0 q1
  go_loopw [5] (fun i wr => ∃ (k : Nat), k ≤ n ∧ i = .int .i64 k ∧ Below W.heap.size W wr) (fun i _ => n - (intOf i).toNat)
  case atStart => exact ⟨0, Nat.zero_le _, rfl, Below.refl _ _⟩
  case round =>
    obtain ⟨k, hk, rfl, hb⟩ := hrel
    have hq0 := (bc hb (by omega) 0).trans Q0.out
    have hq1 := (bc hb hlt 0).trans Q1.out
    have l0 : w.heap.size < wr.heap.size := by have := hb.size; omega
    have l1 : w.heap.size + 1 < wr.heap.size := by have := hb.size; omega
    by_cases hk' : k < n
    · have hkl : k < l.length := by rw [HN.out]; exact hk'
      obtain ⟨b1, o1, rfl, hlb1, hd1⟩ := (HA.out.below hb).sl.at_ hk'
      obtain ⟨b2, o2, rfl, hlb2, hd2⟩ := (HB.out.below hb).sl.at_ hk'
      have x0 := hd1 (k * 4 + 0) _ (rcells_at hkl).1
      have x1 := hd1 (k * 4 + 1) _ (rcells_at hkl).2.1
      have x2 := hd1 (k * 4 + 2) _ (rcells_at hkl).2.2.1
      have x3 := hd1 (k * 4 + 3) _ (rcells_at hkl).2.2.2
      have y0 := hd2 (k * 4 + 0) _ (rcells_at hkl).1
      have y1 := hd2 (k * 4 + 1) _ (rcells_at hkl).2.1
      have y2 := hd2 (k * 4 + 2) _ (rcells_at hkl).2.2.1
      have y3 := hd2 (k * 4 + 3) _ (rcells_at hkl).2.2.2
      rw [← Nat.add_assoc] at x1 x2 x3 y1 y2 y3
      rw [Nat.add_zero] at x0 y0
      clear hd1 hd2
      obtain ⟨r, hrk⟩ : ∃ r, l[k] = r := ⟨_, rfl⟩
      rw [hrk] at x0 x1 x2 x3 y0 y1 y2 y3
      clear hrk
      have hdk : decide ((k : Int) < n) = true := by simp; omega
      have hdk' : decide (k < n) = true := by simpa using hk'
      go_wp2_with fail
      refine wp_region_seq (fun w' => ∃ s : Since wr.heap.size wr, w' = s.world) [(0, true), (1, true), (2, true), (3, true), (4, true), (5, true), (6, true), (7, true), (8, true), (9, true), (10, true)] (by kernel_rfl) (by kernel_rfl) (by intro c d v a w h; cases d <;> exact h) (since (Below.refl _ _).drew) ?_
      iterate 10 (first | (refine seq_skip (by rfl) (by rfl) ?_; simp only [Act.put, List.setIfInBounds_toArray, List.set_cons_succ, List.set_cons_zero]) | (refine seq_float (by rfl) (by rfl) (by rfl) ?_; intro K hK; go_big_quiet_op; go_big_quiet_on))
      refine seq_float (by rfl) (by rfl) (by rfl) ?_; intro K hK
      refine quiet_ne_rec r _ _ rfl rfl rfl ?_
      simp only [Act.put, List.setIfInBounds_toArray, List.set_cons_succ, List.set_cons_zero]
      go_big_quiet_on
      refine seq_nil ?_
      go_wp2_with fail
      go_roundw
      case rel => exact ⟨k + 1, by omega, by go_num, hb.drew⟩
      case measure => simp [intOf]; omega
    · obtain rfl : k = n := by omega
      go_wp2_with fail
      go_ret
      exact ⟨rfl, hb0.trans (hb.mono hb0.size)⟩
end Go.Proofs.Ytnfekadnjblciaa

namespace Go.Proofs.Ytnfekadnjblciaa
open Go.RowKit

theorem chkGo_app (r : Rec) (hr : recB r = true) (l : List Rec) : ∀ (p : Option Int), chkGo p l = 0 → (match l.getLast? with | some q => ¬ r.1 < q.1 | none => (match p with | some v => ¬ r.1 < v | none => True)) → chkGo p (l ++ [r]) = 0 := by
  induction l with
  | nil =>
    intro p _ hp
    cases p with
    | none => simp [chkGo, hr]
    | some v => simp only [List.getLast?_nil] at hp; simp [chkGo, hr]; omega
  | cons a l ih =>
    intro p h hp
    have hl : ∀ q, chkGo (some q) l = 0 → q = a.1 → chkGo (some a.1) (l ++ [r]) = 0 := by
      rintro q h rfl
      refine ih _ h ?_
      rw [List.getLast?_cons] at hp
      cases e : l.getLast? with
      | none => rw [e] at hp; simpa using hp
      | some x => rw [e] at hp; simpa using hp
    rw [List.cons_append]
    cases p with
    | none =>
      simp only [chkGo] at h ⊢
      split at h
      · rename_i hb
        rw [if_pos hb]
        exact hl _ h rfl
      · cases h
    | some v =>
      simp only [chkGo] at h ⊢
      split at h
      · rename_i hb
        rw [if_pos hb]
        split at h
        · cases h
        · rename_i ht
          rw [if_neg ht]
          exact hl _ h rfl
      · cases h
theorem appE_cases (l : List Rec) (r : Rec) : (∃ c, c ≠ 0 ∧ appE l r = ([], c)) ∨ (checkL l = 0 ∧ appE l r = (l ++ [r], 0) ∧ checkL (l ++ [r]) = 0) := by
  by_cases hc : checkL l = 0
  · cases hr : recB r with
    | false => exact .inl ⟨1, by decide, appE_rec hc hr⟩
    | true =>
      cases hl : lateB l r with
      | true => exact .inl ⟨10, by decide, appE_late hc hr hl⟩
      | false =>
        by_cases hf : l.length = 10000
        · exact .inl ⟨19, by decide, appE_full hc hr hl hf⟩
        · refine .inr ⟨hc, appE_good hc hr hl hf, ?_⟩
          have hn := check_len hc
          unfold checkL at hc ⊢
          rw [if_pos hn] at hc
          rw [if_pos (by simp; omega)]
          refine chkGo_app r hr l _ hc ?_
          unfold lateB at hl
          cases e : l.getLast? with
          | none => trivial
          | some q => rw [e] at hl; simpa using hl
  · exact .inl ⟨_, hc, appE_bad hc⟩
end Go.Proofs.Ytnfekadnjblciaa

namespace Go.Proofs.Ytnfekadnjblciaa
open Go.RowKit

set_option maxRecDepth 100000 in
set_option maxHeartbeats 8000000 in
theorem LawAppended_any (l : List Rec) (r : Rec) (n cap : Nat) (ao : Option Addr) (w : World) (h : LedA w ao n cap l) (hz : ao = none → cap = 0) (hr : RecS r) :
    Calls Try.prog 9 #[.agg #[.slice ao n cap], rv r] w fun e w' => e = .returned (.bool true) ∧ Below w.heap.size w w' := by
  obtain ⟨t, a, b, d⟩ := r
  have HR := lid hr
  have HZ := lid hz
  obtain ⟨W, hW⟩ : ∃ W, (w.alloc (Obj.cells #[.slice ao n cap] 24)).alloc (Obj.cells #[.int .i64 t, .string a, .string b, .string d] 30) = W := ⟨_, rfl⟩
  have hw0 : Below w.heap.size w W := by rw [← hW]; exact ((Below.refl _ _).alloc (Nat.le_refl _) _).alloc (by simp) _
  have q0 : W.cell? ⟨w.heap.size, 0, none⟩ = some (.slice ao n cap) := by rw [← hW, cell_old_at (by simp), cell_new_at rfl]; rfl
  have r0 : W.cell? ⟨w.heap.size + 1, 0, none⟩ = some (.int .i64 t) := by rw [← hW, cell_new_at (by simp)]; rfl
  have r1 : W.cell? ⟨w.heap.size + 1, 1, none⟩ = some (.string a) := by rw [← hW, cell_new_at (by simp)]; rfl
  have r2 : W.cell? ⟨w.heap.size + 1, 2, none⟩ = some (.string b) := by rw [← hW, cell_new_at (by simp)]; rfl
  have r3 : W.cell? ⟨w.heap.size + 1, 3, none⟩ = some (.string d) := by rw [← hW, cell_new_at (by simp)]; rfl
  have hsz : w.heap.size + 2 = W.heap.size := by rw [← hW, World.size_alloc, World.size_alloc]
  have HA := lid (h.below hw0)
  have HW := lid hW
  clear hW h hz hr
  go_enter Try.func9, Try.ntmps9
  go_wp2_with fail
  rw [HW.out]
  clear HW
  (with_reducible refine (Great_any l n cap ao _ HA.out.len HA.out.sl HA.out.max HA.out.sizes).mono ?_); rintro e w1 ⟨rfl, hb1⟩
  have hw1 := hw0.trans (hb1.mono hw0.size)
  have l0 : w.heap.size < w1.heap.size := by have := hb1.size; omega
  have l1 : w.heap.size + 1 < w1.heap.size := by have := hb1.size; omega
  replace q0 := (bc hb1 (by omega) 0).trans q0
  replace r0 := (bc hb1 (by omega) 0).trans r0
  replace r1 := (bc hb1 (by omega) 1).trans r1
  replace r2 := (bc hb1 (by omega) 2).trans r2
  replace r3 := (bc hb1 (by omega) 3).trans r3
  replace HA := lid (HA.out.below hb1)
  clear hb1 hw0 hsz
  cases hG : greatB l with
  | true =>
    clear hG
    go_wp2_with fail
    (with_reducible refine (awake_any _).mono ?_); rintro e w2 ⟨rfl, hb2⟩
    go_wp2_with fail
    go_ret
    exact ⟨rfl, hw1.trans (hb2.mono hw1.size)⟩
  | false =>
    clear hG
    go_wp2_with fail
    obtain ⟨W1, hW1⟩ : ∃ W1, w1.alloc (Obj.cells #[.int .i64 t, .string a, .string b, .string d] 30) = W1 := ⟨_, rfl⟩
    have hb1 : Below w1.heap.size w1 W1 := by rw [← hW1]; exact ba _ _
    have hSl : Sl W1 4 (some ⟨w1.heap.size, 0, none⟩) 1 (rcells [(t, a, b, d)]) := by rw [← hW1]; exact sl_one (heap_alloc_new w1 _) rfl
    rw [hW1]
    clear hW1
    (with_reducible refine (Great_any [(t, a, b, d)] 1 1 (some ⟨w1.heap.size, 0, none⟩) W1 rfl hSl (by decide) (fun x hx => by rw [List.mem_singleton.1 hx]; exact HR.out)).mono ?_); rintro e w2 ⟨rfl, hb2⟩
    have hb12 := hb1.trans (hb2.mono hb1.size)
    have hw2 := hw1.trans (hb12.mono hw1.size)
    replace q0 := (bc hb12 l0 0).trans q0
    replace r0 := (bc hb12 l1 0).trans r0
    replace r1 := (bc hb12 l1 1).trans r1
    replace r2 := (bc hb12 l1 2).trans r2
    replace r3 := (bc hb12 l1 3).trans r3
    replace l0 : w.heap.size < w2.heap.size := by have := hb12.size; omega
    replace l1 : w.heap.size + 1 < w2.heap.size := by have := hb12.size; omega
    replace HA := lid (HA.out.below hb12)
    clear hSl hb1 hb2 hb12 hw1
    cases hG : greatB [(t, a, b, d)] with
    | true =>
      clear hG
      go_wp2_with fail
      (with_reducible refine (awake_any _).mono ?_); rintro e w3 ⟨rfl, hb3⟩
      go_wp2_with fail
      go_ret
      exact ⟨rfl, hw2.trans (hb3.mono hw2.size)⟩
    | false =>
      clear hG
      have CA := lid (fun w' (h : Below w2.heap.size w2 w') => Append_any l (t, a, b, d) n cap ao w' (HA.out.below h) HZ.out HR.out)
      have HN := lid HA.out.len
      have hnm : n ≤ 9223372036854775807 := HA.out.max
      have HX := lid (appE_cases l (t, a, b, d))
      generalize appE l (t, a, b, d) = X at *
      go_wp2_with fail
      (with_reducible refine (CA.out _ (Below.refl _ _)).mono ?_); rintro e w3 ⟨a3, n3, c3, rfl, hc3, hA3, hb3⟩
      have m0 : w.heap.size < w3.heap.size := by have := hb3.size; omega
      have m1 : w.heap.size + 1 < w3.heap.size := by have := hb3.size; omega
      have q3 := (cell_old_at m0 (Obj.cells #[.slice a3 n3 c3] 24) 0).trans ((bc hb3 l0 0).trans q0)
      have s0 := (cell_old_at m1 (Obj.cells #[.slice a3 n3 c3] 24) 0).trans ((bc hb3 l1 0).trans r0)
      have s1 := (cell_old_at m1 (Obj.cells #[.slice a3 n3 c3] 24) 1).trans ((bc hb3 l1 1).trans r1)
      have s2 := (cell_old_at m1 (Obj.cells #[.slice a3 n3 c3] 24) 2).trans ((bc hb3 l1 2).trans r2)
      have s3 := (cell_old_at m1 (Obj.cells #[.slice a3 n3 c3] 24) 3).trans ((bc hb3 l1 3).trans r3)
      clear q0 r0 r1 r2 r3
      rcases HX.out with ⟨c, hc, rfl⟩ | ⟨hc0, rfl, hck⟩
      · have hc' : (c != 0) = true := by simpa using hc
        obtain rfl : 0 = n3 := hA3.len
        have hw3 := hw2.trans ((hb3.trans ((ba w3 (Obj.cells #[.slice a3 0 c3] 24)).mono hb3.size)).mono hw2.size)
        clear hc q3 s0 s1 s2 s3
        go_wp2_with fail
        (with_reducible refine (awake_any _).mono ?_); rintro e w4 ⟨rfl, hb4⟩
        go_wp2_with fail
        go_ret
        exact ⟨rfl, hw3.trans (hb4.mono hw3.size)⟩
      · have hl3 : (l ++ [(t, a, b, d)]).length = n3 := hA3.len
        obtain rfl : n + 1 = n3 := by rw [← hl3]; simp [HN.out]
        have hn10 : n + 1 ≤ 10000 := by have := check_len hck; omega
        have HCK := lid hck
        have HC0 := lid hc0
        clear hl3 hck hc0
        go_wp2_with fail
        obtain ⟨W3, hW3⟩ : ∃ W3, w3.alloc (Obj.cells #[.slice a3 (n + 1) c3] 24) = W3 := ⟨_, rfl⟩
        have b3 : W3.cell? ⟨w3.heap.size, 0, none⟩ = some (.slice a3 (n + 1) c3) := by rw [← hW3]; exact cell_new_at rfl _ _ _
        have k3 : w3.heap.size < W3.heap.size := by rw [← hW3]; simp
        have h3 : Below w2.heap.size w2 W3 := by rw [← hW3]; exact hb3.trans ((ba _ _).mono hb3.size)
        have hA3' : LedA W3 a3 (n + 1) c3 (l ++ [(t, a, b, d)]) := by rw [← hW3]; exact hA3.below (ba _ _)
        rw [hW3] at q3 s0 s1 s2 s3 ⊢
        clear hW3 hA3 hb3
        have k0 : w.heap.size < W3.heap.size := by omega
        have k1 : w.heap.size + 1 < W3.heap.size := by omega
        have hw3 := hw2.trans (h3.mono hw2.size)
        have HL := lid (HA.out.below h3)
        have HT : Hid (LedA W3 a3 n c3 l) := lid (by have := hA3'.take (k := n) (by omega); rwa [List.take_left' HN.out] at this)
        obtain ⟨b1, o1, rfl, hlb, hcell⟩ := hA3'.sl.at_ (k := n) (by omega)
        have hnl : n < (l ++ [(t, a, b, d)]).length := by rw [hA3'.len]; omega
        have hlast : (l ++ [(t, a, b, d)])[n] = (t, a, b, d) := List.getElem_concat_length HN.out.symm (by rw [List.length_append, HN.out]; simp)
        have x0 := hcell (n * 4 + 0) _ (rcells_at hnl).1
        have x1 := hcell (n * 4 + 1) _ (rcells_at hnl).2.1
        have x2 := hcell (n * 4 + 2) _ (rcells_at hnl).2.2.1
        have x3 := hcell (n * 4 + 3) _ (rcells_at hnl).2.2.2
        rw [hlast] at x0 x1 x2 x3
        rw [← Nat.add_assoc] at x1 x2 x3
        rw [Nat.add_zero] at x0
        simp only at x0 x1 x2 x3
        have HM := lid hA3'
        have hn1 : (n : Int) < (n : Int) + 1 := by omega
        have hn2 : decide (n < n + 1) = true := by simp
        clear hA3' hcell hnl hlast
        have CC := lid (fun w' (h : Below W3.heap.size W3 w') => Check_any (l ++ [(t, a, b, d)]) (n + 1) c3 _ w' HM.out.len (HM.out.below h).sl HM.out.sizes HM.out.max)
        have CD := lid (fun w' (h : Below W3.heap.size W3 w') => Same_same l n n c3 cap _ ao w' (HT.out.below h) (HL.out.below h))
        rw [HCK.out] at CC
        refine wp_region_seq (fun w' => ∃ s : Since W3.heap.size W3, w' = s.world) [(0, true), (1, false), (2, true), (3, true), (4, true), (5, true), (6, true), (7, true), (8, true), (9, true), (10, true), (11, true), (12, true), (13, true), (14, true), (15, true), (16, true), (17, true), (18, false), (19, true), (20, true), (21, true), (22, true), (23, true), (24, true), (25, true), (26, true), (27, true), (28, true), (29, true)] (by kernel_rfl) (by kernel_rfl) (by intro c d v a w h; cases d <;> exact h) (since (Below.refl _ _).drew) ?_
        repeat (first | (refine seq_skip (by rfl) (by rfl) ?_; simp only [Act.put, List.setIfInBounds_toArray, List.set_cons_succ, List.set_cons_zero]) | (refine seq_float (by rfl) (by rfl) (by rfl) ?_; intro K hK; go_big_quiet_op; go_big_quiet_on))
        refine seq_chain (by rfl) ?_
        intro K hK
        go_wp2_with fail
        (with_reducible refine (CC.out _ (Below.refl _ _).drew).mono ?_); rintro e w4 ⟨rfl, hb4⟩
        have h4 : Below W3.heap.size W3 w4 := (Below.refl _ _).drew.trans hb4
        go_wp2_with fail
        refine hK.out _ _ (since h4) ?_
        clear hK K
        repeat (first | (refine seq_skip (by rfl) (by rfl) ?_; simp only [Act.put, List.setIfInBounds_toArray, List.set_cons_succ, List.set_cons_zero]) | (refine seq_float (by rfl) (by rfl) (by rfl) ?_; intro K hK; go_big_quiet_op; go_big_quiet_on))
        refine seq_chain (by rfl) ?_
        intro K hK
        go_wp2_with fail
        (with_reducible refine (CD.out _ h4).mono ?_); rintro e w5 ⟨rfl, hb5⟩
        have h5 := h4.trans (hb5.mono h4.size)
        go_wp2_with fail
        refine hK.out _ _ (since h5) ?_
        clear hK K
        iterate 9 (first | (refine seq_skip (by rfl) (by rfl) ?_; simp only [Act.put, List.setIfInBounds_toArray, List.set_cons_succ, List.set_cons_zero]) | (refine seq_float (by rfl) (by rfl) (by rfl) ?_; intro K hK; go_big_quiet_op; go_big_quiet_on))
        refine seq_float (by rfl) (by rfl) (by rfl) ?_; intro K hK
        refine quiet_ne_rec (t, a, b, d) _ _ rfl rfl rfl ?_
        simp only [Act.put, List.setIfInBounds_toArray, List.set_cons_succ, List.set_cons_zero]
        go_big_quiet_on
        repeat (first | (refine seq_skip (by rfl) (by rfl) ?_; simp only [Act.put, List.setIfInBounds_toArray, List.set_cons_succ, List.set_cons_zero]) | (refine seq_float (by rfl) (by rfl) (by rfl) ?_; intro K hK; go_big_quiet_op; go_big_quiet_on))
        refine seq_nil ?_
        have hOwn := own_extends HCK.out n (by rw [HM.out.len]; omega)
        rw [HM.out.len, List.take_left' HN.out, show ((n + 1 : Nat) : Int) = (n : Int) + 1 by omega] at hOwn
        have HL9 := lid (extend_len HCK.out n)
        have HO1 := lid hOwn.1
        have HO2 := lid hOwn.2
        replace q3 := (bc h5 k0 0).trans q3
        replace b3 := (bc h5 k3 0).trans b3
        replace HL := lid (HL.out.below h5)
        replace HM := lid (HM.out.below h5)
        have j0 : w.heap.size < w5.heap.size := by have := h5.size; omega
        have j3 : w3.heap.size < w5.heap.size := by have := h5.size; omega
        have hw5 := hw3.trans (h5.mono hw3.size)
        have CX := lid (Extend_any (l ++ [(t, a, b, d)]) n (n + 1) c3 _ w5 HM.out)
        clear hOwn s0 s1 s2 s3 x0 x1 x2 x3 h4 hb4 hb5 h5 CC CD HT
        generalize extE (l ++ [(t, a, b, d)]) n = P at *
        go_wp2_with fail
        (with_reducible refine (CX.out).mono ?_); rintro e w6 ⟨a6, n6, c6, rfl, g1, g2, g3, hb6⟩
        have hP2 : P.2 = 0 := HO1.out
        rw [hP2]
        replace q3 := (bc hb6 j0 0).trans q3
        replace b3 := (bc hb6 j3 0).trans b3
        replace j0 : w.heap.size < w6.heap.size := by have := hb6.size; omega
        replace j3 : w3.heap.size < w6.heap.size := by have := hb6.size; omega
        have hw6 := hw5.trans (hb6.mono hw5.size)
        have g10 : n6 ≤ 1000000 := by have := HL9.out; omega
        have CH := lid (fun w' (h : Below w6.heap.size w6 w') => Head_any l n cap ao w' ((HL.out.below hb6).below h))
        have CI := lid (fun w' (h : Below w6.heap.size w6 w') => Head_any (l ++ [(t, a, b, d)]) (n + 1) c3 _ w' ((HM.out.below hb6).below h))
        have CE := fun w' (h : Below w6.heap.size w6 w') => Extends_any (headD l) (headD (l ++ [(t, a, b, d)])) n ((n : Int) + 1) P.1 a6 n6 c6 w' g1 g2 g10 (g3.below h)
        rw [HO2.out] at CE
        have CE' := lid CE
        clear CE hP2 g1 g3
        generalize headD l = D1 at *
        generalize headD (l ++ [(t, a, b, d)]) = D2 at *
        go_wp2_with fail
        refine wp_region_seq (fun w' => ∃ s : Since w6.heap.size w6, w' = s.world) [(0, true), (1, true), (2, true), (3, true), (5, true), (6, true), (8, true), (9, true), (10, true), (4, false), (7, false), (11, false), (12, true), (13, true), (14, false), (15, true), (16, false)] (by kernel_rfl) (by kernel_rfl) (by intro c d v a w h; cases d <;> exact h) (since (Below.refl _ _).drew) ?_
        repeat (first | (refine seq_skip (by rfl) (by rfl) ?_; simp only [Act.put, List.setIfInBounds_toArray, List.set_cons_succ, List.set_cons_zero]) | (refine seq_float (by rfl) (by rfl) (by rfl) ?_; intro K hK; go_big_quiet_op; go_big_quiet_on))
        refine seq_chain (by rfl) ?_
        intro K hK
        go_wp2_with fail
        (with_reducible refine (CH.out _ (Below.refl _ _).drew).mono ?_); rintro e w7 ⟨rfl, hb7⟩
        have h7 : Below w6.heap.size w6 w7 := (Below.refl _ _).drew.trans hb7
        go_wp2_with fail
        refine hK.out _ _ (since h7) ?_
        clear hK K
        repeat (first | (refine seq_skip (by rfl) (by rfl) ?_; simp only [Act.put, List.setIfInBounds_toArray, List.set_cons_succ, List.set_cons_zero]) | (refine seq_float (by rfl) (by rfl) (by rfl) ?_; intro K hK; go_big_quiet_op; go_big_quiet_on))
        refine seq_chain (by rfl) ?_
        intro K hK
        go_wp2_with fail
        (with_reducible refine (CI.out _ h7).mono ?_); rintro e w8 ⟨rfl, hb8⟩
        have h8 := h7.trans (hb8.mono h7.size)
        go_wp2_with fail
        refine hK.out _ _ (since h8) ?_
        clear hK K
        repeat (first | (refine seq_skip (by rfl) (by rfl) ?_; simp only [Act.put, List.setIfInBounds_toArray, List.set_cons_succ, List.set_cons_zero]) | (refine seq_float (by rfl) (by rfl) (by rfl) ?_; intro K hK; go_big_quiet_op; go_big_quiet_on))
        refine seq_chain (by rfl) ?_
        intro K hK
        go_wp2_with fail
        (with_reducible refine (CE'.out _ h8).mono ?_); rintro e w9 ⟨rfl, hb9⟩
        have h9 := h8.trans (hb9.mono h8.size)
        go_wp2_with fail
        refine hK.out _ _ (since h9) ?_
        clear hK K
        repeat (first | (refine seq_skip (by rfl) (by rfl) ?_; simp only [Act.put, List.setIfInBounds_toArray, List.set_cons_succ, List.set_cons_zero]) | (refine seq_float (by rfl) (by rfl) (by rfl) ?_; intro K hK; go_big_quiet_op; go_big_quiet_on))
        refine seq_chain (by rfl) ?_
        intro K hK
        go_wp2_with fail
        (with_reducible refine (awake_any _).mono ?_); rintro e w10 ⟨rfl, hb10⟩
        have h10 := h9.trans (hb10.mono h9.size)
        go_wp2_with fail
        refine hK.out _ _ (since h10) ?_
        clear hK K
        repeat (first | (refine seq_skip (by rfl) (by rfl) ?_; simp only [Act.put, List.setIfInBounds_toArray, List.set_cons_succ, List.set_cons_zero]) | (refine seq_float (by rfl) (by rfl) (by rfl) ?_; intro K hK; go_big_quiet_op; go_big_quiet_on))
        refine seq_chain (by rfl) ?_
        intro K hK
        go_wp2_with fail
        refine hK.out _ _ (since h10) ?_
        clear hK K
        repeat (first | (refine seq_skip (by rfl) (by rfl) ?_; simp only [Act.put, List.setIfInBounds_toArray, List.set_cons_succ, List.set_cons_zero]) | (refine seq_float (by rfl) (by rfl) (by rfl) ?_; intro K hK; go_big_quiet_op; go_big_quiet_on))
        refine seq_nil ?_
        go_wp2_with fail
        go_ret
        exact ⟨rfl, hw6.trans (h10.mono hw6.size)⟩
end Go.Proofs.Ytnfekadnjblciaa

namespace Go.Proofs.Ytnfekadnjblciaa
open Go.ChangeShapes Go.WideShapes Go.ChangeAt Go.RowKit Go.Deep

section
variable {H : Type} {enc : TypeId × Value → H} {W : World}
theorem none_of_trod {fuel n cap : Nat} {x : DataW H × List MemPlace} (hf : DataW.trod enc Try.prog W 0 (fun _ => true) true fuel 22 [.slice none n cap] = some x) : cap = 0 := by
  rcases open_slice Try.underlying22 hf with ⟨hcs, _⟩ | ⟨a, len, cap', m, n', D, Pl, hcs, _⟩
  · simp at hcs
    exact hcs.2
  · simp at hcs

set_option maxRecDepth 100000 in
theorem Arg.ledz {n cap : Nat} (h : Arg enc W 24 (.agg #[.slice none n cap])) : cap = 0 := by
  obtain ⟨⟨base, hv⟩, d, p, ⟨fuel, hf⟩, _⟩ := h
  have hf' : DataW.trod enc Try.prog W 0 (fun _ => true) true fuel 24 [.slice none n cap] = some (d, p) := hf
  clear hf
  obtain ⟨xs, m, rfl, _, hl, hn, hi⟩ := DataW.trod_struct Try.underlying24 hf'
  have h0 := hi 0 _ rfl
  match xs, hn with
  | [x0], _ =>
    simp [show Try.prog.cellsOf 22 = 1 from by kernel_rfl] at h0
    exact none_of_trod h0
end
end Go.Proofs.Ytnfekadnjblciaa

namespace Go.Proofs.Ytnfekadnjblciaa
open Go.ChangeShapes Go.WideShapes Go.ChangeAt Go.RowKit

set_option maxRecDepth 100000 in
theorem ledgerAppended_lifted (os : Os) (started : os.Started) (H : Type) (enc : TypeId × Value → H) :
    ReturnsInHanded {} Try.checked os 9 .any (Rows.ledgerAppendedSpec.pre6 enc Try.prog Try.f9 Rows.ledgerAppendedRow.domain false) (Rows.ledgerAppendedSpec.post enc Try.prog Try.f9 false true false false) := by
  refine law_lift started (by kernel_rfl) Try.func9 rfl rfl (by kernel_rfl) ?_ (ChangeSpec.witness6 (enc := enc) (C := Try.checked) false ⟨#[], #[.agg #[.slice none 0 0], .agg #[.int .i64 0, .string ⟨#[]⟩, .string ⟨#[]⟩, .string ⟨#[]⟩]], []⟩ 8 (by kernel_rfl) (by kernel_rfl) (by kernel_rfl) (by kernel_rfl)) ?_
  · intro ds h
    rw [Try.params9] at h
    match ds, h with
    | [_, _], _ => exact ⟨rfl, rfl, rfl⟩
  · intro W vs h
    rw [Try.params9] at h
    match vs, h with
    | [v0, v1], ⟨h0, h1, _⟩ =>
      obtain ⟨ao, n, cap, l, rfl, hc, _, hs⟩ := h0.led; have hz : ao = none → cap = 0 := (fun e => by subst e; exact h0.ledz)
      obtain ⟨r, rfl, hr, _⟩ := h1.rec_
      exact LawAppended_any l r n cap ao W hs hz hr

theorem ledgerAppended_holds : Rows.LedgerAppendedSaid :=
  OpenClaim.holds_of_wide 9 Try.f9 rfl rfl rfl rfl rfl rfl rfl ⟨rfl, rfl, rfl, rfl, rfl⟩ rfl rfl rfl rfl rfl (by kernel_rfl) Try.func9 (by kernel_rfl)
    (of_decide_eq_true (by kernel_rfl)) (by unfold Func.isWrapper; first | (rw [if_pos (by decide +kernel)]; kernel_rfl) | (rw [if_neg (by decide +kernel)]; exact ⟨rfl, rfl⟩))
    (fun os started H enc _ => ledgerAppended_lifted os started H enc)
#print axioms ledgerAppended_holds
end Go.Proofs.Ytnfekadnjblciaa
