/-
  TopAppendOnly: each head is a beginning of each later one, and each record has a proof for each later head.
-/
import Derived.Laws.OwnMore
import Derived.Laws.AppendOwnNone
import Derived.Test.YtbghpjedldhnhaaLedCheck
import Derived.Test.YtbghpjedldhnhaaLedHead
import Derived.Test.YtbghpjedldhnhaaBox
import Derived.Test.YtbghpjedldhnhaaMix
import Derived.Test.YtbghpjedldhnhaaLedGrowOwn
import Derived.Test.YtbghpjedldhnhaaLedHead2
import Derived.Test.YtbghpjedldhnhaaLedGreat
import Derived.Test.YtbghpjedldhnhaaLedProve
import Derived.Test.YtbghpjedldhnhaaLedHolds
import Derived.Test.YtbghpjedldhnhaaLawLed
namespace Go.Proofs.Ytbghpjedldhnhaa
open Go.RowKit

theorem info_rec : (Try.prog.info? 36).map (fun i => (i.zero, i.size, i.bytes)) = some (some (.agg #[.int .i64 0, .string ⟨#[]⟩, .string ⟨#[]⟩, .string ⟨#[]⟩]), 4, 56) := by kernel_rfl
theorem rcells_one (l : List Rec) : ∀ u ∈ rcells l, u.oneCell' = true := by
  intro u hu
  simp only [rcells, List.mem_flatMap] at hu
  obtain ⟨r, _, hu⟩ := hu
  simp only [List.mem_cons, List.not_mem_nil, or_false] at hu
  rcases hu with rfl | rfl | rfl | rfl <;> rfl

/-- 'append(out, xs..)', xs what a slice value reads as. -/
theorem wpList_append_slg {P : Program} {ops : Array Oper} {rest : List Oper} {o : Oper} {a : Act} {Q : Exit → Act → World → Prop} {w : World} (hgd : o.guard = none) (s x : Operand) (t : TypeId)
    (ho : o.op = .call { callee := .builtin .append, args := #[s, x], argTypes := #[t, t] })
    (base : Nat) (e : TypeId) (z : Value) (size bytes : Nat) (hinfo : (P.info? e).map (fun i => (i.zero, i.size, i.bytes)) = some (some z, size, bytes)) (ht : P.underlying t = some (.slice e)) (hzs : z.cells.size = size) (hsz : 0 < size)
    (v : Value) (n : Nat) (xs : List Value) (hown : w.ownsRow base e size v n xs) (hs : a.eval s = v)
    (ao : Option Addr) (m c : Nat) (us : List Value) (hx : a.eval x = .slice ao m c) (hsl : Sl w size ao m us) (hz : ao = none → c = 0) (h1 : ∀ u ∈ us, u.oneCell' = true)
    (h63 : n + m ≤ maxLen) (hbytes : (n + m) * bytes ≤ 140737488355328) (hbase : base ≤ w.heap.size)
    (h : ∀ v' w', w'.ownsRow base e size v' (n + m) (xs ++ us) → Below base w w' → w.grownBy w' v.ownBlock → wpList P ops Q rest (a.put o.dst v') w') : wpList P ops Q (o :: rest) a w := by
  obtain ⟨i, hi, hz0, hz1, hz2⟩ := info_parts hinfo
  cases ao with
  | none =>
    obtain rfl := hz rfl
    obtain rfl : m = 0 := by
      rcases hsl.2 with h0 | ⟨b, o, e', _⟩
      · exact h0
      · cases e'
    obtain rfl : us = [] := List.eq_nil_of_length_eq_zero (by rw [hsl.1]; simp)
    refine wpList_append_own_none hgd s x t ho base e i size ht hi v n xs hs hown hx ?_
    exact h v w (by simpa using hown) (Below.refl _ _) ⟨rfl, rfl, rfl, Nat.le_refl _, fun _ _ _ => rfl⟩
  | some ad =>
    refine wpList_append_own _ hgd s x t ho base e i z size bytes ht hi hz0 hz1 hz2 hzs hsz v n xs hs hown ad m c us hx hsl.1 ?_ h1 h63 hbytes hbase ?_
    · intro j u hu
      rcases hsl.2 with h0 | ⟨b, o', e', hlt, hc⟩
      · have := hsl.1
        rw [h0, Nat.zero_mul] at this
        rw [List.eq_nil_of_length_eq_zero this] at hu
        simp at hu
      · cases e'
        rw [Addr.add_lit]
        exact hc j u hu
    · intro v' w' hown' hg hn
      exact h v' w' hown' ((Below.refl _ _).grown hg hbase (fun k hk => ownsRow_row hown k hk)) hg

theorem wpList_append_sl {P : Program} {ops : Array Oper} {rest : List Oper} {o : Oper} {a : Act} {Q : Exit → Act → World → Prop} {w : World} (hgd : o.guard = none) (s x : Operand) (t : TypeId)
    (ho : o.op = .call { callee := .builtin .append, args := #[s, x], argTypes := #[t, t] })
    (base : Nat) (e : TypeId) (z : Value) (size bytes : Nat) (hinfo : (P.info? e).map (fun i => (i.zero, i.size, i.bytes)) = some (some z, size, bytes)) (ht : P.underlying t = some (.slice e)) (hzs : z.cells.size = size) (hsz : 0 < size)
    (v : Value) (n : Nat) (xs : List Value) (hown : w.ownsRow base e size v n xs) (hs : a.eval s = v)
    (ao : Option Addr) (m c : Nat) (us : List Value) (hx : a.eval x = .slice ao m c) (hsl : Sl w size ao m us) (hz : ao = none → c = 0) (h1 : ∀ u ∈ us, u.oneCell' = true)
    (h63 : n + m ≤ maxLen) (hbytes : (n + m) * bytes ≤ 140737488355328) (hbase : base ≤ w.heap.size)
    (h : ∀ v' w', w'.ownsRow base e size v' (n + m) (xs ++ us) → Below base w w' → wpList P ops Q rest (a.put o.dst v') w') : wpList P ops Q (o :: rest) a w := by
  exact wpList_append_slg hgd s x t ho base e z size bytes hinfo ht hzs hsz v n xs hown hs ao m c us hx hsl hz h1 h63 hbytes hbase fun v' w' p q _ => h v' w' p q

theorem run_eql_slice_nil' {P : Program} (w : World) (t e : TypeId) (a : Option Addr) (n c n' c' : Nat) (h : P.underlying t = some (.slice e)) :
    (binOp .eql t (.slice a n c) (.slice none n' c')).run P w = .ok (.bool a.isNone) w := by
  simp only [binOp]
  simp [Op.equal, Op.maxDepth, Lib.run_equalIn_slice_nil w 9999 t e a n c n' c' h]

set_option maxRecDepth 100000 in
set_option maxHeartbeats 4000000 in
theorem Clone_any (l : List Rec) (n cap : Nat) (ao : Option Addr) (w : World) (h : LedA w ao n cap l) (hz : ao = none → cap = 0) (hn : n ≤ 10000) :
    Calls Try.prog 36 #[.slice ao n cap] w fun e w' => ∃ v', e = .returned v' ∧ w'.ownsRow w.heap.size 36 4 v' n (rcells l) ∧ Below w.heap.size w w' := by
  cases ao with
  | none =>
    obtain rfl := hz rfl
    obtain rfl : n = 0 := by
      rcases h.sl.2 with h0 | ⟨b, o, e', _⟩
      · exact h0
      · cases e'
    obtain rfl : l = [] := List.eq_nil_of_length_eq_zero h.len
    clear h hz hn
    go_enter Try.func36, Try.ntmps36
    go_wp2_with fail
    rw [run_eql_slice_nil' _ _ _ _ _ _ _ _ Try.underlying22]
    go_wp2_with fail
    go_ret
    exact ⟨_, rfl, World.ownsRow_nil _ _ _ _, Below.refl _ _⟩
  | some a =>
    have HA := lid h
    clear h hz
    go_enter Try.func36, Try.ntmps36
    go_wp2_with fail
    rw [run_eql_slice_nil' _ _ _ _ _ _ _ _ Try.underlying22]
    go_wp2_with (at_builtin; go_must (refine wpList_append_sl rfl _ _ 22 rfl w.heap.size 36 (.agg #[.int .i64 0, .string ⟨#[]⟩, .string ⟨#[]⟩, .string ⟨#[]⟩]) 4 56 info_rec Try.underlying22 rfl (by decide) _ 0 [] (World.ownsRow_lit w #[] 0 (Nat.le_refl _) (by simp [maxLen]) rfl) rfl (some a) n cap (rcells l) rfl (HA.out.below (ba _ _)).sl (by intro h; cases h) (rcells_one l) (by simp [maxLen]; omega) (by omega) (by simp) ?_))
    intro v5 w5 hown5 hb5
    go_wp2_with fail
    go_ret
    refine ⟨_, rfl, ?_, (ba _ _).trans hb5⟩
    simpa using hown5

/-- Is the record older than the ledger's last? -/
def lateB (l : List Rec) (r : Rec) : Bool := match l.getLast? with | some q => decide (r.1 < q.1) | none => false
/-- The ledger with a record more. -/
def appE (l : List Rec) (r : Rec) : List Rec × Int :=
  if checkL l = 0 then (if recB r = true then (if lateB l r = true then ([], 10) else if l.length = 10000 then ([], 19) else (l ++ [r], 0)) else ([], 1)) else ([], checkL l)
theorem appE_bad {l : List Rec} {r : Rec} (h : ¬ checkL l = 0) : appE l r = ([], checkL l) := by unfold appE; rw [if_neg h]
theorem appE_rec {l : List Rec} {r : Rec} (h : checkL l = 0) (hr : recB r = false) : appE l r = ([], 1) := by unfold appE; rw [if_pos h, if_neg (by simp [hr])]
theorem appE_late {l : List Rec} {r : Rec} (h : checkL l = 0) (hr : recB r = true) (hl : lateB l r = true) : appE l r = ([], 10) := by unfold appE; rw [if_pos h, if_pos hr, if_pos hl]
theorem appE_full {l : List Rec} {r : Rec} (h : checkL l = 0) (hr : recB r = true) (hl : lateB l r = false) (hf : l.length = 10000) : appE l r = ([], 19) := by unfold appE; rw [if_pos h, if_pos hr, if_neg (by simp [hl]), if_pos hf]
theorem appE_good {l : List Rec} {r : Rec} (h : checkL l = 0) (hr : recB r = true) (hl : lateB l r = false) (hf : ¬ l.length = 10000) : appE l r = (l ++ [r], 0) := by unfold appE; rw [if_pos h, if_pos hr, if_neg (by simp [hl]), if_neg hf]
theorem lateB_nil {l : List Rec} (r : Rec) (h : l.length = 0) : lateB l r = false := by
  obtain rfl := List.eq_nil_of_length_eq_zero h
  rfl
theorem lateB_some {l : List Rec} (r : Rec) {m : Nat} (h : l.length = m + 1) (hm : m < l.length) : lateB l r = decide (r.1 < (l[m]).1) := by
  unfold lateB
  rw [List.getLast?_eq_getElem?, h, Nat.add_sub_cancel, List.getElem?_eq_getElem hm]

/-- A ledger and an errno that come back. -/
def LedR (x : List Rec × Int) (w : World) (e : Ending) (w' : World) : Prop :=
  ∃ ao' n' cap', e = .returned (.tuple #[.agg #[.slice ao' n' cap'], .int .i64 x.2]) ∧ n' ≤ cap' ∧ LedA w' ao' n' cap' x.1 ∧ Below w.heap.size w w'
theorem LedR.empty {w w' : World} {c : Int} {x : List Rec × Int} (hx : x = ([], c)) (hb : Below w.heap.size w w') : LedR x w (.returned (.tuple #[.agg #[.slice none 0 0], .int .i64 c])) w' := by
  subst hx
  exact ⟨none, 0, 0, rfl, Nat.le_refl _, ⟨rfl, Sl.nil, (by intro r hr; cases hr), by simp [maxLen]⟩, hb⟩
/-- The same; the records lie in new memory. -/
def LedR2 (x : List Rec × Int) (w : World) (e : Ending) (w' : World) : Prop :=
  ∃ ao' n' cap', e = .returned (.tuple #[.agg #[.slice ao' n' cap'], .int .i64 x.2]) ∧ n' ≤ cap' ∧ LedA w' ao' n' cap' x.1 ∧ Below w.heap.size w w' ∧ ∀ q, ao' = some q → w.heap.size ≤ q.block
theorem LedR2.empty {w w' : World} {c : Int} {x : List Rec × Int} (hx : x = ([], c)) (hb : Below w.heap.size w w') : LedR2 x w (.returned (.tuple #[.agg #[.slice none 0 0], .int .i64 c])) w' := by
  subst hx
  exact ⟨none, 0, 0, rfl, Nat.le_refl _, ⟨rfl, Sl.nil, (by intro r hr; cases hr), by simp [maxLen]⟩, hb, fun q h => by cases h⟩
/-- The results as read. -/
theorem res_led {fn : Func} (hf : fn.results = #[.cell 4 26, .tmp 5]) (t : Array Value) (w : World) (k : Nat) (ao : Option Addr) (n cap : Nat) (c : Int) (h4 : t.getD 4 undef = .pointer (some ⟨k, 0, none⟩)) (h5 : t.getD 5 undef = .int .i64 c)
    (e0 : w.cell? ⟨k, 0, none⟩ = some (.slice ao n cap)) : (results fn t).run Try.prog w = .ok (.tuple #[.agg #[.slice ao n cap], .int .i64 c]) w := by
  rw [Array.getD_eq_getD_getElem?] at h4 h5
  unfold results
  rw [hf]
  simp [go_sem, h4, h5, e0, asAddr]

/-- What is known while the records are cloned and the new one is laid, in any order. -/
def RA (i j B0 : Nat) (W : World) (n : Nat) (xs : List Value) (us : Array Value) (s : Nat → Bool) (vs : List Value) (w : World) : Prop :=
  ∃ x y, vs = [x, y] ∧ Below B0 W w ∧ (s i = true → w.ownsRow B0 36 4 x n xs) ∧ (s j = true → ∃ k, y = .slice (some ⟨k, 0, none⟩) 1 1 ∧ B0 ≤ k ∧ w.heap[k]? = some (.cells us 36 (0, 0)))
section
variable {i j B0 : Nat} {W w w' : World} {n : Nat} {xs : List Value} {us : Array Value} {s : Nat → Bool} {x y : Value}
theorem RA.start (i j B0 : Nat) (W : World) (n : Nat) (xs : List Value) (us : Array Value) (s : Nat → Bool) (hi : s i = false) (hj : s j = false) : RA i j B0 W n xs us s [undef, undef] W.drew :=
  ⟨_, _, rfl, (Below.refl _ _).drew, fun h => (by rw [hi] at h; cases h), fun h => (by rw [hj] at h; cases h)⟩
theorem RA.clone (h : RA i j B0 W n xs us s [x, y] w) (hij : j ≠ i) (hB : B0 ≤ w.heap.size) {v' : Value} (hown : w'.ownsRow w.heap.size 36 4 v' n xs) (hb : Below w.heap.size w w') : RA i j B0 W n xs us (upd s i) [v', y] w' := by
  obtain ⟨_, _, e, h0, h1, h2⟩ := h
  cases e
  refine ⟨_, _, rfl, h0.trans (hb.mono hB), fun _ => ownsRow_base hown hB, fun hs => ?_⟩
  obtain ⟨k, e, hk, hc⟩ := h2 (by rwa [upd_ne _ hij] at hs)
  exact ⟨k, e, hk, (hb.block k (Array.getElem?_eq_some_iff.1 hc).1).trans hc⟩
theorem RA.lay (h : RA i j B0 W n xs us s [x, y] w) (hij : i ≠ j) (hB : B0 ≤ w.heap.size) : RA i j B0 W n xs us (upd s j) [x, .slice (some ⟨w.heap.size, 0, none⟩) 1 1] (w.alloc (.cells us 36)) := by
  obtain ⟨_, _, e, h0, h1, h2⟩ := h
  cases e
  refine ⟨_, _, rfl, h0.trans ((ba _ _).mono hB), fun hs => ownsRow_below (h1 (by rwa [upd_ne _ hij] at hs)) (ba _ _), fun _ => ⟨_, rfl, hB, heap_alloc_new w _⟩⟩
end
/-- The same for the reference: the empty slice, its copy, the new record. -/
def RB (B0 : Nat) (W : World) (n : Nat) (xs : List Value) (us : Array Value) (s : Nat → Bool) (vs : List Value) (w : World) : Prop :=
  ∃ x y z, vs = [x, y, z] ∧ Below B0 W w ∧ (s 0 = true → s 3 = false → ∃ k, x = .slice (some ⟨k, 0, none⟩) 0 0 ∧ B0 ≤ k ∧ w.heap[k]? = some (.cells #[] 36 (0, 0))) ∧ (s 3 = true → w.ownsRow B0 36 4 y n xs) ∧ (s 5 = true → ∃ k, z = .slice (some ⟨k, 0, none⟩) 1 1 ∧ B0 ≤ k ∧ w.heap[k]? = some (.cells us 36 (0, 0)))
section
variable {B0 : Nat} {W w w' : World} {n : Nat} {xs : List Value} {us : Array Value} {s : Nat → Bool} {x y z : Value}
theorem RB.start (B0 : Nat) (W : World) (n : Nat) (xs : List Value) (us : Array Value) (s : Nat → Bool) (h0 : s 0 = false) (h3 : s 3 = false) (h5 : s 5 = false) : RB B0 W n xs us s [undef, undef, undef] W.drew :=
  ⟨_, _, _, rfl, (Below.refl _ _).drew, fun h => (by rw [h0] at h; cases h), fun h => (by rw [h3] at h; cases h), fun h => (by rw [h5] at h; cases h)⟩
theorem RB.empty (h : RB B0 W n xs us s [x, y, z] w) (hB : B0 ≤ w.heap.size) : RB B0 W n xs us (upd s 0) [.slice (some ⟨w.heap.size, 0, none⟩) 0 0, y, z] (w.alloc (.cells #[] 36)) := by
  obtain ⟨_, _, _, e, h0, h1, h2, h3⟩ := h
  cases e
  refine ⟨_, _, _, rfl, h0.trans ((ba _ _).mono hB), fun _ _ => ⟨_, rfl, hB, heap_alloc_new w _⟩, fun hs => ownsRow_below (h2 (by rwa [upd_ne _ (by decide)] at hs)) (ba _ _), fun hs => ?_⟩
  obtain ⟨k, e, hk, hc⟩ := h3 (by rwa [upd_ne _ (by decide)] at hs)
  exact ⟨k, e, hk, ((ba w _).block k (Array.getElem?_eq_some_iff.1 hc).1).trans hc⟩
theorem RB.copy {k : Nat} (h : RB B0 W n xs us s [.slice (some ⟨k, 0, none⟩) 0 0, y, z] w) (hu : us.size = 4) (hk : w.heap[k]? = some (.cells #[] 36 (0, 0))) {v' : Value} (hown : w'.ownsRow B0 36 4 v' n xs) (hg : w.grownBy w' (some k)) (hb : Below B0 w w') : RB B0 W n xs us (upd s 3) [.slice (some ⟨k, 0, none⟩) 0 0, v', z] w' := by
  obtain ⟨_, _, _, e, h0, h1, h2, h3⟩ := h
  cases e
  refine ⟨_, _, _, rfl, h0.trans hb, fun _ hs => (by rw [upd_same] at hs; cases hs), fun _ => hown, fun hs => ?_⟩
  obtain ⟨q, e, hq, hc⟩ := h3 (by rwa [upd_ne _ (by decide)] at hs)
  refine ⟨q, e, hq, (hg.block q (Array.getElem?_eq_some_iff.1 hc).1 (fun e2 => ?_)).trans hc⟩
  cases e2
  rw [hk] at hc
  cases hc
  simp at hu
theorem RB.lay (h : RB B0 W n xs us s [x, y, z] w) (hB : B0 ≤ w.heap.size) : RB B0 W n xs us (upd s 5) [x, y, .slice (some ⟨w.heap.size, 0, none⟩) 1 1] (w.alloc (.cells us 36)) := by
  obtain ⟨_, _, _, e, h0, h1, h2, h3⟩ := h
  cases e
  refine ⟨_, _, _, rfl, h0.trans ((ba _ _).mono hB), fun hs ht => ?_, fun hs => ownsRow_below (h2 (by rwa [upd_ne _ (by decide)] at hs)) (ba _ _), fun _ => ⟨_, rfl, hB, heap_alloc_new w _⟩⟩
  obtain ⟨k, e, hk, hc⟩ := h1 (by rwa [upd_ne _ (by decide)] at hs) (by rwa [upd_ne _ (by decide)] at ht)
  exact ⟨k, e, hk, ((ba w _).block k (Array.getElem?_eq_some_iff.1 hc).1).trans hc⟩
theorem own_empty {k : Nat} (h : w.heap[k]? = some (.cells #[] 36 (0, 0))) (hk : B0 ≤ k) : w.ownsRow B0 36 4 (.slice (some ⟨k, 0, none⟩) 0 0) 0 [] :=
  ⟨rfl, .inr ⟨k, 0, #[], rfl, hk, h, Nat.le_refl _, by simp [maxLen], rfl, rfl⟩⟩
end
theorem sl_one {w : World} {k : Nat} {us : Array Value} {t : TypeId} (h : w.heap[k]? = some (.cells us t (0, 0))) (hu : us.size = 4) : Sl w 4 (some ⟨k, 0, none⟩) 1 us.toList := by
  refine ⟨by simpa using hu, .inr ⟨k, 0, rfl, (Array.getElem?_eq_some_iff.1 h).1, fun j u hu => ?_⟩⟩
  rw [Nat.zero_add, cell_of_row _ _ _ _ _ _ h]
  simpa using hu
theorem led_set {w : World} {base X : Nat} {n cap cap' : Nat} {ao : Option Addr} {l : List Rec} {u : Value} (h : w.ownsRow base 36 4 (.slice ao n cap) n (rcells l)) (hA : LedA w ao n cap' l) (hX : X < base) : LedA (w.setCell ⟨X, 0, none⟩ u) ao n cap' l := by
  refine ⟨hA.len, ⟨hA.sl.1, ?_⟩, hA.sizes, hA.max⟩
  rcases h.2 with ⟨e, h0⟩ | ⟨g, c, cur, e, hg, hb, _⟩
  · exact .inl h0
  · rcases hA.sl.2 with h0 | ⟨b, o, e1, hlt, hc⟩
    · exact .inl h0
    · refine .inr ⟨b, o, e1, by rw [World.size_setCell]; exact hlt, fun j u hu => ?_⟩
      have : b = g := by rw [e1] at e; cases e; rfl
      rw [World.cell?_setCell_other _ _ _ _ (by intro e2; have := congrArg Addr.block e2; simp at this; omega)]
      exact hc j u hu
theorem led_grown {w : World} {base : Nat} {v : Value} {n : Nat} {l : List Rec} (h : w.ownsRow base 36 4 v n (rcells l)) (hl : l.length = n) (hr : ∀ r ∈ l, RecS r) : ∃ ao cap, v = .slice ao n cap ∧ n ≤ cap ∧ LedA w ao n cap l := by
  obtain ⟨ao, cap, e, h1, h2, h3⟩ := Sl.of_own h
  exact ⟨ao, cap, e, h1, ⟨hl, h3, hr, Nat.le_trans h1 h2⟩⟩

set_option maxRecDepth 100000 in
set_option maxHeartbeats 16000000 in
theorem Append_own (l : List Rec) (r : Rec) (n cap : Nat) (ao : Option Addr) (w : World) (h : LedA w ao n cap l) (hz : ao = none → cap = 0) (hr : RecS r) :
    Calls Try.prog 18 #[.agg #[.slice ao n cap], rv r] w fun e w' => LedR2 (appE l r) w e w' := by
  obtain ⟨t, a, b, d⟩ := r
  have HN := lid h.len
  have hnm : n ≤ 9223372036854775807 := h.max
  have HZ := lid hz
  have HRS := lid hr
  obtain ⟨W, hW⟩ : ∃ W, ((w.alloc (Obj.cells #[.slice ao n cap] 26)).alloc (Obj.cells #[.int .i64 t, .string a, .string b, .string d] 36)).alloc (Obj.cells #[.slice none 0 0] 26) = W := ⟨_, rfl⟩
  have hw0 : Below w.heap.size w W := by rw [← hW]; exact (((Below.refl _ _).alloc (Nat.le_refl _) _).alloc (by simp) _).alloc (by simp <;> omega) _
  have q0 : W.cell? ⟨w.heap.size, 0, none⟩ = some (.slice ao n cap) := by rw [← hW, cell_old_at (by simp <;> omega), cell_old_at (by simp), cell_new_at rfl]; rfl
  have r0 : W.cell? ⟨w.heap.size + 1, 0, none⟩ = some (.int .i64 t) := by rw [← hW, cell_old_at (by simp), cell_new_at (by simp)]; rfl
  have r1 : W.cell? ⟨w.heap.size + 1, 1, none⟩ = some (.string a) := by rw [← hW, cell_old_at (by simp), cell_new_at (by simp)]; rfl
  have r2 : W.cell? ⟨w.heap.size + 1, 2, none⟩ = some (.string b) := by rw [← hW, cell_old_at (by simp), cell_new_at (by simp)]; rfl
  have r3 : W.cell? ⟨w.heap.size + 1, 3, none⟩ = some (.string d) := by rw [← hW, cell_old_at (by simp), cell_new_at (by simp)]; rfl
  have B0 : Boxed W (w.heap.size + 2) 26 (.slice none 0 0) := by
    rw [← hW]
    have := Boxed.new ((w.alloc (Obj.cells #[.slice ao n cap] 26)).alloc (Obj.cells #[.int .i64 t, .string a, .string b, .string d] 36)) 26 (.slice none 0 0)
    rw [World.size_alloc, World.size_alloc] at this
    exact this
  have hsz : w.heap.size + 3 = W.heap.size := by rw [← hW, World.size_alloc, World.size_alloc, World.size_alloc]
  have HW := lid hW
  have HA := lid (h.below hw0)
  clear hW h hz hr
  have m0 : w.heap.size < W.heap.size := by omega
  have m1 : w.heap.size + 1 < W.heap.size := by omega
  have m2 : w.heap.size + 2 < W.heap.size := by omega
  have CC := lid (fun w' (hb : Below W.heap.size W w') => Check_any l n cap ao w' HA.out.len (HA.out.below hb).sl HA.out.sizes HA.out.max)
  go_enter Try.func18, Try.ntmps18
  go_wp2_with fail
  rw [HW.out]
  clear HW
  (with_reducible refine (CC.out _ (Below.refl _ _)).mono ?_); rintro e w2 ⟨rfl, hb2⟩
  have hw2 := hw0.trans (hb2.mono hw0.size)
  have B2 := lid (Boxed.below B0 hb2 m2)
  replace q0 := (bc hb2 m0 0).trans q0
  replace r0 := (bc hb2 m1 0).trans r0
  replace r1 := (bc hb2 m1 1).trans r1
  replace r2 := (bc hb2 m1 2).trans r2
  replace r3 := (bc hb2 m1 3).trans r3
  replace m0 : w.heap.size < w2.heap.size := by have := hb2.size; omega
  replace m1 : w.heap.size + 1 < w2.heap.size := by have := hb2.size; omega
  replace m2 : w.heap.size + 2 < w2.heap.size := by have := hb2.size; omega
  replace HA := lid (HA.out.below hb2)
  clear CC hb2 hw0 B0 hsz
  by_cases hc : checkL l = 0
  · have HC := lid hc
    rw [hc]
    clear hc
    go_wp2_with fail
    (with_reducible refine (validRecord_any (t, a, b, d) _ HRS.out).mono ?_); rintro e w3 ⟨rfl, hb3⟩
    have hw3 := hw2.trans (hb3.mono hw2.size)
    have BX := lid (Boxed.below B2.out hb3 m2)
    replace q0 := (bc hb3 m0 0).trans q0
    replace r0 := (bc hb3 m1 0).trans r0
    replace r1 := (bc hb3 m1 1).trans r1
    replace r2 := (bc hb3 m1 2).trans r2
    replace r3 := (bc hb3 m1 3).trans r3
    have k0 : w.heap.size < w3.heap.size := by have := hb3.size; omega
    have k1 : w.heap.size + 1 < w3.heap.size := by have := hb3.size; omega
    have k2 : w.heap.size + 2 < w3.heap.size := by have := hb3.size; omega
    replace HA := lid (HA.out.below hb3)
    clear m0 m1 m2 B2 hb3 hw2
    cases hB : recB (t, a, b, d) with
    | false =>
      have HV := lid (appE_rec HC.out hB)
      clear hB
      have B3 : Boxed w3 (w.heap.size + 2) 26 (.slice none 0 0) := BX.out
      have y0 := B3.cell
      have f0 := B3.frozen
      clear q0 r0 r1 r2 r3
      go_wp2_with fail
      refine bodyPost_ret (v := .tuple #[.agg #[.slice none 0 0], .int .i64 1]) (res_led Try.results18 _ _ (w.heap.size + 2) _ _ _ _ rfl rfl ((B3.set _).cell)) rfl (LedR2.empty HV.out ?_)
      exact hw3.setCell (p := ⟨w.heap.size + 2, 0, none⟩) (by show w.heap.size ≤ w.heap.size + 2; omega) _
    | true =>
      have HB := lid hB
      clear hB
      cases n with
      | zero =>
        have HLT := lid (lateB_nil (t, a, b, d) HN.out)
        have HV := lid (appE_good HC.out HB.out HLT.out (by rw [HN.out]; decide))
        go_wp2_with fail
        refine wp_region_seq (fun w' => ∃ s : Since w3.heap.size w3, w' = s.world) [(0, true), (1, true), (2, true), (3, true), (4, true), (5, true), (6, true), (7, true), (8, true), (9, true), (10, true), (11, true), (12, true), (13, true), (14, false)] (by kernel_rfl) (by kernel_rfl) (by intro c d v a w h; cases d <;> exact h) (since (Below.refl _ _).drew) ?_
        repeat (first | (refine seq_skip (by rfl) (by rfl) ?_; simp only [Act.put, List.setIfInBounds_toArray, List.set_cons_succ, List.set_cons_zero]) | (refine seq_float (by rfl) (by rfl) (by rfl) ?_; intro K hK; go_big_quiet_op; go_big_quiet_on))
        refine seq_chain (by rfl) ?_
        intro K hK
        go_wp2_with fail
        refine hK.out _ _ (since (Below.refl _ _).drew) ?_
        clear hK K
        repeat (first | (refine seq_skip (by rfl) (by rfl) ?_; simp only [Act.put, List.setIfInBounds_toArray, List.set_cons_succ, List.set_cons_zero]) | (refine seq_float (by rfl) (by rfl) (by rfl) ?_; intro K hK; go_big_quiet_op; go_big_quiet_on))
        refine seq_nil ?_
        obtain ⟨W4, hW4⟩ : ∃ W4, w3.drew = W4 := ⟨_, rfl⟩
        have hw4 : Below w.heap.size w W4 := by rw [← hW4]; exact hw3.drew
        have BX := lid (show Boxed W4 (w.heap.size + 2) 26 (.slice none 0 0) by rw [← hW4]; exact BX.out)
        replace q0 : W4.cell? ⟨w.heap.size, 0, none⟩ = some (.slice ao 0 cap) := by rw [← hW4]; exact q0
        replace r0 : W4.cell? ⟨w.heap.size + 1, 0, none⟩ = some (.int .i64 t) := by rw [← hW4]; exact r0
        replace r1 : W4.cell? ⟨w.heap.size + 1, 1, none⟩ = some (.string a) := by rw [← hW4]; exact r1
        replace r2 : W4.cell? ⟨w.heap.size + 1, 2, none⟩ = some (.string b) := by rw [← hW4]; exact r2
        replace r3 : W4.cell? ⟨w.heap.size + 1, 3, none⟩ = some (.string d) := by rw [← hW4]; exact r3
        replace k0 : w.heap.size < W4.heap.size := by rw [← hW4]; exact k0
        replace k1 : w.heap.size + 1 < W4.heap.size := by rw [← hW4]; exact k1
        replace k2 : w.heap.size + 2 < W4.heap.size := by rw [← hW4]; exact k2
        replace HA : Hid (LedA W4 ao 0 cap l) := lid (by rw [← hW4]; exact HA.out.below (Below.refl _ _).drew)
        rw [hW4]
        clear hW4 hw3
        have hn10 : 0 ≤ 10000 := by have := check_len HC.out; rw [HN.out] at this; exact this
        go_wp2_with fail
        have c0 := SinceX.cell (B := W4.heap.size) (X := w.heap.size + 2) (W := W4) w.heap.size 0 k0 (by omega) q0
        have d0 := SinceX.cell (B := W4.heap.size) (X := w.heap.size + 2) (W := W4) (w.heap.size + 1) 0 k1 (by omega) r0
        have d1 := SinceX.cell (B := W4.heap.size) (X := w.heap.size + 2) (W := W4) (w.heap.size + 1) 1 k1 (by omega) r1
        have d2 := SinceX.cell (B := W4.heap.size) (X := w.heap.size + 2) (W := W4) (w.heap.size + 1) 2 k1 (by omega) r2
        have d3 := SinceX.cell (B := W4.heap.size) (X := w.heap.size + 2) (W := W4) (w.heap.size + 1) 3 k1 (by omega) r3
        clear q0 r0 r1 r2 r3
        have CL := lid (fun w1 (hb : Below W4.heap.size W4 w1) => Clone_any l 0 cap ao w1 (HA.out.below hb) HZ.out hn10)
        refine wp_region_mix (fun w' => ∃ s : SinceX W4.heap.size (w.heap.size + 2) W4, w' = s.world) [(0, true), (1, true), (3, true)] [(2, []), (4, [])] [(5, false), (6, true), (7, false), (8, false)] (by kernel_rfl) (by kernel_rfl) (by intro c d v a w h; cases d <;> exact h) (sincex (KeptX.refl _ _ _).drew) ?_
        repeat (first | (refine seq_skip (by rfl) (by rfl) ?_; simp only [Act.put, List.setIfInBounds_toArray, List.set_cons_succ, List.set_cons_zero]) | (refine seq_float (by rfl) (by rfl) (by rfl) ?_; intro K hK; go_big_quiet_op; go_big_quiet_on))
        refine seq_nil (mix_go [44, 46] [undef, undef] (RA 2 4 W4.heap.size W4 0 (rcells l) #[.int .i64 t, .string a, .string b, .string d]) rfl (by simp only [putAll, Act.put, List.setIfInBounds_toArray, List.set_cons_succ, List.set_cons_zero]) (fun s h => RA.start _ _ _ _ _ _ _ s (h (2, []) (by simp)) (h (4, []) (by simp))) ⟨?_, ?_, trivial⟩ ?_)
        · intro s vs w1 _ _ _ _ hR
          have hR' := lid hR
          obtain ⟨x, y, rfl, hB1, hx, hy⟩ := hR
          simp only [putAll, Act.put, List.setIfInBounds_toArray, List.set_cons_succ, List.set_cons_zero]
          refine mix_op (by rfl) ?_
          intro K hK
          go_wp2_with fail
          (with_reducible refine (CL.out _ hB1).mono ?_); rintro e w2 ⟨v', rfl, hown, hb2⟩
          go_wp2_with fail
          exact hK.out _ _ ⟨sincex ((KeptX.refl _ _ _).below (hB1.trans (hb2.mono hB1.size))), [v', y], rfl, by simp only [putAll, Act.put, List.setIfInBounds_toArray, List.set_cons_succ, List.set_cons_zero], hR'.out.clone (by decide) hB1.size hown hb2⟩
        · intro s vs w1 _ _ _ _ hR
          have hR' := lid hR
          obtain ⟨x, y, rfl, hB1, hx, hy⟩ := hR
          simp only [putAll, Act.put, List.setIfInBounds_toArray, List.set_cons_succ, List.set_cons_zero]
          refine mix_op (by rfl) ?_
          intro K hK
          go_wp2_with fail
          exact hK.out _ _ ⟨sincex ((KeptX.refl _ _ _).below (hB1.trans ((ba _ _).mono hB1.size))), [x, .slice (some ⟨w1.heap.size, 0, none⟩) 1 1], rfl, by simp only [putAll, Act.put, List.setIfInBounds_toArray, List.set_cons_succ, List.set_cons_zero], hR'.out.lay (by decide) hB1.size⟩
        · intro s vs w1 _ hall _ hR
          have hR' := lid hR
          obtain ⟨x, y, rfl, hB1, hx, hy⟩ := hR
          replace hx := hx (hall (2, []) (by simp))
          replace hy := hy (hall (4, []) (by simp))
          clear hR'
          have hR := hB1
          obtain ⟨k, rfl, hk, hkc⟩ := hy
          simp only [putAll, Act.put, List.setIfInBounds_toArray, List.set_cons_succ, List.set_cons_zero]
          clear hall hR
          refine seq_chain (by rfl) ?_
          intro K hK
          go_wp2_with (at_builtin; go_must (refine wpList_append_sl rfl _ _ 22 rfl W4.heap.size 36 (.agg #[.int .i64 0, .string ⟨#[]⟩, .string ⟨#[]⟩, .string ⟨#[]⟩]) 4 56 info_rec Try.underlying22 rfl (by decide) _ _ _ hx rfl _ 1 1 #[.int .i64 t, .string a, .string b, .string d].toList rfl (sl_one hkc rfl) (by intro h; cases h) (by simp [Value.oneCell']) (by simp only [maxLen]; omega) (by omega) hB1.size ?_))
          intro v5 w5 hown5 hb5
          have hB5 := hB1.trans hb5
          have hown5' : w5.ownsRow W4.heap.size 36 4 v5 (0 + 1) (rcells (l ++ [(t, a, b, d)])) := by rw [rcells_append]; exact hown5
          clear hown5
          obtain ⟨ao5, cap5, rfl, hc5, hA5⟩ := led_grown (l := l ++ [(t, a, b, d)]) hown5' (by simp [HN.out]) (by intro r hr; rcases List.mem_append.1 hr with h | h; exact HA.out.sizes r h; rw [List.mem_singleton.1 h]; exact HRS.out)
          go_wp2_with fail
          refine hK.out _ _ (sincex ((KeptX.refl _ _ _).below hB5)) ?_
          clear hK K
          repeat (first | (refine seq_skip (by rfl) (by rfl) ?_; simp only [Act.put, List.setIfInBounds_toArray, List.set_cons_succ, List.set_cons_zero]) | (refine seq_float (by rfl) (by rfl) (by rfl) ?_; intro K hK; go_big_quiet_op; go_big_quiet_on))
          have B5 : Boxed w5 (w.heap.size + 2) 26 (.slice none 0 0) := Boxed.below BX.out hB5 k2
          have y0 := B5.cell
          have f0 := B5.frozen
          refine seq_chain (by rfl) ?_
          intro K hK
          go_wp2_with fail
          obtain ⟨W6, hW6⟩ : ∃ W6, w5.setCell ⟨w.heap.size + 2, 0, none⟩ (.slice ao5 (0 + 1) cap5) = W6 := ⟨_, rfl⟩
          have B6 : Boxed W6 (w.heap.size + 2) 26 (.slice ao5 (0 + 1) cap5) := by rw [← hW6]; exact B5.set _
          have hX6 : KeptX W4.heap.size (w.heap.size + 2) W4 W6 := by rw [← hW6]; exact ((KeptX.refl _ _ _).below hB5).setCell (p := ⟨w.heap.size + 2, 0, none⟩) (.inl rfl) _
          have hw6 : Below w.heap.size w W6 := by rw [← hW6]; exact (hw4.trans (hB5.mono hw4.size)).setCell (p := ⟨w.heap.size + 2, 0, none⟩) (by show w.heap.size ≤ w.heap.size + 2; omega) _
          have hA6 : LedA W6 ao5 (0 + 1) cap5 (l ++ [(t, a, b, d)]) := by
            rw [← hW6]
            exact led_set hown5' hA5 k2
          rw [hW6]
          clear hW6 y0 f0 B5 hB5 hB1
          refine hK.out _ _ (sincex hX6) ?_
          clear hK K
          repeat (first | (refine seq_skip (by rfl) (by rfl) ?_; simp only [Act.put, List.setIfInBounds_toArray, List.set_cons_succ, List.set_cons_zero]) | (refine seq_float (by rfl) (by rfl) (by rfl) ?_; intro K hK; go_big_quiet_op; go_big_quiet_on))
          refine seq_chain (by rfl) ?_
          intro K hK
          go_wp2_with fail
          refine hK.out _ _ (sincex hX6) ?_
          clear hK K
          repeat (first | (refine seq_skip (by rfl) (by rfl) ?_; simp only [Act.put, List.setIfInBounds_toArray, List.set_cons_succ, List.set_cons_zero]) | (refine seq_float (by rfl) (by rfl) (by rfl) ?_; intro K hK; go_big_quiet_op; go_big_quiet_on))
          refine seq_nil ?_
          go_wp2_with fail
          refine bodyPost_ret (v := .tuple #[.agg #[.slice ao5 (0 + 1) cap5], .int .i64 0]) (res_led Try.results18 _ _ (w.heap.size + 2) _ _ _ _ rfl rfl B6.cell) rfl ⟨ao5, 0 + 1, cap5, by rw [HV.out], hc5, by rw [HV.out]; exact hA6, hw6, fun q e => Nat.le_trans hw4.size (ownsRow_row hown5' q.block (by rw [e]; rfl))⟩
      | succ m =>
        have hml : m < l.length := by rw [HN.out]; omega
        obtain ⟨b1, o1, rfl, hlb, hcell⟩ := HA.out.sl.at_ (k := m) (by omega)
        have x0 := hcell (m * 4 + 0) _ (rcells_at hml).1
        rw [Nat.add_zero] at x0
        have HL0 := lid (lateB_some (t, a, b, d) HN.out hml)
        obtain ⟨pt, hpt⟩ : ∃ pt, (l[m]).1 = pt := ⟨_, rfl⟩
        rw [hpt] at x0 HL0
        clear hcell hpt
        have e0 : ((m + 1 : Nat) : Int) = (m : Int) + 1 := by omega
        have hpos : decide ((0 : Int) < (m : Int) + 1) = true := decide_eq_true (by omega)
        have wj : IntKind.i64.wrap (m : Int) = m := IntWalk.i64_in _ (by omega)
        have hjn1 : (m : Int) < (m : Int) + 1 := by omega
        have hjl : decide (m < m + 1) = true := by simp
        by_cases hlp : t < pt
        · have hd : decide (t < pt) = true := by simpa using hlp
          have HV := lid (appE_late HC.out HB.out (by rw [HL0.out]; exact hd))
          go_wp2_with fail
          refine wp_region_seq (fun w' => ∃ s : Since w3.heap.size w3, w' = s.world) [(0, true), (1, true), (2, true), (3, true), (4, true), (5, true), (6, true), (7, true), (8, true), (9, true), (10, true), (11, true), (12, true), (13, true), (14, false)] (by kernel_rfl) (by kernel_rfl) (by intro c d v a w h; cases d <;> exact h) (since (Below.refl _ _).drew) ?_
          repeat (first | (refine seq_skip (by rfl) (by rfl) ?_; simp only [Act.put, List.setIfInBounds_toArray, List.set_cons_succ, List.set_cons_zero]) | (refine seq_float (by rfl) (by rfl) (by rfl) ?_; intro K hK; go_big_quiet_op; go_big_quiet_on))
          refine seq_chain (by rfl) ?_
          intro K hK
          go_wp2_with fail
          refine hK.out _ _ (since (Below.refl _ _).drew) ?_
          clear hK K
          repeat (first | (refine seq_skip (by rfl) (by rfl) ?_; simp only [Act.put, List.setIfInBounds_toArray, List.set_cons_succ, List.set_cons_zero]) | (refine seq_float (by rfl) (by rfl) (by rfl) ?_; intro K hK; go_big_quiet_op; go_big_quiet_on))
          refine seq_nil ?_
          have B3 : Boxed w3 (w.heap.size + 2) 26 (.slice none 0 0) := BX.out
          have y0 := B3.cell
          have f0 := B3.frozen
          clear q0 r0 r1 r2 r3
          go_wp2_with fail
          refine bodyPost_ret (v := .tuple #[.agg #[.slice none 0 0], .int .i64 10]) (res_led Try.results18 _ _ (w.heap.size + 2) _ _ _ _ rfl rfl ((B3.set _).cell)) rfl (LedR2.empty HV.out ?_)
          exact hw3.drew.setCell (p := ⟨w.heap.size + 2, 0, none⟩) (by show w.heap.size ≤ w.heap.size + 2; omega) _
        · have hd : decide (t < pt) = false := by simpa using hlp
          have HLT : Hid (lateB l (t, a, b, d) = false) := lid (by rw [HL0.out]; exact hd)
          go_wp2_with fail
          refine wp_region_seq (fun w' => ∃ s : Since w3.heap.size w3, w' = s.world) [(0, true), (1, true), (2, true), (3, true), (4, true), (5, true), (6, true), (7, true), (8, true), (9, true), (10, true), (11, true), (12, true), (13, true), (14, false)] (by kernel_rfl) (by kernel_rfl) (by intro c d v a w h; cases d <;> exact h) (since (Below.refl _ _).drew) ?_
          repeat (first | (refine seq_skip (by rfl) (by rfl) ?_; simp only [Act.put, List.setIfInBounds_toArray, List.set_cons_succ, List.set_cons_zero]) | (refine seq_float (by rfl) (by rfl) (by rfl) ?_; intro K hK; go_big_quiet_op; go_big_quiet_on))
          refine seq_chain (by rfl) ?_
          intro K hK
          go_wp2_with fail
          refine hK.out _ _ (since (Below.refl _ _).drew) ?_
          clear hK K
          repeat (first | (refine seq_skip (by rfl) (by rfl) ?_; simp only [Act.put, List.setIfInBounds_toArray, List.set_cons_succ, List.set_cons_zero]) | (refine seq_float (by rfl) (by rfl) (by rfl) ?_; intro K hK; go_big_quiet_op; go_big_quiet_on))
          refine seq_nil ?_
          obtain ⟨W4, hW4⟩ : ∃ W4, w3.drew = W4 := ⟨_, rfl⟩
          have hw4 : Below w.heap.size w W4 := by rw [← hW4]; exact hw3.drew
          have BX := lid (show Boxed W4 (w.heap.size + 2) 26 (.slice none 0 0) by rw [← hW4]; exact BX.out)
          replace q0 : W4.cell? ⟨w.heap.size, 0, none⟩ = some (.slice (some ⟨b1, o1, none⟩) (m + 1) cap) := by rw [← hW4]; exact q0
          replace r0 : W4.cell? ⟨w.heap.size + 1, 0, none⟩ = some (.int .i64 t) := by rw [← hW4]; exact r0
          replace r1 : W4.cell? ⟨w.heap.size + 1, 1, none⟩ = some (.string a) := by rw [← hW4]; exact r1
          replace r2 : W4.cell? ⟨w.heap.size + 1, 2, none⟩ = some (.string b) := by rw [← hW4]; exact r2
          replace r3 : W4.cell? ⟨w.heap.size + 1, 3, none⟩ = some (.string d) := by rw [← hW4]; exact r3
          replace k0 : w.heap.size < W4.heap.size := by rw [← hW4]; exact k0
          replace k1 : w.heap.size + 1 < W4.heap.size := by rw [← hW4]; exact k1
          replace k2 : w.heap.size + 2 < W4.heap.size := by rw [← hW4]; exact k2
          replace HA : Hid (LedA W4 (some ⟨b1, o1, none⟩) (m + 1) cap l) := lid (by rw [← hW4]; exact HA.out.below (Below.refl _ _).drew)
          rw [hW4]
          clear hW4 hw3
          by_cases hf : (m + 1) = 10000
          · have HV := lid (appE_full HC.out HB.out HLT.out (by rw [HN.out]; exact hf))
            have df : ((m : Int) + 1 == 10000) = true := by simp; omega
            clear hf
            have B4 : Boxed W4 (w.heap.size + 2) 26 (.slice none 0 0) := BX.out
            have y0 := B4.cell
            have f0 := B4.frozen
            clear q0 r0 r1 r2 r3
            go_wp2_with fail
            refine bodyPost_ret (v := .tuple #[.agg #[.slice none 0 0], .int .i64 19]) (res_led Try.results18 _ _ (w.heap.size + 2) _ _ _ _ rfl rfl ((B4.set _).cell)) rfl (LedR2.empty HV.out ?_)
            exact hw4.setCell (p := ⟨w.heap.size + 2, 0, none⟩) (by show w.heap.size ≤ w.heap.size + 2; omega) _
          · have HV := lid (appE_good HC.out HB.out HLT.out (by rw [HN.out]; exact hf))
            have df : ((m : Int) + 1 == 10000) = false := by simp; omega
            have hn10 : (m + 1) ≤ 10000 := by have := check_len HC.out; rw [HN.out] at this; exact this
            clear hf
            go_wp2_with fail
            have c0 := SinceX.cell (B := W4.heap.size) (X := w.heap.size + 2) (W := W4) w.heap.size 0 k0 (by omega) q0
            have d0 := SinceX.cell (B := W4.heap.size) (X := w.heap.size + 2) (W := W4) (w.heap.size + 1) 0 k1 (by omega) r0
            have d1 := SinceX.cell (B := W4.heap.size) (X := w.heap.size + 2) (W := W4) (w.heap.size + 1) 1 k1 (by omega) r1
            have d2 := SinceX.cell (B := W4.heap.size) (X := w.heap.size + 2) (W := W4) (w.heap.size + 1) 2 k1 (by omega) r2
            have d3 := SinceX.cell (B := W4.heap.size) (X := w.heap.size + 2) (W := W4) (w.heap.size + 1) 3 k1 (by omega) r3
            clear q0 r0 r1 r2 r3
            have CL := lid (fun w1 (hb : Below W4.heap.size W4 w1) => Clone_any l (m + 1) cap (some ⟨b1, o1, none⟩) w1 (HA.out.below hb) HZ.out hn10)
            refine wp_region_mix (fun w' => ∃ s : SinceX W4.heap.size (w.heap.size + 2) W4, w' = s.world) [(0, true), (1, true), (3, true)] [(2, []), (4, [])] [(5, false), (6, true), (7, false), (8, false)] (by kernel_rfl) (by kernel_rfl) (by intro c d v a w h; cases d <;> exact h) (sincex (KeptX.refl _ _ _).drew) ?_
            repeat (first | (refine seq_skip (by rfl) (by rfl) ?_; simp only [Act.put, List.setIfInBounds_toArray, List.set_cons_succ, List.set_cons_zero]) | (refine seq_float (by rfl) (by rfl) (by rfl) ?_; intro K hK; go_big_quiet_op; go_big_quiet_on))
            refine seq_nil (mix_go [44, 46] [undef, undef] (RA 2 4 W4.heap.size W4 (m + 1) (rcells l) #[.int .i64 t, .string a, .string b, .string d]) rfl (by simp only [putAll, Act.put, List.setIfInBounds_toArray, List.set_cons_succ, List.set_cons_zero]) (fun s h => RA.start _ _ _ _ _ _ _ s (h (2, []) (by simp)) (h (4, []) (by simp))) ⟨?_, ?_, trivial⟩ ?_)
            · intro s vs w1 _ _ _ _ hR
              have hR' := lid hR
              obtain ⟨x, y, rfl, hB1, hx, hy⟩ := hR
              simp only [putAll, Act.put, List.setIfInBounds_toArray, List.set_cons_succ, List.set_cons_zero]
              refine mix_op (by rfl) ?_
              intro K hK
              go_wp2_with fail
              (with_reducible refine (CL.out _ hB1).mono ?_); rintro e w2 ⟨v', rfl, hown, hb2⟩
              go_wp2_with fail
              exact hK.out _ _ ⟨sincex ((KeptX.refl _ _ _).below (hB1.trans (hb2.mono hB1.size))), [v', y], rfl, by simp only [putAll, Act.put, List.setIfInBounds_toArray, List.set_cons_succ, List.set_cons_zero], hR'.out.clone (by decide) hB1.size hown hb2⟩
            · intro s vs w1 _ _ _ _ hR
              have hR' := lid hR
              obtain ⟨x, y, rfl, hB1, hx, hy⟩ := hR
              simp only [putAll, Act.put, List.setIfInBounds_toArray, List.set_cons_succ, List.set_cons_zero]
              refine mix_op (by rfl) ?_
              intro K hK
              go_wp2_with fail
              exact hK.out _ _ ⟨sincex ((KeptX.refl _ _ _).below (hB1.trans ((ba _ _).mono hB1.size))), [x, .slice (some ⟨w1.heap.size, 0, none⟩) 1 1], rfl, by simp only [putAll, Act.put, List.setIfInBounds_toArray, List.set_cons_succ, List.set_cons_zero], hR'.out.lay (by decide) hB1.size⟩
            · intro s vs w1 _ hall _ hR
              have hR' := lid hR
              obtain ⟨x, y, rfl, hB1, hx, hy⟩ := hR
              replace hx := hx (hall (2, []) (by simp))
              replace hy := hy (hall (4, []) (by simp))
              clear hR'
              have hR := hB1
              obtain ⟨k, rfl, hk, hkc⟩ := hy
              simp only [putAll, Act.put, List.setIfInBounds_toArray, List.set_cons_succ, List.set_cons_zero]
              clear hall hR
              refine seq_chain (by rfl) ?_
              intro K hK
              go_wp2_with (at_builtin; go_must (refine wpList_append_sl rfl _ _ 22 rfl W4.heap.size 36 (.agg #[.int .i64 0, .string ⟨#[]⟩, .string ⟨#[]⟩, .string ⟨#[]⟩]) 4 56 info_rec Try.underlying22 rfl (by decide) _ _ _ hx rfl _ 1 1 #[.int .i64 t, .string a, .string b, .string d].toList rfl (sl_one hkc rfl) (by intro h; cases h) (by simp [Value.oneCell']) (by simp only [maxLen]; omega) (by omega) hB1.size ?_))
              intro v5 w5 hown5 hb5
              have hB5 := hB1.trans hb5
              have hown5' : w5.ownsRow W4.heap.size 36 4 v5 ((m + 1) + 1) (rcells (l ++ [(t, a, b, d)])) := by rw [rcells_append]; exact hown5
              clear hown5
              obtain ⟨ao5, cap5, rfl, hc5, hA5⟩ := led_grown (l := l ++ [(t, a, b, d)]) hown5' (by simp [HN.out]) (by intro r hr; rcases List.mem_append.1 hr with h | h; exact HA.out.sizes r h; rw [List.mem_singleton.1 h]; exact HRS.out)
              go_wp2_with fail
              refine hK.out _ _ (sincex ((KeptX.refl _ _ _).below hB5)) ?_
              clear hK K
              repeat (first | (refine seq_skip (by rfl) (by rfl) ?_; simp only [Act.put, List.setIfInBounds_toArray, List.set_cons_succ, List.set_cons_zero]) | (refine seq_float (by rfl) (by rfl) (by rfl) ?_; intro K hK; go_big_quiet_op; go_big_quiet_on))
              have B5 : Boxed w5 (w.heap.size + 2) 26 (.slice none 0 0) := Boxed.below BX.out hB5 k2
              have y0 := B5.cell
              have f0 := B5.frozen
              refine seq_chain (by rfl) ?_
              intro K hK
              go_wp2_with fail
              obtain ⟨W6, hW6⟩ : ∃ W6, w5.setCell ⟨w.heap.size + 2, 0, none⟩ (.slice ao5 ((m + 1) + 1) cap5) = W6 := ⟨_, rfl⟩
              have B6 : Boxed W6 (w.heap.size + 2) 26 (.slice ao5 ((m + 1) + 1) cap5) := by rw [← hW6]; exact B5.set _
              have hX6 : KeptX W4.heap.size (w.heap.size + 2) W4 W6 := by rw [← hW6]; exact ((KeptX.refl _ _ _).below hB5).setCell (p := ⟨w.heap.size + 2, 0, none⟩) (.inl rfl) _
              have hw6 : Below w.heap.size w W6 := by rw [← hW6]; exact (hw4.trans (hB5.mono hw4.size)).setCell (p := ⟨w.heap.size + 2, 0, none⟩) (by show w.heap.size ≤ w.heap.size + 2; omega) _
              have hA6 : LedA W6 ao5 ((m + 1) + 1) cap5 (l ++ [(t, a, b, d)]) := by
                rw [← hW6]
                exact led_set hown5' hA5 k2
              rw [hW6]
              clear hW6 y0 f0 B5 hB5 hB1
              refine hK.out _ _ (sincex hX6) ?_
              clear hK K
              repeat (first | (refine seq_skip (by rfl) (by rfl) ?_; simp only [Act.put, List.setIfInBounds_toArray, List.set_cons_succ, List.set_cons_zero]) | (refine seq_float (by rfl) (by rfl) (by rfl) ?_; intro K hK; go_big_quiet_op; go_big_quiet_on))
              refine seq_chain (by rfl) ?_
              intro K hK
              go_wp2_with fail
              refine hK.out _ _ (sincex hX6) ?_
              clear hK K
              repeat (first | (refine seq_skip (by rfl) (by rfl) ?_; simp only [Act.put, List.setIfInBounds_toArray, List.set_cons_succ, List.set_cons_zero]) | (refine seq_float (by rfl) (by rfl) (by rfl) ?_; intro K hK; go_big_quiet_op; go_big_quiet_on))
              refine seq_nil ?_
              go_wp2_with fail
              refine bodyPost_ret (v := .tuple #[.agg #[.slice ao5 ((m + 1) + 1) cap5], .int .i64 0]) (res_led Try.results18 _ _ (w.heap.size + 2) _ _ _ _ rfl rfl B6.cell) rfl ⟨ao5, (m + 1) + 1, cap5, by rw [HV.out], hc5, by rw [HV.out]; exact hA6, hw6, fun q e => Nat.le_trans hw4.size (ownsRow_row hown5' q.block (by rw [e]; rfl))⟩
  · have HV := lid (appE_bad (r := (t, a, b, d)) hc)
    have hc' : (checkL l != 0) = true := by simpa using hc
    have B3 : Boxed w2 (w.heap.size + 2) 26 (.slice none 0 0) := B2.out
    generalize checkL l = C at *
    clear hc
    have y0 := B3.cell
    have f0 := B3.frozen
    clear q0 r0 r1 r2 r3
    go_wp2_with fail
    refine bodyPost_ret (v := .tuple #[.agg #[.slice none 0 0], .int .i64 C]) (res_led Try.results18 _ _ (w.heap.size + 2) _ _ _ _ rfl rfl ((B3.set _).cell)) rfl (LedR2.empty HV.out ?_)
    exact hw2.setCell (p := ⟨w.heap.size + 2, 0, none⟩) (by show w.heap.size ≤ w.heap.size + 2; omega) _

theorem Append_any (l : List Rec) (r : Rec) (n cap : Nat) (ao : Option Addr) (w : World) (h : LedA w ao n cap l) (hz : ao = none → cap = 0) (hr : RecS r) :
    Calls Try.prog 18 #[.agg #[.slice ao n cap], rv r] w fun e w' => LedR (appE l r) w e w' :=
  (Append_own l r n cap ao w h hz hr).mono fun _ _ ⟨a, n', c, h1, h2, h3, h4, _⟩ => ⟨a, n', c, h1, h2, h3, h4⟩

end Go.Proofs.Ytbghpjedldhnhaa

namespace Go.Proofs.Ytbghpjedldhnhaa
open Go.RowKit

theorem chkGo_app (r : Rec) (hr : recB r = true) (l : List Rec) : ∀ (p : Option Int), chkGo p l = 0 → (match l.getLast? with | some q => ¬ r.1 < q.1 | none => (match p with | some v => ¬ r.1 < v | none => True)) → chkGo p (l ++ [r]) = 0 := by
  induction l with
  | nil =>
    intro p _ hp
    cases p with
    | none => simp [chkGo, hr]
    | some v => simp only [List.getLast?_nil] at hp; simp [chkGo, hr]; omega
  | cons a l ih =>
    intro p h hp
    have hl : ∀ q, chkGo (some q) l = 0 → q = a.1 → chkGo (some a.1) (l ++ [r]) = 0 := by
      rintro q h rfl
      refine ih _ h ?_
      rw [List.getLast?_cons] at hp
      cases e : l.getLast? with
      | none => rw [e] at hp; simpa using hp
      | some x => rw [e] at hp; simpa using hp
    rw [List.cons_append]
    cases p with
    | none =>
      simp only [chkGo] at h ⊢
      split at h
      · rename_i hb
        rw [if_pos hb]
        exact hl _ h rfl
      · cases h
    | some v =>
      simp only [chkGo] at h ⊢
      split at h
      · rename_i hb
        rw [if_pos hb]
        split at h
        · cases h
        · rename_i ht
          rw [if_neg ht]
          exact hl _ h rfl
      · cases h
theorem appE_cases (l : List Rec) (r : Rec) : (∃ c, c ≠ 0 ∧ appE l r = ([], c)) ∨ (checkL l = 0 ∧ appE l r = (l ++ [r], 0) ∧ checkL (l ++ [r]) = 0) := by
  by_cases hc : checkL l = 0
  · cases hr : recB r with
    | false => exact .inl ⟨1, by decide, appE_rec hc hr⟩
    | true =>
      cases hl : lateB l r with
      | true => exact .inl ⟨10, by decide, appE_late hc hr hl⟩
      | false =>
        by_cases hf : l.length = 10000
        · exact .inl ⟨19, by decide, appE_full hc hr hl hf⟩
        · refine .inr ⟨hc, appE_good hc hr hl hf, ?_⟩
          have hn := check_len hc
          unfold checkL at hc ⊢
          rw [if_pos hn] at hc
          rw [if_pos (by simp; omega)]
          refine chkGo_app r hr l _ hc ?_
          unfold lateB at hl
          cases e : l.getLast? with
          | none => trivial
          | some q => rw [e] at hl; simpa using hl
  · exact .inl ⟨_, hc, appE_bad hc⟩
end Go.Proofs.Ytbghpjedldhnhaa

namespace Go.Proofs.Ytbghpjedldhnhaa
open Go.RowKit

def stepL (out : List Rec) (r : Rec) : List Rec := if (appE out r).2 = 0 then (appE out r).1 else out
def buildG (out : List Rec) : List Rec → List Rec
  | [] => out
  | r :: l => buildG (stepL out r) l
theorem stepL_bad {out : List Rec} {r : Rec} {c : Int} (h : c ≠ 0) (e : appE out r = ([], c)) : stepL out r = out := by unfold stepL; rw [e, if_neg h]
theorem stepL_good {out : List Rec} {r : Rec} (e : appE out r = (out ++ [r], 0)) : stepL out r = out ++ [r] := by unfold stepL; rw [e, if_pos rfl]
theorem stepL_ok {out : List Rec} (h : checkL out = 0) (r : Rec) : checkL (stepL out r) = 0 ∧ (stepL out r).length ≤ out.length + 1 := by
  rcases appE_cases out r with ⟨c, hc, e⟩ | ⟨_, e, hk⟩
  · rw [stepL_bad hc e]
    exact ⟨h, by omega⟩
  · rw [stepL_good e]
    exact ⟨hk, by simp⟩
theorem buildG_ok (l : List Rec) : ∀ out, checkL out = 0 → checkL (buildG out l) = 0 ∧ (buildG out l).length ≤ out.length + l.length := by
  induction l with
  | nil => intro out h; exact ⟨h, by simp [buildG]⟩
  | cons r l ih =>
    intro out h
    have := ih _ (stepL_ok h r).1
    have h2 := (stepL_ok h r).2
    simp only [buildG, List.length_cons]
    exact ⟨this.1, by omega⟩
def buildL (l : List Rec) : List Rec := buildG [] l
theorem checkL_nil : checkL [] = 0 := by simp [checkL, chkGo]
theorem buildL_ok (l : List Rec) : checkL (buildL l) = 0 ∧ (buildL l).length ≤ l.length := by
  have := buildG_ok l [] checkL_nil
  simpa [buildL] using this
theorem LedA.pos {w : World} {ao : Option Addr} {n cap : Nat} {l : List Rec} (h : LedA w ao n cap l) (hn : 0 < n) : ao = none → cap = 0 := by
  intro e
  exfalso
  subst e
  rcases h.sl.2 with h0 | ⟨b, o, e, _⟩
  · omega
  · cases e
theorem led_other {w : World} {X n cap : Nat} {ao : Option Addr} {l : List Rec} {u : Value} (h : LedA w ao n cap l) (hX : ∀ q, ao = some q → X ≠ q.block) : LedA (w.setCell ⟨X, 0, none⟩ u) ao n cap l := by
  refine ⟨h.len, ⟨h.sl.1, ?_⟩, h.sizes, h.max⟩
  rcases h.sl.2 with h0 | ⟨b, o, e1, hlt, hc⟩
  · exact .inl h0
  · refine .inr ⟨b, o, e1, by rw [World.size_setCell]; exact hlt, fun j u hu => ?_⟩
    rw [World.cell?_setCell_other _ _ _ _ (by intro e2; exact hX _ e1 (congrArg Addr.block e2))]
    exact hc j u hu

/-- The example. -/
abbrev exT : Rec := (1, ⟨#[97, 110, 110]⟩, ⟨#[108, 97, 110, 100]⟩, ⟨#[49]⟩)
theorem ext_chk1 : checkL [exT] = 0 := by decide +kernel
theorem ext_chk2 : checkL [exT, exT] = 0 := by decide +kernel
theorem ext_rec : recB exT = true := by decide +kernel
theorem ext_late : lateB [exT] exT = false := by decide +kernel
theorem ext_app1 : appE [] exT = ([exT], 0) := appE_good checkL_nil ext_rec rfl (by decide)
theorem ext_app2 : appE [exT] exT = ([exT, exT], 0) := appE_good ext_chk1 ext_rec ext_late (by decide)
theorem half2 : halfN 2 = 1 := (halfN_eq (j := 0) rfl (by omega) (by omega)).symm
theorem ext_ext : extE [exT, exT] 1 = ([rootD [recD exT]], 0) := by
  rw [show (1 : Int) = ((1 : Nat) : Int) from rfl, extE_in ext_chk2 (by omega) (by simp)]
  show (growD [recD exT, recD exT] 1 true, 0) = _
  have h : halfN [recD exT, recD exT].length = 1 := half2
  rw [growD, if_neg (by simp), dif_pos (by simp), h, if_pos (by omega)]
  show (growD [recD exT] 1 true ++ [rootD [recD exT]], 0) = _
  rw [growD, if_pos rfl]
  rfl
theorem ext_grown : extendsB fstL (headD [exT]) 1 (headD [exT, exT]) 2 [rootD [recD exT]] = true := by
  have := (own_extends ext_chk2 1 (by decide)).2
  rw [show ((1 : Nat) : Int) = 1 from rfl, ext_ext] at this
  exact this
theorem ext_s : RecS exT := ⟨by show 3 ≤ _; decide, by show 4 ≤ _; decide, by show 1 ≤ _; decide⟩
end Go.Proofs.Ytbghpjedldhnhaa

namespace Go.Proofs.Ytbghpjedldhnhaa
open Go.RowKit

theorem res_led1 {fn : Func} (hf : fn.results = #[.cell 2 26]) (t : Array Value) (w : World) (k : Nat) (ao : Option Addr) (n cap : Nat) (h2 : t.getD 2 undef = .pointer (some ⟨k, 0, none⟩))
    (e0 : w.cell? ⟨k, 0, none⟩ = some (.slice ao n cap)) : (results fn t).run Try.prog w = .ok (.agg #[.slice ao n cap]) w := by
  rw [Array.getD_eq_getD_getElem?] at h2
  unfold results
  rw [hf]
  simp [go_sem, h2, e0, asAddr]

set_option maxRecDepth 100000 in
set_option maxHeartbeats 8000000 in
theorem Build_any (l : List Rec) (n cap : Nat) (ao : Option Addr) (w : World) (h : LedA w ao n cap l) (hn : n ≤ 10) :
    Calls Try.prog 7 #[.slice ao n cap] w fun e w' => ∃ ao' n' cap', e = .returned (.agg #[.slice ao' n' cap']) ∧ n' ≤ cap' ∧ LedA w' ao' n' cap' (buildL l) ∧ Below w.heap.size w w' := by
  have HN := lid h.len
  have HA := lid h
  obtain ⟨W, hW⟩ : ∃ W, (w.alloc (Obj.cells #[.slice none 0 0] 26)).alloc (Obj.cells #[.slice none 0 0] 26) = W := ⟨_, rfl⟩
  have hw0 : Below w.heap.size w W := by rw [← hW]; exact ((Below.refl _ _).alloc (Nat.le_refl _) _).alloc (by simp) _
  have B0 : Boxed W w.heap.size 26 (.slice none 0 0) := by rw [← hW]; exact (Boxed.new w _ _).alloc _
  have B1 : Boxed W (w.heap.size + 1) 26 (.slice none 0 0) := by
    rw [← hW]
    have := Boxed.new (w.alloc (Obj.cells #[.slice none 0 0] 26)) 26 (.slice none 0 0)
    rw [World.size_alloc] at this
    exact this
  have HW := lid hW
  clear hW h
  go_enter Try.func7, Try.ntmps7
  go_wp2_with fail
  rw [HW.out]
  clear HW
  go_loopw [5, 6, 7, 10] (fun _ _ _ i wr => ∃ (k : Nat) (ao2 : Option Addr) (n2 cap2 : Nat) (out : List Rec), k ≤ n ∧ i = .int .i64 k ∧ n2 ≤ cap2 ∧ Hid (buildL l = buildG out (l.drop k)) ∧ Hid (checkL out = 0) ∧ Hid (Boxed wr w.heap.size 26 (.slice none 0 0)) ∧ Hid (Boxed wr (w.heap.size + 1) 26 (.slice ao2 n2 cap2)) ∧ Hid (LedA wr ao2 n2 cap2 out) ∧ Hid (ao2 = none → cap2 = 0) ∧ Hid (∀ q, ao2 = some q → w.heap.size + 2 ≤ q.block) ∧ Below w.heap.size w wr) (fun _ _ _ i _ => n - (intOf i).toNat)
  case atStart => exact ⟨0, none, 0, 0, [], Nat.zero_le _, rfl, Nat.le_refl _, lid rfl, lid checkL_nil, lid B0, lid B1, lid ⟨rfl, Sl.nil, (fun r hr => by cases hr), by simp [maxLen]⟩, lid (fun _ => rfl), lid (fun q e => by cases e), hw0⟩
  case round =>
    obtain ⟨k, ao2, n2, cap2, out, hk, rfl, hnc, HG, HC, HB0, HB1, HL, HZ, HO, hb⟩ := hrel
    have b1 := HB1.out.cell
    have l0 := HB0.out.lt
    have l1 := HB1.out.lt
    by_cases hlt : k < n
    · have hkl : k < l.length := by rw [HN.out]; exact hlt
      obtain ⟨bs, os, rfl, hlb, hcell⟩ := (HA.out.below hb).sl.at_ hlt
      have x0 := hcell (k * 4 + 0) _ (rcells_at hkl).1
      have x1 := hcell (k * 4 + 1) _ (rcells_at hkl).2.1
      have x2 := hcell (k * 4 + 2) _ (rcells_at hkl).2.2.1
      have x3 := hcell (k * 4 + 3) _ (rcells_at hkl).2.2.2
      rw [← Nat.add_assoc] at x1 x2 x3
      rw [Nat.add_zero] at x0
      have HRS := lid (HA.out.sizes _ (List.getElem_mem hkl))
      have HD := lid (List.drop_eq_getElem_cons hkl)
      obtain ⟨r, hrk⟩ : ∃ r, l[k] = r := ⟨_, rfl⟩
      rw [hrk] at x0 x1 x2 x3 HRS HD
      clear hcell hrk
      obtain ⟨t, a, b, d⟩ := r
      simp only at x0 x1 x2 x3
      have b1' := (cell_old_at l1 (Obj.cells #[.int .i64 t, .string a, .string b, .string d] 36) 0).trans b1
      go_wp2_with fail
      obtain ⟨W1, hW1⟩ : ∃ W1, wr.alloc (Obj.cells #[.int .i64 t, .string a, .string b, .string d] 36) = W1 := ⟨_, rfl⟩
      have hb1 : Below wr.heap.size wr W1 := by rw [← hW1]; exact ba _ _
      rw [hW1]
      clear hW1 x0 x1 x2 x3 b1 b1'
      have CA := lid (Append_own out (t, a, b, d) n2 cap2 ao2 W1 (HL.out.below hb1) HZ.out HRS.out)
      have HX := lid (appE_cases out (t, a, b, d))
      have HST := lid (show buildL l = buildG (stepL out (t, a, b, d)) (l.drop (k + 1)) by rw [HG.out, HD.out]; rfl)
      generalize hXE : appE out (t, a, b, d) = X at *
      (with_reducible refine (CA.out).mono ?_); rintro e w3 ⟨a3, n3, c3, rfl, hc3, hA3, hb3, ho3⟩
      have hb13 : Below wr.heap.size wr w3 := hb1.trans (hb3.mono hb1.size)
      obtain ⟨W3, hW3⟩ : ∃ W3, w3.alloc (Obj.cells #[.slice a3 n3 c3] 26) = W3 := ⟨_, rfl⟩
      have hb4 : Below wr.heap.size wr W3 := by rw [← hW3]; exact hb13.trans ((ba _ _).mono hb13.size)
      have HB0' := lid (Boxed.below HB0.out hb4 l0)
      have HB1' := lid (Boxed.below HB1.out hb4 l1)
      have hw3 := hb.trans (hb4.mono hb.size)
      have HA3 := lid (show LedA W3 a3 n3 c3 X.1 by rw [← hW3]; exact hA3.below (ba _ _))
      have HO3 := lid ho3
      have hsz : W1.heap.size ≤ w3.heap.size := hb3.size
      have hsz1 : wr.heap.size ≤ W1.heap.size := hb1.size
      have HW3 := lid hW3
      clear hW3 hA3 ho3 hb3
      rcases HX.out with ⟨c, hc, rfl⟩ | ⟨hc0, rfl, hck⟩
      · have hc' : (c == 0) = false := by simpa using hc
        have HS := lid (stepL_bad hc hXE)
        clear hc hXE
        go_wp2_with fail
        rw [HW3.out]
        go_roundw
        case rel => exact ⟨k + 1, ao2, n2, cap2, out, by omega, by go_num, hnc, lid (by rw [HST.out, HS.out]), HC, HB0', HB1', lid (HL.out.below hb4), HZ, HO, hw3⟩
        case measure => simp [intOf]; omega
      · have HS := lid (stepL_good hXE)
        have HCK := lid hck
        clear hXE hc0 hck
        have y1 := HB1'.out.cell
        have f1 := HB1'.out.frozen
        rw [← HW3.out] at y1 f1
        go_wp2_with fail
        rw [HW3.out]
        go_roundw
        case rel =>
          have hne : ∀ q, a3 = some q → w.heap.size + 2 ≤ q.block := fun q e => by have := HO3.out q e; omega
          refine ⟨k + 1, a3, n3, c3, out ++ [(t, a, b, d)], by omega, by go_num, hc3, lid (by rw [HST.out, HS.out]), HCK, lid ?_, lid (HB1'.out.set _), lid (led_other HA3.out (fun q e => by have := hne q e; omega)), lid (HA3.out.pos (by have := HA3.out.len; simp at this; omega)), lid hne, hw3.setCell (p := ⟨w.heap.size + 1, 0, none⟩) (by show w.heap.size ≤ w.heap.size + 1; omega) _⟩
          exact (Below.heap_setCell _ _ _ _ (by show w.heap.size ≠ w.heap.size + 1; omega)).trans HB0'.out
        case measure => simp [intOf]; omega
    · obtain rfl : k = n := by omega
      have b0 := HB0.out.cell
      have f0 := HB0.out.frozen
      have HV : Hid (buildL l = out) := lid (by rw [HG.out, List.drop_eq_nil_of_le (by rw [HN.out]; exact Nat.le_refl _)]; rfl)
      go_wp2_with fail
      refine bodyPost_ret (v := .agg #[.slice ao2 n2 cap2]) (res_led1 Try.results7 _ _ w.heap.size _ _ _ rfl ((HB0.out.set _).cell)) rfl ⟨ao2, n2, cap2, rfl, hnc, ?_, ?_⟩
      · rw [HV.out]
        exact led_other HL.out (fun q e => by have := HO.out q e; omega)
      · exact hb.setCell (p := ⟨w.heap.size, 0, none⟩) (Nat.le_refl _) _
end Go.Proofs.Ytbghpjedldhnhaa

namespace Go.Proofs.Ytbghpjedldhnhaa
open Go.RowKit

set_option maxRecDepth 100000 in
set_option maxHeartbeats 8000000 in
theorem topAwake_any (w : World) : Calls Try.prog 6 #[] w fun e w' => e = .returned (.bool true) ∧ Below w.heap.size w w' := by
  have CA := lid (fun (w : World) => Append_own [] exT 0 0 none w ⟨rfl, Sl.nil, (fun r hr => by cases hr), by simp [maxLen]⟩ (fun _ => rfl) ext_s)
  rw [ext_app1] at CA
  have hb0 := ba w (Obj.cells #[.int .i64 1, .string ⟨#[97, 110, 110]⟩, .string ⟨#[108, 97, 110, 100]⟩, .string ⟨#[49]⟩] 36)
  go_enter Try.func6, Try.ntmps6
  go_wp2_with fail
  obtain ⟨W0, hW0⟩ : ∃ W0, w.alloc (Obj.cells #[.int .i64 1, .string ⟨#[97, 110, 110]⟩, .string ⟨#[108, 97, 110, 100]⟩, .string ⟨#[49]⟩] 36) = W0 := ⟨_, rfl⟩
  have r0 : W0.cell? ⟨w.heap.size, 0, none⟩ = some (.int .i64 1) := by rw [← hW0]; simp
  have r1 : W0.cell? ⟨w.heap.size, 1, none⟩ = some (.string ⟨#[97, 110, 110]⟩) := by rw [← hW0]; simp
  have r2 : W0.cell? ⟨w.heap.size, 2, none⟩ = some (.string ⟨#[108, 97, 110, 100]⟩) := by rw [← hW0]; simp
  have r3 : W0.cell? ⟨w.heap.size, 3, none⟩ = some (.string ⟨#[49]⟩) := by rw [← hW0]; simp
  have l0 : w.heap.size < W0.heap.size := by rw [← hW0]; simp
  rw [hW0] at hb0 ⊢
  clear hW0
  (with_reducible refine (CA.out W0).mono ?_); rintro e w1 ⟨a1, n1, c1, rfl, hc1, hA1, hb1, -⟩
  obtain rfl : 1 = n1 := hA1.len
  have k0 : w.heap.size < w1.heap.size := by have := hb1.size; omega
  have s0 := (cell_old_at k0 (Obj.cells #[.slice a1 1 c1] 26) 0).trans ((bc hb1 l0 0).trans r0)
  have s1 := (cell_old_at k0 (Obj.cells #[.slice a1 1 c1] 26) 1).trans ((bc hb1 l0 1).trans r1)
  have s2 := (cell_old_at k0 (Obj.cells #[.slice a1 1 c1] 26) 2).trans ((bc hb1 l0 2).trans r2)
  have s3 := (cell_old_at k0 (Obj.cells #[.slice a1 1 c1] 26) 3).trans ((bc hb1 l0 3).trans r3)
  clear r0 r1 r2 r3
  go_wp2_with fail
  obtain ⟨W1, hW1⟩ : ∃ W1, w1.alloc (Obj.cells #[.slice a1 1 c1] 26) = W1 := ⟨_, rfl⟩
  have b1 : W1.cell? ⟨w1.heap.size, 0, none⟩ = some (.slice a1 1 c1) := by rw [← hW1]; exact cell_new_at rfl _ _ _
  have k1 : w1.heap.size < W1.heap.size := by rw [← hW1]; simp
  have hA1' := lid (show LedA W1 a1 1 c1 [exT] by rw [← hW1]; exact hA1.below (ba _ _))
  have hw1 : Below w.heap.size w W1 := by rw [← hW1]; exact hb0.trans ((hb1.trans ((ba _ _).mono hb1.size)).mono hb0.size)
  rw [hW1] at s0 s1 s2 s3 ⊢
  clear hW1 hA1 hb1
  have CB := lid (Append_own [exT] exT 1 c1 a1 W1 hA1'.out (hA1'.out.pos (by omega)) ext_s)
  rw [ext_app2] at CB
  (with_reducible refine (CB.out).mono ?_); rintro e w2 ⟨a2, n2, c2, rfl, hc2, hA2, hb2, -⟩
  obtain rfl : 2 = n2 := hA2.len
  have k2 : w1.heap.size < w2.heap.size := by have := hb2.size; omega
  have b2 := (cell_old_at k2 (Obj.cells #[.slice a2 2 c2] 26) 0).trans ((bc hb2 k1 0).trans b1)
  clear s0 s1 s2 s3 b1
  go_wp2_with fail
  obtain ⟨W2, hW2⟩ : ∃ W2, w2.alloc (Obj.cells #[.slice a2 2 c2] 26) = W2 := ⟨_, rfl⟩
  have d2 : W2.cell? ⟨w2.heap.size, 0, none⟩ = some (.slice a2 2 c2) := by rw [← hW2]; exact cell_new_at rfl _ _ _
  have m2 : w2.heap.size < W2.heap.size := by rw [← hW2]; simp
  have HL1 := lid (show LedA W2 a1 1 c1 [exT] by rw [← hW2]; exact (hA1'.out.below hb2).below (ba _ _))
  have HL2 := lid (show LedA W2 a2 2 c2 [exT, exT] by rw [← hW2]; exact hA2.below (ba _ _))
  have hw2 : Below w.heap.size w W2 := by rw [← hW2]; exact hw1.trans ((hb2.trans ((ba _ _).mono hb2.size)).mono hw1.size)
  rw [hW2] at b2 ⊢
  clear hW2 hA2 hb2 hA1'
  have CX := lid (Extend_any [exT, exT] 1 2 c2 a2 W2 HL2.out)
  rw [ext_ext] at CX
  (with_reducible refine (CX.out).mono ?_); rintro e w3 ⟨a3, n3, c3, rfl, g1, g2, g3, hb3⟩
  obtain rfl : 1 = n3 := g1
  have q2 := (bc hb3 (by omega) 0).trans b2
  have q3 := (bc hb3 m2 0).trans d2
  have m1 : w1.heap.size < w3.heap.size := by have := hb3.size; omega
  have m3 : w2.heap.size < w3.heap.size := by have := hb3.size; omega
  have hw3 := hw2.trans (hb3.mono hw2.size)
  have CH := lid (fun w' (h : Below w3.heap.size w3 w') => Head_any [exT] 1 c1 a1 w' ((HL1.out.below hb3).below h))
  have CI := lid (fun w' (h : Below w3.heap.size w3 w') => Head_any [exT, exT] 2 c2 a2 w' ((HL2.out.below hb3).below h))
  have CE := fun w' (h : Below w3.heap.size w3 w') => Extends_any (headD [exT]) (headD [exT, exT]) 1 2 [rootD [recD exT]] a3 1 c3 w' rfl g2 (by omega) (g3.below h)
  rw [ext_grown] at CE
  have CE' := lid CE
  clear CE b2 d2 g3
  generalize headD [exT] = D1 at *
  generalize headD [exT, exT] = D2 at *
  go_wp2_with fail
  refine wp_region_seq (fun w' => ∃ s : Since w3.heap.size w3, w' = s.world) [(0, true), (1, true), (2, true), (3, true), (4, true), (5, true), (6, true), (7, true), (8, true), (9, true), (10, true), (11, true), (12, true), (13, true), (14, true), (15, true), (16, true), (17, true), (18, true), (19, true), (20, true), (21, true), (22, true), (24, true), (26, true), (23, false), (25, false), (27, false), (28, true), (29, false)] (by kernel_rfl) (by kernel_rfl) (by intro c d v a w h; cases d <;> exact h) (since (Below.refl _ _).drew) ?_
  repeat (first | (refine seq_skip (by rfl) (by rfl) ?_; simp only [Act.put, List.setIfInBounds_toArray, List.set_cons_succ, List.set_cons_zero]) | (refine seq_float (by rfl) (by rfl) (by rfl) ?_; intro K hK; go_big_quiet_op; go_big_quiet_on))
  refine seq_chain (by rfl) ?_
  intro K hK
  go_wp2_with fail
  (with_reducible refine (CH.out _ (Below.refl _ _).drew).mono ?_); rintro e w7 ⟨rfl, hb7⟩
  have h7 : Below w3.heap.size w3 w7 := (Below.refl _ _).drew.trans hb7
  go_wp2_with fail
  refine hK.out _ _ (since h7) ?_
  clear hK K
  repeat (first | (refine seq_skip (by rfl) (by rfl) ?_; simp only [Act.put, List.setIfInBounds_toArray, List.set_cons_succ, List.set_cons_zero]) | (refine seq_float (by rfl) (by rfl) (by rfl) ?_; intro K hK; go_big_quiet_op; go_big_quiet_on))
  refine seq_chain (by rfl) ?_
  intro K hK
  go_wp2_with fail
  (with_reducible refine (CI.out _ h7).mono ?_); rintro e w8 ⟨rfl, hb8⟩
  have h8 := h7.trans (hb8.mono h7.size)
  go_wp2_with fail
  refine hK.out _ _ (since h8) ?_
  clear hK K
  repeat (first | (refine seq_skip (by rfl) (by rfl) ?_; simp only [Act.put, List.setIfInBounds_toArray, List.set_cons_succ, List.set_cons_zero]) | (refine seq_float (by rfl) (by rfl) (by rfl) ?_; intro K hK; go_big_quiet_op; go_big_quiet_on))
  refine seq_chain (by rfl) ?_
  intro K hK
  go_wp2_with fail
  (with_reducible refine (CE'.out _ h8).mono ?_); rintro e w9 ⟨rfl, hb9⟩
  have h9 := h8.trans (hb9.mono h8.size)
  go_wp2_with fail
  refine hK.out _ _ (since h9) ?_
  clear hK K
  repeat (first | (refine seq_skip (by rfl) (by rfl) ?_; simp only [Act.put, List.setIfInBounds_toArray, List.set_cons_succ, List.set_cons_zero]) | (refine seq_float (by rfl) (by rfl) (by rfl) ?_; intro K hK; go_big_quiet_op; go_big_quiet_on))
  refine seq_chain (by rfl) ?_
  intro K hK
  go_wp2_with fail
  refine hK.out _ _ (since h9) ?_
  clear hK K
  repeat (first | (refine seq_skip (by rfl) (by rfl) ?_; simp only [Act.put, List.setIfInBounds_toArray, List.set_cons_succ, List.set_cons_zero]) | (refine seq_float (by rfl) (by rfl) (by rfl) ?_; intro K hK; go_big_quiet_op; go_big_quiet_on))
  refine seq_nil ?_
  go_wp2_with fail
  go_ret
  exact ⟨rfl, hw3.trans (h9.mono hw3.size)⟩
end Go.Proofs.Ytbghpjedldhnhaa

namespace Go.Proofs.Ytbghpjedldhnhaa
open Go.RowKit

set_option maxRecDepth 100000 in
set_option maxHeartbeats 16000000 in
theorem TopOnly_any (l : List Rec) (n cap : Nat) (ao : Option Addr) (w : World) (h : LedA w ao n cap l) :
    Calls Try.prog 4 #[.slice ao n cap] w fun e w' => e = .returned (.bool true) ∧ Below w.heap.size w w' := by
  have HA := lid h
  have HN := lid h.len
  have hnm : n ≤ 9223372036854775807 := h.max
  clear h
  by_cases h10 : 10 < n
  · have d1 : decide ((10 : Int) < (n : Int)) = true := by simp; omega
    have d2 : decide (10 < n) = true := by simpa using h10
    go_enter Try.func4, Try.ntmps4
    go_wp2_with fail
    (with_reducible refine (topAwake_any _).mono ?_); rintro e w1 ⟨rfl, hb1⟩
    go_wp2_with fail
    go_ret
    exact ⟨rfl, hb1⟩
  have d1 : decide ((10 : Int) < (n : Int)) = false := by simp; omega
  have d2 : decide (10 < n) = false := by simpa using h10
  have CG := lid (Great_any l n cap ao w HA.out.len HA.out.sl HA.out.max HA.out.sizes)
  go_enter Try.func4, Try.ntmps4
  go_wp2_with fail
  (with_reducible refine (CG.out).mono ?_); rintro e w1 ⟨rfl, hb1⟩
  cases hG : greatB l with
  | true =>
    clear hG
    go_wp2_with fail
    (with_reducible refine (topAwake_any _).mono ?_); rintro e w2 ⟨rfl, hb2⟩
    go_wp2_with fail
    go_ret
    exact ⟨rfl, hb1.trans (hb2.mono hb1.size)⟩
  | false =>
  clear hG CG
  have CB := lid (Build_any l n cap ao w1 (HA.out.below hb1) (by omega))
  have HK := lid (buildL_ok l)
  generalize buildL l = L at *
  go_wp2_with fail
  (with_reducible refine (CB.out).mono ?_); rintro e w2 ⟨a2, n2, c2, rfl, hnc, hL, hb2⟩
  have hn2 : n2 ≤ 10 := by have h1 := HK.out.2; rw [hL.len, HN.out] at h1; omega
  go_wp2_with fail
  obtain ⟨W, hW⟩ : ∃ W, w2.alloc (Obj.cells #[.slice a2 n2 c2] 26) = W := ⟨_, rfl⟩
  have hw2 : Below w.heap.size w W := by rw [← hW]; exact hb1.trans ((hb2.trans ((ba _ _).mono hb2.size)).mono hb1.size)
  have q0 : W.cell? ⟨w2.heap.size, 0, none⟩ = some (.slice a2 n2 c2) := by rw [← hW]; exact cell_new_at rfl _ _ _
  have Q0 := lid q0
  have l2 : w2.heap.size < W.heap.size := by rw [← hW]; simp
  have HL := lid (show LedA W a2 n2 c2 L by rw [← hW]; exact hL.below (ba _ _))
  have HLn := lid hL.len
  have HC := lid HK.out.1
  rw [hW]
  clear hW hL hb1 hb2 CB HA HN HK q0 d1 d2 h10
  go_loopw [5, 6, 7, 8, 9, 10, 11, 28, 38] (fun _ _ _ _ _ _ _ i _ wr => ∃ (m : Nat), m ≤ n2 + 1 ∧ i = .int .i64 m ∧ Below W.heap.size W wr) (fun _ _ _ _ _ _ _ i _ _ => n2 + 1 - (intOf i).toNat)
  case atStart => exact ⟨0, Nat.zero_le _, rfl, Below.refl _ _⟩
  case round =>
    obtain ⟨m, hm, rfl, hb⟩ := hrel
    obtain ⟨wo, rfl⟩ : ∃ wo, wo = wr := ⟨_, rfl⟩
    have q := (bc hb l2 0).trans Q0.out
    by_cases hlt : m < n2 + 1
    · have hmn : m ≤ n2 := by omega
      have dm : decide ((m : Int) < (n2 : Int) + 1) = true := by simp; omega
      have dm' : decide (m < n2 + 1) = true := by simpa using hlt
      go_wp2_with fail
      obtain ⟨W2, hW2⟩ : ∃ W2, wo.alloc (Obj.cells #[.slice a2 m c2] 26) = W2 := ⟨_, rfl⟩
      have hb2 : Below W.heap.size W W2 := by rw [← hW2]; exact hb.trans ((ba _ _).mono hb.size)
      have p0 : W2.cell? ⟨wo.heap.size, 0, none⟩ = some (.slice a2 m c2) := by rw [← hW2]; exact cell_new_at rfl _ _ _
      have P0 := lid p0
      have lr : wo.heap.size < W2.heap.size := by rw [← hW2]; simp
      have HM := lid (show LedA W2 a2 m c2 (L.take m) by rw [← hW2]; exact ((HL.out.below hb).take hmn).below (ba _ _))
      have HCM := lid (check_take HC.out m)
      have HLM : Hid ((L.take m).length = m) := lid HM.out.len
      have l22 : w2.heap.size < W2.heap.size := by have := hb2.size; omega
      have HLW := lid (HL.out.below hb2)
      have Q2 := lid ((bc hb2 l2 0).trans Q0.out)
      rw [hW2]
      clear hW2 p0 q
      go_loopw [7, 8, 9, 10, 11, 38] (fun _ _ _ _ _ i w3 => ∃ (k : Nat), k ≤ m ∧ i = .int .i64 k ∧ Below W2.heap.size W2 w3) (fun _ _ _ _ _ i _ => m + 1 - (intOf i).toNat)
      case atStart => exact ⟨0, Nat.zero_le _, rfl, Below.refl _ _⟩
      case round =>
        obtain ⟨k, hk, rfl, hb3⟩ := hrel
        have z0 := (bc hb3 lr 0).trans P0.out
        have z1 := (bc hb3 l22 0).trans Q2.out
        have j0 : wo.heap.size < wr.heap.size := by have := hb3.size; omega
        have j1 : w2.heap.size < wr.heap.size := by have := hb3.size; omega
        have dk : decide ((k : Int) < (m : Int) + 1) = true := by simp; omega
        have CX := lid (Extend_any (L.take m) k m c2 a2 wr (HM.out.below hb3))
        have HOwn := own_extends HCM.out k (by rw [HLM.out]; exact hk)
        have HEL := lid (extend_len HCM.out k)
        rw [HLM.out, List.take_take, Nat.min_eq_left hk] at HOwn
        have HO1 := lid HOwn.1
        have HO2 := lid HOwn.2
        clear HOwn
        generalize extE (L.take m) k = E at *
        go_wp2_with fail
        (with_reducible refine (CX.out).mono ?_); rintro e w4 ⟨a4, n4, c4, rfl, g1, g2, g3, hb4⟩
        have hE2 : E.2 = 0 := HO1.out
        rw [hE2]
        have z0' := (bc hb4 j0 0).trans z0
        have z1' := (bc hb4 j1 0).trans z1
        have j0' : wo.heap.size < w4.heap.size := by have := hb4.size; omega
        have j1' : w2.heap.size < w4.heap.size := by have := hb4.size; omega
        have h24 := hb3.trans (hb4.mono hb3.size)
        have g10 : n4 ≤ 1000000 := by have := HEL.out; omega
        have HM4 := lid (HM.out.below h24)
        have HL4 := lid (HLW.out.below h24)
        have CH := lid (fun w' (h : Below w4.heap.size w4 w') => Head_any (L.take k) k c2 a2 w' ((HL4.out.below h).take (by omega)))
        have CI := lid (fun w' (h : Below w4.heap.size w4 w') => Head_any (L.take m) m c2 a2 w' (HM4.out.below h))
        have CE := fun w' (h : Below w4.heap.size w4 w') => Extends_any (headD (L.take k)) (headD (L.take m)) k m E.1 a4 n4 c4 w' g1 g2 g10 (g3.below h)
        rw [HO2.out] at CE
        have CE' := lid CE
        have hkc : k ≤ c2 := by omega
        clear CE hE2 g1 g3 z0 z1 j0 j1
        go_wp2_with fail
        refine wp_region_seq (fun w' => ∃ s : Since w4.heap.size w4, w' = s.world) [(0, true), (1, true), (2, true), (3, true), (4, true), (5, true), (6, true), (7, true), (9, true), (10, true), (12, true), (13, true), (8, false), (11, false), (14, false), (15, true), (16, true)] (by kernel_rfl) (by kernel_rfl) (by intro c d v a w h; cases d <;> exact h) (since (Below.refl _ _).drew) ?_
        repeat (first | (refine seq_skip (by rfl) (by rfl) ?_; simp only [Act.put, List.setIfInBounds_toArray, List.set_cons_succ, List.set_cons_zero]) | (refine seq_float (by rfl) (by rfl) (by rfl) ?_; intro K hK; go_big_quiet_op; go_big_quiet_on))
        refine seq_chain (by rfl) ?_
        intro K hK
        go_wp2_with fail
        (with_reducible refine (CH.out _ (Below.refl _ _).drew).mono ?_); rintro e w5 ⟨rfl, hb5⟩
        have h5 : Below w4.heap.size w4 w5 := (Below.refl _ _).drew.trans hb5
        go_wp2_with fail
        refine hK.out _ _ (since h5) ?_
        clear hK K
        repeat (first | (refine seq_skip (by rfl) (by rfl) ?_; simp only [Act.put, List.setIfInBounds_toArray, List.set_cons_succ, List.set_cons_zero]) | (refine seq_float (by rfl) (by rfl) (by rfl) ?_; intro K hK; go_big_quiet_op; go_big_quiet_on))
        refine seq_chain (by rfl) ?_
        intro K hK
        go_wp2_with fail
        (with_reducible refine (CI.out _ h5).mono ?_); rintro e w6 ⟨rfl, hb6⟩
        have h6 := h5.trans (hb6.mono h5.size)
        go_wp2_with fail
        refine hK.out _ _ (since h6) ?_
        clear hK K
        repeat (first | (refine seq_skip (by rfl) (by rfl) ?_; simp only [Act.put, List.setIfInBounds_toArray, List.set_cons_succ, List.set_cons_zero]) | (refine seq_float (by rfl) (by rfl) (by rfl) ?_; intro K hK; go_big_quiet_op; go_big_quiet_on))
        refine seq_chain (by rfl) ?_
        intro K hK
        go_wp2_with fail
        (with_reducible refine (CE'.out _ h6).mono ?_); rintro e w7 ⟨rfl, hb7⟩
        have h7 := h6.trans (hb7.mono h6.size)
        go_wp2_with fail
        refine hK.out _ _ (since h7) ?_
        clear hK K
        repeat (first | (refine seq_skip (by rfl) (by rfl) ?_; simp only [Act.put, List.setIfInBounds_toArray, List.set_cons_succ, List.set_cons_zero]) | (refine seq_float (by rfl) (by rfl) (by rfl) ?_; intro K hK; go_big_quiet_op; go_big_quiet_on))
        refine seq_nil ?_
        have h27 := h24.trans (h7.mono h24.size)
        by_cases hkm : k = m
        · subst hkm
          go_wp2_with fail
          go_roundw
          case rel => exact ⟨k + 1, by omega, by go_num, hb2.trans (h27.mono hb2.size)⟩
          case measure => simp [intOf]; omega
        · have dkm : ((k : Int) == (m : Int)) = false := by simp; omega
          have dkm' : (k == m) = false := by simpa using hkm
          have hkm' : k < m := by omega
          have v0 := (bc h7 j0' 0).trans z0'
          have v1 := (bc h7 j1' 0).trans z1'
          have i0 : wo.heap.size < w7.heap.size := by have := h7.size; omega
          have i1 : w2.heap.size < w7.heap.size := by have := h7.size; omega
          have hkl : k < (L.take m).length := by rw [HLM.out]; exact hkm'
          have CP := lid (Prove_any (L.take m) k m c2 a2 w7 (HM4.out.below h7))
          have HOH := own_holds HCM.out k hkl
          have HPL := lid (prove_len HCM.out (k : Int))
          rw [HLM.out] at HOH
          have HR := lid (HM4.out.sizes _ (List.getElem_mem hkl))
          obtain ⟨bs, os, rfl, hlb, hcell⟩ := (HM4.out.below h7).sl.at_ hkm'
          have x0 := hcell (k * 4 + 0) _ (rcells_at hkl).1
          have x1 := hcell (k * 4 + 1) _ (rcells_at hkl).2.1
          have x2 := hcell (k * 4 + 2) _ (rcells_at hkl).2.2.1
          have x3 := hcell (k * 4 + 3) _ (rcells_at hkl).2.2.2
          rw [← Nat.add_assoc] at x1 x2 x3
          rw [Nat.add_zero] at x0
          obtain ⟨r, hrk⟩ : ∃ r, (L.take m)[k] = r := ⟨_, rfl⟩
          rw [hrk] at x0 x1 x2 x3 HR HOH
          obtain ⟨t, a, b, d⟩ := r
          simp only at x0 x1 x2 x3
          have H1 := lid HOH.1
          have H2 := lid HOH.2
          have hn2' : k < n2 := by omega
          clear hrk hcell HOH hkm CH CI CE' HO1 HO2 HEL hb5 hb6 hb7 h5 h6
          generalize proveE (L.take m) (k : Int) = P at *
          go_wp2_with fail
          (with_reducible refine (CP.out).mono ?_); rintro e w8 ⟨a8, n8, c8, rfl, g1, g2, g3, hb8⟩
          have hP2 : P.2 = 0 := by rw [H1.out]
          rw [hP2]
          replace v0 := (bc hb8 i0 0).trans v0
          replace v1 := (bc hb8 i1 0).trans v1
          replace x0 := (bc hb8 hlb _).trans x0
          replace x1 := (bc hb8 hlb _).trans x1
          replace x2 := (bc hb8 hlb _).trans x2
          replace x3 := (bc hb8 hlb _).trans x3
          replace i0 : wo.heap.size < w8.heap.size := by have := hb8.size; omega
          replace i1 : w2.heap.size < w8.heap.size := by have := hb8.size; omega
          replace hlb : bs < w8.heap.size := by have := hb8.size; omega
          have h78 := h7.trans (hb8.mono h7.size)
          have h28 := h24.trans (h78.mono h24.size)
          have g11 : n8 ≤ 1000000 := by have := HPL.out; omega
          have CI := lid (fun w' (h : Below w8.heap.size w8 w') => Head_any (L.take m) m c2 _ w' ((HM4.out.below h78).below h))
          have CV := fun w' (h : Below w8.heap.size w8 w') => Holds_any (headD (L.take m)) m k (t, a, b, d) P.1 a8 n8 c8 w' HR.out g1 g2 g11 (g3.below h)
          rw [H2.out] at CV
          have CV' := lid CV
          clear CV hP2 g1 g3 z0' z1'
          go_wp2_with fail
          refine wp_region_seq (fun w' => ∃ s : Since w8.heap.size w8, w' = s.world) [(0, true), (1, true), (2, true), (3, true), (5, true), (6, true), (7, true), (8, true), (9, true), (10, true), (11, true), (12, true), (4, false), (13, false), (14, true), (15, true)] (by kernel_rfl) (by kernel_rfl) (by intro c d v a w h; cases d <;> exact h) (since (Below.refl _ _).drew) ?_
          repeat (first | (refine seq_skip (by rfl) (by rfl) ?_; simp only [Act.put, List.setIfInBounds_toArray, List.set_cons_succ, List.set_cons_zero]) | (refine seq_float (by rfl) (by rfl) (by rfl) ?_; intro K hK; go_big_quiet_op; go_big_quiet_on))
          refine seq_chain (by rfl) ?_
          intro K hK
          go_wp2_with fail
          (with_reducible refine (CI.out _ (Below.refl _ _).drew).mono ?_); rintro e w9 ⟨rfl, hb9⟩
          have h9 : Below w8.heap.size w8 w9 := (Below.refl _ _).drew.trans hb9
          go_wp2_with fail
          refine hK.out _ _ (since h9) ?_
          clear hK K
          repeat (first | (refine seq_skip (by rfl) (by rfl) ?_; simp only [Act.put, List.setIfInBounds_toArray, List.set_cons_succ, List.set_cons_zero]) | (refine seq_float (by rfl) (by rfl) (by rfl) ?_; intro K hK; go_big_quiet_op; go_big_quiet_on))
          refine seq_chain (by rfl) ?_
          intro K hK
          go_wp2_with fail
          (with_reducible refine (CV'.out _ h9).mono ?_); rintro e w10 ⟨rfl, hb10⟩
          have h10 := h9.trans (hb10.mono h9.size)
          go_wp2_with fail
          refine hK.out _ _ (since h10) ?_
          clear hK K
          repeat (first | (refine seq_skip (by rfl) (by rfl) ?_; simp only [Act.put, List.setIfInBounds_toArray, List.set_cons_succ, List.set_cons_zero]) | (refine seq_float (by rfl) (by rfl) (by rfl) ?_; intro K hK; go_big_quiet_op; go_big_quiet_on))
          refine seq_nil ?_
          go_wp2_with fail
          go_roundw
          case rel => exact ⟨k + 1, by omega, by go_num, h28.trans (h10.mono h28.size)⟩
          case measure => simp [intOf]; omega
    · obtain rfl : m = n2 + 1 := by omega
      go_wp2_with fail
      (with_reducible refine (topAwake_any _).mono ?_); rintro e w5 ⟨rfl, hb5⟩
      have hwr := hw2.trans (hb.mono hw2.size)
      go_wp2_with fail
      go_ret
      exact ⟨rfl, hwr.trans (hb5.mono hwr.size)⟩
end Go.Proofs.Ytbghpjedldhnhaa

namespace Go.Proofs.Ytbghpjedldhnhaa
open Go.ChangeShapes Go.WideShapes Go.ChangeAt Go.RowKit Go.Deep

set_option maxRecDepth 100000 in
theorem Arg.recs {H : Type} {enc : TypeId × Value → H} {W : World} {v : Value} (h : Arg enc W 22 v) : ∃ (ao : Option Addr) (n cap : Nat) (l : List Rec), v = .slice ao n cap ∧ n ≤ cap ∧ cap ≤ maxLen ∧ LedA W ao n cap l := by
  obtain ⟨⟨base, hv⟩, d, p, ⟨fuel, hf⟩, hlt⟩ := h
  obtain ⟨a0, len, cap, rfl⟩ := okWide_slice Try.underlying22 hv
  obtain ⟨ao, n, cap', l, hcs, h1, h2, h3⟩ := recs_of_trod hf
  simp [Value.cells] at hcs
  obtain ⟨rfl, rfl, rfl⟩ := hcs
  exact ⟨_, _, _, l, rfl, h1, h2, h3⟩
end Go.Proofs.Ytbghpjedldhnhaa

namespace Go.Proofs.Ytbghpjedldhnhaa
open Go.ChangeShapes Go.WideShapes Go.ChangeAt Go.RowKit

set_option maxRecDepth 100000 in
theorem topAppendOnly_lifted (os : Os) (started : os.Started) (H : Type) (enc : TypeId × Value → H) :
    ReturnsInHanded {} Try.checked os 4 .any (Rows.topAppendOnlySpec.pre6 enc Try.prog Try.f4 Rows.topAppendOnlyRow.domain false) (Rows.topAppendOnlySpec.post enc Try.prog Try.f4 false true false false) := by
  refine law_lift started (by kernel_rfl) Try.func4 rfl rfl (by kernel_rfl) ?_ (ChangeSpec.witness6 (enc := enc) (C := Try.checked) false ⟨#[], #[.slice none 0 0], []⟩ 8 (by kernel_rfl) (by kernel_rfl) (by kernel_rfl) (by kernel_rfl)) ?_
  · intro ds h
    rw [Try.params4] at h
    match ds, h with
    | [_], _ => exact ⟨rfl, rfl, rfl⟩
  · intro W vs h
    rw [Try.params4] at h
    match vs, h with
    | [v0], ⟨h0, _⟩ =>
      obtain ⟨ao, n, cap, l, rfl, _, _, hs⟩ := h0.recs
      exact TopOnly_any l n cap ao W hs

theorem topAppendOnly_holds : Rows.TopAppendOnlySaid :=
  OpenClaim.holds_of_wide 4 Try.f4 rfl rfl rfl rfl rfl rfl rfl ⟨rfl, rfl, rfl, rfl, rfl⟩ rfl rfl rfl rfl rfl (by kernel_rfl) Try.func4 (by kernel_rfl)
    (of_decide_eq_true (by kernel_rfl)) (by unfold Func.isWrapper; first | (rw [if_pos (by decide +kernel)]; kernel_rfl) | (rw [if_neg (by decide +kernel)]; exact ⟨rfl, rfl⟩))
    (fun os started H enc _ => topAppendOnly_lifted os started H enc)
#print axioms topAppendOnly_holds
end Go.Proofs.Ytbghpjedldhnhaa
