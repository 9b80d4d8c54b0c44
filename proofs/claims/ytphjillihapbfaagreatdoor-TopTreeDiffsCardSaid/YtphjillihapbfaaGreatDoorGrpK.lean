/-
  OwnIsPath SSet.
-/
import Derived.Test.YtphjillihapbfaaGreatDoorGrpJ
import Derived.Test.YtphjillihapbfaaGreatDoorChecked
import Derived.Maps.OwnOps
import Derived.Maps.Views
import Derived.Test.YtphjillihapbfaaGreatDoorGrpA
import Derived.Test.YtphjillihapbfaaGreatDoorSl
import Derived.Test.YtphjillihapbfaaGreatDoorGrpB
namespace Go.Proofs.YtphjillihapbfaaGreatDoor
open Go.RowKit Go.Shelf
attribute [local go_sem] Oper.semAt_some
/-- Is it a path? -/
def pathB (s : ByteArray) : Bool := decide (s.size ≤ 100) && (splitL s.data.toList).all fun p => nameB (bstr p)
set_option maxRecDepth 100000 in
set_option maxHeartbeats 1000000 in
theorem splitSeq_fn (s p : ByteArray) (w : World) :
    Calls Tryz.prog 65 #[.string s, .string p, .int .i64 0] w fun e w' => e = .returned (.func (.func 92) #[] #[.pointer (some ⟨w.heap.size + 1, 0, none⟩), .pointer (some ⟨w.heap.size, 0, none⟩), .pointer (some ⟨w.heap.size + 1 + 1, 0, none⟩)]) ∧
      w' = ((w.alloc (.cells #[.string s] 9)).alloc (.cells #[.string p] 9)).alloc (.cells #[.int .i64 0] 3) := by
  go_enter Tryz.func65, Tryz.ntmps65
  go_wp2_with fail
  go_ret
  exact ⟨by simp, rfl⟩
set_option maxRecDepth 100000 in
set_option maxHeartbeats 1000000 in
theorem SplitSeq_fn (s p : ByteArray) (w : World) :
    Calls Tryz.prog 40 #[.string s, .string p] w fun e w' => e = .returned (.func (.func 92) #[] #[.pointer (some ⟨w.heap.size + 1, 0, none⟩), .pointer (some ⟨w.heap.size, 0, none⟩), .pointer (some ⟨w.heap.size + 1 + 1, 0, none⟩)]) ∧
      w' = ((w.alloc (.cells #[.string s] 9)).alloc (.cells #[.string p] 9)).alloc (.cells #[.int .i64 0] 3) := by
  go_enter Tryz.func40, Tryz.ntmps40
  go_wp2_with fail
  (with_reducible refine (splitSeq_fn s p w).mono ?_); rintro e w2 ⟨rfl, rfl⟩
  go_wp2_with fail
  go_ret
  exact ⟨rfl, rfl⟩
theorem res_bool2 {fn : Func} (hf : fn.results = #[.cell 2 4]) (t : Array Value) (w : World) (k : Nat) (b : Bool) (h : t.getD 2 undef = .pointer (some ⟨k, 0, none⟩)) (e : w.heap[k]? = some (.cells #[.bool b] 4 (0, 0))) : (results fn t).run Tryz.prog w = .ok (.bool b) w := by
  have e0 := row_cell e 0
  rw [Array.getD_eq_getD_getElem?] at h
  unfold results
  rw [hf]
  simp [go_sem, h, e0, asAddr]
theorem rf_keeps {W : World} {a : Addr} {v : Value} {k : Nat} {o : Obj} (h : W.heap[k]? = some o) (ho : o.isCells = false) : (W.setCell a v).heap[k]? = some o := (KeepsOthers.setCell W a v).same k o h ho
/-- What a round of isPath keeps. -/
def PI (w : World) (t : List UInt8) (s : List (List UInt8)) (W : World) : Prop :=
  Below w.heap.size w W ∧ W.heap[w.heap.size]? = some (.cells #[.bool false] 4 (0, 0)) ∧ ∃ p, splitL t = p ++ s ∧ p.all (fun x => nameB (bstr x)) = true
/-- Where it has stopped. -/
def PX (w : World) (t : List UInt8) (c : Code) (_ : List (List UInt8)) (x : List UInt8) (W : World) : Prop :=
  c = .ret ∧ Below w.heap.size w W ∧ W.heap[w.heap.size]? = some (.cells #[.bool false] 4 (0, 0)) ∧ nameB (bstr x) = false ∧ x ∈ splitL t
theorem PI.ab {w : World} {t : List UInt8} {s : List (List UInt8)} {B : Nat} (hB : w.heap.size < B) : Ab B (PI w t s) := fun W W' row hs hg hr =>
  ⟨Ab.belowW (B := B) (Nat.le_refl _) (by omega) W W' row hs.1 hg hr, Ab.blk (B := B) hB _ rfl W W' row hs.2.1 hg hr, hs.2.2⟩
theorem PX.ab {w : World} {t : List UInt8} {c : Code} {s : List (List UInt8)} {x : List UInt8} {B : Nat} (hB : w.heap.size < B) : Ab B (PX w t c s x) := fun W W' row hs hg hr =>
  ⟨hs.1, Ab.belowW (B := B) (Nat.le_refl _) (by omega) W W' row hs.2.1 hg hr, Ab.blk (B := B) hB _ rfl W W' row hs.2.2.1 hg hr, hs.2.2.2⟩
set_option maxRecDepth 100000 in
set_option maxHeartbeats 4000000 in
theorem isPath_any (s : ByteArray) (w : World) (hs : s.size ≤ maxLen) :
    Calls Tryz.prog 22 #[.string s] w fun e w' => e = .returned (.bool (pathB s)) ∧ Below w.heap.size w w' := by
  have hs63 : s.size ≤ 9223372036854775807 := hs
  by_cases h100 : 100 < s.size
  · have d : decide ((100 : Int) < (s.size : Int)) = true := by simp; omega
    have HV : Hid (pathB s = false) := lid (by unfold pathB; rw [decide_eq_false (by omega)]; rfl)
    clear h100
    refine (callsIn_wide (n := 3)).1 ?_
    refine callsIn_of_wp_marks Tryz.func22 rfl trivial ?_ rfl
    simp only [Tryz.ntmps22, List.size_toArray, List.length_cons, List.length_nil, Nat.reduceAdd, Nat.reduceSub, Array.replicate_succ, Array.replicate_zero, List.push_toArray, List.append_toArray, List.nil_append, List.cons_append]
    gi_wp2_with fail
    exact ⟨_, res_bool2 rfl _ _ w.heap.size false rfl (h_new rfl _), by rw [HV.out], ba _ _⟩
  have d : decide ((100 : Int) < (s.size : Int)) = false := by simp; omega
  have HV : Hid (pathB s = (splitL s.data.toList).all fun p => nameB (bstr p)) := lid (by unfold pathB; rw [decide_eq_true (by omega)]; simp)
  obtain ⟨t, ht⟩ : ∃ t, s.data.toList = t := ⟨_, rfl⟩
  have hst : s = bstr t := by rw [← ht]; rfl
  have hlen : t.length ≤ 1000000 := by rw [← ht]; show s.size ≤ 1000000; omega
  rw [ht] at HV
  subst hst
  have d2 : decide ((100 : Int) < (t.length : Int)) = false := by have : (bstr t).size = t.length := (by simp [bstr, ByteArray.size]); simp; omega
  clear ht h100 hs
  have FV := lid (fun (x : List UInt8) (hx : x ∈ splitL t) (w1 : World) => valid_any (bstr x) w1 (by have := splitL_len hx; show x.toArray.size ≤ maxLen; simp [maxLen]; omega))
  refine (callsIn_wide (n := 3)).1 ?_
  refine callsIn_of_wp_marks Tryz.func22 rfl trivial ?_ rfl
  simp only [Tryz.ntmps22, List.size_toArray, List.length_cons, List.length_nil, Nat.reduceAdd, Nat.reduceSub, Array.replicate_succ, Array.replicate_zero, List.push_toArray, List.append_toArray, List.nil_append, List.cons_append]
  gi_wp2_with fail
  refine ⟨trivial, (callsIn_wide.2 (SplitSeq_fn (bstr t) _ _)).mono ?_⟩
  rintro e w4 ⟨rfl, hw4⟩
  have hz : (w.alloc (.cells #[.bool false] 4)).heap.size = w.heap.size + 1 := by simp
  rw [hz]
  obtain ⟨W1, hW1⟩ : ∃ y, w.alloc (.cells #[.bool false] 4) = y := ⟨_, rfl⟩
  rw [hW1] at hz
  rw [hW1] at hw4
  have hb4 : Below w.heap.size w w4 := by rw [hw4, ← hW1]; exact (((ba _ _).alloc (by simp) _).alloc (by simp; omega) _).alloc (by simp; omega) _
  have hz4 : w4.heap.size = w.heap.size + 4 := by rw [hw4]; simp [hz]
  have r0 : w4.heap[w.heap.size]? = some (.cells #[.bool false] 4 (0, 0)) := by
    rw [hw4]
    exact (h_old (by simp [hz]; omega) _).trans ((h_old (by simp [hz]; omega) _).trans ((h_old (by omega) _).trans (by rw [← hW1]; exact h_new rfl _)))
  have HR1 : Hid (w4.heap[w.heap.size + 1]? = some (.cells #[.string (bstr t)] 9 (0, 0))) := lid (by
    rw [hw4]
    exact (h_old (by simp [hz]) _).trans ((h_old (by simp [hz]) _).trans (h_new hz _)))
  have HR2 : Hid (w4.heap[w.heap.size + 1 + 1]? = some (.cells #[.string ⟨#[47]⟩] 9 (0, 0))) := lid (by
    rw [hw4]
    exact (h_old (by simp [hz]) _).trans (h_new (by simp [hz]) _))
  have HR3 : Hid (w4.heap[w.heap.size + 1 + 1 + 1]? = some (.cells #[.int .i64 0] 3 (0, 0))) := lid (by
    rw [hw4]
    exact h_new (by simp [hz]) _)
  have HP0 : Hid (PI w t (splitL t) w4) := lid ⟨hb4, r0, [], rfl, rfl⟩
  have HZ4 := lid hz4
  clear hw4 hW1 hz hb4 r0 hz4
  gi_wp2_with fail
  refine wpIn_rf (pre := #[]) (lb := #[.pointer (some ⟨w.heap.size + 1 + 1, 0, none⟩), .pointer (some ⟨w.heap.size + 1, 0, none⟩), .pointer (some ⟨w.heap.size + 1 + 1 + 1, 0, none⟩)]) rfl (enters_of Tryz.func92 (by kernel_rfl) rfl) spv SpX SpT (PI w t) (PX w t) (fun s x => Ab.pure _) (fun s => PI.ab (by have := HZ4.out; omega)) (fun c s x => PX.ab (by have := HZ4.out; omega)) (splitL t) HP0.out 3 (fun s => s = []) (fun _ _ => True) (fun k => w.heap.size + 1 ≤ k) ?call ?assign ?body ?done ?stop
  case call =>
    intro l' m' rec W' hz' hbw hJ1 hJ2 hR hj
    have hz4 := HZ4.out
    have hblk : ∀ k, k < w4.heap.size → W'.heap[k]? = w4.heap[k]? := fun k hk => hbw.block k hk
    refine (splitSeq_any l' m' (fun k => w.heap.size + 1 ≤ k) W'.heap.size (w.heap.size + 1) (w.heap.size + 1 + 1) (w.heap.size + 1 + 1 + 1) t _ _ hJ1 (fun s W v h => ?_) hR W' ((hblk _ (by omega)).trans HR1.out) ((hblk _ (by omega)).trans HR2.out) ((hblk _ (by omega)).trans HR3.out) (by omega) (by omega) (by omega) (by omega) (by omega) hlen hj).mono ?_
    · exact ⟨⟨h.1.1.setCell (p := ⟨w.heap.size + 1, 0, none⟩) (by show w.heap.size ≤ w.heap.size + 1; omega) _, row_other h.1.2.1 (by omega), h.1.2.2⟩, rf_keeps h.2.1 rfl, rf_keeps h.2.2 rfl⟩
    · rintro e W3 ⟨rfl, h | ⟨s, x, h⟩⟩
      · exact ⟨rfl, .inl ⟨[], rfl, h⟩⟩
      · exact ⟨rfl, .inr ⟨s, x, trivial, h⟩⟩
  case assign =>
    intro l' m' x W' K hK
    gi_wp2_with fail
    exact hK
  case body =>
    rintro l' m' s x W' ⟨hb, hr, p, hp, hall⟩ ⟨tl, rfl⟩ hsz
    have hmem : x ∈ splitL t := by rw [hp]; simp
    have FX := lid (FV.out x hmem W')
    have HB := lid hb
    have HR := lid hr
    have HP := lid hp
    have HM := lid hmem
    have HA := lid hall
    have c0 := row_cell hr 0
    have z0 := row_fz hr 0
    have lr := row_lt hr
    clear hb hp hmem hall hr
    gi_wp2_with fail
    refine ⟨trivial, (fun h => by cases h), CallsIn.inRound l' ((callsIn_wide.2 FX.out).mono ?_)⟩
    rintro e w5 ⟨rfl, rfl⟩
    cases hn : nameB (bstr x) with
    | false =>
      have HN := lid hn
      clear hn
      gi_wp2_with fail
      exact ⟨KF.setCell _ _ _ (by show ¬ w.heap.size + 1 ≤ w.heap.size; omega), rfl, HB.out.setCell (p := ⟨w.heap.size, 0, none⟩) (Nat.le_refl _) _, by have := row_set HR.out 0 (.bool false); simpa using this, HN.out, HM.out⟩
    | true =>
      have HN := lid hn
      clear hn
      gi_wp2_with fail
      exact ⟨KF.refl _ _ _, tl, rfl, HB.out, HR.out, p ++ [x], by rw [HP.out]; simp, by rw [List.all_append, HA.out]; simp [HN.out]⟩
  case done =>
    rintro D s W' hD rfl ⟨hb, hr, p, hp, hall⟩ hdef
    have HB := lid hb
    have HR := lid hr
    have HDE := lid hdef
    have HVT : Hid (pathB (bstr t) = true) := lid (by rw [HV.out, hp, List.append_nil]; exact hall)
    have c0 := row_cell hr 0
    have z0 := row_fz hr 0
    have lr := row_lt hr
    have hDw : w.heap.size < D := by have := HZ4.out; omega
    clear hb hr hp hall hdef
    gi_wp2_with fail
    have HD2 : Hid ((W'.setCell ⟨w.heap.size, 0, none⟩ (.bool true)).heap[D]? = some (.deferred (some []))) := lid ((Below.heap_setCell _ _ _ D (by show D ≠ w.heap.size; omega)).trans HDE.out)
    have HR2 : Hid ((W'.setCell ⟨w.heap.size, 0, none⟩ (.bool true)).heap[w.heap.size]? = some (.cells #[.bool true] 4 (0, 0))) := lid (by have := row_set HR.out 0 (.bool true); simpa using this)
    have HB2 := lid (HB.out.setCell (p := ⟨w.heap.size, 0, none⟩) (Nat.le_refl _) (.bool true))
    refine ⟨by simp, .inl ⟨D, _, rfl, run_takeDeferred HD2.out, ?_⟩⟩
    refine ⟨_, res_bool2 rfl _ _ w.heap.size true rfl ((World.putObj_heap_other (by omega)).trans HR2.out), by rw [HVT.out], ?_⟩
    exact HB2.out.grown (grownBy_putObj' _ D _) HB2.out.size (fun j e => by cases e; omega)
  case stop =>
    rintro D c s x W' hD _ ⟨rfl, hb, hr, hx, hmem⟩ hdef
    have HB := lid hb
    have HR := lid hr
    have HDE := lid hdef
    have HVF : Hid (pathB (bstr t) = false) := lid (by
      rw [HV.out]
      exact List.all_eq_false.2 ⟨x, hmem, by simp [hx]⟩)
    have hDw : w.heap.size < D := by have := HZ4.out; omega
    clear hb hr hx hmem hdef
    gi_wp2_with fail
    refine ⟨by simp, .inl ⟨D, _, rfl, run_takeDeferred HDE.out, ?_⟩⟩
    refine ⟨_, res_bool2 rfl _ _ w.heap.size false rfl ((World.putObj_heap_other (by omega)).trans HR.out), by rw [HVF.out], ?_⟩
    exact HB.out.grown (grownBy_putObj' _ D _) HB.out.size (fun j e => by cases e; omega)
end Go.Proofs.YtphjillihapbfaaGreatDoor

namespace Go.Proofs.YtphjillihapbfaaGreatDoor
open Go.RowKit
def keyS (c : ByteArray) : Lit := .string c.data.toList
theorem keyS_key (s : ByteArray) : WideAt.IsKeyLit (keyS s) := by exact True.intro
theorem keyS_inj {a b : ByteArray} (h : keyS a = keyS b) : a = b := by
  have h1 : a.data.toList = b.data.toList := by simpa [keyS] using h
  exact ByteArray.ext (by rw [← Array.toList_inj, h1])
theorem kstr : Maps.Keyed Tryz.prog 9 := Maps.string_keyed Tryz.underlying9
theorem key_of {s : ByteArray} (h : s.size ≤ maxLen) : keyOf Tryz.prog 9 (.string s) = some (keyS s) := WideMaps.keyOf_string_mk Tryz.underlying9 h
def hasS (x : ByteArray) (S : List ByteArray) : Bool := S.any fun y => decide (y = x)
theorem hasS_snoc (x c : ByteArray) (S : List ByteArray) : hasS x (S ++ [c]) = (hasS x S || decide (c = x)) := by simp [hasS]
theorem hasS_no {x : ByteArray} {S : List ByteArray} (h : hasS x S = false) : ∀ y ∈ S, y ≠ x := fun y hy e => by
  unfold hasS at h
  rw [List.any_eq_false] at h
  exact h y hy (decide_eq_true e)
/-- The set as a datum. -/
def setD (S : List ByteArray) : DataW Unit := S.foldl (fun D c => D.put (keyS c) (.lit (.bool true))) (.map [])
theorem setD_snoc (S : List ByteArray) (c : ByteArray) : setD (S ++ [c]) = (setD S).put (keyS c) (.lit (.bool true)) := by simp [setD]
theorem setD_map (S : List ByteArray) : Maps.IsMap (setD S) := by
  unfold setD
  have : ∀ (l : List ByteArray) (D : DataW Unit), Maps.IsMap D → Maps.IsMap (l.foldl (fun D c => D.put (keyS c) (.lit (.bool true))) D) := by
    intro l
    induction l with
    | nil => intro D h; exact h
    | cons c l ih => intro D h; exact ih _ (h.put _ _)
  exact this S _ Maps.isMap_empty
theorem setD_at (S : List ByteArray) (x : ByteArray) : (setD S).atKey (keyS x) (.lit (.bool false)) = .lit (.bool (hasS x S)) := by
  suffices h : ∀ n (S : List ByteArray), S.length = n → (setD S).atKey (keyS x) (.lit (.bool false)) = .lit (.bool (hasS x S)) from h _ S rfl
  intro n
  induction n with
  | zero =>
    intro S h
    obtain rfl := List.eq_nil_of_length_eq_zero h
    rfl
  | succ n ih =>
    intro S h
    have hne : S ≠ [] := by rintro rfl; cases h
    rw [← List.dropLast_concat_getLast hne, setD_snoc, hasS_snoc]
    have hl : S.dropLast.length = n := by simp [h]
    by_cases e : S.getLast hne = x
    · rw [e, Maps.atKey_put_same (setD_map _) (keyS_key _)]
      simp
    · rw [Maps.atKey_put_other (fun h => e (keyS_inj h).symm), ih _ hl]
      simp [e]
/-- Block b is a set of at most n strings. -/
def OwnSet (w : World) (b n : Nat) (S : List ByteArray) : Prop := w.ownsMap Tryz.prog 9 (plainElem Tryz.prog 4) b n (setD S)
theorem plainElem_bool_inv {P : Program} {e : TypeId} (he : P.underlying e = some .bool) {v : Value} {z : DataW Unit × List MemPlace} (h : plainElem P e v = some z) : ∃ x, v = .bool x ∧ z = (.lit (.bool x), []) := by
  unfold plainElem at h
  rw [he] at h
  cases v <;> simp at h
  exact ⟨_, rfl, h.symm⟩
theorem zero_bool (w : World) : (zeroValue 4).run Tryz.prog w = .ok (.bool false) w := by kernel_rfl
theorem OwnSet.look {w : World} {b n : Nat} {S : List ByteArray} (h : OwnSet w b n S) (x : ByteArray) (hx : x.size ≤ maxLen) : (Instr.lookup 67 (.map (some b)) (.string x) false).run Tryz.prog w = .ok (.bool (hasS x S)) w := by
  obtain ⟨v, ps, hrun, hv⟩ := World.ownsMap.lookup h (Maps.string_keyed Tryz.underlying9) Tryz.underlying67 (zero_bool w) (plainElem_bool Tryz.underlying4 false) (WideMaps.keyOf_string_mk Tryz.underlying9 hx)
  obtain ⟨y, rfl, hy⟩ := plainElem_bool_inv Tryz.underlying4 hv
  have := setD_at S x
  rw [keyS] at this
  rw [this] at hy
  simp only [Prod.mk.injEq, DataW.lit.injEq, Lit.bool.injEq] at hy
  rw [hrun, hy.1]
theorem wpList_look {P : Program} (w : World) {ops : Array Oper} {rest : List Oper} {o : Oper} {a : Act} {Q : Exit → Act → World → Prop}
    (hg : o.guard = none) (m x : Operand) (t : TypeId) (hop : o.op = Op.lookup t m x false) (v : Value) (mv xv : Value) (hm : a.eval m = mv) (hx : a.eval x = xv)
    (hrun : (Instr.lookup t mv xv false).run P w = .ok v w) (hK : ∀ c : Value, c = v → wpList P ops Q rest (a.put o.dst c) w) : wpList P ops Q (o :: rest) a w := by
  refine wpList_plain hg fun K' hK' => ?_
  unfold Oper.wp
  simp [execOp, hop, hm, hx, hrun, Result.andThen]
  exact hK' _ _ (hK _ rfl)
end Go.Proofs.YtphjillihapbfaaGreatDoor
