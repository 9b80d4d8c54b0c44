/-
  Slices of ints: Equal, SameSet, Clone, IndexFunc, DeleteFunc, Whole, whole, Without, has.
-/
import Derived.WalkKit
import Derived.ChangeKeysEq
import Derived.Test.YtnjcoejnknpfoaaRows
import Derived.Test.YtnjcoejnknpfoaaInsK
import Derived.Test.YtnjcoejnknpfoaaAppSl
import Derived.Test.YtnjcoejnknpfoaaKeptY
namespace Go.Proofs.Ytnjcoejnknpfoaa
open Go.RowKit
theorem own_slice {w : World} {base : Nat} {e : TypeId} {size : Nat} {v : Value} {n : Nat} {xs : List Value} (h : w.ownsRow base e size v n xs) : ∃ ao cap, v = .slice ao n cap := by
  obtain ⟨ao, cap, e, _⟩ := Sl.of_own h
  exact ⟨ao, cap, e⟩
theorem own_sl {w : World} {base : Nat} {e : TypeId} {size : Nat} {n n' cap : Nat} {ao : Option Addr} {xs : List Value} (h : w.ownsRow base e size (.slice ao n' cap) n xs) : Sl w size ao n xs := by
  obtain ⟨ao', cap', e, _, _, h1⟩ := Sl.of_own h
  cases e
  exact h1
theorem run_eql_slice_nil' {P : Program} (w : World) (t e : TypeId) (a : Option Addr) (n c n' c' : Nat) (h : P.underlying t = some (.slice e)) :
    (binOp .eql t (.slice a n c) (.slice none n' c')).run P w = .ok (.bool a.isNone) w := by
  simp only [binOp]
  simp [Op.equal, Op.maxDepth, Lib.run_equalIn_slice_nil w 9999 t e a n c n' c' h]
theorem any_take_succ {α : Type} {P : α → Bool} {l : List α} {k : Nat} (hk : k < l.length) (hn : (l.take k).any P = false) (hp : P l[k] = false) : (l.take (k + 1)).any P = false := by
  rw [List.take_succ_eq_append_getElem hk, List.any_append, hn]
  simp [hp]
theorem take_eq_succ {α : Type} {a b : List α} {k : Nat} (ha : k < a.length) (hb : k < b.length) (h : a.take k = b.take k) (e : a[k] = b[k]) : a.take (k + 1) = b.take (k + 1) := by
  rw [List.take_succ_eq_append_getElem ha, List.take_succ_eq_append_getElem hb, h, e]
theorem ne_at {α : Type} {a b : List α} {k : Nat} (ha : k < a.length) (hb : k < b.length) (e : ¬ a[k] = b[k]) : ¬ a = b := by
  intro h
  subst h
  exact e rfl
theorem info_int : (Try.prog.info? 3).map (fun i => (i.zero, i.size, i.bytes)) = some (some (.int .i64 0), 1, 8) := by kernel_rfl
theorem zero_intg : ∀ w, (zeroValue 3).run Try.prog w = .ok (.int .i64 0) w := fun w => by kernel_rfl
/-- A slice value reads as ints. -/
structure IA (w : World) (ao : Option Addr) (n cap : Nat) (l : List Int) : Prop where
  len : l.length = n
  sl : Sl w 1 ao n (ivals l)
  le : n ≤ cap
  max : cap ≤ maxLen
  z : ao = none → cap = 0
theorem IA.below {w w' : World} {ao : Option Addr} {n cap : Nat} {l : List Int} (h : IA w ao n cap l) (hb : Below w.heap.size w w') : IA w' ao n cap l := ⟨h.len, h.sl.below hb, h.le, h.max, h.z⟩
theorem IA.of_own {w : World} {base : Nat} {e : TypeId} {v : Value} {n : Nat} {l : List Int} (h : w.ownsRow base e 1 v n (ivals l)) : ∃ ao cap, v = .slice ao n cap ∧ IA w ao n cap l := by
  have hl := h.1
  rw [ivals_length] at hl
  obtain ⟨ao, cap, rfl, h1, h2, h3⟩ := Sl.of_own h
  refine ⟨ao, cap, rfl, by omega, h3, h1, h2, fun e => ?_⟩
  subst e
  rcases h.2 with ⟨hv, _⟩ | ⟨g, cap', cur, hv, _⟩
  · cases hv; rfl
  · cases hv
abbrev ite1 (s : Int) : List Value := [.int .i64 s]
theorem ite1_length (s : Int) : (ite1 s).length = 1 := rfl
theorem ivals_flat (l : List Int) : l.flatMap ite1 = ivals l := by
  unfold ivals
  induction l with
  | nil => rfl
  | cons a l ih => rw [List.flatMap_cons, ih]; rfl
theorem ivals_one (l : List Int) : ∀ u ∈ ivals l, u.oneCell' = true := by
  intro u hu
  obtain ⟨s, _, rfl⟩ := List.mem_map.1 hu
  rfl
theorem int_eq {a b : Int} (h : a = b) : (a == b) = true := by simpa using h
theorem int_ne {a b : Int} (h : ¬ a = b) : (a == b) = false := by simpa using h

set_option maxRecDepth 100000 in
set_option maxHeartbeats 4000000 in
theorem Equal_any (S T : List Int) (n1 c1 n2 c2 : Nat) (a1 a2 : Option Addr) (w : World) (hm : n1 ≤ 1000000) (hm2 : n2 ≤ 1000000) (h1 : IA w a1 n1 c1 S) (h2 : IA w a2 n2 c2 T) :
    Calls Try.prog 34 #[.slice a1 n1 c1, .slice a2 n2 c2] w fun e w' => e = .returned (.bool (decide (S = T))) ∧ Below w.heap.size w w' := by
  by_cases hnn : n1 = n2
  case neg =>
    have HV : Hid (decide (S = T) = false) := lid (decide_eq_false (fun e => hnn (by rw [← h1.len, ← h2.len, e])))
    have d0 : ((n1 : Int) == (n2 : Int)) = false := by simp; omega
    have d1 : ((n1 : Int) != (n2 : Int)) = true := by simp; omega
    clear h1 h2 hnn
    go_enter Try.func34, Try.ntmps34
    go_wp2_with fail
    go_ret
    exact ⟨ret_bool HV.out.symm, Below.refl _ _⟩
  subst hnn
  have HN1 := lid h1.len
  have HN2 := lid h2.len
  have HS1 := lid h1.sl
  have HS2 := lid h2.sl
  clear h1 h2
  go_enter Try.func34, Try.ntmps34
  go_wp2_with fail
  go_loopw [5, 13] (fun _ i wr => ∃ k : Nat, k ≤ n1 ∧ i = .int .i64 k ∧ Hid (S.take k = T.take k) ∧ Below w.heap.size w wr) (fun _ i _ => n1 - (intOf i).toNat)
  case atStart => exact ⟨0, Nat.zero_le _, rfl, lid rfl, Below.refl _ _⟩
  case round =>
    obtain ⟨k, hk, rfl, HT, hb⟩ := hrel
    by_cases hlt : k < n1
    · have hk1 : k < S.length := by rw [HN1.out]; exact hlt
      have hk2 : k < T.length := by rw [HN2.out]; exact hlt
      obtain ⟨b1, o1, rfl, hlb1, hcell⟩ := (HS1.out.below hb).at_ hlt
      have x0 := hcell k _ (ivals_at hk1)
      obtain ⟨b2, o2, rfl, hlb2, hcell2⟩ := (HS2.out.below hb).at_ hlt
      have y0 := hcell2 k _ (ivals_at hk2)
      have HNE : Hid (¬ S[k] = T[k] → decide (S = T) = false) := lid (fun e => decide_eq_false (ne_at hk1 hk2 e))
      have HEQ : Hid (S[k] = T[k] → S.take (k + 1) = T.take (k + 1)) := lid (fun e => take_eq_succ hk1 hk2 HT.out e)
      obtain ⟨x, hx⟩ : ∃ x, S[k] = x := ⟨_, rfl⟩
      obtain ⟨y, hy⟩ : ∃ y, T[k] = y := ⟨_, rfl⟩
      rw [hx] at x0 HNE HEQ
      rw [hy] at y0 HNE HEQ
      have dk : decide ((k : Int) < (n1 : Int)) = true := by simp; omega
      clear hcell hcell2 hx hy
      by_cases he : x = y
      · have HV := lid (HEQ.out he)
        have d := int_eq he
        clear he HEQ HNE
        go_wp2_with fail
        refine wp_region_seq (fun w' => ∃ s : Since wr.heap.size wr, w' = s.world) [(0, true), (1, true), (2, true), (3, true), (4, true), (5, true), (6, true), (7, true), (8, true)] (by kernel_rfl) (by kernel_rfl) (by intro c d v a w h; first | (cases d <;> exact h) | cases h.1) (since (Below.refl _ _).drew) ?_
        repeat (first | (refine seq_skip (by rfl) (by rfl) ?_; simp only [Act.put, List.setIfInBounds_toArray, List.set_cons_succ, List.set_cons_zero]) | (refine seq_float (by rfl) (by rfl) (by rfl) ?_; intro K hK; go_big_quiet_op; go_big_quiet_on))
        refine seq_nil ?_
        go_wp2_with fail
        go_roundw
        case rel => exact ⟨k + 1, by omega, by go_num, HV, hb.drew⟩
        case measure => simp [intOf]; omega
      · have HV := lid (HNE.out he)
        have d := int_ne he
        clear he HEQ HNE
        go_wp2_with fail
        refine wp_region_seq (fun w' => ∃ s : Since wr.heap.size wr, w' = s.world) [(0, true), (1, true), (2, true), (3, true), (4, true), (5, true), (6, true), (7, true), (8, true)] (by kernel_rfl) (by kernel_rfl) (by intro c d v a w h; first | (cases d <;> exact h) | cases h.1) (since (Below.refl _ _).drew) ?_
        repeat (first | (refine seq_skip (by rfl) (by rfl) ?_; simp only [Act.put, List.setIfInBounds_toArray, List.set_cons_succ, List.set_cons_zero]) | (refine seq_float (by rfl) (by rfl) (by rfl) ?_; intro K hK; go_big_quiet_op; go_big_quiet_on))
        refine seq_nil ?_
        go_wp2_with fail
        go_ret
        exact ⟨ret_bool HV.out.symm, hb.drew⟩
    · obtain rfl : k = n1 := by omega
      have HV : Hid (decide (S = T) = true) := lid (decide_eq_true (by have := HT.out; rwa [List.take_of_length_le (Nat.le_of_eq HN1.out), List.take_of_length_le (Nat.le_of_eq HN2.out)] at this))
      have dk : decide ((k : Int) < (k : Int)) = false := by simp
      go_wp2_with fail
      go_ret
      exact ⟨ret_bool HV.out.symm, hb⟩

set_option maxRecDepth 100000 in
set_option maxHeartbeats 4000000 in
theorem SameSet_any (S T : List Int) (n1 c1 n2 c2 : Nat) (a1 a2 : Option Addr) (w : World) (hm : n1 ≤ 1000000) (hm2 : n2 ≤ 1000000) (h1 : IA w a1 n1 c1 S) (h2 : IA w a2 n2 c2 T) :
    Calls Try.prog 22 #[.slice a1 n1 c1, .slice a2 n2 c2] w fun e w' => e = .returned (.bool (decide (S = T))) ∧ Below w.heap.size w w' := by
  by_cases hnn : n1 = n2
  case neg =>
    have HV : Hid (decide (S = T) = false) := lid (decide_eq_false (fun e => hnn (by rw [← h1.len, ← h2.len, e])))
    have d0 : ((n1 : Int) == (n2 : Int)) = false := by simp; omega
    have d1 : ((n1 : Int) != (n2 : Int)) = true := by simp; omega
    clear h1 h2 hnn
    go_enter Try.func22, Try.ntmps22
    go_wp2_with fail
    go_ret
    exact ⟨ret_bool HV.out.symm, Below.refl _ _⟩
  subst hnn
  have HN1 := lid h1.len
  have HN2 := lid h2.len
  have HS1 := lid h1.sl
  have HS2 := lid h2.sl
  clear h1 h2
  go_enter Try.func22, Try.ntmps22
  go_wp2_with fail
  go_loopw [5] (fun i wr => ∃ k : Nat, k ≤ n1 ∧ i = .int .i64 k ∧ Hid (S.take k = T.take k) ∧ Below w.heap.size w wr) (fun i _ => n1 - (intOf i).toNat)
  case atStart => exact ⟨0, Nat.zero_le _, rfl, lid rfl, Below.refl _ _⟩
  case round =>
    obtain ⟨k, hk, rfl, HT, hb⟩ := hrel
    by_cases hlt : k < n1
    · have hk1 : k < S.length := by rw [HN1.out]; exact hlt
      have hk2 : k < T.length := by rw [HN2.out]; exact hlt
      obtain ⟨b1, o1, rfl, hlb1, hcell⟩ := (HS1.out.below hb).at_ hlt
      have x0 := hcell k _ (ivals_at hk1)
      obtain ⟨b2, o2, rfl, hlb2, hcell2⟩ := (HS2.out.below hb).at_ hlt
      have y0 := hcell2 k _ (ivals_at hk2)
      have HNE : Hid (¬ S[k] = T[k] → decide (S = T) = false) := lid (fun e => decide_eq_false (ne_at hk1 hk2 e))
      have HEQ : Hid (S[k] = T[k] → S.take (k + 1) = T.take (k + 1)) := lid (fun e => take_eq_succ hk1 hk2 HT.out e)
      obtain ⟨x, hx⟩ : ∃ x, S[k] = x := ⟨_, rfl⟩
      obtain ⟨y, hy⟩ : ∃ y, T[k] = y := ⟨_, rfl⟩
      rw [hx] at x0 HNE HEQ
      rw [hy] at y0 HNE HEQ
      have dk : decide ((k : Int) < (n1 : Int)) = true := by simp; omega
      clear hcell hcell2 hx hy
      by_cases he : x = y
      · have HV := lid (HEQ.out he)
        have d := int_eq he
        clear he HEQ HNE
        go_wp2_with fail
        refine wp_region_seq (fun w' => ∃ s : Since wr.heap.size wr, w' = s.world) [(0, true), (1, true), (2, true), (3, true), (4, true), (5, true), (6, true), (7, true), (8, true)] (by kernel_rfl) (by kernel_rfl) (by intro c d v a w h; first | (cases d <;> exact h) | cases h.1) (since (Below.refl _ _).drew) ?_
        repeat (first | (refine seq_skip (by rfl) (by rfl) ?_; simp only [Act.put, List.setIfInBounds_toArray, List.set_cons_succ, List.set_cons_zero]) | (refine seq_float (by rfl) (by rfl) (by rfl) ?_; intro K hK; go_big_quiet_op; go_big_quiet_on))
        refine seq_nil ?_
        go_wp2_with fail
        go_roundw
        case rel => exact ⟨k + 1, by omega, by go_num, HV, hb.drew⟩
        case measure => simp [intOf]; omega
      · have HV := lid (HNE.out he)
        have d := int_ne he
        clear he HEQ HNE
        go_wp2_with fail
        refine wp_region_seq (fun w' => ∃ s : Since wr.heap.size wr, w' = s.world) [(0, true), (1, true), (2, true), (3, true), (4, true), (5, true), (6, true), (7, true), (8, true)] (by kernel_rfl) (by kernel_rfl) (by intro c d v a w h; first | (cases d <;> exact h) | cases h.1) (since (Below.refl _ _).drew) ?_
        repeat (first | (refine seq_skip (by rfl) (by rfl) ?_; simp only [Act.put, List.setIfInBounds_toArray, List.set_cons_succ, List.set_cons_zero]) | (refine seq_float (by rfl) (by rfl) (by rfl) ?_; intro K hK; go_big_quiet_op; go_big_quiet_on))
        refine seq_nil ?_
        go_wp2_with fail
        go_ret
        exact ⟨ret_bool HV.out.symm, hb.drew⟩
    · obtain rfl : k = n1 := by omega
      have HV : Hid (decide (S = T) = true) := lid (decide_eq_true (by have := HT.out; rwa [List.take_of_length_le (Nat.le_of_eq HN1.out), List.take_of_length_le (Nat.le_of_eq HN2.out)] at this))
      have dk : decide ((k : Int) < (k : Int)) = false := by simp
      go_wp2_with fail
      go_ret
      exact ⟨ret_bool HV.out.symm, hb⟩

set_option maxRecDepth 100000 in
set_option maxHeartbeats 4000000 in
theorem Clone_int (l : List Int) (n cap : Nat) (ao : Option Addr) (w : World) (hl : l.length = n) (hs : Sl w 1 ao n (ivals l)) (hz : ao = none → cap = 0) (hn : n ≤ 1000000) :
    Calls Try.prog 49 #[.slice ao n cap] w fun e w' => ∃ v', e = .returned v' ∧ w'.ownsRow w.heap.size 3 1 v' n (ivals l) ∧ Below w.heap.size w w' := by
  cases ao with
  | none =>
    obtain rfl := hz rfl
    obtain rfl : n = 0 := by
      rcases hs.2 with h0 | ⟨b, o, e', _⟩
      · exact h0
      · cases e'
    obtain rfl : l = [] := List.eq_nil_of_length_eq_zero hl
    clear hs hz hn hl
    go_enter Try.func49, Try.ntmps49
    go_wp2_with fail
    rw [run_eql_slice_nil' _ _ _ _ _ _ _ _ Try.underlying30]
    go_wp2_with fail
    go_ret
    exact ⟨_, rfl, World.ownsRow_nil _ _ _ _, Below.refl _ _⟩
  | some a =>
    have HA := lid hs
    clear hs hz
    go_enter Try.func49, Try.ntmps49
    go_wp2_with fail
    rw [run_eql_slice_nil' _ _ _ _ _ _ _ _ Try.underlying30]
    go_wp2_with (at_builtin; go_must (refine wpList_append_sl rfl _ _ 30 rfl w.heap.size 3 (.int .i64 0) 1 8 info_int Try.underlying30 rfl (by decide) _ 0 [] (World.ownsRow_lit w #[] 0 (Nat.le_refl _) (by simp [maxLen]) rfl) rfl (some a) n cap (ivals l) rfl (HA.out.below (ba _ _)) (by intro h; cases h) (ivals_one l) (by simp [maxLen]; omega) (by omega) (by simp) ?_))
    intro v5 w5 hown5 hb5
    go_wp2_with fail
    go_ret
    refine ⟨_, rfl, ?_, (ba _ _).trans hb5⟩
    simpa using hown5

/-- The first place, -1 where there is none. -/
def idxPS (P : Int → Bool) (l : List Int) : Int := if l.any P = true then (l.findIdx P : Int) else -1
theorem idxPS_at {P : Int → Bool} {l : List Int} {k : Nat} (hk : k < l.length) (hp : P l[k] = true) (hn : (l.take k).any P = false) : idxPS P l = k := by
  have ha : l.any P = true := List.any_eq_true.2 ⟨l[k], List.getElem_mem hk, hp⟩
  have hf : l.findIdx P = k := by
    rw [List.findIdx_eq hk]
    refine ⟨hp, fun j hj => ?_⟩
    have := List.any_eq_false.1 hn (l[j]) (by
      rw [List.mem_take_iff_getElem]
      exact ⟨j, by omega, rfl⟩)
    simpa using this
  unfold idxPS
  rw [if_pos ha, hf]
theorem idxPS_none {P : Int → Bool} {l : List Int} (h : l.any P = false) : idxPS P l = -1 := by unfold idxPS; rw [if_neg (by rw [h]; decide)]
theorem any_snocS {P : Int → Bool} {l : List Int} {k : Nat} (hk : k < l.length) (hn : (l.take k).any P = false) (hp : P l[k] = false) : (l.take (k + 1)).any P = false := any_take_succ hk hn hp
theorem idxPS_some {P : Int → Bool} {l : List Int} (h : l.any P = true) : ∃ k, ∃ (hk : k < l.length), idxPS P l = (k : Int) ∧ (l.take k).any P = false ∧ P l[k] = true := by
  have hk : l.findIdx P < l.length := List.findIdx_lt_length_of_exists (by simpa using h)
  refine ⟨l.findIdx P, hk, by unfold idxPS; rw [if_pos h], ?_, List.findIdx_getElem⟩
  rw [List.any_eq_false]
  intro y hy
  rw [List.mem_take_iff_getElem] at hy
  obtain ⟨i, hi, rfl⟩ := hy
  have := List.not_of_lt_findIdx (show i < l.findIdx P by omega)
  simpa using this
/-- What the function value answers, in every later world. -/
def AsksS (g : FuncId) (cs : Array Value) (P : Int → Bool) (w : World) : Prop :=
  ∀ (x : Int) (w' : World), Below w.heap.size w w' → Calls Try.prog g (#[Value.int .i64 x] ++ cs) w' fun e w'' => e = .returned (.bool (P x)) ∧ Below w'.heap.size w' w''
set_option maxRecDepth 100000 in
set_option maxHeartbeats 4000000 in
theorem IndexFuncI (l : List Int) (n cap : Nat) (ao : Option Addr) (c1 : Nat) (P : Int → Bool) (w : World) (hn : l.length = n) (hm : n ≤ 1000000) (hs : Sl w 1 ao n (ivals l)) (hc : AsksS 50 #[.pointer (some ⟨c1, 0, none⟩)] P w) :
    Calls Try.prog 53 #[.slice ao n cap, .func (.func 50) #[] #[.pointer (some ⟨c1, 0, none⟩)]] w fun e w' => e = .returned (.int .i64 (idxPS P l)) ∧ Below w.heap.size w w' := by
  have HN := lid hn
  have HS := lid hs
  have HC := lid hc
  clear hn hs hc
  go_enter Try.func53, Try.ntmps53
  go_wp2_with fail
  go_loopw [5, 8] (fun _ i wr => ∃ k : Nat, k ≤ n ∧ i = .int .i64 k ∧ Hid ((l.take k).any P = false) ∧ Below w.heap.size w wr) (fun _ i _ => n - (intOf i).toNat)
  case atStart => exact ⟨0, Nat.zero_le _, rfl, lid rfl, Below.refl _ _⟩
  case round =>
    obtain ⟨k, hk, rfl, HT, hb⟩ := hrel
    by_cases hlt : k < n
    · have hkl : k < l.length := by rw [HN.out]; exact hlt
      obtain ⟨b1, o1, rfl, hlb, hcell⟩ := (HS.out.below hb).at_ hlt
      have x0 := hcell k _ (ivals_at hkl)
      have dk : decide ((k : Int) < (n : Int)) = true := by simp; omega
      have HA := lid (fun h => idxPS_at (P := P) hkl h HT.out)
      have HB := lid (fun h => any_snocS (P := P) hkl HT.out h)
      obtain ⟨x, hx⟩ : ∃ x, l[k] = x := ⟨_, rfl⟩
      rw [hx] at x0 HA HB
      have CX : Hid (Calls Try.prog 50 #[.int .i64 x, .pointer (some ⟨c1, 0, none⟩)] wr fun e w'' => e = .returned (.bool (P x)) ∧ Below wr.heap.size wr w'') := lid (HC.out x wr hb)
      clear hcell hx
      go_wp2_with fail
      (with_reducible refine (CX.out).mono ?_); rintro e w2 ⟨rfl, hb2⟩
      have hw2 := hb.trans (hb2.mono hb.size)
      cases hp : P x with
      | true =>
        have HV := lid (HA.out hp)
        clear hp
        go_wp2_with fail
        go_ret
        exact ⟨ret_i64 HV.out.symm, hw2⟩
      | false =>
        have HV := lid (HB.out hp)
        clear hp
        go_wp2_with fail
        go_roundw
        case rel => exact ⟨k + 1, by omega, by go_num, HV, hw2⟩
        case measure => simp [intOf]; omega
    · obtain rfl : k = n := by omega
      have HV := lid (idxPS_none (P := P) (l := l) (by have := HT.out; rwa [List.take_of_length_le (by rw [HN.out]; exact Nat.le_refl _)] at this))
      go_wp2_with fail
      go_ret
      exact ⟨ret_i64 HV.out.symm, hb⟩
set_option maxRecDepth 100000 in
set_option maxHeartbeats 8000000 in
theorem DeleteFuncI (l : List Int) (v : Value) (n : Nat) (c1 : Nat) (P : Int → Bool) (base : Nat) (w : World) (hn : l.length = n) (hm : n ≤ 1000000) (hs : w.ownsRow base 3 1 v n (ivals l)) (hbase : base ≤ w.heap.size) (hc : ∀ w', Below base w w' → AsksS 50 #[.pointer (some ⟨c1, 0, none⟩)] P w') :
    Calls Try.prog 48 #[v, .func (.func 50) #[] #[.pointer (some ⟨c1, 0, none⟩)]] w fun e w' => ∃ v', e = .returned v' ∧ w'.ownsRow base 3 1 v' (l.filter fun x => !P x).length (ivals (l.filter fun x => !P x)) ∧ Below base w w' := by
  obtain ⟨ao, cap, rfl⟩ := own_slice hs
  have CI := lid (IndexFuncI l n cap ao c1 P w hn hm (own_sl hs) (hc w (Below.refl _ _)))
  cases hany : l.any P with
  | false =>
    have HI := lid (idxPS_none hany)
    have HF : Hid (l.filter (fun x => !P x) = l) := lid (List.filter_eq_self.2 (fun y hy => by have := List.any_eq_false.1 hany y hy; simpa using this))
    rw [HI.out] at CI
    have HS := lid hs
    have HN := lid hn
    clear hs hn hc hany
    go_enter Try.func48, Try.ntmps48
    go_wp2_with fail
    (with_reducible refine (CI.out).mono ?_); rintro e w2 ⟨rfl, hb2⟩
    go_wp2_with fail
    go_ret
    refine ⟨_, rfl, ?_, hb2.mono hbase⟩
    rw [HF.out, HN.out]
    exact ownsRow_below HS.out hb2
  | true =>
    obtain ⟨k0, hk0, e0, hno, hyes⟩ := idxPS_some hany
    rw [e0] at CI
    rcases hs.2 with ⟨hv, h0⟩ | ⟨g, cap', cur, hv, hg, hcur, hncap, hmax, hsz, htk⟩
    · subst h0
      rw [List.eq_nil_of_length_eq_zero hn] at hk0
      simp at hk0
    cases hv
    have hglt := row_lt hcur
    have HI : Hid (DelInv ite1 1 l P k0 (k0 + 1) cur) := lid (DelInv.start ite1_length hk0 hno hyes (by rw [hsz, hn]; exact Nat.mul_le_mul_right 1 hncap) (by rw [hn, ivals_flat]; exact htk))
    have hk0n : k0 < n := by omega
    have HN := lid hn
    have HC := lid hc
    have HR := lid hcur
    have HZ : Hid (cur.size = cap) := lid (by rw [hsz, Nat.mul_one])
    have hcap' : n ≤ cap := hncap
    have hmx : cap ≤ 9223372036854775807 := hmax
    clear hs hn hc hany e0 hno hyes hk0 hcur hsz htk hmax
    go_enter Try.func48, Try.ntmps48
    go_wp2_with fail
    (with_reducible refine (CI.out).mono ?_); rintro e w2 ⟨rfl, hb2⟩
    have hbw2 : Below base w w2 := hb2.mono hbase
    have HR2 : Hid (w2.heap[g]? = some (.cells cur 3 (0, 0))) := lid ((hb2.block g hglt).trans HR.out)
    have hg2 : g < w2.heap.size := row_lt HR2.out
    clear hb2 HR CI
    have e1 : ((k0 : Int) == -1) = false := beq_eq_false_iff_ne.2 (by omega)
    go_wp2_with fail
    go_loopw [5, 6, 7] (fun i j _ wr => ∃ (a b : Nat) (cur : Array Value), i = .int .i64 a ∧ j = .int .i64 b ∧ b ≤ n ∧ a < b ∧ Hid (DelInv ite1 1 l P a b cur) ∧ Hid (wr.heap[g]? = some (.cells cur 3 (0, 0))) ∧ Hid (cur.size = cap) ∧ Below base w wr) (fun _ j _ _ => n - (intOf j).toNat)
    case atStart => exact ⟨k0, k0 + 1, cur, rfl, by go_num, by omega, by omega, HI, HR2, HZ, hbw2⟩
    case round =>
      clear HI HR2 HZ hbw2 hg2 e1 hglt
      obtain ⟨a, b, cur, rfl, rfl, hbn, hab, HI, HR, HZ, hb⟩ := hrel
      by_cases hlt : b < n
      · have hbl : b < l.length := by rw [HN.out]; exact hlt
        have x0 := (row_cell HR.out (b * 1 + 0)).trans (HI.out.cells ite1_length hbl (t := 0) (by omega))
        rw [Nat.add_zero, Nat.mul_one] at x0
        have HSK := lid (fun h => HI.out.skip hbl h)
        have HKP := lid (fun h => HI.out.keep ite1_length hbl h)
        obtain ⟨f1, f2⟩ := HI.out.fits hbl
        have hrm := HI.out.room
        obtain ⟨x, hx⟩ : ∃ x, l[b] = x := ⟨_, rfl⟩
        rw [hx] at x0 HSK HKP
        have x0 : wr.cell? ⟨g, b, none⟩ = some (.int .i64 x) := x0
        obtain ⟨o0, q0⟩ : ∃ o, cur[a]? = some o := ⟨_, Array.getElem?_eq_getElem (by omega)⟩
        have db : decide ((b : Int) < (n : Int)) = true := by simp; omega
        have hgl := row_lt HR.out
        have CX : Hid (Calls Try.prog 50 #[.int .i64 x, .pointer (some ⟨c1, 0, none⟩)] wr fun e w'' => e = .returned (.bool (P x)) ∧ Below wr.heap.size wr w'') := lid (HC.out wr hb x wr (Below.refl _ _))
        clear hx
        go_wp2_with fail
        (with_reducible refine (CX.out).mono ?_); rintro e w3 ⟨rfl, hb3⟩
        have hbw3 : Below base w w3 := hb.trans (hb3.mono (by have := hb.size; omega))
        have HR3 : Hid (w3.heap[g]? = some (.cells cur 3 (0, 0))) := lid ((hb3.block g hgl).trans HR.out)
        clear CX hb3
        cases hp : P x with
        | true =>
          have HV := lid (HSK.out hp)
          clear hp HSK HKP
          go_wp2_with fail
          go_roundw
          case rel => exact ⟨a, b + 1, cur, rfl, by go_num, by omega, by omega, HV, HR3, HZ, hbw3⟩
          case measure => simp [intOf]; omega
        | false =>
          have HV := lid (HKP.out hp)
          clear hp HSK HKP
          have p0 := (row_cell HR3.out a).trans q0
          have z0 := row_fz HR3.out a
          have han : decide (a < n) = true := by simp; omega
          have hrow : Hid ((w3.setCells g a (ite1 x)).heap[g]? = some (.cells (layAt cur a (ite1 x)) 3 (0, 0))) := lid (row_setCells (ite1 x) a w3 cur HR3.out)
          have hbw4 : Hid (Below base w (w3.setCells g a (ite1 x))) := lid (below_cells hg _ _ _ hbw3)
          rw [Nat.mul_one] at HV
          clear q0
          go_wp2_with fail
          go_roundw
          case rel => exact ⟨a + 1, b + 1, layAt cur a (ite1 x), by go_num, by go_num, by omega, by omega, HV, hrow, lid (by rw [layAt_size]; exact HZ.out), hbw4.out⟩
          case measure => simp [intOf]; omega
      · obtain rfl : b = n := by omega
        have db : decide ((b : Int) < (b : Int)) = false := by simp
        have HI' : DelInv ite1 1 l P a l.length cur := by rw [HN.out]; exact HI.out
        have hrm := HI.out.room
        rw [HN.out] at hrm
        have hab2 : a + (b - a) = b := by omega
        have HDN := lid (HI'.done (Builtin.zeroCells (Value.int .i64 0).cells (b - a)).toList (by rw [zeroCells_length]; have : (Value.int .i64 0).cells.size = 1 := rfl; rw [this]; omega))
        have hcl : ∀ ty c, (Builtin.clear_ #[30] ty #[.slice (some ⟨g, a, none⟩) (b - a) c]).run Try.prog wr = .ok (.tuple #[]) (wr.setCells g a (Builtin.zeroCells (Value.int .i64 0).cells (b - a)).toList) :=
          fun ty c => run_clear_cells wr _ _ ty _ Try.underlying30 zero_intg (by intro k hk; have : k < 1 := hk; match k, this with | 0, _ => rfl) g a (b - a) c (by omega)
            (fun t ht => by rw [row_cell HR.out, Array.getElem?_eq_getElem (show a + t < cur.size by have : t < (b - a) * 1 := ht; omega)]; rfl) (fun t _ => row_fz HR.out _)
        clear HI'
        have hrow : Hid ((wr.setCells g a (Builtin.zeroCells (Value.int .i64 0).cells (b - a)).toList).heap[g]? = _) := lid (row_setCells _ a wr cur HR.out)
        go_wp2_with fail
        go_ret
        refine ⟨_, rfl, ?_, below_cells hg _ _ _ hb⟩
        rw [HDN.out.1]
        have ef : (ivals (l.filter fun x => !P x)).length = a * 1 := by rw [ivals_length, HDN.out.1, Nat.mul_one]
        have H2 := HDN.out.2
        rw [ivals_flat, Nat.mul_one] at H2
        exact ⟨ef, .inr ⟨g, cap, _, rfl, hg, hrow.out, by omega, hmx, by rw [layAt_size, Nat.mul_one]; exact HZ.out, by rw [Nat.mul_one]; exact H2⟩⟩
set_option maxRecDepth 100000 in
set_option maxHeartbeats 1000000 in
theorem many_asks (c1 : Nat) (y : Int) (w : World) (h : w.heap[c1]? = some (.cells #[.int .i64 y] 3 (0, 0))) : AsksS 50 #[.pointer (some ⟨c1, 0, none⟩)] (fun v => decide (v = y)) w := by
  intro x w' hb
  have hc := (bc hb (row_lt h) 0).trans (row_cell h 0)
  have hlt : c1 < w'.heap.size := Nat.lt_of_lt_of_le (row_lt h) hb.size
  have HV : Hid ((x == y) = decide (x = y)) := lid rfl
  show Calls Try.prog 50 #[.int .i64 x, .pointer (some ⟨c1, 0, none⟩)] w' _
  clear h hb
  go_enter Try.func50, Try.ntmps50
  go_wp2_with fail
  go_ret
  exact ⟨ret_bool HV.out, Below.refl _ _⟩
end Go.Proofs.Ytnjcoejnknpfoaa
