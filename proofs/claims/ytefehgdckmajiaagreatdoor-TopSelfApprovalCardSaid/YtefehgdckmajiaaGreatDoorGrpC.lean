/-
  CodSpec CodIter CodPut DigSpec DigHash LedSpec ObjName DigEq DigOf DigBytes DigRefOf DigPair DigHalf DigRoot DigRootOf ObjSpec Cells.
-/
import Derived.Test.YtefehgdckmajiaaGreatDoorGrpA
import Derived.Test.YtefehgdckmajiaaGreatDoorGrpB
import Derived.Shelf.Abstract
import Derived.WalkKit
import Derived.OwnWalkIn
import Derived.TacticsInMore
import Derived.LoopNIn
import Derived.LoopIn
import Derived.Laws.BitsAllLaws
import Derived.Test.YtefehgdckmajiaaGreatDoorRows
import Derived.ChangeKeysEq
import Derived.WalkSpells
import Derived.WalkLawsBesides
namespace Go.Proofs.YtefehgdckmajiaaGreatDoor

/-- The bytes of a number: seven bits each, the least first. -/
def putN (n : Nat) : List UInt8 := if h : n < 128 then [UInt8.ofNat n] else UInt8.ofNat (n % 128 + 128) :: putN (n / 128)
termination_by n
decreasing_by omega
theorem putN_lo {n : Nat} (h : n < 128) : putN n = [UInt8.ofNat n] := by rw [putN, dif_pos h]
theorem putN_hi {n : Nat} (h : ¬ n < 128) : putN n = UInt8.ofNat (n % 128 + 128) :: putN (n / 128) := by rw [putN, dif_neg h]
theorem putN_ne (n : Nat) : putN n ≠ [] := by
  by_cases h : n < 128
  · rw [putN_lo h]; simp
  · rw [putN_hi h]; simp
theorem putN_len (k : Nat) : ∀ n, n < 128 ^ (k + 1) → (putN n).length ≤ k + 1 := by
  induction k with
  | zero => intro n h; rw [putN_lo (by simpa using h)]; simp
  | succ k ih =>
    intro n h
    by_cases h1 : n < 128
    · rw [putN_lo h1]; simp
    · rw [putN_hi h1, List.length_cons]
      have := ih (n / 128) (by rw [Nat.pow_succ] at h; omega)
      omega
theorem putN_six {n : Nat} (h : n ≤ 1099511627776) : (putN n).length ≤ 6 := putN_len 5 n (by omega)
/-- A text: its length, its bytes. -/
def putT (l : List UInt8) : List UInt8 := putN l.length ++ l
theorem ofNat_lo {m : Nat} (h : m < 128) : (UInt8.ofNat m).toNat = m := by simp; omega
theorem ofNat_hi (m : Nat) : (UInt8.ofNat (m % 128 + 128)).toNat = m % 128 + 128 := by simp; omega
end Go.Proofs.YtefehgdckmajiaaGreatDoor

namespace Go.Proofs.YtefehgdckmajiaaGreatDoor
open Go.RowKit Go.Shelf
attribute [local go_sem] Oper.semAt_some

/-- The number in a box. -/
def numAt (w : World) (bn : Nat) : Nat := match w.cell? ⟨bn, 0, none⟩ with
  | some v => (intOf v).toNat
  | none => 0

set_option maxRecDepth 100000 in
set_option maxHeartbeats 4000000 in
theorem digits_box (F : Fence) (n : Nat) (hF : F.fn 86) (hro : F.round = none) (hn : 1 ≤ n) (bn N0 : Nat) (w : World) (hN0 : N0 ≤ 9223372036854775807) (hbn : w.heap[bn]? = some (.cells #[.int .i64 N0] 3 (0, 0))) :
    SeqBox F n Tryz.prog 86 #[.pointer (some ⟨bn, 0, none⟩)] (fun (x : UInt8) => #[.int .u8 x.toNat]) bn (fun xs => xs = putN N0) (putN N0).length w := by
  intro l J W hW hJs hY h0
  have hlt := (Array.getElem?_eq_some_iff.1 hbn).1
  have hb0 := (hW.block bn hlt).trans hbn
  refine callsIn_of_wp Tryz.func86 rfl hF ?_ hro
  simp only [Tryz.ntmps86, List.size_toArray, List.length_cons, List.length_nil, Nat.reduceAdd, Nat.reduceSub, Array.replicate_succ, Array.replicate_zero, List.push_toArray, List.append_toArray, List.nil_append, List.cons_append]
  gi_wp2
  gi_loopw [3] (fun _ wr => ∃ (m : Nat) (pre : List UInt8), m ≤ N0 ∧ wr.heap[bn]? = some (.cells #[.int .i64 m] 3 (0, 0)) ∧ Hid (pre ++ putN m = putN N0) ∧ J pre wr) (fun _ wr => numAt wr bn)
  case atStart => exact ⟨N0, [], Nat.le_refl _, hb0, lid rfl, h0⟩
  case round =>
    obtain ⟨m, pre, hm, hb, HP, hJ⟩ := hrel
    have hc : wr.cell? ⟨bn, 0, none⟩ = some (.int .i64 m) := by rw [cell_of_row _ _ _ _ _ _ hb]; rfl
    have hf : wr.frozen? ⟨bn, 0, none⟩ = false := frozen_of_row _ _ _ _ _ hb
    have HB := lid hb
    clear hb
    by_cases hlo : m < 128
    · have HX := lid (putN_lo hlo)
      have hlen : pre.length < (putN N0).length := by rw [← HP.out, HX.out]; simp
      obtain ⟨fn, tmps, assign, body, hy, hR⟩ := hY pre (UInt8.ofNat m) wr hJ hlen
      rw [ofNat_lo hlo] at hy
      gi_wp2
      refine hR.mono ?_
      rintro e W' ⟨rfl, hJ', -⟩
      gi_wp2
      refine bodyPost_end (results_none rfl _ _ _) rfl ⟨⟨_, rfl⟩, pre ++ [UInt8.ofNat m], ?_, hJ'⟩
      rw [← HP.out, HX.out]
    · have HX := lid (putN_hi hlo)
      have hlen : pre.length < (putN N0).length := by rw [← HP.out, HX.out]; simp
      obtain ⟨fn, tmps, assign, body, hy, hR⟩ := hY pre (UInt8.ofNat (m % 128 + 128)) wr hJ hlen
      rw [ofNat_hi] at hy
      have hhi : (128 : Int) ≤ m := by omega
      have hmd : ((m % 128 + 128 : Nat) : Int) = (m : Int) % 128 + 128 := by omega
      rw [hmd] at hy
      clear hmd
      gi_wp2
      refine hR.mono ?_
      rintro e W' ⟨rfl, hJ', hk'⟩
      have hb' := hk'.trans HB.out
      have hc' : W'.cell? ⟨bn, 0, none⟩ = some (.int .i64 m) := by rw [cell_of_row _ _ _ _ _ _ hb']; rfl
      have hf' : W'.frozen? ⟨bn, 0, none⟩ = false := frozen_of_row _ _ _ _ _ hb'
      have HB' := lid hb'
      have HK := lid hk'
      clear hb' hk'
      gi_wp2
      go_roundw
      case rel =>
        refine ⟨m / 128, pre ++ [UInt8.ofNat (m % 128 + 128)], by omega, ?_, lid (by rw [List.append_assoc]; have := HP.out; rw [HX.out] at this; exact this), hJs _ _ _ hJ'⟩
        exact heap_setCell_same _ _ _ _ _ _ HB'.out
      case measure =>
        unfold numAt
        rw [World.cell?_setCell_same' _ _ _ (by rw [hc']; rfl), hc]
        simp [intOf]
        omega
end Go.Proofs.YtefehgdckmajiaaGreatDoor

namespace Go.Proofs.YtefehgdckmajiaaGreatDoor
open Go.RowKit Go.Shelf
attribute [local go_sem] Oper.semAt_some

theorem digits_fn (n : Int) (w : World) :
    Calls Tryz.prog 69 #[.int .i64 n] w fun e w' => e = .returned (.func (.func 86) #[] #[.pointer (some ⟨w.heap.size, 0, none⟩)]) ∧ w' = w.alloc (.cells #[.int .i64 n] 3) := by
  go_enter Tryz.func69, Tryz.ntmps69
  go_wp2
  go_ret
  exact ⟨rfl, rfl⟩

theorem bld_parts {B b : Nat} {bs : List Value} {w : World} (h : Bldr B b bs w) : B ≤ b ∧ ∃ p v, w.heap[b]? = some (.cells #[p, v] 102 (0, 0)) ∧ w.ownsRow B 5 1 v bs.length bs ∧ v.ownBlock ≠ some b ∧ (p = .pointer none ∨ p = .pointer (some ⟨b, 0, none⟩)) := by
  rcases h with ⟨hB, v, h1, h2, h3⟩ | ⟨hB, v, h1, h2, h3⟩
  · exact ⟨hB, _, v, h1, h2, h3, .inl rfl⟩
  · exact ⟨hB, _, v, h1, h2, h3, .inr rfl⟩
theorem bld_lt {B b : Nat} {bs : List Value} {w : World} (h : Bldr B b bs w) : b < w.heap.size := by
  obtain ⟨_, p, v, hb, _⟩ := bld_parts h
  exact (Array.getElem?_eq_some_iff.1 hb).1
/-- A builder stays where its two blocks stay. -/
theorem bld_kept {B b : Nat} {bs : List Value} {w w' : World} {row : Option Nat} (h : Bldr B b bs w) (hg : w.grownBy w' row) (hr : ∀ r, row = some r → ∃ o : Obj, w.heap[r]? = some o ∧ o.isCells = false) : Bldr B b bs w' := by
  obtain ⟨hB, p, v, hb, hown, hne, hp⟩ := bld_parts h
  have h1 : w'.heap[b]? = some (.cells #[p, v] 102 (0, 0)) := (hg.block b (bld_lt h) (fun e => by obtain ⟨o, ho, hc⟩ := hr b e.symm; rw [hb] at ho; cases ho; cases hc)).trans hb
  have h2 : w'.ownsRow B 5 1 v bs.length bs := by
    refine hown.kept hg ?_
    cases hv : v.ownBlock with
    | none => exact .inl rfl
    | some g =>
      right
      intro e
      obtain ⟨c, fz, hgc⟩ := own_kind hown g hv
      obtain ⟨o, ho, hc⟩ := hr g e.symm
      rw [hgc] at ho
      cases ho
      cases hc
  rcases hp with rfl | rfl
  · exact .inl ⟨hB, v, h1, h2, hne⟩
  · exact .inr ⟨hB, v, h1, h2, hne⟩
/-- A store into a block of another type. -/
theorem bld_set {B b bn : Nat} {bs : List Value} {w : World} {t : TypeId} {x : Value} (h : Bldr B b bs w) (hn : w.heap[bn]? = some (.cells #[x] t (0, 0))) (h1 : t ≠ 102) (h2 : t ≠ 5) (u : Value) : Bldr B b bs (w.setCell ⟨bn, 0, none⟩ u) := by
  obtain ⟨hB, p, v, hb, hown, hne, hp⟩ := bld_parts h
  have hbb : b ≠ bn := by rintro rfl; rw [hn] at hb; simp at hb
  have e1 : (w.setCell ⟨bn, 0, none⟩ u).heap[b]? = some (.cells #[p, v] 102 (0, 0)) := (Below.heap_setCell _ _ _ _ hbb).trans hb
  have e2 : (w.setCell ⟨bn, 0, none⟩ u).ownsRow B 5 1 v bs.length bs := by
    refine hown.kept (grownBy_setCell' w bn u) (.inr fun e => ?_)
    obtain ⟨c, fz, hgc⟩ := own_kind hown bn e
    rw [hn] at hgc
    cases hgc
    exact h2 rfl
  rcases hp with rfl | rfl
  · exact .inl ⟨hB, v, e1, e2, hne⟩
  · exact .inr ⟨hB, v, e1, e2, hne⟩
theorem bld_alloc {B b : Nat} {bs : List Value} {w : World} (h : Bldr B b bs w) (o : Obj) : Bldr B b bs (w.alloc o) := bld_kept h (World.grownBy_alloc w o none) (fun r e => by cases e)
theorem bld_put {B b : Nat} {bs : List Value} {w : World} (h : Bldr B b bs w) {D : Nat} {o o' : Obj} (hD : w.heap[D]? = some o) (hc : o.isCells = false) : Bldr B b bs (w.putObj D o') := bld_kept h (grownBy_putObj' w D o') (fun r e => by cases e; exact ⟨o, hD, hc⟩)
theorem boxed_others {e : TypeId} {b k : Nat} {w w' : World} {t : TypeId} {v : Value} (h : Boxed w k t v) (ho : Lib.OthersKept e (some b) w w') (hb : k ≠ b) (ht : t ≠ e) : Boxed w' k t v :=
  ho k _ h (by simpa using hb) (by intro c fz hh; cases hh; exact ht rfl)
theorem keeps_others {e : TypeId} {b : Nat} {w w' : World} {cs : Array Value} {t : TypeId} {fz : Nat × Nat} (ho : Lib.OthersKept e (some b) w w') (hb : w.heap[b]? = some (.cells cs t fz)) (hs : w.heap.size ≤ w'.heap.size) : KeepsOthers w w' :=
  ⟨hs, fun k o hk hc => ho k o hk (by intro e; cases e; rw [hb] at hk; cases hk; cases hc) (by intro c fz hh; subst hh; cases hc)⟩

/-- What holds between two rounds of writeInt. -/
def PutI (B b k : Nat) (bs : List Value) (W0 : World) (pre : List UInt8) (W : World) : Prop :=
  Bldr B b (bs ++ bvals pre) W ∧ Boxed W k 100 (.pointer (some ⟨b, 0, none⟩)) ∧ (∃ x, Boxed W (k + 1) 3 x) ∧ Below B W0 W ∧ W0.heap.size ≤ W.heap.size

set_option maxRecDepth 100000 in
set_option maxHeartbeats 4000000 in
theorem writeInt_any (B b N : Nat) (bs : List Value) (w : World) (h : Bldr B b bs w) (hN : N ≤ 1099511627776) (hlen : bs.length ≤ 70368744177664) (hBw : B ≤ w.heap.size) :
    Calls Tryz.prog 54 #[.pointer (some ⟨b, 0, none⟩), .int .i64 N] w fun e w' => e = .returned (.tuple #[]) ∧ Bldr B b (bs ++ bvals (putN N)) w' ∧ Below B w w' := by
  have hN9 : N ≤ 9223372036854775807 := by omega
  have hblt := bld_lt h
  have hBb := (bld_parts h).1
  refine (callsIn_wide (n := 3)).1 ?_
  refine callsIn_of_wp_marks Tryz.func54 rfl trivial ?_ rfl
  simp only [Tryz.ntmps54, List.size_toArray, List.length_cons, List.length_nil, Nat.reduceAdd, Nat.reduceSub, Array.replicate_succ, Array.replicate_zero, List.push_toArray, List.append_toArray, List.nil_append, List.cons_append]
  gi_wp2_with fail
  refine ⟨trivial, (callsIn_wide.2 (digits_fn N _)).mono ?_⟩
  rintro e w' ⟨rfl, rfl⟩
  gi_wp2_with fail
  have bO := (Boxed.new w 100 (.pointer (some ⟨b, 0, none⟩))).alloc (Obj.cells #[.int .i64 N] 3)
  have bN := Boxed.new (w.alloc (Obj.cells #[.pointer (some ⟨b, 0, none⟩)] 100)) 3 (.int .i64 N)
  have hB2 := bld_alloc (bld_alloc h (Obj.cells #[.pointer (some ⟨b, 0, none⟩)] 100)) (Obj.cells #[.int .i64 N] 3)
  obtain ⟨W0, hW0⟩ : ∃ W0, (w.alloc (Obj.cells #[.pointer (some ⟨b, 0, none⟩)] 100)).alloc (Obj.cells #[.int .i64 N] 3) = W0 := ⟨_, rfl⟩
  have hsz : W0.heap.size = w.heap.size + 2 := by rw [← hW0]; simp
  have hb0 : Below B w W0 := by rw [← hW0]; exact ((Below.refl _ _).alloc hBw _).alloc (by simp; omega) _
  rw [World.size_alloc] at bN
  rw [hW0] at bO bN hB2 ⊢
  clear hW0
  refine wpIn_rangeFunc_box rfl (by omega) (gf := 86) (lb := #[.pointer (some ⟨w.heap.size + 1, 0, none⟩)]) rfl trivial (enters_of Tryz.func86 (by kernel_rfl) rfl)
    (digits_box Fence.wide _ trivial rfl (by omega) (w.heap.size + 1) N W0 hN9 bN) (by omega) (fun _ => rfl)
    (PutI B b w.heap.size bs W0)
    ?hI ?hIs ⟨by simpa [bvals] using hB2, bO, ⟨_, bN⟩, Below.refl _ _, Nat.le_refl _⟩
    (fun x => { tmps := #[.pointer (some ⟨b, 0, none⟩), .int .i64 N, .pointer (some ⟨w.heap.size, 0, none⟩), undef, .int .u8 x.toNat, .int .i64 N, .func (.func 86) #[] #[.pointer (some ⟨w.heap.size + 1, 0, none⟩)], .int .u8 x.toNat, undef, undef, undef], defers := [] }) ?assign ?body ?done
  case hI =>
    rintro s W W' row ⟨h1, h2, ⟨x, h3⟩, h4, h5⟩ hg hr
    have hr' : ∀ r, row = some r → ∃ o : Obj, W.heap[r]? = some o ∧ o.isCells = false := fun r e => (hr r e).2
    refine ⟨bld_kept h1 hg hr', h2.kept hg (fun e => ?_), ⟨x, h3.kept hg (fun e => ?_)⟩, h4.grown hg (by omega) (fun k e => by have := (hr k e).1; omega), Nat.le_trans h5 hg.size⟩
    · obtain ⟨o, ho, hc⟩ := hr' _ e.symm
      rw [show W.heap[_]? = _ from h2] at ho; cases ho; cases hc
    · obtain ⟨o, ho, hc⟩ := hr' _ e.symm
      rw [show W.heap[_]? = _ from h3] at ho; cases ho; cases hc
  case hIs =>
    rintro s W v ⟨h1, h2, ⟨x, h3⟩, h4, h5⟩
    exact ⟨bld_set h1 h3 (by decide) (by decide) v, (Below.heap_setCell _ _ _ _ (by simp)).trans h2, ⟨v, h3.set v⟩, h4.setCell (p := ⟨w.heap.size + 1, 0, none⟩) (by show B ≤ w.heap.size + 1; omega) _, by rw [World.size_setCell]; exact h5⟩
  case assign =>
    intro l x W K hK
    gi_wp2
    exact hK
  case body =>
    rintro l pre x W ⟨h1, h2, ⟨y, h3⟩, h4, h5⟩ hlt
    have hc := h2.cell
    have hl6 := putN_six hN
    have HL6 := lid hl6
    have HLT := lid hlt
    clear hl6 hlt
    gi_wp2_with fail
    refine ⟨trivial, ?_⟩
    refine (CallsIn.inRound l (callsIn_wide.2 (WriteByte_any B b (bs ++ bvals pre) (x.toNat : Int) W h1 ?_ ?_))).mono ?_
    · rw [List.length_append, bvals_length]
      have := HL6.out
      have := HLT.out
      omega
    · omega
    rintro e W1 ⟨rfl, hU, hb1, hk1⟩
    obtain ⟨_, p, v, hbb, _⟩ := bld_parts h1
    have hne1 : w.heap.size ≠ b := by omega
    have hne2 : w.heap.size + 1 ≠ b := by omega
    have h2' := boxed_others h2 hk1 hne1 (by decide)
    have h3' := boxed_others h3 hk1 hne2 (by decide)
    have hko := keeps_others hk1 hbb hb1.size
    gi_wp2_with fail
    refine ⟨hko.from _, (show W1.heap[_]? = _ from h3').trans (show W.heap[_]? = _ from h3).symm, .inr (by rw [bvals_snoc, ← List.append_assoc]; exact hU), h2', ⟨_, h3'⟩, h4.trans hb1, Nat.le_trans h5 hb1.size⟩
  case done =>
    rintro D xs W hD rfl ⟨h1, h2, h3, h4, h5⟩ hK
    gi_wp2
    refine ⟨by simp, .inl ⟨_, _, rfl, run_takeDeferred hK, ?_⟩⟩
    have hput : Below B W0 (W.putObj D (.deferred none)) := h4.trans (belowK_b (w := W0) (by omega) W D _ _ hD hK rfl rfl)
    exact ⟨_, results_none rfl _ _ _, rfl, bld_put h1 hK rfl, hb0.trans hput⟩

def putB (n : Int) : Bool := decide (0 ≤ n ∧ n ≤ 1099511627776)
/-- PutInt's text and error. -/
def putI (n : Int) : List UInt8 := if putB n then putN n.toNat else []
def putIE (n : Int) : Int := if putB n then 0 else 2
def putX (l : List UInt8) : List UInt8 := if l.length ≤ 65536 then putT l else []
def putXE (l : List UInt8) : Int := if l.length ≤ 65536 then 0 else 4

set_option maxRecDepth 100000 in
theorem inRange_any (n : Int) (w : World) :
    Calls Tryz.prog 53 #[.int .i64 n] w fun e w' => e = .returned (.bool (putB n)) ∧ w' = w := by
  by_cases h0 : 0 ≤ n
  · by_cases h1 : n ≤ 1099511627776
    · have HV : Hid (putB n = true) := lid (by unfold putB; simp; omega)
      go_enter Tryz.func53, Tryz.ntmps53
      go_wp2
      go_ret
      exact ⟨by rw [HV.out]; rfl, rfl⟩
    · have HV : Hid (putB n = false) := lid (by unfold putB; simp; omega)
      have h1' : 1099511627776 < n := by omega
      go_enter Tryz.func53, Tryz.ntmps53
      go_wp2
      go_ret
      exact ⟨by rw [HV.out]; rfl, rfl⟩
  · have HV : Hid (putB n = false) := lid (by unfold putB; simp; omega)
    have h0' : n < 0 := by omega
    go_enter Tryz.func53, Tryz.ntmps53
    go_wp2
    go_ret
    exact ⟨by rw [HV.out]; rfl, rfl⟩

theorem ret_se {a b : ByteArray} {c d : Int} (h : a = b) (k : c = d) : Ending.returned (.tuple #[.string a, .int .i64 c]) = .returned (.tuple #[.string b, .int .i64 d]) := by rw [h, k]

set_option maxRecDepth 100000 in
set_option maxHeartbeats 2000000 in
theorem PutInt_any (n : Int) (w : World) :
    Calls Tryz.prog 34 #[.int .i64 n] w fun e w' => e = .returned (.tuple #[.string (bstr (putI n)), .int .i64 (putIE n)]) ∧ Below w.heap.size w w' := by
  cases hb : putB n with
  | false =>
    have H1 : Hid (putI n = []) := lid (by unfold putI; rw [hb]; rfl)
    have H2 : Hid (putIE n = 2) := lid (by unfold putIE; rw [hb]; rfl)
    have HB := lid hb
    clear hb
    go_enter Tryz.func34, Tryz.ntmps34
    go_wp2_with fail
    (with_reducible refine (inRange_any n _).mono ?_); rintro e w1 ⟨rfl, rfl⟩
    rw [HB.out]
    go_wp2_with fail
    go_ret2
    exact ⟨ret_se (by rw [H1.out]; rfl) H2.out.symm, Below.refl _ _⟩
  | true =>
    have H1 : Hid (putI n = putN n.toNat) := lid (by unfold putI; rw [hb]; rfl)
    have H2 : Hid (putIE n = 0) := lid (by unfold putIE; rw [hb]; rfl)
    have hr : 0 ≤ n ∧ n ≤ 1099511627776 := by simpa [putB] using hb
    obtain ⟨N, rfl⟩ := Int.eq_ofNat_of_zero_le hr.1
    have hN : N ≤ 1099511627776 := by omega
    have HB := lid hb
    clear hb hr
    go_enter Tryz.func34, Tryz.ntmps34
    go_wp2_with fail
    (with_reducible refine (inRange_any (N : Int) _).mono ?_); rintro e w1 ⟨rfl, rfl⟩
    rw [HB.out]
    go_wp2_with fail
    (with_reducible refine (writeInt_any w1.heap.size w1.heap.size N [] _ (Lib.fresh_isBuilder _ _ _) hN (by simp) (by simp)).mono ?_); rintro e w2 ⟨rfl, hB, hb2⟩
    have hb0 := ba w1 (Obj.cells #[Value.pointer none, Value.slice none 0 0] 102)
    have hb02 : Below w1.heap.size w1 w2 := hb0.trans hb2
    go_wp2_with fail
    (with_reducible refine (String_any w1.heap.size w1.heap.size (putN N) _ (by simpa [bvals, Lib.byteCells] using hB) (by have := hb02.size; omega)).mono ?_); rintro e w3 ⟨rfl, hb3⟩
    go_wp2_with fail
    go_ret2
    exact ⟨ret_se (by rw [H1.out]; rfl) H2.out.symm, hb02.trans hb3⟩

set_option maxRecDepth 100000 in
set_option maxHeartbeats 2000000 in
theorem PutText_any (s : ByteArray) (w : World) (hs : s.size ≤ maxLen) :
    Calls Tryz.prog 36 #[.string s] w fun e w' => e = .returned (.tuple #[.string (bstr (putX s.data.toList)), .int .i64 (putXE s.data.toList)]) ∧ Below w.heap.size w w' := by
  have hs' : s.size ≤ 9223372036854775807 := hs
  have hl : s.data.toList.length = s.size := rfl
  by_cases h : s.size ≤ 65536
  · have H1 : Hid (bstr (putX s.data.toList) = ⟨(putN s.size ++ s.data.toList).toArray⟩) := lid (by unfold putX; rw [hl, if_pos h]; rfl)
    have H2 : Hid (putXE s.data.toList = 0) := lid (by unfold putXE; rw [hl, if_pos h])
    have h6 := putN_six (n := s.size) (by omega)
    have H6 := lid h6
    clear h6 hl
    go_enter Tryz.func36, Tryz.ntmps36
    go_wp2_with fail
    (with_reducible refine (writeInt_any w.heap.size w.heap.size s.size [] _ (Lib.fresh_isBuilder _ _ _) (by omega) (by simp) (by simp)).mono ?_); rintro e w2 ⟨rfl, hB, hb2⟩
    have hb0 := ba w (Obj.cells #[Value.pointer none, Value.slice none 0 0] 102)
    have hb02 : Below w.heap.size w w2 := hb0.trans hb2
    go_wp2_with fail
    (with_reducible refine (WriteString_any w.heap.size w.heap.size ([] ++ bvals (putN s.size)) s _ hB (by have := H6.out; simp [bvals_length]; omega) (by have := hb02.size; omega)).mono ?_); rintro e w3 ⟨rfl, hB3, hb3, -⟩
    have hb03 := hb02.trans hb3
    go_wp2_with fail
    have hB4 : Bldr w.heap.size w.heap.size (Lib.byteCells (putN s.size ++ s.data.toList)) w3 := Or.inr (by simpa [bvals, Lib.byteCells, Lib.strCells] using hB3)
    (with_reducible refine (String_any w.heap.size w.heap.size (putN s.size ++ s.data.toList) _ hB4 (by have := hb03.size; omega)).mono ?_); rintro e w4 ⟨rfl, hb4⟩
    go_wp2_with fail
    go_ret2
    exact ⟨ret_se (by rw [H1.out]) H2.out.symm, hb03.trans hb4⟩
  · have H1 : Hid (putX s.data.toList = []) := lid (by unfold putX; rw [hl, if_neg h])
    have H2 : Hid (putXE s.data.toList = 4) := lid (by unfold putXE; rw [hl, if_neg h])
    clear hl
    have h' : 65536 < s.size := by omega
    go_enter Tryz.func36, Tryz.ntmps36
    go_wp2_with fail
    go_ret2
    exact ⟨ret_se (by rw [H1.out]; rfl) H2.out.symm, Below.refl _ _⟩
end Go.Proofs.YtefehgdckmajiaaGreatDoor

namespace Go.Proofs.YtefehgdckmajiaaGreatDoor

/-- One step of the first hash. -/
def stepA (h b : UInt64) : UInt64 := (h ^^^ b) * 1099511628211
/-- One step of the second hash. -/
def stepB (h b : UInt64) : UInt64 := (h * 1099511628211) ^^^ b
def byteU (c : UInt8) : UInt64 := UInt64.ofNat c.toNat
/-- A hash of bytes. -/
def hashU (f : UInt64 → UInt64 → UInt64) (l : List UInt8) : UInt64 := l.foldl (fun h c => f h (byteU c)) 14695981039346656037
/-- The digest of bytes. -/
def ofU (l : List UInt8) : UInt64 × UInt64 :=
  let d := (hashU stepA l, hashU stepB l)
  if d = (0, 0) then (0, 1) else d

theorem hashU_snoc (f : UInt64 → UInt64 → UInt64) (l : List UInt8) (c : UInt8) : hashU f (l ++ [c]) = f (hashU f l) (byteU c) := by simp [hashU]

theorem u64_lt (x : UInt64) : x.toNat < 18446744073709551616 := x.toNat_lt

theorem xor_u (x y : UInt64) : bits .xor .u64 (x.toNat : Int) (y.toNat : Int) = ((x ^^^ y).toNat : Int) := by
  rw [u64_xor_nat _ _ (u64_lt x) (u64_lt y)]; simp
theorem mul_u (x y : UInt64) : IntKind.u64.wrap ((x.toNat : Int) * (y.toNat : Int)) = ((x * y).toNat : Int) := by
  rw [IntKind.wrap_u64, UInt64.toNat_mul]; simp [Int.natCast_mul]

theorem stepA_val (h b : UInt64) : IntKind.u64.wrap (bits .xor .u64 (h.toNat : Int) (b.toNat : Int) * 1099511628211) = ((stepA h b).toNat : Int) := by
  rw [xor_u, stepA, ← mul_u]; rfl
theorem stepB_val (h b : UInt64) : bits .xor .u64 (IntKind.u64.wrap ((h.toNat : Int) * 1099511628211)) (b.toNat : Int) = ((stepB h b).toNat : Int) := by
  rw [stepB, ← xor_u, ← mul_u]; rfl

theorem ofU_zero {l : List UInt8} (h : (((hashU stepA l).toNat : Int) == 0) = true ∧ (((hashU stepB l).toNat : Int) == 0) = true) :
    ((hashU stepA l).toNat : Int) = (ofU l).1.toNat ∧ (1 : Int) = (ofU l).2.toNat := by
  have h1 : hashU stepA l = 0 := UInt64.toNat_inj.1 (by have := h.1; simp at this; simpa using this)
  have h2 : hashU stepB l = 0 := UInt64.toNat_inj.1 (by have := h.2; simp at this; simpa using this)
  have : ofU l = (0, 1) := by unfold ofU; rw [h1, h2]; rfl
  rw [this, h1]
  exact ⟨rfl, rfl⟩
theorem ofU_other {l : List UInt8} (h : (((hashU stepA l).toNat : Int) == 0) = false ∨ (((hashU stepB l).toNat : Int) == 0) = false) : ofU l = (hashU stepA l, hashU stepB l) := by
  unfold ofU
  rw [if_neg]
  intro e
  have h1 : hashU stepA l = 0 := congrArg Prod.fst e
  have h2 : hashU stepB l = 0 := congrArg Prod.snd e
  rw [h1, h2] at h
  simp at h

/-- Byte k of the sixteen bytes of two numbers. -/
def byteAt (x y : UInt64) (k : Nat) : UInt8 := UInt8.ofNat ((if k < 8 then x else y).toNat / 2 ^ (56 - 8 * (k % 8)))
/-- The bytes of a digest. -/
def bytesU (x y : UInt64) : List UInt8 := (List.range 16).map (byteAt x y)
theorem bytesU_length (x y : UInt64) : (bytesU x y).length = 16 := by simp [bytesU]
theorem bytesU_take (x y : UInt64) (k : Nat) (h : k < 16) : (bytesU x y).take (k + 1) = (bytesU x y).take k ++ [byteAt x y k] := by
  rw [List.take_succ_eq_append_getElem (by simpa [bytesU] using h)]
  simp [bytesU]

theorem byteAt_val {x y z : UInt64} {k : Nat} (h : z = if k < 8 then x else y) : ((z.toNat : Int) / 2 ^ (56 - 8 * (k % 8)) % 256) = ((byteAt x y k).toNat : Int) := by
  unfold byteAt
  rw [← h]
  simp

theorem byteAt_lo (x y : UInt64) {j : Nat} (h : j < 8) : ((x.toNat : Int) / 2 ^ (56 - 8 * j) % 256) = ((byteAt x y (8 * 0 + j)).toNat : Int) := by
  unfold byteAt
  rw [if_pos (by omega), show (8 * 0 + j) % 8 = j by omega]
  simp
theorem byteAt_hi (x y : UInt64) {j : Nat} (h : j < 8) : ((y.toNat : Int) / 2 ^ (56 - 8 * j) % 256) = ((byteAt x y (8 * 1 + j)).toNat : Int) := by
  unfold byteAt
  rw [if_neg (by omega), show (8 * 1 + j) % 8 = j by omega]
  simp

/-- A hexadecimal digit. -/
def hexDigit (n : Nat) : UInt8 := if n < 10 then UInt8.ofNat (48 + n) else UInt8.ofNat (87 + n)
/-- Digit k of the thirty-two of two numbers, as a number. -/
def nibAt (x y : UInt64) (k : Nat) : Nat := (if k < 16 then x else y).toNat / 2 ^ (60 - 4 * (k % 16)) % 16
/-- A digest as text. -/
def hexU (x y : UInt64) : List UInt8 := (List.range 32).map fun k => hexDigit (nibAt x y k)
theorem hexU_length (x y : UInt64) : (hexU x y).length = 32 := by simp [hexU]
theorem hexU_take (x y : UInt64) (k : Nat) (h : k < 32) : (hexU x y).take (k + 1) = (hexU x y).take k ++ [hexDigit (nibAt x y k)] := by
  rw [List.take_succ_eq_append_getElem (by simpa [hexU] using h)]
  simp [hexU]
theorem nibAt_lo (x y : UInt64) {j : Nat} (h : j < 16) : nibAt x y (16 * 0 + j) = x.toNat / 2 ^ (60 - 4 * j) % 16 := by
  unfold nibAt
  rw [if_pos (by omega), show (16 * 0 + j) % 16 = j by omega]
theorem nibAt_hi (x y : UInt64) {j : Nat} (h : j < 16) : nibAt x y (16 * 1 + j) = y.toNat / 2 ^ (60 - 4 * j) % 16 := by
  unfold nibAt
  rw [if_neg (by omega), show (16 * 1 + j) % 16 = j by omega]

theorem nib_bits (z : UInt64) (k : Nat) : bits .and .u64 ((z.toNat : Int) / 2 ^ k) 15 = ((z.toNat / 2 ^ k % 16 : Nat) : Int) := by
  have h1 : z.toNat / 2 ^ k < 18446744073709551616 := Nat.lt_of_le_of_lt (Nat.div_le_self _ _) (u64_lt z)
  rw [show ((z.toNat : Int) / 2 ^ k) = ((z.toNat / 2 ^ k : Nat) : Int) by simp, show (15 : Int) = ((15 : Nat) : Int) from rfl, u64_and_nat _ _ h1 (by omega), nat_mask4]
theorem hex_at {n : Nat} (h : n < 16) : ((({ data := #[48, 49, 50, 51, 52, 53, 54, 55, 56, 57, 97, 98, 99, 100, 101, 102] } : ByteArray)[n]'h).toNat : Int) = ((hexDigit n).toNat : Int) := by
  match n, h with
  | 0, _ => rfl | 1, _ => rfl | 2, _ => rfl | 3, _ => rfl | 4, _ => rfl | 5, _ => rfl | 6, _ => rfl | 7, _ => rfl
  | 8, _ => rfl | 9, _ => rfl | 10, _ => rfl | 11, _ => rfl | 12, _ => rfl | 13, _ => rfl | 14, _ => rfl | 15, _ => rfl
  | n + 16, h => exact absurd h (by omega)

theorem hexU_take2 (x y : UInt64) (k : Nat) (h : k < 16) : (hexU x y).take (2 * (k + 1)) = (hexU x y).take (2 * k) ++ [hexDigit ((byteAt x y k).toNat / 16), hexDigit ((byteAt x y k).toNat % 16)] := by
  have e1 : nibAt x y (2 * k) = (byteAt x y k).toNat / 16 := by
    unfold nibAt byteAt
    rcases Nat.lt_or_ge k 8 with h8 | h8
    · rw [if_pos (by omega), if_pos h8, show 60 - 4 * (2 * k % 16) = (56 - 8 * (k % 8)) + 4 by omega, Nat.pow_add]
      generalize 2 ^ (56 - 8 * (k % 8)) = m
      rw [← Nat.div_div_eq_div_mul]
      simp
      omega
    · rw [if_neg (by omega), if_neg (by omega), show 60 - 4 * (2 * k % 16) = (56 - 8 * (k % 8)) + 4 by omega, Nat.pow_add]
      generalize 2 ^ (56 - 8 * (k % 8)) = m
      rw [← Nat.div_div_eq_div_mul]
      simp
      omega
  have e2 : nibAt x y (2 * k + 1) = (byteAt x y k).toNat % 16 := by
    unfold nibAt byteAt
    rcases Nat.lt_or_ge k 8 with h8 | h8
    · rw [if_pos (by omega), if_pos h8, show 60 - 4 * ((2 * k + 1) % 16) = (56 - 8 * (k % 8)) by omega]
      simp
    · rw [if_neg (by omega), if_neg (by omega), show 60 - 4 * ((2 * k + 1) % 16) = (56 - 8 * (k % 8)) by omega]
      simp
  rw [show 2 * (k + 1) = 2 * k + 1 + 1 by omega, hexU_take x y (2 * k + 1) (by omega), hexU_take x y (2 * k) (by omega), e1, e2]
  simp

/-- The value of a hexadecimal digit, or 16. -/
def hexVal (c : UInt8) : Nat := if 48 ≤ c.toNat ∧ c.toNat ≤ 57 then c.toNat - 48 else if 97 ≤ c.toNat ∧ c.toNat ≤ 102 then c.toNat - 87 else 16
theorem hexVal_num {c : UInt8} (h1 : 48 ≤ c.toNat) (h2 : c.toNat ≤ 57) : hexVal c = c.toNat - 48 := by unfold hexVal; rw [if_pos ⟨h1, h2⟩]
theorem hexVal_let {c : UInt8} (h1 : 97 ≤ c.toNat) (h2 : c.toNat ≤ 102) : hexVal c = c.toNat - 87 := by unfold hexVal; rw [if_neg (by omega), if_pos ⟨h1, h2⟩]
theorem hexVal_not {c : UInt8} (h1 : ¬ (48 ≤ c.toNat ∧ c.toNat ≤ 57)) (h2 : ¬ (97 ≤ c.toNat ∧ c.toNat ≤ 102)) : hexVal c = 16 := by unfold hexVal; rw [if_neg h1, if_neg h2]
/-- The number that digits write. -/
def valHex (l : List UInt8) : Nat := l.foldl (fun a c => a * 16 + hexVal c) 0
theorem valHex_snoc (l : List UInt8) (c : UInt8) : valHex (l ++ [c]) = valHex l * 16 + hexVal c := by simp [valHex]
theorem valHex_lt (l : List UInt8) (h : ∀ c ∈ l, hexVal c < 16) : valHex l < 16 ^ l.length := by
  have : ∀ (l : List UInt8) (a n : Nat), (∀ c ∈ l, hexVal c < 16) → a < 16 ^ n → l.foldl (fun a c => a * 16 + hexVal c) a < 16 ^ (n + l.length) := by
    intro l
    induction l with
    | nil => intro a n _ h; simpa using h
    | cons c l ih =>
      intro a n hh ha
      have hc := hh c (by simp)
      have := ih (a * 16 + hexVal c) (n + 1) (fun d hd => hh d (by simp [hd])) (by rw [Nat.pow_succ]; omega)
      rw [List.foldl_cons, List.length_cons, show n + (l.length + 1) = n + 1 + l.length by omega]
      exact this
  have h0 := this l 0 0 h (by simp)
  rw [Nat.zero_add] at h0
  exact h0
/-- The digest of a text, and an error. -/
def parseE (l : List UInt8) : (UInt64 × UInt64) × Int :=
  if l.length = 32 ∧ ∀ c ∈ l, hexVal c < 16 then ((UInt64.ofNat (valHex (l.take 16)), UInt64.ofNat (valHex (l.drop 16))), 0) else ((0, 0), 3)
theorem parseE_len {l : List UInt8} (h : ¬ l.length = 32) : parseE l = ((0, 0), 3) := by unfold parseE; rw [if_neg (fun hh => h hh.1)]
theorem parseE_bad {l : List UInt8} {c : UInt8} (hc : c ∈ l) (h : hexVal c = 16) : parseE l = ((0, 0), 3) := by unfold parseE; rw [if_neg (fun hh => by have := hh.2 c hc; omega)]
theorem parseE_ok {l : List UInt8} (h : l.length = 32) (hh : ∀ c ∈ l, hexVal c < 16) : parseE l = ((UInt64.ofNat (valHex (l.take 16)), UInt64.ofNat (valHex (l.drop 16))), 0) := by unfold parseE; rw [if_pos ⟨h, hh⟩]
theorem or_nib {a v : Nat} (ha : a < 1152921504606846976) (hv : v < 16) : bits .or .u64 (IntKind.u64.wrap ((a : Int) * 16)) (v : Int) = ((a * 16 + v : Nat) : Int) := by
  rw [IntKind.wrap_u64, show ((a : Int) * 16 % 18446744073709551616) = ((a * 16 : Nat) : Int) by omega, u64_or_nat _ _ (by omega) (by omega), nat_join 4 (a * 16) v (by omega) (by omega)]
theorem valHex_bound {l : List UInt8} {m : Nat} (hh : ∀ c ∈ l, hexVal c < 16) (hk : l.length ≤ m) : valHex l < 16 ^ m :=
  Nat.lt_of_lt_of_le (valHex_lt _ hh) (Nat.pow_le_pow_right (by omega) hk)

theorem wrap_nib {a v : Nat} (ha : a < 1152921504606846976) (hv : v < 16) : IntKind.u64.wrap (IntKind.u64.wrap ((a : Int) * 16) + (v : Int)) = ((a * 16 + v : Nat) : Int) := by
  rw [IntKind.wrap_u64, IntKind.wrap_u64]
  omega

end Go.Proofs.YtefehgdckmajiaaGreatDoor

namespace Go.Proofs.YtefehgdckmajiaaGreatDoor
open Go.RowKit

/-- A digest: two numbers of 64 bits. -/
abbrev Dg := UInt64 × UInt64
/-- A digest as a value. -/
@[simp, reducible] def dv (d : Dg) : Value := .agg #[.int .u64 d.1.toNat, .int .u64 d.2.toNat]

/-- The greatest power of two below n. -/
def halfN (n : Nat) : Nat := 2 ^ Nat.log2 (n - 1)
theorem halfN_lt {n : Nat} (h : 2 ≤ n) : halfN n < n := by
  unfold halfN
  have := Nat.log2_self_le (n := n - 1) (by omega)
  omega
theorem halfN_pos (n : Nat) : 0 < halfN n := Nat.two_pow_pos _
theorem halfN_ge {n : Nat} (h : 2 ≤ n) : n ≤ 2 * halfN n := by
  unfold halfN
  have := Nat.lt_log2_self (n := n - 1)
  rw [Nat.pow_succ] at this
  omega
theorem halfN_eq {n k j : Nat} (hk : k = 2 ^ j) (h1 : k < n) (h2 : n ≤ 2 * k) : k = halfN n := by
  unfold halfN
  subst hk
  congr 1
  have hp := Nat.two_pow_pos j
  exact ((Nat.log2_eq_iff (by omega)).2 ⟨by omega, by rw [Nat.pow_succ]; omega⟩).symm

def leafD (d : Dg) : Dg := ofU (0 :: bytesU d.1 d.2)
def pairD (a b : Dg) : Dg := ofU (1 :: (bytesU a.1 a.2 ++ bytesU b.1 b.2))

/-- The root of the hash tree of a list. -/
def rootD (l : List Dg) : Dg :=
  if _h : 2 ≤ l.length then pairD (rootD (l.take (halfN l.length))) (rootD (l.drop (halfN l.length)))
  else match l with
    | [] => ofU []
    | d :: _ => leafD d
termination_by l.length
decreasing_by
  · have := halfN_lt _h; simp; omega
  · have := halfN_pos l.length; simp; omega

theorem rootD_nil : rootD [] = ofU [] := by rw [rootD]; simp
theorem rootD_one (d : Dg) : rootD [d] = leafD d := by rw [rootD]; simp
theorem rootD_more {l : List Dg} (h : 2 ≤ l.length) : rootD l = pairD (rootD (l.take (halfN l.length))) (rootD (l.drop (halfN l.length))) := by rw [rootD, dif_pos h]

/-- The proof of the place i. -/
def proofD (l : List Dg) (i : Nat) : List Dg :=
  if _h : 2 ≤ l.length then
    if i < halfN l.length then proofD (l.take (halfN l.length)) i ++ [rootD (l.drop (halfN l.length))]
    else proofD (l.drop (halfN l.length)) (i - halfN l.length) ++ [rootD (l.take (halfN l.length))]
  else []
termination_by l.length
decreasing_by
  · have := halfN_lt _h; simp; omega
  · have := halfN_pos l.length; simp; omega
theorem proofD_few {l : List Dg} (h : l.length < 2) (i : Nat) : proofD l i = [] := by rw [proofD, dif_neg (by omega)]
theorem proofD_lo {l : List Dg} {i : Nat} (h : 2 ≤ l.length) (hi : i < halfN l.length) : proofD l i = proofD (l.take (halfN l.length)) i ++ [rootD (l.drop (halfN l.length))] := by
  rw [proofD, dif_pos h, if_pos hi]
theorem proofD_hi {l : List Dg} {i : Nat} (h : 2 ≤ l.length) (hi : ¬ i < halfN l.length) : proofD l i = proofD (l.drop (halfN l.length)) (i - halfN l.length) ++ [rootD (l.take (halfN l.length))] := by
  rw [proofD, dif_pos h, if_neg hi]

theorem proofD_length (m : Nat) : ∀ (l : List Dg) (i : Nat), l.length ≤ m → (proofD l i).length ≤ l.length := by
  induction m with
  | zero => intro l i h; rw [proofD_few (by omega)]; simp
  | succ m ih =>
    intro l i h
    by_cases h2 : 2 ≤ l.length
    · have h0 := halfN_pos l.length
      have h1 := halfN_lt h2
      by_cases hi : i < halfN l.length
      · rw [proofD_lo h2 hi]
        have := ih (l.take (halfN l.length)) i (by simp; omega)
        simp at this ⊢; omega
      · rw [proofD_hi h2 hi]
        have := ih (l.drop (halfN l.length)) (i - halfN l.length) (by simp; omega)
        simp at this ⊢; omega
    · rw [proofD_few (by omega)]; simp

/-- The root that results from a digest and a proof; and whether the proof has the right length. -/
def resultD (n i : Nat) (d : Dg) (p : List Dg) : Dg × Bool :=
  if n = 1 then (leafD d, decide (p.length = 0))
  else if _h : p.length = 0 then ((0, 0), false)
  else if i < halfN n then (pairD (resultD (halfN n) i d p.dropLast).1 (p.getLastD (0, 0)), (resultD (halfN n) i d p.dropLast).2)
  else (pairD (p.getLastD (0, 0)) (resultD (n - halfN n) (i - halfN n) d p.dropLast).1, (resultD (n - halfN n) (i - halfN n) d p.dropLast).2)
termination_by p.length
decreasing_by all_goals (simp; omega)

theorem resultD_one (i : Nat) (d : Dg) (p : List Dg) : resultD 1 i d p = (leafD d, decide (p.length = 0)) := by rw [resultD]; simp
theorem resultD_nil {n : Nat} (h : n ≠ 1) (i : Nat) (d : Dg) : resultD n i d [] = ((0, 0), false) := by rw [resultD]; simp [h]
theorem resultD_lo {n i : Nat} (h : n ≠ 1) (hi : i < halfN n) (d : Dg) (q : List Dg) (e : Dg) : resultD n i d (q ++ [e]) = (pairD (resultD (halfN n) i d q).1 e, (resultD (halfN n) i d q).2) := by
  rw [resultD]
  simp only [h, if_false, List.length_append, List.length_cons, List.length_nil, hi, if_true, List.dropLast_concat]
  rw [dif_neg (by omega)]
  simp
theorem resultD_hi {n i : Nat} (h : n ≠ 1) (hi : ¬ i < halfN n) (d : Dg) (q : List Dg) (e : Dg) : resultD n i d (q ++ [e]) = (pairD e (resultD (n - halfN n) (i - halfN n) d q).1, (resultD (n - halfN n) (i - halfN n) d q).2) := by
  rw [resultD]
  simp only [h, if_false, List.length_append, List.length_cons, List.length_nil, hi, List.dropLast_concat]
  rw [dif_neg (by omega)]
  simp

/-- Two cells an element. -/
def dcells (l : List Dg) : List Value := l.flatMap fun d => [.int .u64 d.1.toNat, .int .u64 d.2.toNat]
theorem dcells_append (l m : List Dg) : dcells (l ++ m) = dcells l ++ dcells m := by simp [dcells]
theorem dcells_length (l : List Dg) : (dcells l).length = l.length * 2 := by
  induction l with
  | nil => rfl
  | cons d l ih => simp [dcells] at ih ⊢; omega

/-- In world w the cells from off on in block b hold the digests. -/
def DCells (w : World) (b off : Nat) (l : List Dg) : Prop :=
  ∀ j (h : j < l.length), w.cell? ⟨b, off + j * 2, none⟩ = some (.int .u64 (l[j]).1.toNat) ∧ w.cell? ⟨b, off + j * 2 + 1, none⟩ = some (.int .u64 (l[j]).2.toNat)
theorem DCells.take {w : World} {b off : Nat} {l : List Dg} (h : DCells w b off l) (k : Nat) : DCells w b off (l.take k) := fun j hj => by
  have : j < l.length := by simp at hj; omega
  simpa using h j this
theorem DCells.drop {w : World} {b off : Nat} {l : List Dg} (h : DCells w b off l) (k : Nat) : DCells w b (off + k * 2) (l.drop k) := fun j hj => by
  have hj' : k + j < l.length := by simp at hj; omega
  have := h (k + j) hj'
  rw [show off + k * 2 + j * 2 = off + (k + j) * 2 by omega]
  simpa using this
theorem DCells.below {w w' : World} {b off B : Nat} {l : List Dg} (h : DCells w b off l) (hb : Below B w w') (hB : b < B) : DCells w' b off l := fun j hj => by
  rw [hb.cell (p := ⟨b, _, none⟩) hB, hb.cell (p := ⟨b, _, none⟩) hB]
  exact h j hj
theorem DCells.at {w : World} {b off : Nat} {l : List Dg} (h : DCells w b off l) {j : Nat} (hj : j < l.length) : w.cell? ⟨b, off + j * 2, none⟩ = some (.int .u64 (l[j]).1.toNat) ∧ w.cell? ⟨b, off + j * 2 + 1, none⟩ = some (.int .u64 (l[j]).2.toNat) := h j hj
end Go.Proofs.YtefehgdckmajiaaGreatDoor

namespace Go.Proofs.YtefehgdckmajiaaGreatDoor
open Go.RowKit

/-- A record: time, who, what, data. -/
abbrev Rec := Int × ByteArray × ByteArray × ByteArray
def wordP (n : Int) : Prop := (97 ≤ n ∧ n ≤ 122) ∨ (65 ≤ n ∧ n ≤ 90) ∨ (48 ≤ n ∧ n ≤ 57) ∨ n = 46 ∨ n = 45 ∨ n = 95
instance (n : Int) : Decidable (wordP n) := by unfold wordP; infer_instance
def wordC (c : UInt8) : Bool := decide (wordP c.toNat)
/-- May this be Who or What? -/
def wordB (l : List UInt8) : Bool := decide (1 ≤ l.length ∧ l.length ≤ 24) && l.all wordC
theorem wordB_len {l : List UInt8} (h : ¬ (1 ≤ l.length ∧ l.length ≤ 24)) : wordB l = false := by unfold wordB; rw [decide_eq_false h]; rfl
theorem wordB_bad {l : List UInt8} {k : Nat} (h : k < l.length) (hc : ¬ wordP (l[k]).toNat) : wordB l = false := by
  unfold wordB
  rw [Bool.and_eq_false_iff]
  right
  rw [List.all_eq_false]
  exact ⟨l[k], List.getElem_mem h, by simpa [wordC] using hc⟩
theorem wordB_good {l : List UInt8} (h : 1 ≤ l.length ∧ l.length ≤ 24) (ha : l.all wordC = true) : wordB l = true := by unfold wordB; rw [decide_eq_true h, ha]; rfl
theorem all_succ {l : List UInt8} {k : Nat} (h : k < l.length) (ha : (l.take k).all wordC = true) (hc : wordP (l[k]).toNat) : (l.take (k + 1)).all wordC = true := by
  rw [List.take_succ_eq_append_getElem h, List.all_append, ha]
  simpa [wordC] using hc
/-- Is the record valid? -/
def recB (r : Rec) : Bool := decide (0 ≤ r.1 ∧ r.1 ≤ 1099511627776) && (wordB r.2.1.data.toList && (wordB r.2.2.1.data.toList && decide (r.2.2.2.size ≤ 65536)))
/-- A record's text. -/
def recL (r : Rec) : List UInt8 := putI r.1 ++ putX r.2.1.data.toList ++ putX r.2.2.1.data.toList ++ putX r.2.2.2.data.toList
/-- A record's digest. -/
def recD (r : Rec) : Dg := ofU (recL r)
/-- Why a ledger is not valid. -/
def chkGo : Option Int → List Rec → Int
  | _, [] => 0
  | none, r :: l => if recB r then chkGo (some r.1) l else 1
  | some p, r :: l => if recB r then (if r.1 < p then 10 else chkGo (some r.1) l) else 1
def checkL (l : List Rec) : Int := if l.length ≤ 10000 then chkGo none l else 19
/-- A record as a value. -/
abbrev rv (r : Rec) : Value := .agg #[.int .i64 r.1, .string r.2.1, .string r.2.2.1, .string r.2.2.2]
def rcells (l : List Rec) : List Value := l.flatMap fun r => [.int .i64 r.1, .string r.2.1, .string r.2.2.1, .string r.2.2.2]
theorem rcells_append (a b : List Rec) : rcells (a ++ b) = rcells a ++ rcells b := by simp [rcells]
theorem rcells_length (l : List Rec) : (rcells l).length = l.length * 4 := by
  induction l with
  | nil => rfl
  | cons r l ih => simp [rcells] at ih ⊢; omega
theorem rcells_at {l : List Rec} {j : Nat} (h : j < l.length) : (rcells l)[j * 4 + 0]? = some (.int .i64 (l[j]).1) ∧ (rcells l)[j * 4 + 1]? = some (.string (l[j]).2.1) ∧ (rcells l)[j * 4 + 2]? = some (.string (l[j]).2.2.1) ∧ (rcells l)[j * 4 + 3]? = some (.string (l[j]).2.2.2) := by
  induction l generalizing j with
  | nil => simp at h
  | cons d l ih =>
    cases j with
    | zero => simp [rcells]
    | succ j =>
      have := ih (j := j) (by simpa using h)
      rw [show (j + 1) * 4 + 0 = j * 4 + 0 + 4 by omega, show (j + 1) * 4 + 1 = j * 4 + 1 + 4 by omega, show (j + 1) * 4 + 2 = j * 4 + 2 + 4 by omega, show (j + 1) * 4 + 3 = j * 4 + 3 + 4 by omega]
      simpa [rcells] using this
theorem rcells_take (l : List Rec) (k : Nat) : (rcells l).take (k * 4) = rcells (l.take k) := by
  induction l generalizing k with
  | nil => simp [rcells]
  | cons d l ih =>
    cases k with
    | zero => simp [rcells]
    | succ k =>
      have := ih k
      rw [show (k + 1) * 4 = k * 4 + 4 by omega]
      simpa [rcells] using this
end Go.Proofs.YtefehgdckmajiaaGreatDoor

namespace Go.Proofs.YtefehgdckmajiaaGreatDoor
open Go.RowKit

theorem ret_bool' {a b : Bool} (h : a = b) : Ending.returned (.bool a) = .returned (.bool b) := by rw [h]
theorem dot1 : (⟨#[46]⟩ : ByteArray).toList = [46] := by rw [ByteArray.toList_eq]
theorem dot2 : (⟨#[46, 46]⟩ : ByteArray).toList = [46, 46] := by rw [ByteArray.toList_eq]
/-- May this be a name? -/
def nameB (s : ByteArray) : Bool := wordB s.data.toList && (!decide (s = ⟨#[46]⟩) && !decide (s = ⟨#[46, 46]⟩))
theorem nameB_word {s : ByteArray} (h : wordB s.data.toList = false) : nameB s = false := by unfold nameB; rw [h]; rfl
theorem nameB_one {s : ByteArray} (h : s = ⟨#[46]⟩) : nameB s = false := by unfold nameB; rw [decide_eq_true h]; simp
theorem nameB_two {s : ByteArray} (h : s = ⟨#[46, 46]⟩) : nameB s = false := by unfold nameB; rw [decide_eq_true h]; simp
theorem nameB_good {s : ByteArray} (h : wordB s.data.toList = true) (h1 : ¬ s = ⟨#[46]⟩) (h2 : ¬ s = ⟨#[46, 46]⟩) : nameB s = true := by unfold nameB; rw [h, decide_eq_false h1, decide_eq_false h2]; rfl

set_option maxRecDepth 100000 in
set_option maxHeartbeats 4000000 in
theorem letter_any (c : UInt8) (w : World) : Calls Tryz.prog 72 #[.int .u8 c.toNat] w fun e w' => e = .returned (.bool (wordC c)) ∧ w' = w := by
  go_enter Tryz.func72, Tryz.ntmps72
  go_wp2_with fail
  all_goals (go_ret; exact ⟨ret_bool' (by unfold wordC wordP; grind), rfl⟩)

set_option maxRecDepth 100000 in
set_option maxHeartbeats 4000000 in
theorem valid_any (s : ByteArray) (w : World) (hs : s.size ≤ maxLen) :
    Calls Tryz.prog 56 #[.string s] w fun e w' => e = .returned (.bool (nameB s)) ∧ w' = w := by
  have hs' : s.size ≤ 9223372036854775807 := hs
  have hN : s.data.toList.length = s.size := rfl
  by_cases h1 : s.size < 1
  · have HV := lid (nameB_word (wordB_len (l := s.data.toList) (by omega)))
    have t1 : decide ((s.size : Int) < 1) = true := by simp; omega
    have t2 : (s.size : Int) < 1 := by omega
    go_enter Tryz.func56, Tryz.ntmps56
    go_wp2_with fail
    go_ret
    exact ⟨ret_bool' HV.out.symm, rfl⟩
  have t1 : decide ((s.size : Int) < 1) = false := by simp; omega
  by_cases h2 : 24 < s.size
  · have HV := lid (nameB_word (wordB_len (l := s.data.toList) (by omega)))
    have t2 : decide ((24 : Int) < s.size) = true := by simp; omega
    have t3 : (24 : Int) < s.size := by omega
    go_enter Tryz.func56, Tryz.ntmps56
    go_wp2_with fail
    go_ret
    exact ⟨ret_bool' HV.out.symm, rfl⟩
  have t2 : decide ((24 : Int) < s.size) = false := by simp; omega
  by_cases e1 : s = ⟨#[46]⟩
  · have HV := lid (nameB_one e1)
    have u1 := str_eq e1
    rw [dot1] at u1
    go_enter Tryz.func56, Tryz.ntmps56
    go_wp2_with fail
    go_ret
    exact ⟨ret_bool' HV.out.symm, rfl⟩
  have u1 := str_ne e1
  rw [dot1] at u1
  by_cases e2 : s = ⟨#[46, 46]⟩
  · have HV := lid (nameB_two e2)
    have u2 := str_eq e2
    rw [dot2] at u2
    go_enter Tryz.func56, Tryz.ntmps56
    go_wp2_with fail
    go_ret
    exact ⟨ret_bool' HV.out.symm, rfl⟩
  have u2 := str_ne e2
  rw [dot2] at u2
  have CL := lid (fun c w => letter_any c w)
  have HG0 := lid (fun h => nameB_good (s := s) h e1 e2)
  go_enter Tryz.func56, Tryz.ntmps56
  go_wp2_with fail
  go_loop [3, 22] (fun _ i => ∃ k : Nat, k ≤ s.size ∧ i = .int .i64 k ∧ Hid ((s.data.toList.take k).all wordC = true)) (fun _ i => s.size - (intOf i).toNat)
  case atStart => exact ⟨0, Nat.zero_le _, rfl, lid rfl⟩
  case round =>
    obtain ⟨k, hk, rfl, HA⟩ := hrel
    by_cases hlt : k < s.size
    · have hlt' : k < s.data.toList.length := hlt
      obtain ⟨c, hc⟩ : ∃ c, s[k]'hlt = c := ⟨_, rfl⟩
      have hcl : s.data.toList[k] = c := by rw [← hc]; rfl
      have HB := lid (fun h => wordB_bad hlt' (k := k) h)
      have HG := lid (fun h => all_succ hlt' HA.out h)
      rw [hcl] at HB HG
      clear hcl
      go_wp2_with fail
      (with_reducible refine (CL.out c _).mono ?_); rintro e w1 ⟨rfl, rfl⟩
      by_cases hw : wordP c.toNat
      · have hwc : wordC c = true := by unfold wordC; exact decide_eq_true hw
        rw [hwc]
        go_wp2_with fail
        go_round
        case rel => exact ⟨k + 1, by omega, by go_num, lid (HG.out hw)⟩
        case measure => simp [intOf]; omega
      · have hwc : wordC c = false := by unfold wordC; exact decide_eq_false hw
        rw [hwc]
        have HV := lid (nameB_word (HB.out hw))
        go_wp2_with fail
        go_ret
        exact ⟨ret_bool' HV.out.symm, rfl⟩
    · obtain rfl : k = s.size := by omega
      have HV := lid (HG0.out (wordB_good (l := s.data.toList) (by omega) (by have := HA.out; rwa [List.take_of_length_le (by rw [hN]; exact Nat.le_refl _)] at this)))
      go_wp2_with fail
      go_ret
      exact ⟨ret_bool' HV.out.symm, rfl⟩

end Go.Proofs.YtefehgdckmajiaaGreatDoor

namespace Go.Proofs.YtefehgdckmajiaaGreatDoor
theorem info_u64 : ∃ i, Tryz.prog.info? 84 = some i := by
  have h : (Tryz.prog.info? 84).map (fun i => i.size) = some 1 := by kernel_rfl
  cases hi : Tryz.prog.info? 84 with
  | none => rw [hi] at h; cases h
  | some i => exact ⟨i, rfl⟩
theorem cells_u64 : Tryz.prog.cellsOf 84 = 1 := by kernel_rfl
theorem plain_u64 : Tryz.prog.plainKey 84 = true := by kernel_rfl

@[go_sem] theorem run_eq_digest (d : Nat) (w : World) (a b c e : Int) :
    (Op.equalIn (d + 2) 86 (.agg #[.int .u64 a, .int .u64 b]) (.agg #[.int .u64 c, .int .u64 e])).run Tryz.prog w = .ok (a == c && b == e) w := by
  obtain ⟨i, hi⟩ := info_u64
  rw [run_equalIn_array (w := w) (d + 1) _ _ Tryz.underlying86 hi, cells_u64]
  simp only [show List.range 2 = [0, 1] from rfl, Op.eqItems, Sem.run_bind, run_part_plain plain_u64 (w := w) (v := .int .u64 a) (off := 0 * 1) (xs := #[.int .u64 a, .int .u64 b]) rfl,
    run_part_plain plain_u64 (w := w) (v := .int .u64 c) (off := 0 * 1) (xs := #[.int .u64 c, .int .u64 e]) rfl, Result.andThen_ok, run_equalIn_int _ _ _ _ _ _ _ Tryz.underlying84]
  cases a == c
  · simp
  · simp only [Bool.not_true, Bool.false_eq_true, if_false, Sem.run_bind, run_part_plain plain_u64 (w := w) (v := .int .u64 b) (off := 1 * 1) (xs := #[.int .u64 a, .int .u64 b]) rfl,
      run_part_plain plain_u64 (w := w) (v := .int .u64 e) (off := 1 * 1) (xs := #[.int .u64 c, .int .u64 e]) rfl, Result.andThen_ok, run_equalIn_int _ _ _ _ _ _ _ Tryz.underlying84]
    cases b == e <;> simp
theorem eq_digest_10000 (w : World) (a b c e : Int) :
    (Op.equalIn 10000 86 (.agg #[.int .u64 a, .int .u64 b]) (.agg #[.int .u64 c, .int .u64 e])).run Tryz.prog w = .ok (a == c && b == e) w := run_eq_digest 9998 w a b c e
attribute [go_sem] eq_digest_10000
end Go.Proofs.YtefehgdckmajiaaGreatDoor

namespace Go.Proofs.YtefehgdckmajiaaGreatDoor
open Go.RowKit

theorem ret_u64 {a b : Int} (h : a = b) : Ending.returned (.int .u64 a) = .returned (.int .u64 b) := by rw [h]

end Go.Proofs.YtefehgdckmajiaaGreatDoor

namespace Go.Proofs.YtefehgdckmajiaaGreatDoor
open Go.RowKit
theorem ret_string {a b : ByteArray} (h : a = b) : Ending.returned (.string a) = .returned (.string b) := by rw [h]
theorem info_u8 : (Tryz.prog.info? 5).map (fun i => (i.zero, i.size, i.bytes)) = some (some (.int .u8 0), 1, 1) := by kernel_rfl

end Go.Proofs.YtefehgdckmajiaaGreatDoor

namespace Go.Proofs.YtefehgdckmajiaaGreatDoor
open Go.RowKit
end Go.Proofs.YtefehgdckmajiaaGreatDoor

namespace Go.Proofs.YtefehgdckmajiaaGreatDoor
open Go.RowKit

end Go.Proofs.YtefehgdckmajiaaGreatDoor

namespace Go.Proofs.YtefehgdckmajiaaGreatDoor
open Go.RowKit



end Go.Proofs.YtefehgdckmajiaaGreatDoor

namespace Go.Proofs.YtefehgdckmajiaaGreatDoor
open Go.RowKit

end Go.Proofs.YtefehgdckmajiaaGreatDoor

namespace Go.Proofs.YtefehgdckmajiaaGreatDoor
open Go.RowKit

/-- The slice value of a list of digests: where it has elements, their cells lie there. -/
def DSl (w : World) (ao : Option Addr) (p : List Dg) : Prop := p.length = 0 ∨ ∃ b off, ao = some ⟨b, off, none⟩ ∧ b < w.heap.size ∧ DCells w b off p
theorem DSl.below {w w' : World} {ao : Option Addr} {p : List Dg} (h : DSl w ao p) (hb : Below w.heap.size w w') : DSl w' ao p :=
  h.imp id fun ⟨b, off, e, hlt, hc⟩ => ⟨b, off, e, Nat.lt_of_lt_of_le hlt hb.size, hc.below hb hlt⟩

end Go.Proofs.YtefehgdckmajiaaGreatDoor

namespace Go.Proofs.YtefehgdckmajiaaGreatDoor
open Go.RowKit

/-- An entry: name, dir, digest. -/
abbrev Ent := ByteArray × Bool × Dg
structure Ob where
  kind : Int
  data : ByteArray
  ents : List Ent
  tree : Dg
  pars : List Dg
  auth : ByteArray
  time : Int
  msg : ByteArray
def ecells (l : List Ent) : List Value := l.flatMap fun e => [.string e.1, .bool e.2.1, .int .u64 e.2.2.1.toNat, .int .u64 e.2.2.2.toNat]
theorem ecells_length (l : List Ent) : (ecells l).length = l.length * 4 := by
  induction l with
  | nil => rfl
  | cons r l ih => simp [ecells] at ih ⊢; omega
theorem ecells_at {l : List Ent} {j : Nat} (h : j < l.length) : (ecells l)[j * 4 + 0]? = some (.string (l[j]).1) ∧ (ecells l)[j * 4 + 1]? = some (.bool (l[j]).2.1) ∧ (ecells l)[j * 4 + 2]? = some (.int .u64 (l[j]).2.2.1.toNat) ∧ (ecells l)[j * 4 + 3]? = some (.int .u64 (l[j]).2.2.2.toNat) := by
  induction l generalizing j with
  | nil => simp at h
  | cons d l ih =>
    cases j with
    | zero => simp [ecells]
    | succ j =>
      have := ih (j := j) (by simpa using h)
      rw [show (j + 1) * 4 + 0 = j * 4 + 0 + 4 by omega, show (j + 1) * 4 + 1 = j * 4 + 1 + 4 by omega, show (j + 1) * 4 + 2 = j * 4 + 2 + 4 by omega, show (j + 1) * 4 + 3 = j * 4 + 3 + 4 by omega]
      simpa [ecells] using this
/-- Is a name not behind another one? -/
def leB (a b : ByteArray) : Bool := Op.bytesLess a.toList b.toList || a.toList == b.toList
/-- Is a digest zero? -/
def zeroB (d : Dg) : Bool := decide (d = (0, 0))
/-- Why entries are not valid, apart from their number. -/
def entsGo : Option ByteArray → List Ent → Int
  | _, [] => 0
  | p, e :: l => if nameB e.1 = true then (if (match p with | some q => leB e.1 q | none => false) = true then 10 else if zeroB e.2.2 = true then 1 else entsGo (some e.1) l) else 6
def entsE (l : List Ent) : Int := if l.length ≤ 200 then entsGo none l else 4
theorem ents_name {p : Option ByteArray} {e : Ent} {l : List Ent} (h : nameB e.1 = false) : entsGo p (e :: l) = 6 := by simp [entsGo, h]
theorem ents_order {q : ByteArray} {e : Ent} {l : List Ent} (h : nameB e.1 = true) (ho : leB e.1 q = true) : entsGo (some q) (e :: l) = 10 := by simp [entsGo, h, ho]
theorem ents_zero {p : Option ByteArray} {e : Ent} {l : List Ent} (h : nameB e.1 = true) (ho : ∀ q, p = some q → leB e.1 q = false) (hz : zeroB e.2.2 = true) : entsGo p (e :: l) = 1 := by
  cases p with
  | none => simp [entsGo, h, hz]
  | some q => simp [entsGo, h, ho q rfl, hz]
theorem ents_next {p : Option ByteArray} {e : Ent} {l : List Ent} (h : nameB e.1 = true) (ho : ∀ q, p = some q → leB e.1 q = false) (hz : zeroB e.2.2 = false) : entsGo p (e :: l) = entsGo (some e.1) l := by
  cases p with
  | none => simp [entsGo, h, hz]
  | some q => simp [entsGo, h, ho q rfl, hz]
/-- The order of bytes is total. -/
theorem less_total : ∀ (a b : List UInt8), (!Op.bytesLess a b) = (Op.bytesLess b a || b == a)
  | [], [] => rfl
  | [], _ :: _ => rfl
  | _ :: _, [] => rfl
  | x :: a, y :: b => by
    have ih := less_total a b
    unfold Op.bytesLess
    by_cases h1 : x < y
    · have h2 : ¬ y < x := by intro h; exact absurd (UInt8.lt_trans h1 h) (UInt8.lt_irrefl x)
      have h3 : ¬ y = x := by intro h; subst h; exact UInt8.lt_irrefl _ h1
      simp [h1, h2, h3]
    · by_cases h2 : y < x
      · have h3 : ¬ x = y := by intro h; subst h; exact UInt8.lt_irrefl _ h2
        simp [h1, h2, h3]
      · have h3 : x = y := UInt8.le_antisymm (UInt8.not_lt.1 h2) (UInt8.not_lt.1 h1)
        subst h3
        have hx : ¬ x < x := UInt8.lt_irrefl x
        simp only [hx, decide_false, Bool.false_or, beq_self_eq_true, Bool.true_and]
        rw [ih]
        simp
theorem ge_le (a b : ByteArray) : (!Op.bytesLess a.toList b.toList) = leB b a := less_total _ _
end Go.Proofs.YtefehgdckmajiaaGreatDoor

namespace Go.Proofs.YtefehgdckmajiaaGreatDoor
open Go.RowKit
theorem cell_new_at {w : World} {n : Nat} (h : w.heap.size = n) (cs : Array Value) (t : TypeId) (o : Nat) : (w.alloc (.cells cs t)).cell? ⟨n, o, none⟩ = cs[o]? := by
  subst h
  exact cell_of_row _ _ _ cs t (0, 0) (heap_alloc_new w _)
theorem cell_old_at {w : World} {b : Nat} (h : b < w.heap.size) (ob : Obj) (o : Nat) : (w.alloc ob).cell? ⟨b, o, none⟩ = w.cell? ⟨b, o, none⟩ := bc (ba w ob) h o
end Go.Proofs.YtefehgdckmajiaaGreatDoor
