/-
  CodPut Get GetI GetT.
-/
import Derived.Test.YtphjillihapbfaaGreatDoorGrpD
import Derived.Test.YtphjillihapbfaaGreatDoorSl
namespace Go.Proofs.YtphjillihapbfaaGreatDoor
open Go.RowKit Go.Shelf
attribute [local go_sem] Oper.semAt_some

theorem digits_fn (n : Int) (w : World) :
    Calls Tryz.prog 132 #[.int .i64 n] w fun e w' => e = .returned (.func (.func 136) #[] #[.pointer (some ⟨w.heap.size, 0, none⟩)]) ∧ w' = w.alloc (.cells #[.int .i64 n] 3) := by
  go_enter Tryz.func132, Tryz.ntmps132
  go_wp2
  go_ret
  exact ⟨rfl, rfl⟩

theorem bld_parts {B b : Nat} {bs : List Value} {w : World} (h : Bldr B b bs w) : B ≤ b ∧ ∃ p v, w.heap[b]? = some (.cells #[p, v] 174 (0, 0)) ∧ w.ownsRow B 5 1 v bs.length bs ∧ v.ownBlock ≠ some b ∧ (p = .pointer none ∨ p = .pointer (some ⟨b, 0, none⟩)) := by
  rcases h with ⟨hB, v, h1, h2, h3⟩ | ⟨hB, v, h1, h2, h3⟩
  · exact ⟨hB, _, v, h1, h2, h3, .inl rfl⟩
  · exact ⟨hB, _, v, h1, h2, h3, .inr rfl⟩
theorem bld_lt {B b : Nat} {bs : List Value} {w : World} (h : Bldr B b bs w) : b < w.heap.size := by
  obtain ⟨_, p, v, hb, _⟩ := bld_parts h
  exact (Array.getElem?_eq_some_iff.1 hb).1
/-- A builder stays where its two blocks stay. -/
theorem bld_kept {B b : Nat} {bs : List Value} {w w' : World} {row : Option Nat} (h : Bldr B b bs w) (hg : w.grownBy w' row) (hr : ∀ r, row = some r → ∃ o : Obj, w.heap[r]? = some o ∧ o.isCells = false) : Bldr B b bs w' := by
  obtain ⟨hB, p, v, hb, hown, hne, hp⟩ := bld_parts h
  have h1 : w'.heap[b]? = some (.cells #[p, v] 174 (0, 0)) := (hg.block b (bld_lt h) (fun e => by obtain ⟨o, ho, hc⟩ := hr b e.symm; rw [hb] at ho; cases ho; cases hc)).trans hb
  have h2 : w'.ownsRow B 5 1 v bs.length bs := by
    refine hown.kept hg ?_
    cases hv : v.ownBlock with
    | none => exact .inl rfl
    | some g =>
      right
      intro e
      obtain ⟨c, fz, hgc⟩ := own_kind hown g hv
      obtain ⟨o, ho, hc⟩ := hr g e.symm
      rw [hgc] at ho
      cases ho
      cases hc
  rcases hp with rfl | rfl
  · exact .inl ⟨hB, v, h1, h2, hne⟩
  · exact .inr ⟨hB, v, h1, h2, hne⟩
/-- A store into a block of another type. -/
theorem bld_set {B b bn : Nat} {bs : List Value} {w : World} {t : TypeId} {x : Value} (h : Bldr B b bs w) (hn : w.heap[bn]? = some (.cells #[x] t (0, 0))) (h1 : t ≠ 174) (h2 : t ≠ 5) (u : Value) : Bldr B b bs (w.setCell ⟨bn, 0, none⟩ u) := by
  obtain ⟨hB, p, v, hb, hown, hne, hp⟩ := bld_parts h
  have hbb : b ≠ bn := by rintro rfl; rw [hn] at hb; simp at hb
  have e1 : (w.setCell ⟨bn, 0, none⟩ u).heap[b]? = some (.cells #[p, v] 174 (0, 0)) := (Below.heap_setCell _ _ _ _ hbb).trans hb
  have e2 : (w.setCell ⟨bn, 0, none⟩ u).ownsRow B 5 1 v bs.length bs := by
    refine hown.kept (grownBy_setCell' w bn u) (.inr fun e => ?_)
    obtain ⟨c, fz, hgc⟩ := own_kind hown bn e
    rw [hn] at hgc
    cases hgc
    exact h2 rfl
  rcases hp with rfl | rfl
  · exact .inl ⟨hB, v, e1, e2, hne⟩
  · exact .inr ⟨hB, v, e1, e2, hne⟩
theorem bld_alloc {B b : Nat} {bs : List Value} {w : World} (h : Bldr B b bs w) (o : Obj) : Bldr B b bs (w.alloc o) := bld_kept h (World.grownBy_alloc w o none) (fun r e => by cases e)
theorem bld_put {B b : Nat} {bs : List Value} {w : World} (h : Bldr B b bs w) {D : Nat} {o o' : Obj} (hD : w.heap[D]? = some o) (hc : o.isCells = false) : Bldr B b bs (w.putObj D o') := bld_kept h (grownBy_putObj' w D o') (fun r e => by cases e; exact ⟨o, hD, hc⟩)
theorem boxed_others {e : TypeId} {b k : Nat} {w w' : World} {t : TypeId} {v : Value} (h : Boxed w k t v) (ho : Lib.OthersKept e (some b) w w') (hb : k ≠ b) (ht : t ≠ e) : Boxed w' k t v :=
  ho k _ h (by simpa using hb) (by intro c fz hh; cases hh; exact ht rfl)
theorem keeps_others {e : TypeId} {b : Nat} {w w' : World} {cs : Array Value} {t : TypeId} {fz : Nat × Nat} (ho : Lib.OthersKept e (some b) w w') (hb : w.heap[b]? = some (.cells cs t fz)) (hs : w.heap.size ≤ w'.heap.size) : KeepsOthers w w' :=
  ⟨hs, fun k o hk hc => ho k o hk (by intro e; cases e; rw [hb] at hk; cases hk; cases hc) (by intro c fz hh; subst hh; cases hc)⟩

/-- What holds between two rounds of writeInt. -/
def PutI (B b k : Nat) (bs : List Value) (W0 : World) (pre : List UInt8) (W : World) : Prop :=
  Bldr B b (bs ++ bvals pre) W ∧ Boxed W k 172 (.pointer (some ⟨b, 0, none⟩)) ∧ (∃ x, Boxed W (k + 1) 3 x) ∧ Below B W0 W ∧ W0.heap.size ≤ W.heap.size

set_option maxRecDepth 100000 in
set_option maxHeartbeats 4000000 in
theorem writeInt_any (B b N : Nat) (bs : List Value) (w : World) (h : Bldr B b bs w) (hN : N ≤ 1099511627776) (hlen : bs.length ≤ 70368744177664) (hBw : B ≤ w.heap.size) :
    Calls Tryz.prog 121 #[.pointer (some ⟨b, 0, none⟩), .int .i64 N] w fun e w' => e = .returned (.tuple #[]) ∧ Bldr B b (bs ++ bvals (putN N)) w' ∧ Below B w w' := by
  have hN9 : N ≤ 9223372036854775807 := by omega
  have hblt := bld_lt h
  have hBb := (bld_parts h).1
  refine (callsIn_wide (n := 3)).1 ?_
  refine callsIn_of_wp_marks Tryz.func121 rfl trivial ?_ rfl
  simp only [Tryz.ntmps121, List.size_toArray, List.length_cons, List.length_nil, Nat.reduceAdd, Nat.reduceSub, Array.replicate_succ, Array.replicate_zero, List.push_toArray, List.append_toArray, List.nil_append, List.cons_append]
  gi_wp2_with fail
  refine ⟨trivial, (callsIn_wide.2 (digits_fn N _)).mono ?_⟩
  rintro e w' ⟨rfl, rfl⟩
  gi_wp2_with fail
  have bO := (Boxed.new w 172 (.pointer (some ⟨b, 0, none⟩))).alloc (Obj.cells #[.int .i64 N] 3)
  have bN := Boxed.new (w.alloc (Obj.cells #[.pointer (some ⟨b, 0, none⟩)] 172)) 3 (.int .i64 N)
  have hB2 := bld_alloc (bld_alloc h (Obj.cells #[.pointer (some ⟨b, 0, none⟩)] 172)) (Obj.cells #[.int .i64 N] 3)
  obtain ⟨W0, hW0⟩ : ∃ W0, (w.alloc (Obj.cells #[.pointer (some ⟨b, 0, none⟩)] 172)).alloc (Obj.cells #[.int .i64 N] 3) = W0 := ⟨_, rfl⟩
  have hsz : W0.heap.size = w.heap.size + 2 := by rw [← hW0]; simp
  have hb0 : Below B w W0 := by rw [← hW0]; exact ((Below.refl _ _).alloc hBw _).alloc (by simp; omega) _
  rw [World.size_alloc] at bN
  rw [hW0] at bO bN hB2 ⊢
  clear hW0
  refine wpIn_rangeFunc_box rfl (by omega) (gf := 136) (lb := #[.pointer (some ⟨w.heap.size + 1, 0, none⟩)]) rfl trivial (enters_of Tryz.func136 (by kernel_rfl) rfl)
    (digits_box Fence.wide _ trivial rfl (by omega) (w.heap.size + 1) N W0 hN9 bN) (by omega) (fun _ => rfl)
    (PutI B b w.heap.size bs W0)
    ?hI ?hIs ⟨by simpa [bvals] using hB2, bO, ⟨_, bN⟩, Below.refl _ _, Nat.le_refl _⟩
    (fun x => { tmps := #[.pointer (some ⟨b, 0, none⟩), .int .i64 N, .pointer (some ⟨w.heap.size, 0, none⟩), undef, .int .u8 x.toNat, .int .i64 N, .func (.func 136) #[] #[.pointer (some ⟨w.heap.size + 1, 0, none⟩)], .int .u8 x.toNat, undef, undef, undef], defers := [] }) ?assign ?body ?done
  case hI =>
    rintro s W W' row ⟨h1, h2, ⟨x, h3⟩, h4, h5⟩ hg hr
    have hr' : ∀ r, row = some r → ∃ o : Obj, W.heap[r]? = some o ∧ o.isCells = false := fun r e => (hr r e).2
    refine ⟨bld_kept h1 hg hr', h2.kept hg (fun e => ?_), ⟨x, h3.kept hg (fun e => ?_)⟩, h4.grown hg (by omega) (fun k e => by have := (hr k e).1; omega), Nat.le_trans h5 hg.size⟩
    · obtain ⟨o, ho, hc⟩ := hr' _ e.symm
      rw [show W.heap[_]? = _ from h2] at ho; cases ho; cases hc
    · obtain ⟨o, ho, hc⟩ := hr' _ e.symm
      rw [show W.heap[_]? = _ from h3] at ho; cases ho; cases hc
  case hIs =>
    rintro s W v ⟨h1, h2, ⟨x, h3⟩, h4, h5⟩
    exact ⟨bld_set h1 h3 (by decide) (by decide) v, (Below.heap_setCell _ _ _ _ (by simp)).trans h2, ⟨v, h3.set v⟩, h4.setCell (p := ⟨w.heap.size + 1, 0, none⟩) (by show B ≤ w.heap.size + 1; omega) _, by rw [World.size_setCell]; exact h5⟩
  case assign =>
    intro l x W K hK
    gi_wp2
    exact hK
  case body =>
    rintro l pre x W ⟨h1, h2, ⟨y, h3⟩, h4, h5⟩ hlt
    have hc := h2.cell
    have hl6 := putN_six hN
    have HL6 := lid hl6
    have HLT := lid hlt
    clear hl6 hlt
    gi_wp2_with fail
    refine ⟨trivial, ?_⟩
    refine (CallsIn.inRound l (callsIn_wide.2 (WriteByte_any B b (bs ++ bvals pre) (x.toNat : Int) W h1 ?_ ?_))).mono ?_
    · rw [List.length_append, bvals_length]
      have := HL6.out
      have := HLT.out
      omega
    · omega
    rintro e W1 ⟨rfl, hU, hb1, hk1⟩
    obtain ⟨_, p, v, hbb, _⟩ := bld_parts h1
    have hne1 : w.heap.size ≠ b := by omega
    have hne2 : w.heap.size + 1 ≠ b := by omega
    have h2' := boxed_others h2 hk1 hne1 (by decide)
    have h3' := boxed_others h3 hk1 hne2 (by decide)
    have hko := keeps_others hk1 hbb hb1.size
    gi_wp2_with fail
    refine ⟨hko.from _, (show W1.heap[_]? = _ from h3').trans (show W.heap[_]? = _ from h3).symm, .inr (by rw [bvals_snoc, ← List.append_assoc]; exact hU), h2', ⟨_, h3'⟩, h4.trans hb1, Nat.le_trans h5 hb1.size⟩
  case done =>
    rintro D xs W hD rfl ⟨h1, h2, h3, h4, h5⟩ hK
    gi_wp2
    refine ⟨by simp, .inl ⟨_, _, rfl, run_takeDeferred hK, ?_⟩⟩
    have hput : Below B W0 (W.putObj D (.deferred none)) := h4.trans (belowK_b (w := W0) (by omega) W D _ _ hD hK rfl rfl)
    exact ⟨_, results_none rfl _ _ _, rfl, bld_put h1 hK rfl, hb0.trans hput⟩

def putB (n : Int) : Bool := decide (0 ≤ n ∧ n ≤ 1099511627776)
/-- PutInt's text and error. -/
def putI (n : Int) : List UInt8 := if putB n then putN n.toNat else []
def putIE (n : Int) : Int := if putB n then 0 else 2
def putX (l : List UInt8) : List UInt8 := if l.length ≤ 65536 then putT l else []
def putXE (l : List UInt8) : Int := if l.length ≤ 65536 then 0 else 4

set_option maxRecDepth 100000 in
theorem inRange_any (n : Int) (w : World) :
    Calls Tryz.prog 120 #[.int .i64 n] w fun e w' => e = .returned (.bool (putB n)) ∧ w' = w := by
  by_cases h0 : 0 ≤ n
  · by_cases h1 : n ≤ 1099511627776
    · have HV : Hid (putB n = true) := lid (by unfold putB; simp; omega)
      go_enter Tryz.func120, Tryz.ntmps120
      go_wp2
      go_ret
      exact ⟨by rw [HV.out]; rfl, rfl⟩
    · have HV : Hid (putB n = false) := lid (by unfold putB; simp; omega)
      have h1' : 1099511627776 < n := by omega
      go_enter Tryz.func120, Tryz.ntmps120
      go_wp2
      go_ret
      exact ⟨by rw [HV.out]; rfl, rfl⟩
  · have HV : Hid (putB n = false) := lid (by unfold putB; simp; omega)
    have h0' : n < 0 := by omega
    go_enter Tryz.func120, Tryz.ntmps120
    go_wp2
    go_ret
    exact ⟨by rw [HV.out]; rfl, rfl⟩

theorem ret_se {a b : ByteArray} {c d : Int} (h : a = b) (k : c = d) : Ending.returned (.tuple #[.string a, .int .i64 c]) = .returned (.tuple #[.string b, .int .i64 d]) := by rw [h, k]

set_option maxRecDepth 100000 in
set_option maxHeartbeats 2000000 in
theorem PutInt_any (n : Int) (w : World) :
    Calls Tryz.prog 97 #[.int .i64 n] w fun e w' => e = .returned (.tuple #[.string (bstr (putI n)), .int .i64 (putIE n)]) ∧ Below w.heap.size w w' := by
  cases hb : putB n with
  | false =>
    have H1 : Hid (putI n = []) := lid (by unfold putI; rw [hb]; rfl)
    have H2 : Hid (putIE n = 2) := lid (by unfold putIE; rw [hb]; rfl)
    have HB := lid hb
    clear hb
    go_enter Tryz.func97, Tryz.ntmps97
    go_wp2_with fail
    (with_reducible refine (inRange_any n _).mono ?_); rintro e w1 ⟨rfl, rfl⟩
    rw [HB.out]
    go_wp2_with fail
    go_ret2
    exact ⟨ret_se (by rw [H1.out]; rfl) H2.out.symm, Below.refl _ _⟩
  | true =>
    have H1 : Hid (putI n = putN n.toNat) := lid (by unfold putI; rw [hb]; rfl)
    have H2 : Hid (putIE n = 0) := lid (by unfold putIE; rw [hb]; rfl)
    have hr : 0 ≤ n ∧ n ≤ 1099511627776 := by simpa [putB] using hb
    obtain ⟨N, rfl⟩ := Int.eq_ofNat_of_zero_le hr.1
    have hN : N ≤ 1099511627776 := by omega
    have HB := lid hb
    clear hb hr
    go_enter Tryz.func97, Tryz.ntmps97
    go_wp2_with fail
    (with_reducible refine (inRange_any (N : Int) _).mono ?_); rintro e w1 ⟨rfl, rfl⟩
    rw [HB.out]
    go_wp2_with fail
    (with_reducible refine (writeInt_any w1.heap.size w1.heap.size N [] _ (Lib.fresh_isBuilder _ _ _) hN (by simp) (by simp)).mono ?_); rintro e w2 ⟨rfl, hB, hb2⟩
    have hb0 := ba w1 (Obj.cells #[Value.pointer none, Value.slice none 0 0] 174)
    have hb02 : Below w1.heap.size w1 w2 := hb0.trans hb2
    go_wp2_with fail
    (with_reducible refine (String_any w1.heap.size w1.heap.size (putN N) _ (by simpa [bvals, Lib.byteCells] using hB) (by have := hb02.size; omega)).mono ?_); rintro e w3 ⟨rfl, hb3⟩
    go_wp2_with fail
    go_ret2
    exact ⟨ret_se (by rw [H1.out]; rfl) H2.out.symm, hb02.trans hb3⟩

set_option maxRecDepth 100000 in
set_option maxHeartbeats 2000000 in
theorem PutText_any (s : ByteArray) (w : World) (hs : s.size ≤ maxLen) :
    Calls Tryz.prog 98 #[.string s] w fun e w' => e = .returned (.tuple #[.string (bstr (putX s.data.toList)), .int .i64 (putXE s.data.toList)]) ∧ Below w.heap.size w w' := by
  have hs' : s.size ≤ 9223372036854775807 := hs
  have hl : s.data.toList.length = s.size := rfl
  by_cases h : s.size ≤ 65536
  · have H1 : Hid (bstr (putX s.data.toList) = ⟨(putN s.size ++ s.data.toList).toArray⟩) := lid (by unfold putX; rw [hl, if_pos h]; rfl)
    have H2 : Hid (putXE s.data.toList = 0) := lid (by unfold putXE; rw [hl, if_pos h])
    have h6 := putN_six (n := s.size) (by omega)
    have H6 := lid h6
    clear h6 hl
    go_enter Tryz.func98, Tryz.ntmps98
    go_wp2_with fail
    (with_reducible refine (writeInt_any w.heap.size w.heap.size s.size [] _ (Lib.fresh_isBuilder _ _ _) (by omega) (by simp) (by simp)).mono ?_); rintro e w2 ⟨rfl, hB, hb2⟩
    have hb0 := ba w (Obj.cells #[Value.pointer none, Value.slice none 0 0] 174)
    have hb02 : Below w.heap.size w w2 := hb0.trans hb2
    go_wp2_with fail
    (with_reducible refine (WriteString_any w.heap.size w.heap.size ([] ++ bvals (putN s.size)) s _ hB (by have := H6.out; simp [bvals_length]; omega) (by have := hb02.size; omega)).mono ?_); rintro e w3 ⟨rfl, hB3, hb3, -⟩
    have hb03 := hb02.trans hb3
    go_wp2_with fail
    have hB4 : Bldr w.heap.size w.heap.size (Lib.byteCells (putN s.size ++ s.data.toList)) w3 := Or.inr (by simpa [bvals, Lib.byteCells, Lib.strCells] using hB3)
    (with_reducible refine (String_any w.heap.size w.heap.size (putN s.size ++ s.data.toList) _ hB4 (by have := hb03.size; omega)).mono ?_); rintro e w4 ⟨rfl, hb4⟩
    go_wp2_with fail
    go_ret2
    exact ⟨ret_se (by rw [H1.out]) H2.out.symm, hb03.trans hb4⟩
  · have H1 : Hid (putX s.data.toList = []) := lid (by unfold putX; rw [hl, if_neg h])
    have H2 : Hid (putXE s.data.toList = 4) := lid (by unfold putXE; rw [hl, if_neg h])
    clear hl
    have h' : 65536 < s.size := by omega
    go_enter Tryz.func98, Tryz.ntmps98
    go_wp2_with fail
    go_ret2
    exact ⟨ret_se (by rw [H1.out]; rfl) H2.out.symm, Below.refl _ _⟩
end Go.Proofs.YtphjillihapbfaaGreatDoor

namespace Go.Proofs.YtphjillihapbfaaGreatDoor

/-- Reads a number: at most so many bytes are left, i were read, n is what they say. -/
def getGo : Nat → Nat → Nat → List UInt8 → Nat × Nat × Int
  | 0, _, _, _ => (0, 0, 13)
  | _ + 1, _, _, [] => (0, 0, 12)
  | f + 1, i, n, c :: l =>
    if c.toNat < 128 then (if c.toNat = 0 ∧ 0 < i ∨ 1099511627776 < n + c.toNat * 128 ^ i then (0, 0, 13) else (n + c.toNat * 128 ^ i, i + 1, 0))
    else getGo f (i + 1) (n + (c.toNat - 128) * 128 ^ i) l
def getI (l : List UInt8) : Nat × Nat × Int := getGo 6 0 0 l
def getX (l : List UInt8) : List UInt8 × Nat × Int :=
  if (getI l).2.2 = 0 then (if 65536 < (getI l).1 then ([], 0, 13) else if l.length - (getI l).2.1 < (getI l).1 then ([], 0, 12) else ((l.drop (getI l).2.1).take (getI l).1, (getI l).2.1 + (getI l).1, 0)) else ([], 0, (getI l).2.2)

theorem getGo_ok : ∀ {f i n m k : Nat} {l : List UInt8}, getGo f i n l = (m, k, 0) → ∃ x t, l = putN x ++ t ∧ m = n + x * 128 ^ i ∧ k = i + (putN x).length ∧ (0 < i → 0 < x) ∧ m ≤ 1099511627776
  | 0, _, _, _, _, _, h => by simp [getGo] at h
  | _ + 1, _, _, _, _, [], h => by simp [getGo] at h
  | f + 1, i, n, m, k, c :: l, h => by
    unfold getGo at h
    have hc := c.toNat_lt
    split at h
    · rename_i h1
      split at h
      · simp at h
      · rename_i h2
        simp only [Prod.mk.injEq] at h
        obtain ⟨rfl, rfl, _⟩ := h
        refine ⟨c.toNat, l, ?_, rfl, ?_, ?_, ?_⟩
        · rw [putN_lo h1]; simp
        · rw [putN_lo h1]; rfl
        · omega
        · omega
    · rename_i h1
      obtain ⟨x, t, rfl, rfl, rfl, h3, h4⟩ := getGo_ok h
      have h5 := h3 (by omega)
      refine ⟨(c.toNat - 128) + 128 * x, t, ?_, ?_, ?_, ?_, h4⟩
      · rw [putN_hi (n := (c.toNat - 128) + 128 * x) (by omega), show ((c.toNat - 128) + 128 * x) / 128 = x by omega, show ((c.toNat - 128) + 128 * x) % 128 + 128 = c.toNat by omega]
        simp
      · rw [Nat.pow_succ, Nat.add_mul, Nat.add_assoc, Nat.mul_comm 128 x, Nat.mul_assoc, Nat.mul_comm 128]
      · rw [putN_hi (n := (c.toNat - 128) + 128 * x) (by omega), List.length_cons, show ((c.toNat - 128) + 128 * x) / 128 = x by omega]
        omega
      · omega
theorem getGo_put : ∀ {f i n x : Nat} {t : List UInt8}, (putN x).length ≤ f → (0 < i → 0 < x) → n + x * 128 ^ i ≤ 1099511627776 → getGo f i n (putN x ++ t) = (n + x * 128 ^ i, i + (putN x).length, 0)
  | 0, _, _, x, _, h, _, _ => by
    have := putN_ne x
    exact absurd (List.eq_nil_of_length_eq_zero (by omega)) this
  | f + 1, i, n, x, t, h, h1, h2 => by
    by_cases hx : x < 128
    · rw [putN_lo hx]
      have e : (UInt8.ofNat x).toNat = x := ofNat_lo hx
      rw [List.singleton_append]
      unfold getGo
      rw [e, if_pos hx, if_neg (by omega)]
      rfl
    · rw [putN_hi hx] at h ⊢
      rw [List.cons_append]
      unfold getGo
      rw [ofNat_hi, if_neg (by omega), Nat.add_sub_cancel]
      have h3 : n + x % 128 * 128 ^ i + x / 128 * 128 ^ (i + 1) = n + x * 128 ^ i := by
        rw [Nat.pow_succ, Nat.add_assoc, Nat.mul_comm (128 ^ i), ← Nat.mul_assoc, ← Nat.add_mul, show x % 128 + x / 128 * 128 = x by omega]
      rw [getGo_put (by simpa using h) (fun _ => by omega) (by omega), h3, List.length_cons]
      congr 2
      omega
theorem getI_ok {l : List UInt8} {n k : Nat} (h : getI l = (n, k, 0)) : l = putN n ++ l.drop k ∧ k = (putN n).length ∧ n ≤ 1099511627776 := by
  obtain ⟨x, t, rfl, rfl, rfl, _, h4⟩ := getGo_ok h
  have e : 0 + x * 128 ^ 0 = x := by simp
  rw [e] at h4 ⊢
  refine ⟨?_, by omega, h4⟩
  rw [Nat.zero_add, List.drop_left]
theorem getI_put {n : Nat} {t : List UInt8} (h : n ≤ 1099511627776) : getI (putN n ++ t) = (n, (putN n).length, 0) := by
  unfold getI
  rw [getGo_put (putN_six h) (fun h => by omega) (by omega)]
  simp
theorem getGo_err : ∀ {f i n : Nat} {l : List UInt8}, (getGo f i n l).2.2 ≠ 0 → (getGo f i n l).1 = 0 ∧ (getGo f i n l).2.1 = 0
  | 0, _, _, _, _ => ⟨rfl, rfl⟩
  | _ + 1, _, _, [], _ => ⟨rfl, rfl⟩
  | f + 1, i, n, c :: l, h => by
    unfold getGo at h ⊢
    split at h
    · rename_i h1
      rw [if_pos h1]
      split at h
      · rename_i h2; rw [if_pos h2]; exact ⟨rfl, rfl⟩
      · simp at h
    · rename_i h1
      rw [if_neg h1]
      exact getGo_err h
theorem getI_err {l : List UInt8} (h : (getI l).2.2 ≠ 0) : (getI l).1 = 0 ∧ (getI l).2.1 = 0 := getGo_err h
theorem getI_le (l : List UInt8) : (getI l).2.1 ≤ l.length ∧ (getI l).1 ≤ 1099511627776 := by
  by_cases h : (getI l).2.2 = 0
  · obtain ⟨h1, h2, h3⟩ := getI_ok (l := l) (n := (getI l).1) (k := (getI l).2.1) (by rw [← h])
    refine ⟨?_, h3⟩
    have := congrArg List.length h1
    rw [List.length_append, ← h2] at this
    omega
  · obtain ⟨h1, h2⟩ := getI_err h
    omega
theorem getX_ok {l t : List UInt8} {k : Nat} (h : getX l = (t, k, 0)) : l = putT t ++ l.drop k ∧ t.length ≤ 65536 ∧ k = (putT t).length := by
  unfold getX at h
  split at h
  · rename_i h0
    obtain ⟨h1, h2, h3⟩ := getI_ok (l := l) (n := (getI l).1) (k := (getI l).2.1) (by rw [← h0])
    split at h
    · simp at h
    · rename_i h4
      split at h
      · simp at h
      · rename_i h5
        simp only [Prod.mk.injEq] at h
        obtain ⟨rfl, rfl, _⟩ := h
        have hl := (getI_le l).1
        have h6 : ((l.drop (getI l).2.1).take (getI l).1).length = (getI l).1 := by rw [List.length_take, List.length_drop]; omega
        unfold putT
        rw [h6, List.length_append, h6]
        refine ⟨?_, by omega, by omega⟩
        rw [List.append_assoc, ← List.drop_drop, List.take_append_drop]
        exact h1
  · rename_i h0
    simp only [Prod.mk.injEq] at h
    exact absurd h.2.2 h0
theorem getX_put {t s : List UInt8} (h : t.length ≤ 65536) : getX (putT t ++ s) = (t, (putT t).length, 0) := by
  have e : getI (putT t ++ s) = (t.length, (putN t.length).length, 0) := by
    unfold putT
    rw [List.append_assoc]
    exact getI_put (by omega)
  unfold getX
  rw [e]
  simp only [if_true]
  rw [if_neg (by omega), if_neg (by unfold putT; simp)]
  unfold putT
  rw [List.append_assoc, List.drop_left, List.take_left, List.length_append]
theorem getX_le (l : List UInt8) : (getX l).2.1 ≤ l.length ∧ (getX l).1.length ≤ l.length ∧ (getX l).1.length ≤ 65536 := by
  have hl := (getI_le l).1
  unfold getX
  split
  · split
    · simp
    · split
      · simp
      · simp only [List.length_take, List.length_drop]; omega
  · simp
theorem getX_err {l : List UInt8} (h : (getX l).2.2 ≠ 0) : (getX l).1 = [] ∧ (getX l).2.1 = 0 := by
  unfold getX at h ⊢
  split at h
  · rename_i h0
    rw [if_pos h0]
    split at h
    · rename_i h1; rw [if_pos h1]; exact ⟨rfl, rfl⟩
    · rename_i h1
      rw [if_neg h1]
      split at h
      · rename_i h2; rw [if_pos h2]; exact ⟨rfl, rfl⟩
      · exact absurd rfl h
  · rename_i h0; rw [if_neg h0]; exact ⟨rfl, rfl⟩
end Go.Proofs.YtphjillihapbfaaGreatDoor

namespace Go.Proofs.YtphjillihapbfaaGreatDoor
open Go.RowKit

theorem getGo_end {f i n : Nat} (h : 0 < f) : getGo f i n [] = (0, 0, 12) := by
  cases f with
  | zero => omega
  | succ f => rfl
theorem getGo_lo {f i n : Nat} {c : UInt8} {l : List UInt8} (h : 0 < f) (hc : c.toNat < 128) : getGo f i n (c :: l) = if c.toNat = 0 ∧ 0 < i ∨ 1099511627776 < n + c.toNat * 128 ^ i then (0, 0, 13) else (n + c.toNat * 128 ^ i, i + 1, 0) := by
  cases f with
  | zero => omega
  | succ f => rw [getGo, if_pos hc]
theorem getGo_hi {f i n : Nat} {c : UInt8} {l : List UInt8} (hc : ¬ c.toNat < 128) : getGo (f + 1) i n (c :: l) = getGo f (i + 1) (n + (c.toNat - 128) * 128 ^ i) l := by
  rw [getGo, if_neg hc]
abbrev gv (r : Nat × Nat × Int) : Value := .tuple #[.int .i64 r.1, .int .i64 r.2.1, .int .i64 r.2.2]
theorem ret_gv' {a b c : Int} {r : Nat × Nat × Int} {x y : Nat} (h : r = (x, y, c)) (h1 : a = x) (h2 : b = y) : Ending.returned (.tuple #[.int .i64 a, .int .i64 b, .int .i64 c]) = .returned (gv r) := by rw [h, h1, h2]

set_option maxRecDepth 100000 in
set_option maxHeartbeats 4000000 in
theorem GetInt_any (s : ByteArray) (w : World) (hs : s.size ≤ maxLen) :
    Calls Tryz.prog 129 #[.string s] w fun e w' => e = .returned (gv (getI s.data.toList)) ∧ w' = w := by
  have hs' : s.size ≤ 9223372036854775807 := hs
  have hN : s.data.toList.length = s.size := rfl
  go_enter Tryz.func129, Tryz.ntmps129
  go_wp2_with fail
  go_loop [5, 6, 9] (fun nv uv i => ∃ (k n : Nat), (k = 0 ∧ uv = .int .i64 1 ∧ i = .int .i64 0 ∨ k = 1 ∧ uv = .int .i64 128 ∧ i = .int .i64 1 ∨ k = 2 ∧ uv = .int .i64 16384 ∧ i = .int .i64 2 ∨ k = 3 ∧ uv = .int .i64 2097152 ∧ i = .int .i64 3 ∨ k = 4 ∧ uv = .int .i64 268435456 ∧ i = .int .i64 4 ∨ k = 5 ∧ uv = .int .i64 34359738368 ∧ i = .int .i64 5 ∨ k = 6 ∧ uv = .int .i64 4398046511104 ∧ i = .int .i64 6) ∧ nv = .int .i64 n ∧ n < 128 ^ k ∧ k ≤ s.size ∧ Hid (getI s.data.toList = getGo (6 - k) k n (s.data.toList.drop k))) (fun _ _ i => 6 - (intOf i).toNat)
  case atStart => exact ⟨0, 0, .inl ⟨rfl, rfl, rfl⟩, rfl, by omega, Nat.zero_le _, lid rfl⟩
  case round =>
    obtain ⟨k, n, hk, rfl, hn, hks, HG⟩ := hrel
    rcases hk with ⟨rfl, rfl, rfl⟩ | ⟨rfl, rfl, rfl⟩ | ⟨rfl, rfl, rfl⟩ | ⟨rfl, rfl, rfl⟩ | ⟨rfl, rfl, rfl⟩ | ⟨rfl, rfl, rfl⟩ | ⟨rfl, rfl, rfl⟩
    · by_cases hlt : s = ByteArray.empty
      case pos =>
        have HV := lid (show getI s.data.toList = (0, 0, 12) by subst hlt; rfl)
        go_wp2_with fail
        go_ret3
        exact ⟨ret_gv' (x := 0) (y := 0) rfl rfl rfl, rfl⟩
      have hlt' : 0 < s.size := by
        rcases Nat.eq_zero_or_pos s.size with h | h
        · exact absurd (ByteArray.size_eq_zero_iff.1 h) hlt
        · exact h
      have hlt2 : ¬ ByteArray.empty = s := fun e => hlt e.symm
      obtain ⟨c, hc⟩ : ∃ c, s[0]'hlt' = c := ⟨_, rfl⟩
      have hcl : s.data.toList[0]'hlt' = c := by rw [← hc]; rfl
      have HD := lid (List.drop_eq_getElem_cons (l := s.data.toList) (i := 0) hlt')
      rw [hcl] at HD
      have hc8 := c.toNat_lt
      clear hcl
      by_cases h1 : c.toNat < 128
      · have HV := lid (show getI s.data.toList = if c.toNat = 0 ∧ 0 < 0 ∨ 1099511627776 < n + c.toNat * 1 then (0, 0, 13) else (n + c.toNat * 1, 0 + 1, 0) by rw [HG.out, HD.out]; exact getGo_lo (by omega) h1)
        have d1 : decide ((128 : Int) ≤ c.toNat) = false := by simp; omega

        go_wp2_with fail
        all_goals
          go_ret3
          refine ⟨?_, rfl⟩
          first
            | exact ret_gv' (HV.out.trans (if_pos (by omega))) rfl rfl
            | exact ret_gv' (HV.out.trans (if_neg (by omega))) (by omega) (by omega)
      · have HV := lid (show getI s.data.toList = getGo (6 - 1) 1 (n + (c.toNat - 128) * 1) (s.data.toList.drop 1) by rw [HG.out, HD.out]; exact getGo_hi h1)
        have d1 : decide ((128 : Int) ≤ c.toNat) = true := by simp; omega
        go_wp2_with fail
        go_round
        case rel => exact ⟨1, n + (c.toNat - 128) * 1, .inr (.inl ⟨rfl, rfl, rfl⟩), by go_num, by omega, by omega, HV⟩
        case measure => simp [intOf]
    · by_cases hlt : 1 < s.size
      case neg =>
        have HV := lid (show getI s.data.toList = (0, 0, 12) by rw [HG.out, List.drop_eq_nil_of_le (by rw [hN]; omega)]; rfl)
        have d0 : decide ((s.size : Int) ≤ 1) = true := by simp; omega
        go_wp2_with fail
        go_ret3
        exact ⟨ret_gv' HV.out rfl rfl, rfl⟩
      have d0 : decide ((s.size : Int) ≤ 1) = false := by simp; omega
      have hlt' := hlt
      obtain ⟨c, hc⟩ : ∃ c, s[1]'hlt' = c := ⟨_, rfl⟩
      have hcl : s.data.toList[1]'hlt' = c := by rw [← hc]; rfl
      have HD := lid (List.drop_eq_getElem_cons (l := s.data.toList) (i := 1) hlt')
      rw [hcl] at HD
      have hc8 := c.toNat_lt
      clear hcl
      by_cases h1 : c.toNat < 128
      · have HV := lid (show getI s.data.toList = if c.toNat = 0 ∧ 0 < 1 ∨ 1099511627776 < n + c.toNat * 128 then (0, 0, 13) else (n + c.toNat * 128, 1 + 1, 0) by rw [HG.out, HD.out]; exact getGo_lo (by omega) h1)
        have d1 : decide ((128 : Int) ≤ c.toNat) = false := by simp; omega

        go_wp2_with fail
        all_goals
          go_ret3
          refine ⟨?_, rfl⟩
          first
            | exact ret_gv' (HV.out.trans (if_pos (by omega))) rfl rfl
            | exact ret_gv' (HV.out.trans (if_neg (by omega))) (by omega) (by omega)
      · have HV := lid (show getI s.data.toList = getGo (6 - 2) 2 (n + (c.toNat - 128) * 128) (s.data.toList.drop 2) by rw [HG.out, HD.out]; exact getGo_hi h1)
        have d1 : decide ((128 : Int) ≤ c.toNat) = true := by simp; omega
        go_wp2_with fail
        go_round
        case rel => exact ⟨2, n + (c.toNat - 128) * 128, .inr (.inr (.inl ⟨rfl, rfl, rfl⟩)), by go_num, by omega, by omega, HV⟩
        case measure => simp [intOf]
    · by_cases hlt : 2 < s.size
      case neg =>
        have HV := lid (show getI s.data.toList = (0, 0, 12) by rw [HG.out, List.drop_eq_nil_of_le (by rw [hN]; omega)]; rfl)
        have d0 : decide ((s.size : Int) ≤ 2) = true := by simp; omega
        go_wp2_with fail
        go_ret3
        exact ⟨ret_gv' HV.out rfl rfl, rfl⟩
      have d0 : decide ((s.size : Int) ≤ 2) = false := by simp; omega
      have hlt' := hlt
      obtain ⟨c, hc⟩ : ∃ c, s[2]'hlt' = c := ⟨_, rfl⟩
      have hcl : s.data.toList[2]'hlt' = c := by rw [← hc]; rfl
      have HD := lid (List.drop_eq_getElem_cons (l := s.data.toList) (i := 2) hlt')
      rw [hcl] at HD
      have hc8 := c.toNat_lt
      clear hcl
      by_cases h1 : c.toNat < 128
      · have HV := lid (show getI s.data.toList = if c.toNat = 0 ∧ 0 < 2 ∨ 1099511627776 < n + c.toNat * 16384 then (0, 0, 13) else (n + c.toNat * 16384, 2 + 1, 0) by rw [HG.out, HD.out]; exact getGo_lo (by omega) h1)
        have d1 : decide ((128 : Int) ≤ c.toNat) = false := by simp; omega

        go_wp2_with fail
        all_goals
          go_ret3
          refine ⟨?_, rfl⟩
          first
            | exact ret_gv' (HV.out.trans (if_pos (by omega))) rfl rfl
            | exact ret_gv' (HV.out.trans (if_neg (by omega))) (by omega) (by omega)
      · have HV := lid (show getI s.data.toList = getGo (6 - 3) 3 (n + (c.toNat - 128) * 16384) (s.data.toList.drop 3) by rw [HG.out, HD.out]; exact getGo_hi h1)
        have d1 : decide ((128 : Int) ≤ c.toNat) = true := by simp; omega
        go_wp2_with fail
        go_round
        case rel => exact ⟨3, n + (c.toNat - 128) * 16384, .inr (.inr (.inr (.inl ⟨rfl, rfl, rfl⟩))), by go_num, by omega, by omega, HV⟩
        case measure => simp [intOf]
    · by_cases hlt : 3 < s.size
      case neg =>
        have HV := lid (show getI s.data.toList = (0, 0, 12) by rw [HG.out, List.drop_eq_nil_of_le (by rw [hN]; omega)]; rfl)
        have d0 : decide ((s.size : Int) ≤ 3) = true := by simp; omega
        go_wp2_with fail
        go_ret3
        exact ⟨ret_gv' HV.out rfl rfl, rfl⟩
      have d0 : decide ((s.size : Int) ≤ 3) = false := by simp; omega
      have hlt' := hlt
      obtain ⟨c, hc⟩ : ∃ c, s[3]'hlt' = c := ⟨_, rfl⟩
      have hcl : s.data.toList[3]'hlt' = c := by rw [← hc]; rfl
      have HD := lid (List.drop_eq_getElem_cons (l := s.data.toList) (i := 3) hlt')
      rw [hcl] at HD
      have hc8 := c.toNat_lt
      clear hcl
      by_cases h1 : c.toNat < 128
      · have HV := lid (show getI s.data.toList = if c.toNat = 0 ∧ 0 < 3 ∨ 1099511627776 < n + c.toNat * 2097152 then (0, 0, 13) else (n + c.toNat * 2097152, 3 + 1, 0) by rw [HG.out, HD.out]; exact getGo_lo (by omega) h1)
        have d1 : decide ((128 : Int) ≤ c.toNat) = false := by simp; omega

        go_wp2_with fail
        all_goals
          go_ret3
          refine ⟨?_, rfl⟩
          first
            | exact ret_gv' (HV.out.trans (if_pos (by omega))) rfl rfl
            | exact ret_gv' (HV.out.trans (if_neg (by omega))) (by omega) (by omega)
      · have HV := lid (show getI s.data.toList = getGo (6 - 4) 4 (n + (c.toNat - 128) * 2097152) (s.data.toList.drop 4) by rw [HG.out, HD.out]; exact getGo_hi h1)
        have d1 : decide ((128 : Int) ≤ c.toNat) = true := by simp; omega
        go_wp2_with fail
        go_round
        case rel => exact ⟨4, n + (c.toNat - 128) * 2097152, .inr (.inr (.inr (.inr (.inl ⟨rfl, rfl, rfl⟩)))), by go_num, by omega, by omega, HV⟩
        case measure => simp [intOf]
    · by_cases hlt : 4 < s.size
      case neg =>
        have HV := lid (show getI s.data.toList = (0, 0, 12) by rw [HG.out, List.drop_eq_nil_of_le (by rw [hN]; omega)]; rfl)
        have d0 : decide ((s.size : Int) ≤ 4) = true := by simp; omega
        go_wp2_with fail
        go_ret3
        exact ⟨ret_gv' HV.out rfl rfl, rfl⟩
      have d0 : decide ((s.size : Int) ≤ 4) = false := by simp; omega
      have hlt' := hlt
      obtain ⟨c, hc⟩ : ∃ c, s[4]'hlt' = c := ⟨_, rfl⟩
      have hcl : s.data.toList[4]'hlt' = c := by rw [← hc]; rfl
      have HD := lid (List.drop_eq_getElem_cons (l := s.data.toList) (i := 4) hlt')
      rw [hcl] at HD
      have hc8 := c.toNat_lt
      clear hcl
      by_cases h1 : c.toNat < 128
      · have HV := lid (show getI s.data.toList = if c.toNat = 0 ∧ 0 < 4 ∨ 1099511627776 < n + c.toNat * 268435456 then (0, 0, 13) else (n + c.toNat * 268435456, 4 + 1, 0) by rw [HG.out, HD.out]; exact getGo_lo (by omega) h1)
        have d1 : decide ((128 : Int) ≤ c.toNat) = false := by simp; omega

        go_wp2_with fail
        all_goals
          go_ret3
          refine ⟨?_, rfl⟩
          first
            | exact ret_gv' (HV.out.trans (if_pos (by omega))) rfl rfl
            | exact ret_gv' (HV.out.trans (if_neg (by omega))) (by omega) (by omega)
      · have HV := lid (show getI s.data.toList = getGo (6 - 5) 5 (n + (c.toNat - 128) * 268435456) (s.data.toList.drop 5) by rw [HG.out, HD.out]; exact getGo_hi h1)
        have d1 : decide ((128 : Int) ≤ c.toNat) = true := by simp; omega
        go_wp2_with fail
        go_round
        case rel => exact ⟨5, n + (c.toNat - 128) * 268435456, .inr (.inr (.inr (.inr (.inr (.inl ⟨rfl, rfl, rfl⟩))))), by go_num, by omega, by omega, HV⟩
        case measure => simp [intOf]
    · by_cases hlt : 5 < s.size
      case neg =>
        have HV := lid (show getI s.data.toList = (0, 0, 12) by rw [HG.out, List.drop_eq_nil_of_le (by rw [hN]; omega)]; rfl)
        have d0 : decide ((s.size : Int) ≤ 5) = true := by simp; omega
        go_wp2_with fail
        go_ret3
        exact ⟨ret_gv' HV.out rfl rfl, rfl⟩
      have d0 : decide ((s.size : Int) ≤ 5) = false := by simp; omega
      have hlt' := hlt
      obtain ⟨c, hc⟩ : ∃ c, s[5]'hlt' = c := ⟨_, rfl⟩
      have hcl : s.data.toList[5]'hlt' = c := by rw [← hc]; rfl
      have HD := lid (List.drop_eq_getElem_cons (l := s.data.toList) (i := 5) hlt')
      rw [hcl] at HD
      have hc8 := c.toNat_lt
      clear hcl
      by_cases h1 : c.toNat < 128
      · have HV := lid (show getI s.data.toList = if c.toNat = 0 ∧ 0 < 5 ∨ 1099511627776 < n + c.toNat * 34359738368 then (0, 0, 13) else (n + c.toNat * 34359738368, 5 + 1, 0) by rw [HG.out, HD.out]; exact getGo_lo (by omega) h1)
        have d1 : decide ((128 : Int) ≤ c.toNat) = false := by simp; omega

        go_wp2_with fail
        all_goals
          go_ret3
          refine ⟨?_, rfl⟩
          first
            | exact ret_gv' (HV.out.trans (if_pos (by omega))) rfl rfl
            | exact ret_gv' (HV.out.trans (if_neg (by omega))) (by omega) (by omega)
      · have HV := lid (show getI s.data.toList = getGo (6 - 6) 6 (n + (c.toNat - 128) * 34359738368) (s.data.toList.drop 6) by rw [HG.out, HD.out]; exact getGo_hi h1)
        have d1 : decide ((128 : Int) ≤ c.toNat) = true := by simp; omega
        go_wp2_with fail
        go_round
        case rel => exact ⟨6, n + (c.toNat - 128) * 34359738368, .inr (.inr (.inr (.inr (.inr (.inr ⟨rfl, rfl, rfl⟩))))), by go_num, by omega, by omega, HV⟩
        case measure => simp [intOf]
    · go_wp2_with fail
      go_ret3
      exact ⟨ret_gv' (by rw [HG.out]; rfl) rfl rfl, rfl⟩
end Go.Proofs.YtphjillihapbfaaGreatDoor

namespace Go.Proofs.YtphjillihapbfaaGreatDoor
open Go.RowKit

abbrev xv (r : List UInt8 × Nat × Int) : Value := .tuple #[.string (bstr r.1), .int .i64 r.2.1, .int .i64 r.2.2]
theorem ret_xv {s : ByteArray} {b c : Int} {r : List UInt8 × Nat × Int} (h0 : bstr r.1 = s) (h1 : b = r.2.1) (h2 : c = r.2.2) : Ending.returned (.tuple #[.string s, .int .i64 b, .int .i64 c]) = .returned (xv r) := by rw [← h0, h1, h2]
theorem getX_a {l : List UInt8} (h : ¬ (getI l).2.2 = 0) : getX l = ([], 0, (getI l).2.2) := by unfold getX; rw [if_neg h]
theorem getX_b {l : List UInt8} (h : (getI l).2.2 = 0) (h1 : 65536 < (getI l).1) : getX l = ([], 0, 13) := by unfold getX; rw [if_pos h, if_pos h1]
theorem getX_c {l : List UInt8} (h : (getI l).2.2 = 0) (h1 : ¬ 65536 < (getI l).1) (h2 : l.length - (getI l).2.1 < (getI l).1) : getX l = ([], 0, 12) := by unfold getX; rw [if_pos h, if_neg h1, if_pos h2]
theorem getX_d {l : List UInt8} (h : (getI l).2.2 = 0) (h1 : ¬ 65536 < (getI l).1) (h2 : ¬ l.length - (getI l).2.1 < (getI l).1) : getX l = ((l.drop (getI l).2.1).take (getI l).1, (getI l).2.1 + (getI l).1, 0) := by unfold getX; rw [if_pos h, if_neg h1, if_neg h2]
theorem bstr_extract (s : ByteArray) (a b : Nat) : bstr ((s.data.toList.drop a).take (b - a)) = s.extract a b := by
  apply ByteArray.ext
  apply Array.toList_inj.1
  rw [ByteArray.data_extract, Array.toList_extract, List.extract_eq_take_drop, bstr_list]

set_option maxRecDepth 100000 in
set_option maxHeartbeats 4000000 in
theorem GetText_any (s : ByteArray) (w : World) (hs : s.size ≤ maxLen) :
    Calls Tryz.prog 130 #[.string s] w fun e w' => e = .returned (xv (getX s.data.toList)) ∧ w' = w := by
  have hs' : s.size ≤ 9223372036854775807 := hs
  have hN : s.data.toList.length = s.size := rfl
  have HM := lid hs
  have hle := getI_le s.data.toList
  have HA := lid (getX_a (l := s.data.toList))
  have HB := lid (getX_b (l := s.data.toList))
  have HC := lid (getX_c (l := s.data.toList))
  have HD := lid (getX_d (l := s.data.toList))
  have HG := lid (GetInt_any s w hs)
  go_enter Tryz.func130, Tryz.ntmps130
  go_wp2_with fail
  (with_reducible refine (HG.out).mono ?_); rintro e w1 ⟨rfl, rfl⟩
  obtain ⟨r, hr⟩ : ∃ r, getI s.data.toList = r := ⟨_, rfl⟩
  rw [hr] at hle HA HB HC HD ⊢
  obtain ⟨n, k, e⟩ := r
  clear HG hr
  simp only at hle HA HB HC HD
  rw [hN] at hle HC HD
  by_cases h0 : e = 0
  case neg =>
    have HV := lid (HA.out h0)
    have u0 : (e == 0) = false := by simpa using h0
    clear h0 HA HB HC HD
    go_wp2_with fail
    go_ret3
    exact ⟨ret_xv (by rw [HV.out]; rfl) (by rw [HV.out]; rfl) (by rw [HV.out]), rfl⟩
  subst h0
  by_cases h1 : 65536 < n
  · have HV := lid (HB.out rfl h1)
    have u1 : decide ((65536 : Int) < (n : Int)) = true := by simp; omega
    have u1' : decide (65536 < n) = true := by simp; omega
    clear h1 HA HB HC HD
    go_wp2_with fail
    go_ret3
    exact ⟨ret_xv (by rw [HV.out]; rfl) (by rw [HV.out]; rfl) (by rw [HV.out]), rfl⟩
  have u1 : decide ((65536 : Int) < (n : Int)) = false := by simp; omega
  have u1' : decide (65536 < n) = false := by simp; omega
  have n0 : n ≤ 65536 := by omega
  have N1 := lid h1
  clear h1
  by_cases h2 : s.size - k < n
  · have HV := lid (HC.out rfl N1.out h2)
    have u2 : decide ((s.size : Int) - (k : Int) < (n : Int)) = true := by simp; omega
    clear HA HB HC HD
    go_wp2_with fail
    go_ret3
    exact ⟨ret_xv (by rw [HV.out]; rfl) (by rw [HV.out]; rfl) (by rw [HV.out]), rfl⟩
  · have HV := lid (HD.out rfl N1.out h2)
    have u2 : decide ((s.size : Int) - (k : Int) < (n : Int)) = false := by simp; omega
    have hkn : k + n ≤ s.size := by omega
    have HE := lid (bstr_extract s k (k + n))
    clear HA HB HC HD n0
    go_wp2_with fail
    go_ret3
    exact ⟨ret_xv (by rw [HV.out, ← HE.out, Nat.add_sub_cancel_left]) (by rw [HV.out]; simp) (by rw [HV.out]), rfl⟩
end Go.Proofs.YtphjillihapbfaaGreatDoor
