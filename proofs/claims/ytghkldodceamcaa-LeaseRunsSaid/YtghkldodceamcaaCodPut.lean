/-
  codec.writeInt, PutInt, PutText.
-/
import Derived.Test.YtghkldodceamcaaCodIter
namespace Go.Proofs.Ytghkldodceamcaa
open Go.RowKit Go.Shelf
attribute [local go_sem] Oper.semAt_some

theorem digits_fn (n : Int) (w : World) :
    Calls Try.prog 70 #[.int .i64 n] w fun e w' => e = .returned (.func (.func 73) #[] #[.pointer (some ⟨w.heap.size, 0, none⟩)]) ∧ w' = w.alloc (.cells #[.int .i64 n] 3) := by
  go_enter Try.func70, Try.ntmps70
  go_wp2
  go_ret
  exact ⟨rfl, rfl⟩

theorem bld_parts {B b : Nat} {bs : List Value} {w : World} (h : Bldr B b bs w) : B ≤ b ∧ ∃ p v, w.heap[b]? = some (.cells #[p, v] 101 (0, 0)) ∧ w.ownsRow B 5 1 v bs.length bs ∧ v.ownBlock ≠ some b ∧ (p = .pointer none ∨ p = .pointer (some ⟨b, 0, none⟩)) := by
  rcases h with ⟨hB, v, h1, h2, h3⟩ | ⟨hB, v, h1, h2, h3⟩
  · exact ⟨hB, _, v, h1, h2, h3, .inl rfl⟩
  · exact ⟨hB, _, v, h1, h2, h3, .inr rfl⟩
theorem bld_lt {B b : Nat} {bs : List Value} {w : World} (h : Bldr B b bs w) : b < w.heap.size := by
  obtain ⟨_, p, v, hb, _⟩ := bld_parts h
  exact (Array.getElem?_eq_some_iff.1 hb).1
/-- A builder stays where its two blocks stay. -/
theorem bld_kept {B b : Nat} {bs : List Value} {w w' : World} {row : Option Nat} (h : Bldr B b bs w) (hg : w.grownBy w' row) (hr : ∀ r, row = some r → ∃ o : Obj, w.heap[r]? = some o ∧ o.isCells = false) : Bldr B b bs w' := by
  obtain ⟨hB, p, v, hb, hown, hne, hp⟩ := bld_parts h
  have h1 : w'.heap[b]? = some (.cells #[p, v] 101 (0, 0)) := (hg.block b (bld_lt h) (fun e => by obtain ⟨o, ho, hc⟩ := hr b e.symm; rw [hb] at ho; cases ho; cases hc)).trans hb
  have h2 : w'.ownsRow B 5 1 v bs.length bs := by
    refine hown.kept hg ?_
    cases hv : v.ownBlock with
    | none => exact .inl rfl
    | some g =>
      right
      intro e
      obtain ⟨c, fz, hgc⟩ := own_kind hown g hv
      obtain ⟨o, ho, hc⟩ := hr g e.symm
      rw [hgc] at ho
      cases ho
      cases hc
  rcases hp with rfl | rfl
  · exact .inl ⟨hB, v, h1, h2, hne⟩
  · exact .inr ⟨hB, v, h1, h2, hne⟩
/-- A store into a block of another type. -/
theorem bld_set {B b bn : Nat} {bs : List Value} {w : World} {t : TypeId} {x : Value} (h : Bldr B b bs w) (hn : w.heap[bn]? = some (.cells #[x] t (0, 0))) (h1 : t ≠ 101) (h2 : t ≠ 5) (u : Value) : Bldr B b bs (w.setCell ⟨bn, 0, none⟩ u) := by
  obtain ⟨hB, p, v, hb, hown, hne, hp⟩ := bld_parts h
  have hbb : b ≠ bn := by rintro rfl; rw [hn] at hb; simp at hb
  have e1 : (w.setCell ⟨bn, 0, none⟩ u).heap[b]? = some (.cells #[p, v] 101 (0, 0)) := (Below.heap_setCell _ _ _ _ hbb).trans hb
  have e2 : (w.setCell ⟨bn, 0, none⟩ u).ownsRow B 5 1 v bs.length bs := by
    refine hown.kept (grownBy_setCell' w bn u) (.inr fun e => ?_)
    obtain ⟨c, fz, hgc⟩ := own_kind hown bn e
    rw [hn] at hgc
    cases hgc
    exact h2 rfl
  rcases hp with rfl | rfl
  · exact .inl ⟨hB, v, e1, e2, hne⟩
  · exact .inr ⟨hB, v, e1, e2, hne⟩
theorem bld_alloc {B b : Nat} {bs : List Value} {w : World} (h : Bldr B b bs w) (o : Obj) : Bldr B b bs (w.alloc o) := bld_kept h (World.grownBy_alloc w o none) (fun r e => by cases e)
theorem bld_put {B b : Nat} {bs : List Value} {w : World} (h : Bldr B b bs w) {D : Nat} {o o' : Obj} (hD : w.heap[D]? = some o) (hc : o.isCells = false) : Bldr B b bs (w.putObj D o') := bld_kept h (grownBy_putObj' w D o') (fun r e => by cases e; exact ⟨o, hD, hc⟩)
theorem boxed_others {e : TypeId} {b k : Nat} {w w' : World} {t : TypeId} {v : Value} (h : Boxed w k t v) (ho : Lib.OthersKept e (some b) w w') (hb : k ≠ b) (ht : t ≠ e) : Boxed w' k t v :=
  ho k _ h (by simpa using hb) (by intro c fz hh; cases hh; exact ht rfl)
theorem keeps_others {e : TypeId} {b : Nat} {w w' : World} {cs : Array Value} {t : TypeId} {fz : Nat × Nat} (ho : Lib.OthersKept e (some b) w w') (hb : w.heap[b]? = some (.cells cs t fz)) (hs : w.heap.size ≤ w'.heap.size) : KeepsOthers w w' :=
  ⟨hs, fun k o hk hc => ho k o hk (by intro e; cases e; rw [hb] at hk; cases hk; cases hc) (by intro c fz hh; subst hh; cases hc)⟩

/-- What holds between two rounds of writeInt. -/
def PutI (B b k : Nat) (bs : List Value) (W0 : World) (pre : List UInt8) (W : World) : Prop :=
  Bldr B b (bs ++ bvals pre) W ∧ Boxed W k 99 (.pointer (some ⟨b, 0, none⟩)) ∧ (∃ x, Boxed W (k + 1) 3 x) ∧ Below B W0 W ∧ W0.heap.size ≤ W.heap.size

set_option maxRecDepth 100000 in
set_option maxHeartbeats 4000000 in
theorem writeInt_any (B b N : Nat) (bs : List Value) (w : World) (h : Bldr B b bs w) (hN : N ≤ 1099511627776) (hlen : bs.length ≤ 70368744177664) (hBw : B ≤ w.heap.size) :
    Calls Try.prog 65 #[.pointer (some ⟨b, 0, none⟩), .int .i64 N] w fun e w' => e = .returned (.tuple #[]) ∧ Bldr B b (bs ++ bvals (putN N)) w' ∧ Below B w w' := by
  have hN9 : N ≤ 9223372036854775807 := by omega
  have hblt := bld_lt h
  have hBb := (bld_parts h).1
  refine (callsIn_wide (n := 3)).1 ?_
  refine callsIn_of_wp_marks Try.func65 rfl trivial ?_ rfl
  simp only [Try.ntmps65, List.size_toArray, List.length_cons, List.length_nil, Nat.reduceAdd, Nat.reduceSub, Array.replicate_succ, Array.replicate_zero, List.push_toArray, List.append_toArray, List.nil_append, List.cons_append]
  gi_wp2_with fail
  refine ⟨trivial, (callsIn_wide.2 (digits_fn N _)).mono ?_⟩
  rintro e w' ⟨rfl, rfl⟩
  gi_wp2_with fail
  have bO := (Boxed.new w 99 (.pointer (some ⟨b, 0, none⟩))).alloc (Obj.cells #[.int .i64 N] 3)
  have bN := Boxed.new (w.alloc (Obj.cells #[.pointer (some ⟨b, 0, none⟩)] 99)) 3 (.int .i64 N)
  have hB2 := bld_alloc (bld_alloc h (Obj.cells #[.pointer (some ⟨b, 0, none⟩)] 99)) (Obj.cells #[.int .i64 N] 3)
  obtain ⟨W0, hW0⟩ : ∃ W0, (w.alloc (Obj.cells #[.pointer (some ⟨b, 0, none⟩)] 99)).alloc (Obj.cells #[.int .i64 N] 3) = W0 := ⟨_, rfl⟩
  have hsz : W0.heap.size = w.heap.size + 2 := by rw [← hW0]; simp
  have hb0 : Below B w W0 := by rw [← hW0]; exact ((Below.refl _ _).alloc hBw _).alloc (by simp; omega) _
  rw [World.size_alloc] at bN
  rw [hW0] at bO bN hB2 ⊢
  clear hW0
  refine wpIn_rangeFunc_box rfl (by omega) (gf := 73) (lb := #[.pointer (some ⟨w.heap.size + 1, 0, none⟩)]) rfl trivial (enters_of Try.func73 (by kernel_rfl) rfl)
    (digits_box Fence.wide _ trivial rfl (by omega) (w.heap.size + 1) N W0 hN9 bN) (by omega) (fun _ => rfl)
    (PutI B b w.heap.size bs W0)
    ?hI ?hIs ⟨by simpa [bvals] using hB2, bO, ⟨_, bN⟩, Below.refl _ _, Nat.le_refl _⟩
    (fun x => { tmps := #[.pointer (some ⟨b, 0, none⟩), .int .i64 N, .pointer (some ⟨w.heap.size, 0, none⟩), undef, .int .u8 x.toNat, .int .i64 N, .func (.func 73) #[] #[.pointer (some ⟨w.heap.size + 1, 0, none⟩)], .int .u8 x.toNat, undef, undef, undef], defers := [] }) ?assign ?body ?done
  case hI =>
    rintro s W W' row ⟨h1, h2, ⟨x, h3⟩, h4, h5⟩ hg hr
    have hr' : ∀ r, row = some r → ∃ o : Obj, W.heap[r]? = some o ∧ o.isCells = false := fun r e => (hr r e).2
    refine ⟨bld_kept h1 hg hr', h2.kept hg (fun e => ?_), ⟨x, h3.kept hg (fun e => ?_)⟩, h4.grown hg (by omega) (fun k e => by have := (hr k e).1; omega), Nat.le_trans h5 hg.size⟩
    · obtain ⟨o, ho, hc⟩ := hr' _ e.symm
      rw [show W.heap[_]? = _ from h2] at ho; cases ho; cases hc
    · obtain ⟨o, ho, hc⟩ := hr' _ e.symm
      rw [show W.heap[_]? = _ from h3] at ho; cases ho; cases hc
  case hIs =>
    rintro s W v ⟨h1, h2, ⟨x, h3⟩, h4, h5⟩
    exact ⟨bld_set h1 h3 (by decide) (by decide) v, (Below.heap_setCell _ _ _ _ (by simp)).trans h2, ⟨v, h3.set v⟩, h4.setCell (p := ⟨w.heap.size + 1, 0, none⟩) (by show B ≤ w.heap.size + 1; omega) _, by rw [World.size_setCell]; exact h5⟩
  case assign =>
    intro l x W K hK
    gi_wp2
    exact hK
  case body =>
    rintro l pre x W ⟨h1, h2, ⟨y, h3⟩, h4, h5⟩ hlt
    have hc := h2.cell
    have hl6 := putN_six hN
    have HL6 := lid hl6
    have HLT := lid hlt
    clear hl6 hlt
    gi_wp2_with fail
    refine ⟨trivial, ?_⟩
    refine (CallsIn.inRound l (callsIn_wide.2 (WriteByte_any B b (bs ++ bvals pre) (x.toNat : Int) W h1 ?_ ?_))).mono ?_
    · rw [List.length_append, bvals_length]
      have := HL6.out
      have := HLT.out
      omega
    · omega
    rintro e W1 ⟨rfl, hU, hb1, hk1⟩
    obtain ⟨_, p, v, hbb, _⟩ := bld_parts h1
    have hne1 : w.heap.size ≠ b := by omega
    have hne2 : w.heap.size + 1 ≠ b := by omega
    have h2' := boxed_others h2 hk1 hne1 (by decide)
    have h3' := boxed_others h3 hk1 hne2 (by decide)
    have hko := keeps_others hk1 hbb hb1.size
    gi_wp2_with fail
    refine ⟨hko.from _, (show W1.heap[_]? = _ from h3').trans (show W.heap[_]? = _ from h3).symm, .inr (by rw [bvals_snoc, ← List.append_assoc]; exact hU), h2', ⟨_, h3'⟩, h4.trans hb1, Nat.le_trans h5 hb1.size⟩
  case done =>
    rintro D xs W hD rfl ⟨h1, h2, h3, h4, h5⟩ hK
    gi_wp2
    refine ⟨by simp, .inl ⟨_, _, rfl, run_takeDeferred hK, ?_⟩⟩
    have hput : Below B W0 (W.putObj D (.deferred none)) := h4.trans (belowK_b (w := W0) (by omega) W D _ _ hD hK rfl rfl)
    exact ⟨_, results_none rfl _ _ _, rfl, bld_put h1 hK rfl, hb0.trans hput⟩

def putB (n : Int) : Bool := decide (0 ≤ n ∧ n ≤ 1099511627776)
/-- PutInt's text and error. -/
def putI (n : Int) : List UInt8 := if putB n then putN n.toNat else []
def putIE (n : Int) : Int := if putB n then 0 else 2
def putX (l : List UInt8) : List UInt8 := if l.length ≤ 65536 then putT l else []
def putXE (l : List UInt8) : Int := if l.length ≤ 65536 then 0 else 4

set_option maxRecDepth 100000 in
theorem inRange_any (n : Int) (w : World) :
    Calls Try.prog 64 #[.int .i64 n] w fun e w' => e = .returned (.bool (putB n)) ∧ w' = w := by
  by_cases h0 : 0 ≤ n
  · by_cases h1 : n ≤ 1099511627776
    · have HV : Hid (putB n = true) := lid (by unfold putB; simp; omega)
      go_enter Try.func64, Try.ntmps64
      go_wp2
      go_ret
      exact ⟨by rw [HV.out]; rfl, rfl⟩
    · have HV : Hid (putB n = false) := lid (by unfold putB; simp; omega)
      have h1' : 1099511627776 < n := by omega
      go_enter Try.func64, Try.ntmps64
      go_wp2
      go_ret
      exact ⟨by rw [HV.out]; rfl, rfl⟩
  · have HV : Hid (putB n = false) := lid (by unfold putB; simp; omega)
    have h0' : n < 0 := by omega
    go_enter Try.func64, Try.ntmps64
    go_wp2
    go_ret
    exact ⟨by rw [HV.out]; rfl, rfl⟩

theorem ret_se {a b : ByteArray} {c d : Int} (h : a = b) (k : c = d) : Ending.returned (.tuple #[.string a, .int .i64 c]) = .returned (.tuple #[.string b, .int .i64 d]) := by rw [h, k]

set_option maxRecDepth 100000 in
set_option maxHeartbeats 2000000 in
theorem PutInt_any (n : Int) (w : World) :
    Calls Try.prog 60 #[.int .i64 n] w fun e w' => e = .returned (.tuple #[.string (bstr (putI n)), .int .i64 (putIE n)]) ∧ Below w.heap.size w w' := by
  cases hb : putB n with
  | false =>
    have H1 : Hid (putI n = []) := lid (by unfold putI; rw [hb]; rfl)
    have H2 : Hid (putIE n = 2) := lid (by unfold putIE; rw [hb]; rfl)
    have HB := lid hb
    clear hb
    go_enter Try.func60, Try.ntmps60
    go_wp2_with fail
    (with_reducible refine (inRange_any n _).mono ?_); rintro e w1 ⟨rfl, rfl⟩
    rw [HB.out]
    go_wp2_with fail
    go_ret2
    exact ⟨ret_se (by rw [H1.out]; rfl) H2.out.symm, Below.refl _ _⟩
  | true =>
    have H1 : Hid (putI n = putN n.toNat) := lid (by unfold putI; rw [hb]; rfl)
    have H2 : Hid (putIE n = 0) := lid (by unfold putIE; rw [hb]; rfl)
    have hr : 0 ≤ n ∧ n ≤ 1099511627776 := by simpa [putB] using hb
    obtain ⟨N, rfl⟩ := Int.eq_ofNat_of_zero_le hr.1
    have hN : N ≤ 1099511627776 := by omega
    have HB := lid hb
    clear hb hr
    go_enter Try.func60, Try.ntmps60
    go_wp2_with fail
    (with_reducible refine (inRange_any (N : Int) _).mono ?_); rintro e w1 ⟨rfl, rfl⟩
    rw [HB.out]
    go_wp2_with fail
    (with_reducible refine (writeInt_any w1.heap.size w1.heap.size N [] _ (Lib.fresh_isBuilder _ _ _) hN (by simp) (by simp)).mono ?_); rintro e w2 ⟨rfl, hB, hb2⟩
    have hb0 := ba w1 (Obj.cells #[Value.pointer none, Value.slice none 0 0] 101)
    have hb02 : Below w1.heap.size w1 w2 := hb0.trans hb2
    go_wp2_with fail
    (with_reducible refine (String_any w1.heap.size w1.heap.size (putN N) _ (by simpa [bvals, Lib.byteCells] using hB) (by have := hb02.size; omega)).mono ?_); rintro e w3 ⟨rfl, hb3⟩
    go_wp2_with fail
    go_ret2
    exact ⟨ret_se (by rw [H1.out]; rfl) H2.out.symm, hb02.trans hb3⟩

set_option maxRecDepth 100000 in
set_option maxHeartbeats 2000000 in
theorem PutText_any (s : ByteArray) (w : World) (hs : s.size ≤ maxLen) :
    Calls Try.prog 61 #[.string s] w fun e w' => e = .returned (.tuple #[.string (bstr (putX s.data.toList)), .int .i64 (putXE s.data.toList)]) ∧ Below w.heap.size w w' := by
  have hs' : s.size ≤ 9223372036854775807 := hs
  have hl : s.data.toList.length = s.size := rfl
  by_cases h : s.size ≤ 65536
  · have H1 : Hid (bstr (putX s.data.toList) = ⟨(putN s.size ++ s.data.toList).toArray⟩) := lid (by unfold putX; rw [hl, if_pos h]; rfl)
    have H2 : Hid (putXE s.data.toList = 0) := lid (by unfold putXE; rw [hl, if_pos h])
    have h6 := putN_six (n := s.size) (by omega)
    have H6 := lid h6
    clear h6 hl
    go_enter Try.func61, Try.ntmps61
    go_wp2_with fail
    (with_reducible refine (writeInt_any w.heap.size w.heap.size s.size [] _ (Lib.fresh_isBuilder _ _ _) (by omega) (by simp) (by simp)).mono ?_); rintro e w2 ⟨rfl, hB, hb2⟩
    have hb0 := ba w (Obj.cells #[Value.pointer none, Value.slice none 0 0] 101)
    have hb02 : Below w.heap.size w w2 := hb0.trans hb2
    go_wp2_with fail
    (with_reducible refine (WriteString_any w.heap.size w.heap.size ([] ++ bvals (putN s.size)) s _ hB (by have := H6.out; simp [bvals_length]; omega) (by have := hb02.size; omega)).mono ?_); rintro e w3 ⟨rfl, hB3, hb3, -⟩
    have hb03 := hb02.trans hb3
    go_wp2_with fail
    have hB4 : Bldr w.heap.size w.heap.size (Lib.byteCells (putN s.size ++ s.data.toList)) w3 := Or.inr (by simpa [bvals, Lib.byteCells, Lib.strCells] using hB3)
    (with_reducible refine (String_any w.heap.size w.heap.size (putN s.size ++ s.data.toList) _ hB4 (by have := hb03.size; omega)).mono ?_); rintro e w4 ⟨rfl, hb4⟩
    go_wp2_with fail
    go_ret2
    exact ⟨ret_se (by rw [H1.out]) H2.out.symm, hb03.trans hb4⟩
  · have H1 : Hid (putX s.data.toList = []) := lid (by unfold putX; rw [hl, if_neg h])
    have H2 : Hid (putXE s.data.toList = 4) := lid (by unfold putXE; rw [hl, if_neg h])
    clear hl
    have h' : 65536 < s.size := by omega
    go_enter Try.func61, Try.ntmps61
    go_wp2_with fail
    go_ret2
    exact ⟨ret_se (by rw [H1.out]; rfl) H2.out.symm, Below.refl _ _⟩
end Go.Proofs.Ytghkldodceamcaa
