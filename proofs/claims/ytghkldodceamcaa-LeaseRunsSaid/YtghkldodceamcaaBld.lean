/-
  strings.Builder: WriteByte, WriteString and String of a builder that the call itself has made.
-/
import Derived.Test.YtghkldodceamcaaRows
import Derived.Shelf.Strings.Builder1
import Derived.Lib.OthersKept
import Derived.RangeFuncCalls
import Derived.Test.YtghkldodceamcaaRegion
import Derived.Test.YtghkldodceamcaaKit
import Derived.Test.YtghkldodceamcaaAppG
namespace Go.Proofs.Ytghkldodceamcaa
open Go.RowKit Go.Shelf

/-- A builder. -/
abbrev Bldr (B b : Nat) (bs : List Value) (w : World) : Prop := Lib.IsBuilder 101 5 B b bs w
abbrev BldU (B b : Nat) (bs : List Value) (w : World) : Prop := Lib.BuilderAt 101 5 B b (.pointer (some ⟨b, 0, none⟩)) bs w

theorem info_bld : (Try.prog.info? 101).map (fun i => i.size) = some 2 := by kernel_rfl
theorem lies_bld : liesAt Try.prog Try.prog.depth 101 (2 / Try.prog.cellsOf 101) 0 101 1 = true := by kernel_rfl
theorem info_byte : (Try.prog.info? 5).map (fun i => (i.zero, i.size, i.bytes)) = some (some (.int .u8 0), 1, 1) := by kernel_rfl

set_option maxRecDepth 100000 in
set_option maxHeartbeats 1000000 in
theorem copyCheck_used (b : Nat) (w : World) (h0 : w.cell? ⟨b, 0, none⟩ = some (.pointer (some ⟨b, 0, none⟩))) :
    Calls Try.prog 72 #[.pointer (some ⟨b, 0, none⟩)] w fun e w' => e = .returned (.tuple #[]) ∧ w' = w := by
  obtain ⟨j, hj, _⟩ := Option.map_eq_some_iff.1 info_bld
  go_enter Try.func72, Try.ntmps72
  go_wp2
  rw [Lib.run_neq_ptr_same w _ Try.underlying99 hj]
  go_wp2
  go_end0
  exact ⟨rfl, rfl⟩

set_option maxRecDepth 100000 in
set_option maxHeartbeats 1000000 in
theorem copyCheck_fresh (b : Nat) (w : World) (h0 : w.cell? ⟨b, 0, none⟩ = some (.pointer none)) (hsh : w.shape? b = some (101, 2)) (hfz : w.frozen? ⟨b, 0, none⟩ = false) :
    Calls Try.prog 72 #[.pointer (some ⟨b, 0, none⟩)] w fun e w' => e = .returned (.tuple #[]) ∧ w' = w.setCell ⟨b, 0, none⟩ (.pointer (some ⟨b, 0, none⟩)) := by
  obtain ⟨j, hj, hjs⟩ := Option.map_eq_some_iff.1 info_bld
  go_enter Try.func72, Try.ntmps72
  go_wp2
  rw [Lib.run_to_unsafe w ⟨b, 0, none⟩ Try.underlying99 Try.underlying115 hj (by rw [hjs]; decide) hsh (Nat.zero_lt_succ 1)]
  simp only [Result.andThen]
  rw [Oper.upon_value]
  go_wp2
  rw [run_callFunc_extern Try.func74 (by kernel_rfl) (by kernel_rfl) (by kernel_rfl) (e := Extern.AbiNoEscape.same) (by kernel_rfl)]
  rw [Lib.run_noEscape]
  simp only [Result.andThen]
  rw [Oper.upon_value]
  go_wp2
  rw [Lib.run_from_unsafe w ⟨b, 0, none⟩ Try.underlying115 Try.underlying99 hj hsh lies_bld]
  simp only [Result.andThen]
  rw [Oper.upon_value]
  go_wp2
  go_end0
  exact ⟨rfl, rfl⟩

theorem copyCheck_any (B b : Nat) (bs : List Value) (w : World) (h : Bldr B b bs w) :
    Calls Try.prog 72 #[.pointer (some ⟨b, 0, none⟩)] w fun e w' => e = .returned (.tuple #[]) ∧ BldU B b bs w' ∧ Below B w w' ∧ Lib.OthersKept 5 (some b) w w' := by
  rcases h with h | h
  · refine (copyCheck_fresh b w h.cell0 h.shape h.frozen0).mono ?_
    rintro e w' ⟨rfl, rfl⟩
    exact ⟨rfl, h.used _, (Below.refl B w).setCell (p := ⟨b, 0, none⟩) h.1 _, (Lib.OthersKept.refl _ _ _).setCell ⟨b, 0, none⟩ rfl _⟩
  · refine (copyCheck_used b w h.cell0).mono ?_
    rintro e w' ⟨rfl, rfl⟩
    exact ⟨rfl, h, Below.refl B _, Lib.OthersKept.refl _ _ _⟩

theorem own_kind {w : World} {B : Nat} {e : TypeId} {v : Value} {n : Nat} {xs : List Value} (h : w.ownsRow B e 1 v n xs) : ∀ g, v.ownBlock = some g → ∃ c fz, w.heap[g]? = some (.cells c e fz) := by
  intro g hg
  rcases h.2 with ⟨rfl, _⟩ | ⟨g', cap, cur, rfl, _, hgg, _⟩
  · simp [Value.ownBlock] at hg
  · simp [Value.ownBlock] at hg
    subst hg
    exact ⟨cur, _, hgg⟩

set_option maxRecDepth 100000 in
set_option maxHeartbeats 1000000 in
theorem WriteByte_any (B b : Nat) (bs : List Value) (c : Int) (w : World) (h : Bldr B b bs w) (hlen : bs.length + 1 ≤ 140737488355328) (hBw : B ≤ w.heap.size) :
    Calls Try.prog 71 #[.pointer (some ⟨b, 0, none⟩), .int .u8 c] w fun e w' => e = .returned .nilIface ∧ BldU B b (bs ++ [.int .u8 c]) w' ∧ Below B w w' ∧ Lib.OthersKept 5 (some b) w w' := by
  go_enter Try.func71, Try.ntmps71
  go_wp2_with fail
  (with_reducible refine (copyCheck_any B b bs _ h).mono ?_); rintro e w1 ⟨rfl, h1, hb1, hk1⟩
  obtain ⟨hB, v, hbk, hown, hne⟩ := h1
  have c0 : w1.cell? ⟨b, 0, none⟩ = some (.pointer (some ⟨b, 0, none⟩)) := by rw [Lib.cell_of_heap hbk]; rfl
  have c1 : w1.cell? ⟨b, 1, none⟩ = some v := by rw [Lib.cell_of_heap hbk]; rfl
  have hsz := hb1.size
  have HBK := lid hbk
  have HL := lid hlen
  clear hbk h hlen
  go_wp2_with (at_builtin; go_must (refine wpList_append_newG #[.int .u8 c] rfl _ _ 88 rfl B 5 (.int .u8 0) 1 1 info_byte Try.underlying88 rfl (by decide) _ _ _ hown rfl rfl rfl (by simp [Value.oneCell']) (by have := HL.out; unfold maxLen; omega) (by have := HL.out; omega) (by omega) ?_))
  intro v' w2 hown' hgrow
  have hlt : b < w1.heap.size := (Array.getElem?_eq_some_iff.1 HBK.out).1
  have hb2 : w2.heap[b]? = some (.cells #[.pointer (some ⟨b, 0, none⟩), v] 101 (0, 0)) := by
    rw [hgrow.block b (by simp; omega) (fun e => hne e.symm), Below.heap_alloc _ _ _ hlt]
    exact HBK.out
  have d0 : w2.cell? ⟨b, 0, none⟩ = some (.pointer (some ⟨b, 0, none⟩)) := by rw [Lib.cell_of_heap hb2]; rfl
  have d1 : w2.cell? ⟨b, 1, none⟩ = some v := by rw [Lib.cell_of_heap hb2]; rfl
  have f1 : w2.frozen? ⟨b, 1, none⟩ = false := Lib.frozen_of_heap hb2 1
  obtain ⟨g, cap, rfl⟩ : ∃ g cap, v' = .slice (some ⟨g, 0, none⟩) (bs.length + 1) cap := by
    rcases hown'.2 with ⟨_, h0⟩ | ⟨g, cap, cur, hv, _⟩
    · omega
    · exact ⟨g, cap, hv⟩
  have HB2 := lid hb2
  have HO' := lid hown'
  clear hb2 hown' c0 c1
  go_wp2_with fail
  go_ret
  refine ⟨rfl, Lib.BuilderAt.put hB HB2.out (bs' := bs ++ [.int .u8 c]) (by simpa using HO'.out) (by decide), ?_, ((hk1.alloc _).grown hgrow (own_kind (hown.alloc _))).setCell ⟨b, 1, none⟩ rfl _⟩
  exact (((hb1.alloc (by omega) _).grown hgrow (by simp; omega) (fun k hk => ownsRow_row hown k hk)).setCell (p := ⟨b, 1, none⟩) hB _)

set_option maxRecDepth 100000 in
set_option maxHeartbeats 1000000 in
theorem WriteString_any (B b : Nat) (bs : List Value) (s : ByteArray) (w : World) (h : Bldr B b bs w) (hlen : bs.length + s.size ≤ 140737488355328) (hBw : B ≤ w.heap.size) :
    Calls Try.prog 67 #[.pointer (some ⟨b, 0, none⟩), .string s] w fun e w' => e = .returned (.tuple #[.int .i64 s.size, .nilIface]) ∧ BldU B b (bs ++ Lib.strCells s) w' ∧ Below B w w' ∧ Lib.OthersKept 5 (some b) w w' := by
  obtain ⟨i0, hi, hz0, hz1, hz2⟩ := info_parts info_byte
  go_enter Try.func67, Try.ntmps67
  go_wp2_with fail
  (with_reducible refine (copyCheck_any B b bs _ h).mono ?_); rintro e w1 ⟨rfl, h1, hb1, hk1⟩
  obtain ⟨hB, v, hbk, hown, hne⟩ := h1
  have c0 : w1.cell? ⟨b, 0, none⟩ = some (.pointer (some ⟨b, 0, none⟩)) := by rw [Lib.cell_of_heap hbk]; rfl
  have c1 : w1.cell? ⟨b, 1, none⟩ = some v := by rw [Lib.cell_of_heap hbk]; rfl
  have hsz := hb1.size
  have HBK := lid hbk
  have HL := lid hlen
  clear hbk h hlen
  go_wp2_with (at_builtin; go_must (refine Lib.wpList_append_own_string _ rfl _ _ 88 9 rfl B 5 i0 Try.underlying88 Try.underlying9 hi hz0 hz1 hz2 _ _ _ rfl hown s rfl (by have := HL.out; unfold maxLen; omega) (by have := HL.out; omega) (by omega) ?_))
  intro v' w2 hown' hgrow _
  have hlt : b < w1.heap.size := (Array.getElem?_eq_some_iff.1 HBK.out).1
  have hb2 : w2.heap[b]? = some (.cells #[.pointer (some ⟨b, 0, none⟩), v] 101 (0, 0)) := by
    rw [hgrow.block b hlt (fun e => hne e.symm)]
    exact HBK.out
  have d0 : w2.cell? ⟨b, 0, none⟩ = some (.pointer (some ⟨b, 0, none⟩)) := by rw [Lib.cell_of_heap hb2]; rfl
  have d1 : w2.cell? ⟨b, 1, none⟩ = some v := by rw [Lib.cell_of_heap hb2]; rfl
  have f1 : w2.frozen? ⟨b, 1, none⟩ = false := Lib.frozen_of_heap hb2 1
  obtain ⟨ao, n', cap, rfl⟩ : ∃ ao n' cap, v' = .slice ao n' cap := by
    rcases hown'.2 with ⟨hv, _⟩ | ⟨g, cap, cur, hv, _⟩
    · exact ⟨_, _, _, hv⟩
    · exact ⟨_, _, _, hv⟩
  have HB2 := lid hb2
  have HO' := lid hown'
  have hs9 : s.size ≤ 9223372036854775807 := by have := HL.out; omega
  clear hb2 hown' c0 c1
  go_wp2_with fail
  go_ret2
  refine ⟨rfl, Lib.BuilderAt.put hB HB2.out (bs' := bs ++ Lib.strCells s) (by simpa [Lib.strCells] using HO'.out) (by decide), ?_, (hk1.grown hgrow (own_kind hown)).setCell ⟨b, 1, none⟩ rfl _⟩
  exact ((hb1.grown hgrow (by omega) (fun k hk => ownsRow_row hown k hk)).setCell (p := ⟨b, 1, none⟩) hB _)

/-- String: the shelf's contract at this program. -/
def bldS_ren : Go.Shelf.Ren := ⟨fun | 169 => 66 | n => n, fun | 70 => 99 | 9 => 9 | 0 => 0 | 72 => 101 | 37 => 88 | 127 => 114 | 3 => 3 | 5 => 5 | n => n, fun | n => n⟩
theorem bldS : Go.Proofs.Lays.n169 Try.prog bldS_ren := {
  mixed := by kernel_rfl
  f169 := Try.func66.trans (congrArg some (by kernel_rfl))
  t0 := Try.underlying0
  a0 := Try.isAgg0
  z0 := Try.sizeOf0
  v0 := Try.zeroValue0
  t3 := Try.underlying3
  a3 := Try.isAgg3
  z3 := Try.sizeOf3
  v3 := Try.zeroValue3
  t9 := Try.underlying9
  a9 := Try.isAgg9
  z9 := Try.sizeOf9
  v9 := Try.zeroValue9
  t37 := Try.underlying88
  a37 := Try.isAgg88
  z37 := Try.sizeOf88
  v37 := Try.zeroValue88
  t70 := Try.underlying99
  a70 := Try.isAgg99
  z70 := Try.sizeOf99
  v70 := Try.zeroValue99
  t72 := Try.underlying101
  a72 := Try.isAgg101
  z72 := Try.sizeOf101
  v72 := Try.zeroValue101
  t127 := Try.underlying114
  a127 := Try.isAgg114
  z127 := Try.sizeOf114
  v127 := Try.zeroValue114 }
theorem bldS_extra : Builder.Extra Try.prog bldS_ren := {
  sizeBuilder := by kernel_rfl
  liesBuilder := by kernel_rfl
  t5 := Try.underlying5
  a5 := Try.isAgg5
  z5 := Try.sizeOf5
  v5 := Try.zeroValue5
  infoByte := by kernel_rfl
  cellsByte := by kernel_rfl
  sizeByte := by kernel_rfl
  neB5 := by decide }
theorem String_any (B b : Nat) (l : List UInt8) (w : World) (h : Bldr B b (Lib.byteCells l) w) (hBw : B ≤ w.heap.size) :
    Calls Try.prog 66 #[.pointer (some ⟨b, 0, none⟩)] w fun e w' => e = .returned (.string ⟨l.toArray⟩) ∧ Below B w w' := Any.Builder_String_any bldS bldS_extra B b l w h hBw
end Go.Proofs.Ytghkldodceamcaa
