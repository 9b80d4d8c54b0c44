/-
  The law DigestText returns true and makes new memory alone.
-/
import Derived.Test.YtchjmkmcgpbndaaDigAwake
import Derived.Test.YtchjmkmcgpbndaaDigParse
import Derived.Test.YtchjmkmcgpbndaaDigFormat
import Derived.Test.YtchjmkmcgpbndaaDigText
import Derived.Test.YtchjmkmcgpbndaaRegion
namespace Go.Proofs.Ytchjmkmcgpbndaa
open Go.RowKit

theorem Parse_text (d : Dg) (w : World) : Calls Try.prog 11 #[.string (bstr (hexU d.1 d.2))] w fun e w' => e = .returned (.tuple #[dv d, .int .i64 0]) ∧ Below w.heap.size w w' := by
  have h := Parse_any (bstr (hexU d.1 d.2)) w (by simp [hexU_length, maxLen])
  rw [bstr_list, parseE_hexU] at h
  exact h

set_option maxHeartbeats 2000000 in
theorem LawText_any (d : Dg) (s : ByteArray) (w : World) (hs : s.size ≤ maxLen) :
    Calls Try.prog 4 #[dv d, .string s] w fun e w' => e = .returned (.bool true) ∧ Below w.heap.size w w' := by
  have hs' : s.size ≤ 9223372036854775807 := hs
  have b0 : Below w.heap.size w (w.alloc (Obj.cells #[Value.int .u64 d.1.toNat, Value.int .u64 d.2.toNat] 24)) := ba _ _
  by_cases h100 : s.size ≤ 100
  · go_enter Try.func4, Try.ntmps4
    go_wp2_with fail
    (with_reducible refine (Format_any d.1 d.2 _).mono ?_); rintro e w1 ⟨rfl, hb1⟩
    go_wp2_with fail
    (with_reducible refine (Parse_text d _).mono ?_); rintro e w2 ⟨rfl, hb2⟩
    have hb12 := hb1.trans (hb2.mono hb1.size)
    have hz := hb12.size
    rw [World.size_alloc] at hz hb12
    have c0 : w2.cell? ⟨w.heap.size, 0, none⟩ = some (.int .u64 d.1.toNat) := by rw [bc hb12 (by omega)]; simp
    have c1 : w2.cell? ⟨w.heap.size, 1, none⟩ = some (.int .u64 d.2.toNat) := by rw [bc hb12 (by omega)]; simp
    have e0 : (w2.alloc (Obj.cells #[Value.int .u64 d.1.toNat, Value.int .u64 d.2.toNat] 24)).cell? ⟨w.heap.size, 0, none⟩ = some (.int .u64 d.1.toNat) := by rw [bc (ba _ _) (by omega), c0]
    have e1 : (w2.alloc (Obj.cells #[Value.int .u64 d.1.toNat, Value.int .u64 d.2.toNat] 24)).cell? ⟨w.heap.size, 1, none⟩ = some (.int .u64 d.2.toNat) := by rw [bc (ba _ _) (by omega), c1]
    have hw2 := b0.trans (hb12.mono (by omega))
    clear hb1 hb2
    go_wp2_with fail
    (with_reducible refine (Parse_any s _ hs).mono ?_); rintro e w3 ⟨rfl, hb3⟩
    have hw3 := (hw2.alloc (by omega) _).trans (hb3.mono (by rw [World.size_alloc]; omega))
    have hz3 := hb3.size
    rw [World.size_alloc] at hz3
    generalize hR : parseE s.data.toList = R
    obtain ⟨⟨x, y⟩, er⟩ := R
    have HR := lid hR
    have her := parseE_err s.data.toList
    rw [hR] at her
    clear hR hb3 hb12 c0 c1 e0 e1
    rcases her with her | her
    · simp only at her
      subst her
      have HT := lid (hexU_parseE HR.out)
      go_wp2_with fail
      (with_reducible refine (Format_any x y _).mono ?_); rintro e w4 ⟨rfl, hb4⟩
      have hw4 := (hw3.alloc (by omega) _).trans (hb4.mono (by rw [World.size_alloc]; omega))
      have hz4 := hb4.size
      rw [World.size_alloc] at hz4
      rw [HT.out, bstr_of]
      go_wp2_with fail
      (with_reducible refine (awake_any _).mono ?_); rintro e w5 ⟨rfl, hb5⟩
      go_wp2_with fail
      go_ret
      exact ⟨rfl, hw4.trans (hb5.mono (by omega))⟩
    · simp only [Prod.mk.injEq] at her
      obtain ⟨⟨rfl, rfl⟩, rfl⟩ := her
      go_wp2_with fail
      (with_reducible refine (awake_any _).mono ?_); rintro e w5 ⟨rfl, hb5⟩
      go_wp2_with fail
      go_ret
      exact ⟨rfl, (hw3.alloc (by omega) _).trans (hb5.mono (by rw [World.size_alloc]; omega))⟩
  · go_enter Try.func4, Try.ntmps4
    go_wp2_with fail
    (with_reducible refine (awake_any _).mono ?_); rintro e w1 ⟨rfl, hb1⟩
    go_wp2_with fail
    go_ret
    exact ⟨rfl, b0.trans (hb1.mono (by simp))⟩
end Go.Proofs.Ytchjmkmcgpbndaa
