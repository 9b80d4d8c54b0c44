/-
  QuorumLiars: the law's walk.
-/
import Derived.Test.YtcpnpcbaifagbaaQuoPlain2
namespace Go.Proofs.Ytcpnpcbaifagbaa
open Go.RowKit
def K34 : Dg := (3, 4)
/-- What votes have made: in order, and few. -/
theorem votes_rows {w : World} {ao : Option Addr} {n cap : Nat} {rs : List Rw} {k : Dg} {l : List Vt} (h : BA w ao n cap rs) (e : rs.map Rw.bal = votesL k l) (hl : l.length ≤ 10) : SrtR rs ∧ n ≤ 10 ∧ ∀ r ∈ rs, r.vs.length ≤ 10 := by
  have h1 := votesL_bound k l
  have h2 := rows_bound (N := 10) (M := 10) h e (by omega) (fun b hb => Nat.le_trans (h1.2 b hb) hl)
  exact ⟨srtR_of (by rw [e]; exact votes_check k l), h2.1, h2.2⟩
set_option maxRecDepth 100000 in
set_option maxHeartbeats 16000000 in
theorem LawLiars_any (l : List Vt) (n cap : Nat) (ao : Option Addr) (s : ByteArray) (m : Nat) (w : World) (h : VA w ao n cap l) (hs : s.size ≤ maxLen) (hm : m < 256) :
    Calls Try.prog 5 #[.slice ao n cap, .string s, .int .u8 (m : Int)] w fun e w' => e = .returned (.bool true) ∧ Below w.heap.size w w' := by
  have hss : s.size ≤ 9223372036854775807 := hs
  have HVA := lid h
  clear h hs
  go_enter Try.func5, Try.ntmps5
  go_wp2_with fail
  obtain ⟨W0, hW0⟩ : ∃ y, w.alloc (.cells #[.int .u64 3, .int .u64 4] 25) = y := ⟨_, rfl⟩
  rw [hW0]
  have KB : Hid (W0.heap[w.heap.size]? = some (.cells #[.int .u64 3, .int .u64 4] 25 (0, 0))) := lid (by rw [← hW0]; exact heap_alloc_new _ _)
  have hb0 : Below w.heap.size w W0 := by rw [← hW0]; exact ba _ _
  clear hW0
  replace HVA := lid (HVA.out.below hb0)
  have CF := lid (few_any l n cap ao W0 HVA.out)
  go_wp2_with fail
  cases hf : fewB l with
  | false =>
    rw [hf] at CF
    clear hf
    (with_reducible refine (CF.out).mono ?_); rintro e w1 ⟨rfl, hb1⟩
    go_wp2_with fail
    (with_reducible refine (awake_any _).mono ?_); rintro e w2 ⟨rfl, hb2⟩
    have h2 := hb1.trans (hb2.mono hb1.size)
    go_wp2_with fail
    go_ret
    exact ⟨rfl, hb0.trans (h2.mono hb0.size)⟩
  | true =>
    have HF := lid (few_yes hf)
    rw [hf] at CF
    clear hf
    have hn10 : n ≤ 10 := by rw [← HVA.out.len]; exact HF.out.1
    (with_reducible refine (CF.out).mono ?_); rintro e w1 ⟨rfl, hb1⟩
    clear CF
    replace KB := lid ((hb1.block _ (row_lt KB.out)).trans KB.out)
    replace HVA := lid (HVA.out.below hb1)
    replace hb0 := hb0.trans (hb1.mono hb0.size)
    clear hb1
    by_cases h60 : 60 < s.size
    · have d60 : decide ((60 : Int) < (s.size : Int)) = true := by simp; omega
      clear h60
      go_wp2_with fail
      (with_reducible refine (awake_any _).mono ?_); rintro e w2 ⟨rfl, hb2⟩
      go_wp2_with fail
      go_ret
      exact ⟨rfl, hb0.trans (hb2.mono hb0.size)⟩
    have d60 : decide ((60 : Int) < (s.size : Int)) = false := by simp; omega
    clear h60
    have CV : Hid (Calls Try.prog 20 #[.agg #[.int .u64 3, .int .u64 4], .slice ao n cap] w1 fun e w' => ∃ (rs : List Rw) (ao' : Option Addr) (n' cap' : Nat), e = .returned (.slice ao' n' cap') ∧ rs.map Rw.bal = votesL K34 l ∧ BA w' ao' n' cap' rs ∧ Below w1.heap.size w1 w') := lid (votes_any l n cap ao K34 w1 (by omega) HVA.out)
    have p0 := row_cell KB.out 0
    have p1 := row_cell KB.out 1
    go_wp2_with fail
    (with_reducible refine (CV.out).mono ?_); rintro e w2 ⟨rs, ao2, n2, c2, rfl, hM, hB, hb2⟩
    clear CV p0 p1
    have HM := lid hM
    have HB := lid hB
    have HR := lid (votes_rows hB hM HF.out.1)
    clear hM hB
    replace KB := lid ((hb2.block _ (row_lt KB.out)).trans KB.out)
    replace hb0 := hb0.trans (hb2.mono hb0.size)
    clear hb2
    have HAB : Hid (aboutB (rs.map Rw.bal) K34 = vsOf l) := lid (by rw [HM.out, votes_about])
    have CA : Hid (Calls Try.prog 21 #[.slice ao2 n2 c2, .agg #[.int .u64 3, .int .u64 4], .string s] w2 fun e w' => ∃ (S : List ByteArray) (ao' : Option Addr) (n' cap' : Nat), e = .returned (.slice ao' n' cap') ∧ S = againstB (vsOf l) s ∧ SA w' ao' n' cap' S ∧ Below w2.heap.size w2 w') := lid (by
      have := Against_any rs n2 c2 ao2 K34 s w2 (by have := HR.out.2.1; omega) HB.out (fun r hr => by have := HR.out.2.2 r hr; omega) HR.out.1
      rw [HAB.out] at this
      exact this)
    have p0 := row_cell KB.out 0
    have p1 := row_cell KB.out 1
    go_wp2_with fail
    (with_reducible refine (CA.out).mono ?_); rintro e w3 ⟨S, ao3, n3, c3, rfl, hS, hSA, hb3⟩
    clear CA p0 p1
    have HN3 : Hid ((againstB (vsOf l) s).length = n3) := lid (by rw [← hS, hSA.len])
    clear hS hSA
    replace KB := lid ((hb3.block _ (row_lt KB.out)).trans KB.out)
    replace HB := lid (HB.out.below hb3)
    replace hb0 := hb0.trans (hb3.mono hb0.size)
    clear hb3
    by_cases hc : m ≤ n3
    · have d1 : decide ((m : Int) ≤ (n3 : Int)) = true := by simp; omega
      have d2 : decide (m ≤ n3) = true := by simpa using hc
      clear hc
      go_wp2_with fail
      (with_reducible refine (awake_any _).mono ?_); rintro e w4 ⟨rfl, hb4⟩
      go_wp2_with fail
      go_ret
      exact ⟨rfl, hb0.trans (hb4.mono hb0.size)⟩
    have d1 : decide ((m : Int) ≤ (n3 : Int)) = false := by simp; omega
    have d2 : decide (m ≤ n3) = false := by simpa using hc
    have HL := lid (liars (vs := vsOf l) (right := s) (n := (m : Int)) (by rw [HN3.out]; omega))
    clear hc
    have CD : Hid (Calls Try.prog 22 #[.slice ao2 n2 c2, .agg #[.int .u64 3, .int .u64 4], .int .i64 (m : Int)] w3 fun e w' => e = .returned (.tuple #[.string (decB (vsOf l) m).1, .bool (decB (vsOf l) m).2]) ∧ Below w3.heap.size w3 w') := lid (by
      have := Decide_any rs n2 c2 ao2 K34 (m : Int) w3 (by have := HR.out.2.1; omega) HB.out (fun r hr => by have := HR.out.2.2 r hr; omega) HR.out.1
      rw [HAB.out] at this
      exact this)
    obtain ⟨R, hR⟩ : ∃ y, decB (vsOf l) (m : Int) = y := ⟨_, rfl⟩
    rw [hR] at CD HL
    clear hR
    obtain ⟨ro, rb⟩ := R
    have p0 := row_cell KB.out 0
    have p1 := row_cell KB.out 1
    go_wp2_with fail
    (with_reducible refine (CD.out).mono ?_); rintro e w4 ⟨rfl, hb4⟩
    clear CD p0 p1
    replace hb0 := hb0.trans (hb4.mono hb0.size)
    clear hb4
    cases rb with
    | false =>
      go_wp2_with fail
      (with_reducible refine (awake_any _).mono ?_); rintro e w5 ⟨rfl, hb5⟩
      go_wp2_with fail
      go_ret
      exact ⟨rfl, hb0.trans (hb5.mono hb0.size)⟩
    | true =>
      have he : ro = s := by
        rcases HL.out with h | h
        · cases h
        · exact h
      have d := str_eq he
      clear he
      go_wp2_with fail
      (with_reducible refine (awake_any _).mono ?_); rintro e w5 ⟨rfl, hb5⟩
      go_wp2_with fail
      go_ret
      exact ⟨rfl, hb0.trans (hb5.mono hb0.size)⟩
end Go.Proofs.Ytcpnpcbaifagbaa
