/-
  Is a record valid: ledger and its reference; the text and the digest of a record.
-/
import Derived.Test.YtbghpjedldhnhaaLedWord
import Derived.Test.YtbghpjedldhnhaaCodRef
import Derived.Test.YtbghpjedldhnhaaDigOf
import Derived.Test.YtbghpjedldhnhaaDigRefOf
namespace Go.Proofs.Ytbghpjedldhnhaa
open Go.RowKit

/-- The sizes of a record's texts that the model asks. -/
def RecS (r : Rec) : Prop := r.2.1.size ≤ maxLen ∧ r.2.2.1.size ≤ maxLen ∧ r.2.2.2.size ≤ maxLen

set_option maxRecDepth 100000 in
set_option maxHeartbeats 4000000 in
theorem validRecord_any (r : Rec) (w : World) (hr : RecS r) :
    Calls Try.prog 33 #[rv r] w fun e w' => e = .returned (.bool (recB r)) ∧ Below w.heap.size w w' := by
  obtain ⟨t, a, b, d⟩ := r
  obtain ⟨s1, s2, s3⟩ := hr
  simp only at s1 s2 s3
  have s3' : d.size ≤ 9223372036854775807 := s3
  have HV : Hid (recB (t, a, b, d) = (decide (0 ≤ t ∧ t ≤ 1099511627776) && (wordB a.data.toList && (wordB b.data.toList && decide (d.size ≤ 65536))))) := lid rfl
  generalize recB (t, a, b, d) = V at *
  have CA := lid (fun w => isWord_any a w s1)
  have CB := lid (fun w => isWord_any b w s2)
  generalize wordB a.data.toList = A at *
  generalize wordB b.data.toList = B at *
  have hb0 := ba w (Obj.cells #[.int .i64 t, .string a, .string b, .string d] 36)
  clear s1 s2 s3
  by_cases h0 : 0 ≤ t
  · by_cases h1 : t ≤ 1099511627776
    · have HT := lid (decide_eq_true (p := 0 ≤ t ∧ t ≤ 1099511627776) ⟨h0, h1⟩)
      go_enter Try.func33, Try.ntmps33
      go_wp2_with fail
      (with_reducible refine (CA.out _).mono ?_); rintro e w1 ⟨rfl, rfl⟩
      cases A with
      | false =>
        go_wp2_with fail
        go_ret
        exact ⟨ret_bool' (by rw [HV.out, HT.out]; rfl), hb0⟩
      | true =>
        go_wp2_with fail
        (with_reducible refine (CB.out _).mono ?_); rintro e w2 ⟨rfl, rfl⟩
        cases B with
        | false =>
          go_wp2_with fail
          go_ret
          exact ⟨ret_bool' (by rw [HV.out, HT.out]; rfl), hb0⟩
        | true =>
          by_cases hd : d.size ≤ 65536
          · have HD := lid (decide_eq_true hd)
            have hd1 : decide ((d.size : Int) ≤ 65536) = true := by simp; omega
            go_wp2_with fail
            go_ret
            exact ⟨ret_bool' (by rw [HV.out, HT.out, HD.out]; rfl), hb0⟩
          · have HD := lid (decide_eq_false hd)
            have hd1 : decide ((d.size : Int) ≤ 65536) = false := by simp; omega
            go_wp2_with fail
            go_ret
            exact ⟨ret_bool' (by rw [HV.out, HT.out, HD.out]; rfl), hb0⟩
    · have HT := lid (decide_eq_false (p := 0 ≤ t ∧ t ≤ 1099511627776) (by omega))
      have h1' : decide (t ≤ 1099511627776) = false := by simp; omega
      go_enter Try.func33, Try.ntmps33
      go_wp2_with fail
      go_ret
      exact ⟨ret_bool' (by rw [HV.out, HT.out]; rfl), hb0⟩
  · have HT := lid (decide_eq_false (p := 0 ≤ t ∧ t ≤ 1099511627776) (by omega))
    have h0' : decide (0 ≤ t) = false := by simp; omega
    go_enter Try.func33, Try.ntmps33
    go_wp2_with fail
    go_ret
    exact ⟨ret_bool' (by rw [HV.out, HT.out]; rfl), hb0⟩

theorem putI_len (n : Int) : (putI n).length ≤ 6 := by
  unfold putI putB
  split
  · rename_i h
    have := of_decide_eq_true h
    exact putN_six (by omega)
  · simp
theorem putX_len (l : List UInt8) : (putX l).length ≤ 65542 := by
  unfold putX
  split
  · rename_i h
    unfold putT
    rw [List.length_append]
    have := putN_six (n := l.length) (by omega)
    omega
  · simp
theorem recL_len (r : Rec) : (bstr (recL r)).size ≤ maxLen := by
  rw [bstr_size]
  unfold recL
  simp only [List.length_append]
  have := putI_len r.1
  have := putX_len r.2.1.data.toList
  have := putX_len r.2.2.1.data.toList
  have := putX_len r.2.2.2.data.toList
  unfold maxLen
  omega

set_option maxRecDepth 100000 in
set_option maxHeartbeats 4000000 in
theorem refText_any (r : Rec) (w : World) (hr : RecS r) :
    Calls Try.prog 28 #[rv r] w fun e w' => e = .returned (.string (bstr (recL r))) ∧ Below w.heap.size w w' := by
  obtain ⟨t, a, b, d⟩ := r
  obtain ⟨s1, s2, s3⟩ := hr
  simp only at s1 s2 s3
  have hb0 := ba w (Obj.cells #[.int .i64 t, .string a, .string b, .string d] 36)
  have c1 : (w.alloc (Obj.cells #[.int .i64 t, .string a, .string b, .string d] 36)).cell? ⟨w.heap.size, 1, none⟩ = some (.string a) := by simp
  have c2 : (w.alloc (Obj.cells #[.int .i64 t, .string a, .string b, .string d] 36)).cell? ⟨w.heap.size, 2, none⟩ = some (.string b) := by simp
  have c3 : (w.alloc (Obj.cells #[.int .i64 t, .string a, .string b, .string d] 36)).cell? ⟨w.heap.size, 3, none⟩ = some (.string d) := by simp
  have hlt : w.heap.size < (w.alloc (Obj.cells #[.int .i64 t, .string a, .string b, .string d] 36)).heap.size := by simp
  have CA := lid (fun w => refPutText_any a w s1)
  have CB := lid (fun w => refPutText_any b w s2)
  have CD := lid (fun w => refPutText_any d w s3)
  have HV : Hid (bstr (recL (t, a, b, d)) = bstr (putI t) ++ bstr (putX a.data.toList) ++ bstr (putX b.data.toList) ++ bstr (putX d.data.toList)) := lid (by rw [bstr_append, bstr_append, bstr_append]; rfl)
  have l0 : (bstr (putI t)).size ≤ 6 := by rw [bstr_size]; exact putI_len t
  have l1 : (bstr (putX a.data.toList)).size ≤ 65542 := by rw [bstr_size]; exact putX_len _
  have l2 : (bstr (putX b.data.toList)).size ≤ 65542 := by rw [bstr_size]; exact putX_len _
  have l3 : (bstr (putX d.data.toList)).size ≤ 65542 := by rw [bstr_size]; exact putX_len _
  have CT := lid (fun w => refPutInt_any t w)
  generalize bstr (recL (t, a, b, d)) = V at *
  generalize bstr (putI t) = T at *
  generalize bstr (putX a.data.toList) = A at *
  generalize bstr (putX b.data.toList) = B at *
  generalize bstr (putX d.data.toList) = D at *
  clear s1 s2 s3
  have C1 := lid c1
  have C2 := lid c2
  have C3 := lid c3
  clear c1 c2 c3
  go_enter Try.func28, Try.ntmps28
  go_wp2_with fail
  (with_reducible refine (CT.out _).mono ?_); rintro e w1 ⟨rfl, hb1⟩
  have c1 := (bc hb1 hlt 1).trans C1.out
  go_wp2_with fail
  (with_reducible refine (CA.out _).mono ?_); rintro e w2 ⟨rfl, hb2⟩
  have hs2 := hb1.trans (hb2.mono hb1.size)
  have c2 := (bc hs2 hlt 2).trans C2.out
  clear c1
  go_wp2_with fail
  (with_reducible refine (CB.out _).mono ?_); rintro e w3 ⟨rfl, hb3⟩
  have hs3 := hs2.trans (hb3.mono hs2.size)
  have c3 := (bc hs3 hlt 3).trans C3.out
  clear c2
  go_wp2_with fail
  (with_reducible refine (CD.out _).mono ?_); rintro e w4 ⟨rfl, hb4⟩
  have hs4 := hs3.trans (hb4.mono hs3.size)
  clear c3
  go_wp2_with fail
  go_ret
  exact ⟨ret_str1 HV.out.symm, hb0.trans (hs4.mono hb0.size)⟩
end Go.Proofs.Ytbghpjedldhnhaa
