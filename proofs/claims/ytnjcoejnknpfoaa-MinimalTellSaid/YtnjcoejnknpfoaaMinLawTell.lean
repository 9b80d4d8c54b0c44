/-
  The law: answers are recorded as specified.
-/
import Derived.Test.YtnjcoejnknpfoaaMinLawSteps
namespace Go.Proofs.Ytnjcoejnknpfoaa
open Go.RowKit Go.Shelf
set_option maxRecDepth 100000 in
set_option maxHeartbeats 8000000 in
theorem LawTell_any (N : Int) (l : List Kw) (k cap : Nat) (ao : Option Addr) (set : List Int) (n2 c2 : Nat) (a2 : Option Addr) (bad : Bool) (w : World) (h : KA w ao k cap l) (h2 : IA w a2 n2 c2 set) :
    Calls Try.prog 4 #[.agg #[.int .i64 N, .slice ao k cap], .slice a2 n2 c2, .bool bad] w fun e w' => e = .returned (.bool true) ∧ Below w.heap.size w w' := by
  have CG := lid (fun (w1 : World) (hb : Below w.heap.size w w1) => Great_any N l k cap ao w1 (h.below hb))
  have hmx : n2 ≤ 9223372036854775807 := Nat.le_trans h2.le h2.max
  cases hg : greatS N l with
  | true =>
    rw [hg] at CG
    clear h hg h2
    go_enter Try.func4, Try.ntmps4
    go_wp2_with fail
    (with_reducible refine (CG.out _ (ba _ _)).mono ?_); rintro e w2 ⟨rfl, hb2⟩
    have g2 := (ba w (.cells #[.int .i64 N, .slice ao k cap] 24)).trans (hb2.mono (by simp))
    clear hb2
    go_wp2_with fail
    (with_reducible refine (awake_any _).mono ?_); rintro e w3 ⟨rfl, hb3⟩
    go_wp2_with fail
    go_ret
    exact ⟨ret_bool rfl, g2.trans (hb3.mono g2.size)⟩
  | false =>
    rw [hg] at CG
    by_cases h12 : 12 < n2
    · have d12 : decide ((12 : Int) < (n2 : Int)) = true := by simp; omega
      clear h hg h2 h12
      go_enter Try.func4, Try.ntmps4
      go_wp2_with fail
      (with_reducible refine (CG.out _ (ba _ _)).mono ?_); rintro e w2 ⟨rfl, hb2⟩
      have g2 := (ba w (.cells #[.int .i64 N, .slice ao k cap] 24)).trans (hb2.mono (by simp))
      clear hb2
      go_wp2_with fail
      (with_reducible refine (awake_any _).mono ?_); rintro e w3 ⟨rfl, hb3⟩
      go_wp2_with fail
      go_ret
      exact ⟨ret_bool rfl, g2.trans (hb3.mono g2.size)⟩
    · have d12 : decide ((12 : Int) < (n2 : Int)) = false := by simp; omega
      obtain ⟨hN, hl60, hl12⟩ := great_good hg
      have hk : k ≤ 100 := by have := h.len; omega
      have hl20 : ∀ r ∈ l, r.vs.length ≤ 20 := fun r hr => by have := hl12 r hr; omega
      have CT := lid (fun (w1 : World) (hb : Below w.heap.size w w1) => Tell_any N hN l k cap ao set n2 c2 a2 bad w1 hk (h.below hb) hl20 (h2.below hb) (by omega))
      have CT2 := lid (fun (w1 : World) (hb : Below w.heap.size w w1) => refTell_any N hN l k cap ao set n2 c2 a2 bad w1 hk (h.below hb) hl20 (h2.below hb) (by omega))
      have CS : Hid (∀ (w1 : World) (M : Int) (l1 l2 : List Kw) (k1 c1 k2 c2 : Nat) (a1 a2 : Option Addr), KA w1 a1 k1 c1 l1 → KA w1 a2 k2 c2 l2 → (∀ r ∈ l1, r.vs.length ≤ 20) → (∀ r ∈ l2, r.vs.length ≤ 20) → l1.map Kw.kn = l2.map Kw.kn → l1.length ≤ 1000 → Calls Try.prog 19 #[.agg #[.int .i64 M, .slice a1 k1 c1], .agg #[.int .i64 M, .slice a2 k2 c2]] w1 fun e w' => e = .returned (.bool true) ∧ Below w1.heap.size w1 w') := lid (fun w1 M l1 l2 k1 c1 k2 c2 a1 a2 hk1 hk2 h1 h2 he hl => by
        have hl2 : l2.length = l1.length := by have := congrArg List.length he; simpa using this.symm
        have := Same_any M M l1 l2 k1 c1 k2 c2 a1 a2 w1 (by have := hk1.len; omega) (by have := hk2.len; omega) hk1 hk2 h1 h2
        rw [he] at this
        simpa using this)
      have HL60 := lid (show (l.map Kw.kn).length ≤ 60 by rw [List.length_map]; exact hl60)
      clear h hg h12 hl60 hl12 hl20 hN h2
      go_enter Try.func4, Try.ntmps4
      go_wp2_with fail
      obtain ⟨W1, hW1⟩ : ∃ y, w.alloc (.cells #[.int .i64 N, .slice ao k cap] 24) = y := ⟨_, rfl⟩
      have g1 : Below w.heap.size w W1 := by rw [← hW1]; exact ba _ _
      have HS1 : Hid (W1.heap[w.heap.size]? = some (.cells #[.int .i64 N, .slice ao k cap] 24 (0, 0))) := lid (by rw [← hW1]; exact h_new rfl _)
      rw [hW1]
      clear hW1
      (with_reducible refine (CG.out W1 g1).mono ?_); rintro e w2 ⟨rfl, hb2⟩
      have HS2 := lid ((hb2.block _ (row_lt HS1.out)).trans HS1.out)
      have g2 := g1.trans (hb2.mono g1.size)
      clear hb2 CG
      have l2 := row_lt HS2.out
      have x0 := row_cell HS2.out 0
      have x1 := row_cell HS2.out 1
      go_wp2_with fail
      (with_reducible refine (CT.out w2 g2).mono ?_); rintro e w3 ⟨r, l3, k3, c3, a3, hE, rfl, hk3, hkn3, hl3, hb3, _, _⟩
      have HE := lid hE
      have HK3 := lid hk3
      have HKN3 := lid hkn3
      have HL3 := lid hl3
      have HS3 := lid ((hb3.block _ (row_lt HS2.out)).trans HS2.out)
      have g3 := g2.trans (hb3.mono g2.size)
      have HLL : Hid (l3.length ≤ 1000) := lid (by
        have := congrArg List.length hkn3
        rw [List.length_map] at this
        rw [this]
        split
        · rw [List.length_append]; have h60 := HL60.out; rw [List.length_map] at h60; simp; omega
        · simp)
      obtain ⟨te, hte⟩ : ∃ y, tellE r set = y := ⟨_, rfl⟩
      have HTE := lid hte
      have dte : (te == te) = true := by simp
      obtain ⟨tn, htn⟩ : ∃ y, (if te = 0 then N else 0) = y := ⟨_, rfl⟩
      have HTN := lid htn
      rw [hte, htn]
      clear hE hk3 hkn3 hl3 hb3 l2 x0 x1 hte htn
      have lz3 := row_lt HS3.out
      have x0 := row_cell HS3.out 0
      have x1 := row_cell HS3.out 1
      go_wp2_with fail
      obtain ⟨W4, hW4⟩ : ∃ y, w3.alloc (.cells #[.int .i64 tn, .slice a3 k3 c3] 24) = y := ⟨_, rfl⟩
      have HS4 : Hid (W4.heap[w.heap.size]? = some (.cells #[.int .i64 N, .slice ao k cap] 24 (0, 0))) := lid (by rw [← hW4]; exact (h_old (row_lt HS3.out) _).trans HS3.out)
      have HA4 : Hid (W4.heap[w3.heap.size]? = some (.cells #[.int .i64 tn, .slice a3 k3 c3] 24 (0, 0))) := lid (by rw [← hW4]; exact h_new rfl _)
      have HK4 : Hid (KA W4 a3 k3 c3 l3) := lid (by rw [← hW4]; exact HK3.out.below (ba _ _))
      have g4 : Below w.heap.size w W4 := by rw [← hW4]; exact g3.alloc g3.size _
      obtain ⟨b5, hb5⟩ : ∃ y, w3.heap.size = y := ⟨_, rfl⟩
      rw [hb5] at HA4
      rw [hW4, hb5]
      clear hW4 hb5 x0 x1 lz3
      (with_reducible refine (CT2.out W4 g4).mono ?_); rintro e w5 ⟨r2, l5, k5, c5, a5, hE, rfl, hk5, hkn5, hl5, hb5, _, _⟩
      obtain rfl := hE.det HE.out
      rw [HTE.out, HTN.out]
      have HK5 := lid hk5
      have HL5 := lid hl5
      have HKE := lid (HKN3.out.trans hkn5.symm)
      have HA5 := lid ((hb5.block _ (row_lt HA4.out)).trans HA4.out)
      have HK45 := lid (HK4.out.below hb5)
      have g5 := g4.trans (hb5.mono g4.size)
      clear hE hk5 hkn5 hl5 hb5
      have lA := row_lt HA5.out
      have q0 := row_cell HA5.out 0
      have q1 := row_cell HA5.out 1
      go_wp2_with fail
      have g6 := g5.alloc g5.size (.cells #[.int .i64 tn, .slice a5 k5 c5] 24)
      (with_reducible refine (CS.out _ tn l3 l5 k3 c3 k5 c5 a3 a5 (HK45.out.below (ba _ _)) (HK5.out.below (ba _ _)) HL3.out HL5.out HKE.out HLL.out).mono ?_); rintro e w7 ⟨rfl, hb7⟩
      have g7 := g6.trans (hb7.mono g6.size)
      clear hb7
      go_wp2_with fail
      (with_reducible refine (awake_any w7).mono ?_); rintro e w8 ⟨rfl, hb8⟩
      go_wp2_with fail
      go_ret
      exact ⟨ret_bool rfl, g7.trans (hb8.mono g7.size)⟩
end Go.Proofs.Ytnjcoejnknpfoaa
