/-
  The law: searches ask what the chapter says.
-/
import Derived.Test.YtnjcoejnknpfoaaMinRTell
import Derived.Test.YtnjcoejnknpfoaaMinSame
import Derived.Test.YtnjcoejnknpfoaaMinAwake
namespace Go.Proofs.Ytnjcoejnknpfoaa
open Go.RowKit Go.Shelf
theorem great_good {N : Int} {l : List Kw} (h : greatS N l = false) : GoodN N ∧ l.length ≤ 60 ∧ ∀ r ∈ l, r.vs.length ≤ 12 := by
  unfold greatS at h
  simp only [Bool.or_eq_false_iff, Bool.and_eq_false_iff, decide_eq_false_iff_not, List.any_eq_false] at h
  obtain ⟨⟨h1, h2⟩, h3⟩ := h
  refine ⟨?_, by omega, fun r hr => ?_⟩
  · rcases h2 with h2 | h2
    · rcases Int.lt_or_le N 0 with h4 | h4
      · exact .inl (.inl h4)
      · exact .inr ⟨h4, by omega⟩
    · exact .inl (.inr (by omega))
  · have := h3 r hr
    unfold longK at this
    simp at this
    omega
set_option maxRecDepth 100000 in
set_option maxHeartbeats 8000000 in
theorem LawSteps_any (m N : Int) (l : List Kw) (k cap : Nat) (ao : Option Addr) (w : World) (h : KA w ao k cap l) :
    Calls Try.prog 3 #[.int .i64 m, .agg #[.int .i64 N, .slice ao k cap]] w fun e w' => e = .returned (.bool true) ∧ Below w.heap.size w w' := by
  have HK := lid h
  have CG := lid (fun (w1 : World) (hb : Below w.heap.size w w1) => Great_any N l k cap ao w1 (h.below hb))
  cases hg : greatS N l with
  | true =>
    rw [hg] at CG
    clear h hg HK
    go_enter Try.func3, Try.ntmps3
    go_wp2_with fail
    (with_reducible refine (CG.out _ (ba _ _)).mono ?_); rintro e w2 ⟨rfl, hb2⟩
    have g2 := (ba w (.cells #[.int .i64 N, .slice ao k cap] 24)).trans (hb2.mono (by simp))
    clear hb2
    go_wp2_with fail
    (with_reducible refine (awake_any _).mono ?_); rintro e w3 ⟨rfl, hb3⟩
    go_wp2_with fail
    go_ret
    exact ⟨ret_bool rfl, g2.trans (hb3.mono g2.size)⟩
  | false =>
    obtain ⟨hN, hl60, hl12⟩ := great_good hg
    rw [hg] at CG
    have hk : k ≤ 100 := by have := h.len; omega
    have hl20 : ∀ r ∈ l, r.vs.length ≤ 20 := fun r hr => by have := hl12 r hr; omega
    have CN := lid (fun (w1 : World) (hb : Below w.heap.size w w1) => Next_any N hN l k cap ao w1 hk (h.below hb) hl20)
    have CN2 := lid (fun (w1 : World) (hb : Below w.heap.size w w1) => refNext_any N hN l k cap ao w1 hk (h.below hb) hl20)
    have CR := lid (fun (w1 : World) (hb : Below w.heap.size w w1) => Result_any N hN l k cap ao w1 hk (h.below hb) hl20)
    have CR2 := lid (fun (w1 : World) (hb : Below w.heap.size w w1) => refResult_any N hN l k cap ao w1 hk (h.below hb) hl20)
    have CC := lid (fun (w1 : World) (hb : Below w.heap.size w w1) => Check_any N hN l k cap ao w1 hk (h.below hb) hl20)
    have CC2 := lid (fun (w1 : World) (hb : Below w.heap.size w w1) => refCheck_any N hN l k cap ao w1 hk (h.below hb) hl20)
    have CS : Hid (∀ w1 : World, Calls Try.prog 19 #[.agg #[.int .i64 (startN m), .slice none 0 0], .agg #[.int .i64 (startN m), .slice none 0 0]] w1 fun e w' => e = .returned (.bool true) ∧ Below w1.heap.size w1 w') := lid (fun w1 => by
      have := Same_any (startN m) (startN m) [] [] 0 0 0 0 none none w1 (by omega) (by omega) (ka_nil _) (ka_nil _) (fun r hr => by cases hr) (fun r hr => by cases hr)
      simpa using this)
    have CQ : Hid (∀ (w1 : World) (S : List Int) (n1 c1 n2 c2 : Nat) (a1 a2 : Option Addr), S.length ≤ 10 → IA w1 a1 n1 c1 S → IA w1 a2 n2 c2 S → Calls Try.prog 22 #[.slice a1 n1 c1, .slice a2 n2 c2] w1 fun e w' => e = .returned (.bool true) ∧ Below w1.heap.size w1 w') := lid (fun w1 S n1 c1 n2 c2 a1 a2 hS h1 h2 => by
      have := SameSet_any S S n1 c1 n2 c2 a1 a2 w1 (by have := h1.len; omega) (by have := h2.len; omega) h1 h2
      simpa using this)
    clear h hg HK hl60 hl12 hl20 hN
    go_enter Try.func3, Try.ntmps3
    go_wp2_with fail
    obtain ⟨W1, hW1⟩ : ∃ y, w.alloc (.cells #[.int .i64 N, .slice ao k cap] 24) = y := ⟨_, rfl⟩
    have g1 : Below w.heap.size w W1 := by rw [← hW1]; exact ba _ _
    have HS1 : Hid (W1.heap[w.heap.size]? = some (.cells #[.int .i64 N, .slice ao k cap] 24 (0, 0))) := lid (by rw [← hW1]; exact h_new rfl _)
    rw [hW1]
    clear hW1
    (with_reducible refine (CG.out W1 g1).mono ?_); rintro e w2 ⟨rfl, hb2⟩
    have HS2 := lid ((hb2.block _ (row_lt HS1.out)).trans HS1.out)
    have g2 := g1.trans (hb2.mono g1.size)
    clear hb2 CG
    go_wp2_with fail
    (with_reducible refine (Start_any m w2).mono ?_); rintro e w3 ⟨rfl, hb3⟩
    have HS3 := lid ((hb3.block _ (row_lt HS2.out)).trans HS2.out)
    have g3 := g2.trans (hb3.mono g2.size)
    clear hb3
    go_wp2_with fail
    obtain ⟨W4, hW4⟩ : ∃ y, w3.alloc (.cells #[.int .i64 (startN m), .slice none 0 0] 24) = y := ⟨_, rfl⟩
    have HS4 : Hid (W4.heap[w.heap.size]? = some (.cells #[.int .i64 N, .slice ao k cap] 24 (0, 0))) := lid (by rw [← hW4]; exact (h_old (row_lt HS3.out) _).trans HS3.out)
    have HA4 : Hid (W4.heap[w3.heap.size]? = some (.cells #[.int .i64 (startN m), .slice none 0 0] 24 (0, 0))) := lid (by rw [← hW4]; exact h_new rfl _)
    have g4 : Below w.heap.size w W4 := by rw [← hW4]; exact g3.alloc g3.size _
    obtain ⟨b5, hb5⟩ : ∃ y, w3.heap.size = y := ⟨_, rfl⟩
    rw [hb5] at HA4
    rw [hW4, hb5]
    clear hW4 hb5
    (with_reducible refine (refStart_any m W4).mono ?_); rintro e w5 ⟨rfl, hb5⟩
    have HS5 := lid ((hb5.block _ (row_lt HS4.out)).trans HS4.out)
    have HA5 := lid ((hb5.block _ (row_lt HA4.out)).trans HA4.out)
    have g5 := g4.trans (hb5.mono g4.size)
    clear hb5
    have l5 := row_lt HS5.out
    have x0 := row_cell HS5.out 0
    have x1 := row_cell HS5.out 1
    obtain ⟨sn, hsn⟩ : ∃ y, startN m = y := ⟨_, rfl⟩
    obtain ⟨se, hse⟩ : ∃ y, startE m = y := ⟨_, rfl⟩
    rw [hsn] at CS HA5
    rw [hsn, hse]
    have dse : (se == se) = true := by simp
    clear hsn hse
    go_wp2_with fail
    obtain ⟨W6, hW6⟩ : ∃ y, w5.alloc (.cells #[.int .i64 sn, .slice none 0 0] 24) = y := ⟨_, rfl⟩
    have HS6 : Hid (W6.heap[w.heap.size]? = some (.cells #[.int .i64 N, .slice ao k cap] 24 (0, 0))) := lid (by rw [← hW6]; exact (h_old (row_lt HS5.out) _).trans HS5.out)
    have HA6 : Hid (W6.heap[b5]? = some (.cells #[.int .i64 sn, .slice none 0 0] 24 (0, 0))) := lid (by rw [← hW6]; exact (h_old (row_lt HA5.out) _).trans HA5.out)
    have HB6 : Hid (W6.heap[w5.heap.size]? = some (.cells #[.int .i64 sn, .slice none 0 0] 24 (0, 0))) := lid (by rw [← hW6]; exact h_new rfl _)
    have g6 : Below w.heap.size w W6 := by rw [← hW6]; exact g5.alloc g5.size _
    obtain ⟨b7, hb7⟩ : ∃ y, w5.heap.size = y := ⟨_, rfl⟩
    rw [hb7] at HB6
    rw [hW6, hb7]
    clear hW6 hb7 x0 x1 l5
    (with_reducible refine (CN.out W6 g6).mono ?_); rintro e w7 ⟨r, a1, n1, c1, hE, rfl, hI1, hb7, _⟩
    have HE := lid hE
    obtain ⟨S, hS⟩ : ∃ y, (if Ex.open r = true then r.set else []) = y := ⟨_, rfl⟩
    have HSL : Hid (S.length ≤ 10) := lid (by rw [← hS]; split; exact hE.len; exact Nat.zero_le _)
    obtain ⟨bo, hbo⟩ : ∃ y, Ex.open r = y := ⟨_, rfl⟩
    have dbo : (bo == bo) = true := by simp
    have HBO := lid hbo
    have HSE := lid hS
    rw [hS] at hI1
    rw [hbo]
    have HI1 := lid hI1
    clear hE hI1 hS hbo
    have HS7 := lid ((hb7.block _ (row_lt HS6.out)).trans HS6.out)
    have HA7 := lid ((hb7.block _ (row_lt HA6.out)).trans HA6.out)
    have HB7 := lid ((hb7.block _ (row_lt HB6.out)).trans HB6.out)
    have g7 := g6.trans (hb7.mono g6.size)
    clear hb7
    have l7 := row_lt HS7.out
    have x0 := row_cell HS7.out 0
    have x1 := row_cell HS7.out 1
    go_wp2_with fail
    (with_reducible refine (CN2.out w7 g7).mono ?_); rintro e w8 ⟨r2, a2, n2, c2, hE, rfl, hI2, hb8, _⟩
    obtain rfl := hE.det HE.out
    rw [HSE.out] at hI2
    rw [HBO.out]
    have HI2 := lid hI2
    have HI18 := lid (HI1.out.below hb8)
    clear hE hI2
    have HS8 := lid ((hb8.block _ (row_lt HS7.out)).trans HS7.out)
    have HA8 := lid ((hb8.block _ (row_lt HA7.out)).trans HA7.out)
    have HB8 := lid ((hb8.block _ (row_lt HB7.out)).trans HB7.out)
    have g8 := g7.trans (hb8.mono g7.size)
    clear hb8 x0 x1 l7
    have l8 := row_lt HS8.out
    have x0 := row_cell HS8.out 0
    have x1 := row_cell HS8.out 1
    go_wp2_with fail
    (with_reducible refine (CR.out w8 g8).mono ?_); rintro e w9 ⟨r3, a3, n3, c3, hE, rfl, hI3, hb9, _⟩
    obtain rfl := hE.det HE.out
    obtain ⟨F, hF⟩ : ∃ y, (if Ex.fin r3 = true then r3.set else []) = y := ⟨_, rfl⟩
    have HFL : Hid (F.length ≤ 10) := lid (by rw [← hF]; split; exact hE.len; exact Nat.zero_le _)
    obtain ⟨bf, hbf⟩ : ∃ y, Ex.fin r3 = y := ⟨_, rfl⟩
    have dbf : (bf == bf) = true := by simp
    have HBF := lid hbf
    have HFE := lid hF
    rw [hF] at hI3
    rw [hbf]
    have HI3 := lid hI3
    have HI19 := lid (HI18.out.below hb9)
    have HI29 := lid (HI2.out.below hb9)
    clear hE hI3 hF hbf
    have HS9 := lid ((hb9.block _ (row_lt HS8.out)).trans HS8.out)
    have HA9 := lid ((hb9.block _ (row_lt HA8.out)).trans HA8.out)
    have HB9 := lid ((hb9.block _ (row_lt HB8.out)).trans HB8.out)
    have g9 := g8.trans (hb9.mono g8.size)
    clear hb9 x0 x1 l8
    have l9 := row_lt HS9.out
    have x0 := row_cell HS9.out 0
    have x1 := row_cell HS9.out 1
    go_wp2_with fail
    (with_reducible refine (CR2.out w9 g9).mono ?_); rintro e w10 ⟨r4, a4, n4, c4, hE, rfl, hI4, hb10, _⟩
    obtain rfl := hE.det HE.out
    rw [HFE.out] at hI4
    rw [HBF.out]
    have HI4 := lid hI4
    have HI110 := lid (HI19.out.below hb10)
    have HI210 := lid (HI29.out.below hb10)
    have HI310 := lid (HI3.out.below hb10)
    clear hE hI4
    have HS10 := lid ((hb10.block _ (row_lt HS9.out)).trans HS9.out)
    have HA10 := lid ((hb10.block _ (row_lt HA9.out)).trans HA9.out)
    have HB10 := lid ((hb10.block _ (row_lt HB9.out)).trans HB9.out)
    have g10 := g9.trans (hb10.mono g9.size)
    clear hb10 x0 x1 l9
    have lS := row_lt HS10.out
    have x0 := row_cell HS10.out 0
    have x1 := row_cell HS10.out 1
    have lA := row_lt HA10.out
    have q0 := row_cell HA10.out 0
    have q1 := row_cell HA10.out 1
    have lB := row_lt HB10.out
    have p0 := row_cell HB10.out 0
    have p1 := row_cell HB10.out 1
    go_wp2_with fail
    refine wp_region_seq (fun w' => ∃ s : Since w10.heap.size w10, w' = s.world) [(0, true), (1, true), (2, false), (3, true), (4, true), (5, true), (6, true), (7, true), (8, true), (9, true), (11, true), (10, false), (12, false), (13, true), (14, true), (15, true), (16, true), (17, true), (18, false), (19, true), (20, true), (21, true), (22, true), (23, true), (24, true), (25, true), (26, true), (27, true), (28, false), (29, true), (30, true), (31, true), (32, true), (33, true), (34, true), (35, true), (36, false), (37, true), (38, false)] (by kernel_rfl) (by kernel_rfl) (by intro c d v a w h; first | (cases d <;> exact h) | cases h.1) (since (Below.refl _ _).drew) ?_
    repeat (first | (refine seq_skip (by rfl) (by rfl) ?_; simp only [Act.put, List.setIfInBounds_toArray, List.set_cons_succ, List.set_cons_zero]) | (refine seq_float (by rfl) (by rfl) (by rfl) ?_; intro K hK; go_big_quiet_op; go_big_quiet_on))
    refine seq_chain (by rfl) ?_
    intro K hK
    go_wp2_with fail
    (with_reducible refine (CS.out _).mono ?_); rintro e w11 ⟨rfl, hb11⟩
    have h11 : Below w10.heap.size w10 w11 := (Below.refl _ _).drew.trans hb11
    have g11 := g10.trans (h11.mono g10.size)
    clear hb11
    go_wp2_with fail
    refine hK.out _ _ (since h11) ?_
    clear hK K
    repeat (first | (refine seq_skip (by rfl) (by rfl) ?_; simp only [Act.put, List.setIfInBounds_toArray, List.set_cons_succ, List.set_cons_zero]) | (refine seq_float (by rfl) (by rfl) (by rfl) ?_; intro K hK; go_big_quiet_op; go_big_quiet_on))
    refine seq_chain (by rfl) ?_
    intro K hK
    go_wp2_with fail
    (with_reducible refine (CC.out w11 g11).mono ?_); rintro e w12 ⟨r5, hE, rfl, hb12⟩
    obtain rfl := hE.det HE.out
    obtain ⟨er, her⟩ : ∃ y, r5.err = y := ⟨_, rfl⟩
    have HER := lid her
    have der : (er == er) = true := by simp
    rw [her]
    have h12 := h11.trans (hb12.mono h11.size)
    have g12 := g10.trans (h12.mono g10.size)
    clear hb12 her hE
    go_wp2_with fail
    refine hK.out _ _ (since h12) ?_
    clear hK K
    repeat (first | (refine seq_skip (by rfl) (by rfl) ?_; simp only [Act.put, List.setIfInBounds_toArray, List.set_cons_succ, List.set_cons_zero]) | (refine seq_float (by rfl) (by rfl) (by rfl) ?_; intro K hK; go_big_quiet_op; go_big_quiet_on))
    refine seq_chain (by rfl) ?_
    intro K hK
    go_wp2_with fail
    (with_reducible refine (CC2.out w12 g12).mono ?_); rintro e w13 ⟨r6, hE, rfl, hb13⟩
    obtain rfl := hE.det HE.out
    rw [HER.out]
    have h13 := h12.trans (hb13.mono h12.size)
    have g13 := g10.trans (h13.mono g10.size)
    clear hb13 hE
    go_wp2_with fail
    refine hK.out _ _ (since h13) ?_
    clear hK K
    repeat (first | (refine seq_skip (by rfl) (by rfl) ?_; simp only [Act.put, List.setIfInBounds_toArray, List.set_cons_succ, List.set_cons_zero]) | (refine seq_float (by rfl) (by rfl) (by rfl) ?_; intro K hK; go_big_quiet_op; go_big_quiet_on))
    refine seq_chain (by rfl) ?_
    intro K hK
    go_wp2_with fail
    (with_reducible refine (CQ.out w13 S n1 c1 n2 c2 a1 a2 HSL.out (HI110.out.below h13) (HI210.out.below h13)).mono ?_); rintro e w14 ⟨rfl, hb14⟩
    have h14 := h13.trans (hb14.mono h13.size)
    clear hb14
    go_wp2_with fail
    refine hK.out _ _ (since h14) ?_
    clear hK K
    repeat (first | (refine seq_skip (by rfl) (by rfl) ?_; simp only [Act.put, List.setIfInBounds_toArray, List.set_cons_succ, List.set_cons_zero]) | (refine seq_float (by rfl) (by rfl) (by rfl) ?_; intro K hK; go_big_quiet_op; go_big_quiet_on))
    refine seq_chain (by rfl) ?_
    intro K hK
    go_wp2_with fail
    (with_reducible refine (CQ.out w14 F n3 c3 n4 c4 a3 a4 HFL.out (HI310.out.below h14) (HI4.out.below h14)).mono ?_); rintro e w15 ⟨rfl, hb15⟩
    have h15 := h14.trans (hb15.mono h14.size)
    clear hb15
    go_wp2_with fail
    refine hK.out _ _ (since h15) ?_
    clear hK K
    repeat (first | (refine seq_skip (by rfl) (by rfl) ?_; simp only [Act.put, List.setIfInBounds_toArray, List.set_cons_succ, List.set_cons_zero]) | (refine seq_float (by rfl) (by rfl) (by rfl) ?_; intro K hK; go_big_quiet_op; go_big_quiet_on))
    refine seq_chain (by rfl) ?_
    intro K hK
    go_wp2_with fail
    (with_reducible refine (awake_any w15).mono ?_); rintro e w16 ⟨rfl, hb16⟩
    have h16 := h15.trans (hb16.mono h15.size)
    clear hb16
    go_wp2_with fail
    refine hK.out _ _ (since h16) ?_
    clear hK K
    repeat (first | (refine seq_skip (by rfl) (by rfl) ?_; simp only [Act.put, List.setIfInBounds_toArray, List.set_cons_succ, List.set_cons_zero]) | (refine seq_float (by rfl) (by rfl) (by rfl) ?_; intro K hK; go_big_quiet_op; go_big_quiet_on))
    refine seq_chain (by rfl) ?_
    intro K hK
    go_wp2_with fail
    refine hK.out _ _ (since h16) ?_
    clear hK K
    repeat (first | (refine seq_skip (by rfl) (by rfl) ?_; simp only [Act.put, List.setIfInBounds_toArray, List.set_cons_succ, List.set_cons_zero]) | (refine seq_float (by rfl) (by rfl) (by rfl) ?_; intro K hK; go_big_quiet_op; go_big_quiet_on))
    refine seq_nil ?_
    go_wp2_with fail
    go_ret
    exact ⟨ret_bool rfl, g10.trans (h16.mono g10.size)⟩
end Go.Proofs.Ytnjcoejnknpfoaa
