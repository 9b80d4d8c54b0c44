/-
  The reference's PutInt and PutText.
-/
import Derived.Test.YtmkdcnkbhnegnaaCodPut
import Derived.Test.YtmkdcnkbhnegnaaMix
namespace Go.Proofs.Ytmkdcnkbhnegnaa
open Go.RowKit

/-- What is known while a byte is laid, turned to a string, and the rest is called, in any order. -/
def RP (c : UInt8) (t : List UInt8) (B0 : Nat) (W : World) (s : Nat → Bool) (vs : List Value) (w : World) : Prop :=
  ∃ x y z, vs = [x, y, z] ∧ Below B0 W w ∧ (s 4 = true → ∃ k, x = .slice (some ⟨k, 0, none⟩) 1 1 ∧ w.ownsRow B0 5 1 x 1 (bvals [c])) ∧ (s 5 = true → y = .string (bstr [c])) ∧ (s 8 = true → z = .string (bstr t))
section
variable {c : UInt8} {t : List UInt8} {B0 : Nat} {W w w' : World} {s : Nat → Bool}
theorem RP.three {vs : List Value} (h : RP c t B0 W s vs w) : ∃ x y z, vs = [x, y, z] := by
  obtain ⟨x, y, z, e, _⟩ := h
  exact ⟨x, y, z, e⟩
theorem RP.old {vs : List Value} (h : RP c t B0 W s vs w) : Below B0 W w := by
  obtain ⟨x, y, z, e, hb, _⟩ := h
  exact hb
theorem RP.start (x y z : Value) (hs : s 4 = false ∧ s 5 = false ∧ s 8 = false) : RP c t B0 W s [x, y, z] W.drew := by
  refine ⟨x, y, z, rfl, (Below.refl _ _).drew, ?_, ?_, ?_⟩ <;> simp [hs]
theorem RP.byte {x y z : Value} (h : RP c t B0 W s [x, y, z] w) (hB : B0 ≤ w.heap.size) : RP c t B0 W (upd s 4) [.slice (some ⟨w.heap.size, 0, none⟩) 1 1, y, z] (w.alloc (.cells #[.int .u8 c.toNat] 5)) := by
  obtain ⟨x, y, z, e, h0, h4, h5', h8⟩ := h
  cases e
  refine ⟨_, y, z, rfl, h0.trans ((ba w _).mono hB), fun _ => ⟨_, rfl, ?_⟩, ?_, ?_⟩
  · have := World.ownsRow_lit (e := 5) (base := B0) (size := 1) w #[.int .u8 c.toNat] 1 hB (by simp [maxLen]) rfl
    simpa [bvals] using this
  · rw [upd_ne s (show 5 ≠ 4 by decide)]
    exact h5'
  · rw [upd_ne s (show 8 ≠ 4 by decide)]
    exact h8
theorem RP.conv {x y z : Value} (h : RP c t B0 W s [x, y, z] w) (h4 : s 4 = true) : (∃ k, x = .slice (some ⟨k, 0, none⟩) 1 1) ∧ (convert 47 9 x).run Try.prog w = .ok (.string (bstr [c])) w ∧ RP c t B0 W (upd s 5) [x, .string (bstr [c]), z] w := by
  obtain ⟨x, y, z, e, h0, h4', h5', h8⟩ := h
  cases e
  obtain ⟨k, hk, hown⟩ := h4' h4
  refine ⟨⟨k, hk⟩, run_string_of_row hown Try.underlying47 Try.underlying5 Try.underlying9, x, _, z, rfl, h0, ?_, fun _ => rfl, ?_⟩
  · intro _
    exact ⟨k, hk, hown⟩
  · rw [upd_ne s (show 8 ≠ 5 by decide)]
    exact h8
theorem RP.call {x y z : Value} (h : RP c t B0 W s [x, y, z] w) (hB : B0 ≤ w.heap.size) (hb : Below w.heap.size w w') : RP c t B0 W (upd s 8) [x, y, .string (bstr t)] w' := by
  obtain ⟨x, y, z, e, h0, h4, h5, h8⟩ := h
  cases e
  refine ⟨x, y, _, rfl, h0.trans (hb.mono hB), ?_, ?_, fun _ => rfl⟩
  · rw [upd_ne s (show 4 ≠ 8 by decide)]
    intro hs
    obtain ⟨k, e, ho⟩ := h4 hs
    exact ⟨k, e, ownsRow_below ho hb⟩
  · rw [upd_ne s (show 5 ≠ 8 by decide)]
    exact h5
theorem RP.all {vs : List Value} (h : RP c t B0 W s vs w) (h4 : s 4 = true) (h5 : s 5 = true) (h8 : s 8 = true) : ∃ k, vs = [.slice (some ⟨k, 0, none⟩) 1 1, .string (bstr [c]), .string (bstr t)] := by
  obtain ⟨x, y, z, e, h0, e4, e5, e8⟩ := h
  obtain ⟨k, hk, _⟩ := e4 h4
  exact ⟨k, by rw [e, hk, e5 h5, e8 h8]⟩
end
theorem ret_str1 {a b : ByteArray} (h : a = b) : Ending.returned (.string a) = .returned (.string b) := by rw [h]
set_option maxRecDepth 100000 in
set_option maxHeartbeats 2000000 in
theorem refPut_any (k : Nat) : ∀ (n : Nat) (w : World), n ≤ 1099511627776 → n < 128 ^ (k + 1) →
    Calls Try.prog 68 #[.int .i64 n] w fun e w' => e = .returned (.string (bstr (putN n))) ∧ Below w.heap.size w w' := by
  induction k with
  | zero =>
    intro n w hn hk
    have hlo : n < 128 := by simpa using hk
    have hloi : (n : Int) < 128 := by omega
    have HP := lid (putN_lo hlo)
    have hcv := run_string_of_row (P := Try.prog) (base := w.heap.size) (l := [UInt8.ofNat n]) (World.ownsRow_lit w #[.int .u8 n] 1 (Nat.le_refl _) (by simp [maxLen]) rfl |> fun h => (by simpa [bvals, ofNat_lo hlo] using h)) Try.underlying47 Try.underlying5 Try.underlying9
    go_enter Try.func68, Try.ntmps68
    go_wp2_with fail
    go_ret
    exact ⟨ret_str1 (by rw [HP.out]), ba _ _⟩
  | succ k ih =>
    intro n w hn hk
    by_cases hlo : n < 128
    · have hloi : (n : Int) < 128 := by omega
      have HP := lid (putN_lo hlo)
      have hcv := run_string_of_row (P := Try.prog) (base := w.heap.size) (l := [UInt8.ofNat n]) (World.ownsRow_lit w #[.int .u8 n] 1 (Nat.le_refl _) (by simp [maxLen]) rfl |> fun h => (by simpa [bvals, ofNat_lo hlo] using h)) Try.underlying47 Try.underlying5 Try.underlying9
      clear ih
      go_enter Try.func68, Try.ntmps68
      go_wp2_with fail
      go_ret
      exact ⟨ret_str1 (by rw [HP.out]), ba _ _⟩
    · have hhi : (128 : Int) ≤ n := by omega
      have HP := lid (putN_hi hlo)
      have HC : Hid (∀ w, Calls Try.prog 68 #[.int .i64 ((n / 128 : Nat) : Int)] w fun e w' => e = .returned (.string (bstr (putN (n / 128)))) ∧ Below w.heap.size w w') := lid (fun w => ih (n / 128) w (by omega) (by rw [Nat.pow_succ] at hk; omega))
      obtain ⟨c, hc⟩ : ∃ c, UInt8.ofNat (n % 128 + 128) = c := ⟨_, rfl⟩
      have hci : (128 : Int) + (n : Int) % 128 = (c.toNat : Int) := by rw [← hc, ofNat_hi]; omega
      obtain ⟨q, hq⟩ : ∃ q, n / 128 = q := ⟨_, rfl⟩
      have hqi : (n : Int) / 128 = (q : Int) := by omega
      rw [hc, hq] at HP
      rw [hq] at HC
      have hcb : (c.toNat : Int) ≤ 255 := by have := c.toNat_lt; omega
      clear ih hc hq
      go_enter Try.func68, Try.ntmps68
      go_wp2_with fail
      refine wp_region_mix (fun w' => ∃ s : Since w.heap.size w, w' = s.world) [(0, true), (1, true), (2, true), (6, true), (7, true), (3, true)] [(4, []), (5, [4]), (8, [])] [(9, true), (10, false)] (by kernel_rfl) (by kernel_rfl) (by intro c d v a w h; cases d <;> exact h) (since (Below.refl _ _).drew) ?_
      repeat (first | (refine seq_skip (by rfl) (by rfl) ?_; simp only [Act.put, List.setIfInBounds_toArray, List.set_cons_succ, List.set_cons_zero]) | (refine seq_float (by rfl) (by rfl) (by rfl) ?_; intro K hK; go_big_quiet_op; go_big_quiet_on))
      refine seq_nil (mix_go [13, 14, 17] [_, _, _] (RP c (putN q) w.heap.size w) rfl (by rfl) (fun s h => RP.start _ _ _ ⟨h (4, []) (by simp), h (5, [4]) (by simp), h (8, []) (by simp)⟩) ⟨?_, ?_, ?_, trivial⟩ ?_)
      · intro s vs w1 _ h4 _ _ hR
        obtain ⟨x1, x2, x3, rfl⟩ := hR.three
        have hB1 := hR.old
        simp only [putAll, Act.put, List.setIfInBounds_toArray, List.set_cons_succ, List.set_cons_zero]
        refine mix_op (by rfl) ?_
        intro K hK
        go_wp2_with fail
        exact hK.out _ _ ⟨since (hB1.trans ((ba _ _).mono hB1.size)), [_, _, _], rfl, rfl, hR.byte hB1.size⟩
      · intro s vs w1 _ _ h4 _ hR
        obtain ⟨x1, x2, x3, rfl⟩ := hR.three
        have hB1 := hR.old
        obtain ⟨⟨k, rfl⟩, hcv, hR'⟩ := hR.conv (h4 4 (by simp))
        simp only [putAll, Act.put, List.setIfInBounds_toArray, List.set_cons_succ, List.set_cons_zero]
        refine mix_op (by rfl) ?_
        intro K hK
        go_wp2_with fail
        exact hK.out _ _ ⟨since hB1, [_, _, _], rfl, rfl, hR'⟩
      · intro s vs w1 _ _ _ _ hR
        obtain ⟨x1, x2, x3, rfl⟩ := hR.three
        have hB1 := hR.old
        simp only [putAll, Act.put, List.setIfInBounds_toArray, List.set_cons_succ, List.set_cons_zero]
        refine mix_op (by rfl) ?_
        intro K hK
        go_wp2_with fail
        (with_reducible refine (HC.out _).mono ?_); rintro e w2 ⟨rfl, hb2⟩
        go_wp2_with fail
        exact hK.out _ _ ⟨since (hB1.trans (hb2.mono hB1.size)), [_, _, _], rfl, rfl, hR.call hB1.size hb2⟩
      · intro s vs w1 _ hall _ hR
        have hB1 := hR.old
        obtain ⟨k, rfl⟩ := hR.all (hall (4, []) (by simp)) (hall (5, [4]) (by simp)) (hall (8, []) (by simp))
        simp only [putAll, Act.put, List.setIfInBounds_toArray, List.set_cons_succ, List.set_cons_zero]
        have h1 : (bstr [c]).size = 1 := rfl
        have h6 : (bstr (putN q)).size ≤ 6 := by rw [bstr_size]; exact putN_six (by omega)
        repeat (first | (refine seq_skip (by rfl) (by rfl) ?_; simp only [Act.put, List.setIfInBounds_toArray, List.set_cons_succ, List.set_cons_zero]) | (refine seq_float (by rfl) (by rfl) (by rfl) ?_; intro K hK; go_big_quiet_op; go_big_quiet_on))
        refine seq_chain (by rfl) ?_
        intro K hK
        go_wp2_with fail
        go_wp2_with fail
        refine hK.out _ _ (since hB1) ?_
        clear hK K
        refine seq_nil ?_
        go_wp2_with fail
        go_ret
        exact ⟨ret_str1 (by rw [HP.out, bstr_append]; rfl), hB1⟩

theorem refPutN (n : Nat) (w : World) (hn : n ≤ 1099511627776) : Calls Try.prog 68 #[.int .i64 n] w fun e w' => e = .returned (.string (bstr (putN n))) ∧ Below w.heap.size w w' :=
  refPut_any 5 n w hn (by omega)

set_option maxRecDepth 100000 in
set_option maxHeartbeats 2000000 in
theorem refPutInt_any (n : Int) (w : World) :
    Calls Try.prog 60 #[.int .i64 n] w fun e w' => e = .returned (.tuple #[.string (bstr (putI n)), .int .i64 (putIE n)]) ∧ Below w.heap.size w w' := by
  by_cases h0 : 0 ≤ n
  · by_cases h1 : n ≤ 1099511627776
    · have hb : putB n = true := by unfold putB; simp; omega
      have H1 : Hid (putI n = putN n.toNat) := lid (by unfold putI; rw [hb]; rfl)
      have H2 : Hid (putIE n = 0) := lid (by unfold putIE; rw [hb]; rfl)
      obtain ⟨N, rfl⟩ := Int.eq_ofNat_of_zero_le h0
      have hN : N ≤ 1099511627776 := by omega
      clear hb
      go_enter Try.func60, Try.ntmps60
      go_wp2_with fail
      (with_reducible refine (refPutN N _ hN).mono ?_); rintro e w1 ⟨rfl, hb1⟩
      go_wp2_with fail
      go_ret2
      exact ⟨ret_se (by rw [H1.out]; rfl) H2.out.symm, hb1⟩
    · have hb : putB n = false := by unfold putB; simp; omega
      have H1 : Hid (putI n = []) := lid (by unfold putI; rw [hb]; rfl)
      have H2 : Hid (putIE n = 2) := lid (by unfold putIE; rw [hb]; rfl)
      have h1' : 1099511627776 < n := by omega
      clear hb
      go_enter Try.func60, Try.ntmps60
      go_wp2_with fail
      go_ret2
      exact ⟨ret_se (by rw [H1.out]; rfl) H2.out.symm, Below.refl _ _⟩
  · have hb : putB n = false := by unfold putB; simp; omega
    have H1 : Hid (putI n = []) := lid (by unfold putI; rw [hb]; rfl)
    have H2 : Hid (putIE n = 2) := lid (by unfold putIE; rw [hb]; rfl)
    have h0' : n < 0 := by omega
    clear hb
    go_enter Try.func60, Try.ntmps60
    go_wp2_with fail
    go_ret2
    exact ⟨ret_se (by rw [H1.out]; rfl) H2.out.symm, Below.refl _ _⟩

set_option maxRecDepth 100000 in
set_option maxHeartbeats 2000000 in
theorem refPutText_any (s : ByteArray) (w : World) (hs : s.size ≤ maxLen) :
    Calls Try.prog 61 #[.string s] w fun e w' => e = .returned (.tuple #[.string (bstr (putX s.data.toList)), .int .i64 (putXE s.data.toList)]) ∧ Below w.heap.size w w' := by
  have hs' : s.size ≤ 9223372036854775807 := hs
  have hl : s.data.toList.length = s.size := rfl
  by_cases h : s.size ≤ 65536
  · have H1 : Hid (bstr (putX s.data.toList) = bstr (putN s.size) ++ s) := lid (by unfold putX; rw [hl, if_pos h]; show bstr (putN s.size ++ s.data.toList) = _; rw [← bstr_append]; rfl)
    have H2 : Hid (putXE s.data.toList = 0) := lid (by unfold putXE; rw [hl, if_pos h])
    have h6 : (bstr (putN s.size)).size ≤ 6 := by rw [bstr_size]; exact putN_six (by omega)
    have H6 := lid h6
    clear h6 hl
    go_enter Try.func61, Try.ntmps61
    go_wp2_with fail
    (with_reducible refine (refPutN s.size _ (by omega)).mono ?_); rintro e w1 ⟨rfl, hb1⟩
    have h6 := H6.out
    go_wp2_with fail
    go_ret2
    exact ⟨ret_se (by rw [H1.out]) H2.out.symm, hb1⟩
  · have H1 : Hid (putX s.data.toList = []) := lid (by unfold putX; rw [hl, if_neg h])
    have H2 : Hid (putXE s.data.toList = 4) := lid (by unfold putXE; rw [hl, if_neg h])
    clear hl
    have h' : 65536 < s.size := by omega
    go_enter Try.func61, Try.ntmps61
    go_wp2_with fail
    go_ret2
    exact ⟨ret_se (by rw [H1.out]; rfl) H2.out.symm, Below.refl _ _⟩
end Go.Proofs.Ytmkdcnkbhnegnaa
