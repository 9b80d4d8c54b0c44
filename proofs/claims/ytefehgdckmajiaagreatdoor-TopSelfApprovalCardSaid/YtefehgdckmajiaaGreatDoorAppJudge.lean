/-
  approval.judge: does an approval stand?
-/
import Derived.Test.YtefehgdckmajiaaGreatDoorAppColl
import Derived.Test.YtefehgdckmajiaaGreatDoorOwnMap
import Derived.Maps.OwnSet
namespace Go.Proofs.YtefehgdckmajiaaGreatDoor
open Go.RowKit

theorem diff_sizes {l1 l2 : List Fl} {N : Nat} (h1 : ∀ f ∈ l1, f.1.size ≤ N ∧ f.2.size ≤ N) (h2 : ∀ f ∈ l2, f.1.size ≤ N ∧ f.2.size ≤ N) : ∀ x ∈ diffF l1 l2, x.1.size ≤ N ∧ x.2.2.2.1.size ≤ N ∧ x.2.2.2.2.size ≤ N := by
  have hz : (⟨#[]⟩ : ByteArray).size ≤ N := Nat.zero_le _
  induction l1 generalizing l2 with
  | nil =>
    intro x hx
    obtain ⟨f, hf, rfl⟩ := List.mem_map.1 hx
    exact ⟨(h2 f hf).1, hz, (h2 f hf).2⟩
  | cons a s ih =>
    have ha := h1 a (by simp)
    have hs : ∀ f ∈ s, f.1.size ≤ N ∧ f.2.size ≤ N := fun f hf => h1 f (by simp [hf])
    show ∀ x ∈ diffA a (diffF s) l2, x.1.size ≤ N ∧ x.2.2.2.1.size ≤ N ∧ x.2.2.2.2.size ≤ N
    induction l2 with
    | nil =>
      intro x hx
      rcases List.mem_cons.1 hx with rfl | hx
      · exact ⟨ha.1, ha.2, hz⟩
      · exact ih hs h2 x hx
    | cons b t ih2 =>
      have hb := h2 b (by simp)
      have ht : ∀ f ∈ t, f.1.size ≤ N ∧ f.2.size ≤ N := fun f hf => h2 f (by simp [hf])
      intro x hx
      rw [diffA] at hx
      split at hx
      · rcases List.mem_cons.1 hx with rfl | hx
        · exact ⟨ha.1, ha.2, hz⟩
        · exact ih hs h2 x hx
      · split at hx
        · rcases List.mem_cons.1 hx with rfl | hx
          · exact ⟨hb.1, hz, hb.2⟩
          · exact ih2 ht x hx
        · rcases List.mem_append.1 hx with hx | hx
          · split at hx
            · cases hx
            · simp only [List.mem_singleton] at hx
              subst hx
              exact ⟨ha.1, ha.2, hb.2⟩
          · exact ih hs ht x hx
/-- What a person's view is. -/
def viewB (who : ByteArray) (L : List (Ch × List (List ByteArray))) : ByteArray := bstr (encAll (seenF who L))
def smallC (L : List (Ch × List (List ByteArray))) : Prop := ∀ e ∈ L, e.1.1.size ≤ maxLen ∧ e.1.2.2.2.1.size ≤ maxLen ∧ e.1.2.2.2.2.size ≤ maxLen
theorem seenF_small {who : ByteArray} {L : List (Ch × List (List ByteArray))} (h : smallC L) : ∀ x ∈ seenF who L, x.1.size ≤ maxLen ∧ x.2.2.2.1.size ≤ maxLen ∧ x.2.2.2.2.size ≤ maxLen := by
  intro x hx
  unfold seenF at hx
  obtain ⟨e, he, rfl⟩ := List.mem_map.1 hx
  exact h e (List.mem_filter.1 he).1
/-- The closure of judge: its boxes, and the views that it has kept. -/
structure JuI (n0 bl mb bm k : Nat) (v : SV) (L : List (Ch × List (List ByteArray))) (w : World) : Prop where
  box : w.heap[bl]? = some (.cells #[slv v] 44 (0, 0))
  ow : OwS (fun k => k < n0) w v L
  mbox : w.heap[bm]? = some (.cells #[.map (some mb)] 70 (0, 0))
  views : ∃ D : DataW Value, w.ownsMap Tryz.prog 9 heldR mb k D ∧ Maps.IsMap D ∧ ∀ who : ByteArray, Maps.has D (keyS who) = true → D.atKey (keyS who) (.held (.string ⟨#[]⟩)) = .held (.string (viewB who L))
  lo : n0 ≤ mb
  bn : bl ≠ mb ∧ bm ≠ mb
  sz : n0 ≤ w.heap.size
theorem JuI.grown {n0 bl mb bm k : Nat} {v : SV} {L : List (Ch × List (List ByteArray))} {w w' : World} (h : JuI n0 bl mb bm k v L w) (hb : Below w.heap.size w w') : JuI n0 bl mb bm k v L w' := by
  obtain ⟨D, h1, h2, h3⟩ := h.views
  exact ⟨(hb.block _ (row_lt h.box)).trans h.box, h.ow.keep (KeepC.below hb), (hb.block _ (row_lt h.mbox)).trans h.mbox, ⟨D, World.ownsMap.kept (row := none) h1 ⟨hb.os, hb.tape, hb.output, hb.size, fun k hk _ => hb.block k hk⟩ (by simp), h2, h3⟩, h.lo, h.bn, Nat.le_trans h.sz hb.size⟩
theorem zero_str (w : World) : (zeroValue 9).run Tryz.prog w = .ok (.string ⟨#[]⟩) w := by kernel_rfl
set_option maxRecDepth 100000 in
set_option maxHeartbeats 1000000 in
theorem judge_fn (v : SV) (w : World) :
    Calls Tryz.prog 16 #[slv v] w fun e w' => e = .returned (.func (.func 29) #[] #[.pointer (some ⟨w.heap.size + 2, 0, none⟩), .pointer (some ⟨w.heap.size, 0, none⟩)]) ∧
      w' = ((w.alloc (.cells #[slv v] 44)).alloc (.map #[] 0)).alloc (.cells #[.map (some (w.heap.size + 1))] 70) := by
  obtain ⟨a, n, c⟩ := v
  have hmm := @run_makeMap Tryz.prog
  go_enter Tryz.func16, Tryz.ntmps16
  go_wp2_with fail
  go_ret
  exact ⟨by simp, by simp⟩
set_option maxRecDepth 100000 in
set_option maxHeartbeats 8000000 in
theorem stand_any (n0 bl mb bm k : Nat) (v : SV) (L : List (Ch × List (List ByteArray))) (who saw : ByteArray) (ch : Int) (w : World) (h : JuI n0 bl mb bm k v L w) (hk : k ≤ 1000000) (hsm : smallL L) (hsc : smallC L) (hlen : L.length ≤ 200000) (hwho : who.size ≤ maxLen) :
    Calls Tryz.prog 29 #[.agg #[.string who, .int .i64 ch, .string saw], .pointer (some ⟨bm, 0, none⟩), .pointer (some ⟨bl, 0, none⟩)] w fun e w' => e = .returned (.bool (decide (saw = viewB who L))) ∧ JuI n0 bl mb bm (k + 1) v L w' ∧ w.grownBy w' (some mb) := by
  obtain ⟨av, nv', cv⟩ := v
  have zw := row_cell h.mbox 0
  have lzw := row_lt h.mbox
  obtain ⟨W1, hW1⟩ : ∃ W1, w.alloc (Obj.cells #[.string who, .int .i64 ch, .string saw] 42) = W1 := ⟨_, rfl⟩
  have hb1 : Below w.heap.size w W1 := by rw [← hW1]; exact ba _ _
  have hR : W1.heap[w.heap.size]? = some (.cells #[.string who, .int .i64 ch, .string saw] 42 (0, 0)) := by rw [← hW1]; exact h_new rfl _
  have hg1 : w.grownBy W1 (some mb) := ⟨hb1.os, hb1.tape, hb1.output, hb1.size, fun k hk _ => hb1.block k hk⟩
  have HJ := lid (h.grown hb1)
  obtain ⟨D, hD1, hD2, hD3⟩ := HJ.out.views
  have HD1 := lid hD1
  have HD2 := lid hD2
  have HD3 := lid hD3
  have HW1 := lid hW1
  have HG1 := lid hg1
  have HR := lid hR
  have y0 := row_cell hR 0
  have y2 := row_cell hR 2
  have lR := row_lt hR
  have z0 := row_cell HJ.out.mbox 0
  have lz := row_lt HJ.out.mbox
  have hbx : W1.heap[bl]? = some (.cells #[.slice av nv' cv] 44 (0, 0)) := HJ.out.box
  have o0 := row_cell hbx 0
  have lo := row_lt hbx
  have HSM := lid hsm
  have HSC := lid hsc
  have hn0 := HJ.out.sz
  have HBE := lid (str_beq saw (viewB who L))
  clear h hW1 hb1 hR hD1 hD2 hD3 hbx hg1 hsm hsc
  go_enter Tryz.func29, Tryz.ntmps29
  go_wp2_with (at_lookup; go_must (refine wpList_lookup_own_ok _ rfl _ _ 70 rfl 9 9 kstr Tryz.underlying70 heldR (zero_str _) (.held (.string ⟨#[]⟩)) [] rfl mb k D rfl (by rw [HW1.out]; exact HD1.out) _ (keyS who) rfl (key_of hwho) ?_))
  intro vv psv hvv
  obtain ⟨hh, hhe⟩ : ∃ hh, Maps.has D (keyS who) = hh := ⟨_, rfl⟩
  rw [hhe, HW1.out]
  clear zw lzw
  have HH := lid hhe
  clear hhe
  cases hh with
  | true =>
    have hvs : vv = .string (viewB who L) := by
      rw [HD3.out who HH.out] at hvv
      unfold heldR at hvv
      simp only [Option.some.injEq, Prod.mk.injEq, DataW.held.injEq] at hvv
      exact hvv.1
    subst hvs
    have HJ2 : Hid (JuI n0 bl mb bm (k + 1) (av, nv', cv) L W1) := lid ⟨HJ.out.box, HJ.out.ow, HJ.out.mbox, ⟨D, by
      obtain ⟨es, clock, q2, q3, q4, q5⟩ := HD1.out
      exact ⟨es, clock, q2, q3, Nat.le_succ_of_le q4, q5⟩, HD2.out, HD3.out⟩, HJ.out.lo, HJ.out.bn, HJ.out.sz⟩
    obtain ⟨V, hV⟩ : ∃ V, viewB who L = V := ⟨_, rfl⟩
    rw [hV] at HBE ⊢
    have hbe := HBE.out
    have HVV := lid hV
    clear hvv hV
    go_wp2_with fail
    go_ret
    exact ⟨ret_bool (by rw [HVV.out]), HJ2.out, HG1.out⟩
  | false =>
    clear hvv
    have CS := lid (seen_fn (av, nv', cv) who W1)
    go_wp2_with fail
    (with_reducible refine (CS.out).mono ?_); rintro e w2 ⟨rfl, hw2⟩
    have hb2 : Below W1.heap.size W1 w2 := by rw [hw2]; exact (ba _ _).alloc (by simp) _
    have hz2 : w2.heap.size = W1.heap.size + 2 := by rw [hw2]; simp
    have ho2 : w2.heap[W1.heap.size]? = some (.cells #[slv (av, nv', cv)] 44 (0, 0)) := by rw [hw2]; exact (h_old (by simp) _).trans (h_new rfl _)
    have hwb2 : w2.heap[W1.heap.size + 1]? = some (.cells #[.string who] 9 (0, 0)) := by rw [hw2]; exact h_new (by simp) _
    have CC := lid (Collect_any W1.heap.size (W1.heap.size + 1) (av, nv', cv) who L w2 ho2 hwb2 ((HJ.out.ow.keep (KeepC.below hb2)).mono (fun k hk => by have hk : k < n0 := hk; show k < w2.heap.size; omega)) HSM.out (by omega))
    have HB2 := lid hb2
    clear hw2 hz2 ho2 hwb2 hb2 y0 z0 o0 CS
    go_wp2_with fail
    (with_reducible refine (CC.out).mono ?_); rintro e w3 ⟨⟨aq, nq, cq⟩, rfl, hown3, hb3⟩
    rw [show slv (aq, nq, cq) = Value.slice aq nq cq from rfl]
    obtain ⟨hsl3, hn3⟩ := SlC.of_own (c := fun _ => True) hown3 (fun _ _ => trivial)
    have hn3 : nq = (seenF who L).length := hn3
    subst hn3
    have hln := seenF_len (who := who) (L := L)
    have CE := lid (encode_any (seenF who L) _ cq aq w3 rfl hsl3.sl hsl3.le (by omega) (seenF_small HSC.out))
    have hb13 := HB2.out.trans (hb3.mono HB2.out.size)
    have HB3 := lid hb13
    clear hown3 hb3 hsl3 hb13 CC hln
    go_wp2_with fail
    (with_reducible refine (CE.out).mono ?_); rintro e w4 ⟨rfl, hb4⟩
    have hb14 := HB3.out.trans (hb4.mono HB3.out.size)
    have HJ4 := lid (HJ.out.grown hb14)
    have HB4 := lid hb14
    have HD4 : Hid (w4.ownsMap Tryz.prog 9 heldR mb k D) := lid (World.ownsMap.kept (row := none) HD1.out ⟨hb14.os, hb14.tape, hb14.output, hb14.size, fun k hk _ => hb14.block k hk⟩ (by simp))
    have hR4 := (hb14.block _ lR).trans HR.out
    have y0 := row_cell hR4 0
    have lR4 := row_lt hR4
    have z0 := row_cell HJ4.out.mbox 0
    have lz4 := row_lt HJ4.out.mbox
    have HR4 := lid hR4
    have hk63 : k < maxLen := by simp only [maxLen]; omega
    rw [show bstr (encAll (seenF who L)) = viewB who L from rfl]
    obtain ⟨V, hV⟩ : ∃ V, viewB who L = V := ⟨_, rfl⟩
    rw [hV] at HBE ⊢
    have hbe := HBE.out
    have HVV := lid hV
    have hmbw : mb < w.heap.size := by
      obtain ⟨es, clock, q2, _⟩ := HD1.out
      rw [← HW1.out] at q2
      rcases Nat.lt_or_ge mb w.heap.size with q | q
      · exact q
      · exfalso
        rcases Nat.lt_or_ge mb (w.heap.size + 1) with q3 | q3
        · obtain rfl : mb = w.heap.size := by omega
          rw [h_new rfl _] at q2
          cases q2
        · rw [Array.getElem?_eq_none (by simp; omega)] at q2
          cases q2
    clear hV hb4 hb14 hR4 CE y2 lR lz lo
    go_wp2_with (at_mapUpdate; go_must (refine wpList_mapUpdate_own _ rfl _ _ _ 70 rfl 9 9 kstr Tryz.underlying70 heldR mb k _ rfl HD4.out hk63 _ _ (keyS who) rfl rfl (key_of hwho) (.held (.string V)) [] rfl ?_))
    intro w5 hown5 hg5
    have hR5 : w5.heap[w.heap.size]? = some (.cells #[.string who, .int .i64 ch, .string saw] 42 (0, 0)) := (hg5.block _ lR4 (fun e => by have := Option.some.inj e; omega)).trans HR4.out
    have y5 := row_cell hR5 2
    have lR5 := row_lt hR5
    have hz45 := hg5.size
    have HJ5 : Hid (JuI n0 bl mb bm (k + 1) (av, nv', cv) L w5) := lid ⟨(hg5.block _ (row_lt HJ4.out.box) (fun e => HJ4.out.bn.1 (Option.some.inj e))).trans HJ4.out.box,
      HJ4.out.ow.keep (KeepC.grown hg5 (fun r e hc => by cases e; have hc : mb < n0 := hc; have := HJ4.out.lo; omega)),
      (hg5.block _ (row_lt HJ4.out.mbox) (fun e => HJ4.out.bn.2 (Option.some.inj e))).trans HJ4.out.mbox,
      ⟨D.put (keyS who) (.held (.string V)), hown5, HD2.out.put _ _, fun x hx => by
        by_cases e : x = who
        · subst e
          rw [Maps.atKey_put_same HD2.out (keyS_key _), HVV.out]
        · have hne : keyS x ≠ keyS who := fun hh => e (keyS_inj hh)
          rw [Maps.has_put_other hne] at hx
          rw [Maps.atKey_put_other hne]
          exact HD3.out x hx⟩, HJ4.out.lo, HJ4.out.bn, Nat.le_trans HJ4.out.sz hz45⟩
    have HG5 : Hid (w.grownBy w5 (some mb)) := lid (by
      have h1 := HG1.out
      have h2 := HB4.out
      refine ⟨hg5.os.trans (h2.os.trans h1.os), hg5.tape.trans (h2.tape.trans h1.tape), hg5.output.trans (h2.output.trans h1.output), Nat.le_trans h1.size (Nat.le_trans h2.size hz45), fun j hj hne => ?_⟩
      exact (hg5.block j (by have := h1.size; have := h2.size; omega) hne).trans ((h2.block j (by have := h1.size; omega)).trans (h1.block j hj hne)))
    clear hown5 hg5 hR5 z0 y0
    go_wp2_with fail
    go_ret
    exact ⟨ret_bool (by rw [HVV.out]), HJ5.out, HG5.out⟩
end Go.Proofs.YtefehgdckmajiaaGreatDoor
