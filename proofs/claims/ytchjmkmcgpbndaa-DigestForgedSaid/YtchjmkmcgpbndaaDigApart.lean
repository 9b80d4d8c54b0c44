/-
  apart: where a proof leads from another digest to the same root, two different strings with the same digest are hashed.
-/
import Derived.Test.YtchjmkmcgpbndaaDigApartOne
namespace Go.Proofs.Ytchjmkmcgpbndaa
open Go.RowKit

set_option maxRecDepth 100000 in
set_option maxHeartbeats 8000000 in
theorem apart_any (m : Nat) : ∀ (p l : List Dg) (n : Nat) (i : Int) (d : Dg) (b off cap : Nat) (po : Option Addr) (len pcap : Nat) (w : World), l.length = n → p.length = len → len ≤ m → n ≤ cap → len ≤ pcap → len ≤ 1000000 → 1 ≤ n → n ≤ 1099511627776 → 0 ≤ i → i < n → b < w.heap.size → DCells w b off l → DSl w po p → (resultD n i.toNat d p).2 = true → (resultD n i.toNat d p).1 = rootD l → l[i.toNat]? ≠ some d →
    Calls Try.prog 29 #[.slice (some ⟨b, off, none⟩) n cap, .int .i64 i, dv d, .slice po len pcap] w fun e w' => e = .returned (.bool true) ∧ Below w.heap.size w w' := by
  induction m with
  | zero =>
    intro p l n i d b off cap po len pcap w hn hp hm hcap hpc hl6 h1 hn6 hi0 hi1 hb hc hs hok hrt hne
    obtain rfl : len = 0 := by omega
    obtain rfl := List.eq_nil_of_length_eq_zero hp
    obtain rfl := result_nil_one hok
    obtain ⟨x, rfl⟩ := List.length_eq_one_iff.1 hn
    rw [resultD_one, rootD_one] at hrt
    obtain rfl : i = 0 := by omega
    exact apart_one x 0 d b off cap po pcap w hb hc hrt (by simpa using hne)
  | succ m ih =>
    intro p l n i d b off cap po len pcap w hn hp hm hcap hpc hl6 h1 hn6 hi0 hi1 hb hc hs hok hrt hne
    by_cases hn1 : n = 1
    · subst hn1
      obtain rfl := result_one_nil hok
      obtain rfl : len = 0 := hp.symm
      obtain ⟨x, rfl⟩ := List.length_eq_one_iff.1 hn
      rw [resultD_one, rootD_one] at hrt
      obtain rfl : i = 0 := by omega
      exact apart_one x 0 d b off cap po pcap w hb hc hrt (by simpa using hne)
    rcases List.eq_nil_or_concat p with rfl | ⟨q, e, hqe⟩
    · exact absurd (result_nil_one hok) hn1
    · rw [List.concat_eq_append] at hqe
      subst hqe
      have IH := lid ih
      have HOK0 := lid hok
      have HRT := lid hrt
      have H1 := lid hn1
      have HRL := lid (rootD_more (l := l) (by omega))
      rw [hn] at HRL
      obtain rfl : q.length + 1 = len := by simpa using hp
      obtain ⟨pb, po, rfl, hpb, hpcs⟩ : ∃ b off, po = some ⟨b, off, none⟩ ∧ b < w.heap.size ∧ DCells w b off (q ++ [e]) := hs.resolve_left (by simp)
      obtain ⟨ce0, ce1⟩ := hpcs q.length (by simp)
      rw [List.getElem_concat_length rfl] at ce0 ce1
      have hsq : DSl w (some ⟨pb, po, none⟩) q := .inr ⟨pb, po, rfl, hpb, by have := hpcs.take q.length; rwa [List.take_left' rfl] at this⟩
      have hk0 := halfN_pos n
      have hk1 : halfN n < n := halfN_lt (by omega)
      have hn2 : 2 ≤ n := by omega
      have hn1' : ((n : Int) == 1) = false := by simp; omega
      have hq0 : ((q.length : Int) + 1 == 0) = false := by simp; omega
      obtain ⟨A, hA⟩ : ∃ A, rootD (l.take (halfN n)) = A := ⟨_, rfl⟩
      obtain ⟨B, hB⟩ : ∃ B, rootD (l.drop (halfN n)) = B := ⟨_, rfl⟩
      have HA := lid hA
      have HB := lid hB
      rw [hA, hB] at HRL
      have CA : Hid (∀ w1, Below w.heap.size w w1 → Calls Try.prog 19 #[.slice (some ⟨b, off, none⟩) (halfN n) cap] w1 fun e w' => e = .returned (dv A) ∧ Below w1.heap.size w1 w') := lid fun w1 hb1 => by
        rw [← hA]
        exact root_any n (l.take (halfN n)) (halfN n) b off cap w1 (by simp; omega) (by omega) (by omega) (by omega) (by omega) (Nat.lt_of_lt_of_le hb hb1.size) ((hc.take _).below hb1 hb)
      have CB : Hid (∀ w1, Below w.heap.size w w1 → Calls Try.prog 19 #[.slice (some ⟨b, off + halfN n * 2, none⟩) (n - halfN n) (cap - halfN n)] w1 fun e w' => e = .returned (dv B) ∧ Below w1.heap.size w1 w') := lid fun w1 hb1 => by
        rw [← hB]
        exact root_any n (l.drop (halfN n)) (n - halfN n) b (off + halfN n * 2) (cap - halfN n) w1 (by simp; omega) (by omega) (by omega) (by omega) (by omega) (Nat.lt_of_lt_of_le hb hb1.size) ((hc.drop _).below hb1 hb)
      have hw0 := ba w (Obj.cells #[Value.int .u64 d.1.toNat, Value.int .u64 d.2.toNat] 24)
      have HD0 := lid (DBox.new w d 24)
      have CE0 := lid ce0
      have CE1 := lid ce1
      clear ih hok hrt hn1 hA hB hpcs ce0 ce1 hs hp
      by_cases hi : i < halfN n
      · have HR := lid (resultD_lo H1.out (i := i.toNat) (by omega) d q e)
        have HOK : Hid ((resultD (halfN n) i.toNat d q).2 = true) := by have := HOK0.out; rw [HR.out] at this; exact lid this
        obtain ⟨x, hx⟩ : ∃ x, (resultD (halfN n) i.toNat d q).1 = x := ⟨_, rfl⟩
        have HX := lid hx
        have HRT2 : Hid (pairD x e = pairD A B) := lid (by have := HRT.out; rw [HR.out, HRL.out] at this; rw [← hx]; exact this)
        have HC : Hid (∀ w1, Below w.heap.size w w1 → Calls Try.prog 48 #[.int .i64 (((halfN n) : Nat) : Int), .int .i64 i, dv d, .slice (some ⟨pb, po, none⟩) q.length pcap] w1 fun e w' => e = .returned (dv x) ∧ Below w1.heap.size w1 w') := lid fun w1 hb1 => by
          have h := claimed_any q.length q (halfN n) _ i d (some ⟨pb, po, none⟩) q.length pcap w1 rfl rfl (by omega) (by omega) (by omega) (by omega) (by omega) (by omega) (by omega) (hsq.below hb1) (by rw [show Int.toNat i = i.toNat by omega]; exact HOK.out)
          rw [show Int.toNat i = i.toNat by omega, HX.out] at h
          exact h
        have HI : Hid ((A, B) = (x, e) → ∀ w1, Below w.heap.size w w1 → Calls Try.prog 29 #[.slice (some ⟨b, off, none⟩) (halfN n) cap, .int .i64 i, dv d, .slice (some ⟨pb, po, none⟩) q.length pcap] w1 fun e w' => e = .returned (.bool true) ∧ Below w1.heap.size w1 w') := lid fun hAB w1 hb1 => by
          refine IH.out q (l.take (halfN n)) (halfN n) i d b off cap (some ⟨pb, po, none⟩) q.length pcap w1 (by simp; omega) rfl (by omega) (by omega) (by omega) (by omega) (by omega) (by omega) (by omega) (by omega) (Nat.lt_of_lt_of_le hb hb1.size) ((hc.take _).below hb1 hb) (hsq.below hb1) ?_ ?_ ?_
          · rw [show Int.toNat i = i.toNat by omega]; exact HOK.out
          · rw [show Int.toNat i = i.toNat by omega, HX.out]
            have e1 := congrArg Prod.fst hAB
            simp only at e1
            rw [← e1]
            exact HA.out.symm
          · rw [show Int.toNat i = i.toNat by omega]
            rw [List.getElem?_take_of_lt (by omega)]
            exact hne
        clear hx
        go_enter Try.func29, Try.ntmps29
        go_wp2_with fail
        (with_reducible refine (refLeft_any n _ hn2 hn6).mono ?_); rintro e w1 ⟨rfl, rfl⟩
        go_wp2_with fail
        obtain ⟨W, hW⟩ : ∃ W, w.alloc (Obj.cells #[Value.int .u64 d.1.toNat, Value.int .u64 d.2.toNat] 24) = W := ⟨_, rfl⟩
        have hlt : w.heap.size < W.heap.size := by rw [← hW]; simp
        rw [hW] at hw0 HD0 ⊢
        clear hW
        refine wp_region_mix (fun w' => ∃ s : Since W.heap.size W, w' = s.world) [(0, true), (1, true), (2, true), (4, true), (5, true), (6, true)] [(3, []), (7, [3]), (8, []), (9, [])] [(10, false), (11, false)] (by kernel_rfl) (by kernel_rfl) (by intro c d v a w h; cases d <;> exact h) (since (Below.refl _ _).drew) ?_
        repeat (first | (refine seq_skip (by rfl) (by rfl) ?_; simp only [Act.put, List.setIfInBounds_toArray, List.set_cons_succ, List.set_cons_zero]) | (refine seq_float (by rfl) (by rfl) (by rfl) ?_; intro K hK; go_big_quiet_op; go_big_quiet_on))
        refine seq_nil (mix_go [49, 53, 11, 12] [_, _, _, _] (R4 A B W.heap.size W) rfl (by rfl) (fun s h => R4.start _ _ _ _ ⟨h (3, []) (by simp), h (7, [3]) (by simp), h (8, []) (by simp), h (9, []) (by simp)⟩) ⟨?_, ?_, ?_, ?_, trivial⟩ ?_)
        · intro s vs w1 _ _ _ _ hR
          obtain ⟨x1, x2, x3, x4, rfl⟩ := hR.four
          have hB1 := hR.old
          simp only [putAll, Act.put, List.setIfInBounds_toArray, List.set_cons_succ, List.set_cons_zero]
          refine mix_op (by rfl) ?_
          intro K hK
          go_wp2_with fail
          (with_reducible refine (CA.out _ (hw0.trans (hB1.mono (by omega)))).mono ?_); rintro e w2 ⟨rfl, hb2⟩
          go_wp2_with fail
          exact hK.out _ _ ⟨since (hB1.trans (hb2.mono hB1.size)), [_, _, _, _], rfl, rfl, hR.call3 hB1.size hb2⟩
        · intro s vs w1 _ _ _ _ hR
          obtain ⟨x1, x2, x3, x4, rfl⟩ := hR.four
          have hB1 := hR.old
          simp only [putAll, Act.put, List.setIfInBounds_toArray, List.set_cons_succ, List.set_cons_zero]
          refine mix_op (by rfl) ?_
          intro K hK
          go_wp2_with fail
          (with_reducible refine (CB.out _ (hw0.trans (hB1.mono (by omega)))).mono ?_); rintro e w2 ⟨rfl, hb2⟩
          go_wp2_with fail
          exact hK.out _ _ ⟨since (hB1.trans (hb2.mono hB1.size)), [_, _, _, _], rfl, rfl, hR.call7 hB1.size hb2⟩
        · intro s vs w1 _ _ _ _ hR
          obtain ⟨x1, x2, x3, x4, rfl⟩ := hR.four
          have hB1 := hR.old
          simp only [putAll, Act.put, List.setIfInBounds_toArray, List.set_cons_succ, List.set_cons_zero]
          refine mix_op (by rfl) ?_
          intro K hK
          go_wp2_with fail
          exact hK.out _ _ ⟨since (hB1.trans ((ba _ _).mono hB1.size)), [_, _, _, _], rfl, rfl, hR.new8 hB1.size _ _ _⟩
        · intro s vs w1 _ _ _ _ hR
          obtain ⟨x1, x2, x3, x4, rfl⟩ := hR.four
          have hB1 := hR.old
          simp only [putAll, Act.put, List.setIfInBounds_toArray, List.set_cons_succ, List.set_cons_zero]
          refine mix_op (by rfl) ?_
          intro K hK
          go_wp2_with fail
          exact hK.out _ _ ⟨since (hB1.trans ((ba _ _).mono hB1.size)), [_, _, _, _], rfl, rfl, hR.new9 hB1.size _ _ _⟩
        · intro s vs w1 _ hall _ hR
          have hB1 := hR.old
          obtain ⟨k8, k9, rfl, hk8, hk9, hne89, T8, T9⟩ := hR.all (hall (3, []) (by simp)) (hall (7, [3]) (by simp)) (hall (8, []) (by simp)) (hall (9, []) (by simp))
          simp only [putAll, Act.put, List.setIfInBounds_toArray, List.set_cons_succ, List.set_cons_zero]
          clear hall hR CA CB
          obtain ⟨a0, a1, ya0, ya1, za0, za1⟩ := T8.cells
          refine seq_chain (by rfl) ?_
          intro K hK
          go_wp2_with fail
          obtain ⟨W5, hW5⟩ : ∃ W5, (w1.setCell ⟨k8, 0, none⟩ (.int .u64 A.1.toNat)).setCell ⟨k8, 1, none⟩ (.int .u64 A.2.toNat) = W5 := ⟨_, rfl⟩
          have hA8 : DBox W5 k8 A := by rw [← hW5]; exact T8.set A
          have T9' : Two W5 k9 := by rw [← hW5]; exact (T9.other _ _ (Ne.symm hne89)).other _ _ (Ne.symm hne89)
          have hB5 : Below W.heap.size W W5 := by rw [← hW5]; exact (hB1.setCell (p := ⟨k8, 0, none⟩) hk8 _).setCell (p := ⟨k8, 1, none⟩) hk8 _
          rw [hW5]
          clear hW5 hB1 T8 T9 ya0 ya1 za0 za1
          refine hK.out _ _ (since hB5) ?_
          clear hK K
          repeat (first | (refine seq_skip (by rfl) (by rfl) ?_; simp only [Act.put, List.setIfInBounds_toArray, List.set_cons_succ, List.set_cons_zero]) | (refine seq_float (by rfl) (by rfl) (by rfl) ?_; intro K hK; go_big_quiet_op; go_big_quiet_on))
          obtain ⟨b0, b1, yb0, yb1, zb0, zb1⟩ := T9'.cells
          refine seq_chain (by rfl) ?_
          intro K hK
          go_wp2_with fail
          obtain ⟨W6, hW6⟩ : ∃ W6, (W5.setCell ⟨k9, 0, none⟩ (.int .u64 B.1.toNat)).setCell ⟨k9, 1, none⟩ (.int .u64 B.2.toNat) = W6 := ⟨_, rfl⟩
          have hA9 : DBox W6 k8 A := by rw [← hW6]; exact (hA8.other _ _ hne89).other _ _ hne89
          have hB9 : DBox W6 k9 B := by rw [← hW6]; exact T9'.set B
          have hB6 : Below W.heap.size W W6 := by rw [← hW6]; exact (hB5.setCell (p := ⟨k9, 0, none⟩) hk9 _).setCell (p := ⟨k9, 1, none⟩) hk9 _
          rw [hW6]
          clear hW6 hB5 T9' yb0 yb1 zb0 zb1 hA8
          refine hK.out _ _ (since hB6) ?_
          clear hK K
          repeat (first | (refine seq_skip (by rfl) (by rfl) ?_; simp only [Act.put, List.setIfInBounds_toArray, List.set_cons_succ, List.set_cons_zero]) | (refine seq_float (by rfl) (by rfl) (by rfl) ?_; intro K hK; go_big_quiet_op; go_big_quiet_on))
          refine seq_nil ?_
          have hD6 := HD0.out.below hB6 hlt
          have hsz6 := hB6.size
          have kd6 := hD6.2.1
          have ke6 := hD6.2.2
          have hlt6 := hD6.1
          go_wp2_with fail
          refine wp_region_mix (fun w' => ∃ s : Since W6.heap.size W6, w' = s.world) [(0, true), (1, true), (2, true), (3, true), (4, true), (5, true)] [(6, []), (7, [])] [(8, false)] (by kernel_rfl) (by kernel_rfl) (by intro c d v a w h; cases d <;> exact h) (since (Below.refl _ _).drew) ?_
          repeat (first | (refine seq_skip (by rfl) (by rfl) ?_; simp only [Act.put, List.setIfInBounds_toArray, List.set_cons_succ, List.set_cons_zero]) | (refine seq_float (by rfl) (by rfl) (by rfl) ?_; intro K hK; go_big_quiet_op; go_big_quiet_on))
          refine seq_nil (mix_go [63, 13] [_, _] (R6 6 7 x W6.heap.size W6) rfl (by rfl) (fun s h => R6.start _ _ ⟨h (6, []) (by simp), h (7, []) (by simp)⟩) ⟨?_, ?_, trivial⟩ ?_)
          · intro s vs w2 _ _ _ _ hR
            obtain ⟨x1, x2, rfl⟩ := hR.two
            have hB2 := hR.old
            simp only [putAll, Act.put, List.setIfInBounds_toArray, List.set_cons_succ, List.set_cons_zero]
            refine mix_op (by rfl) ?_
            intro K hK
            go_wp2_with fail
            (with_reducible refine (HC.out _ (hw0.trans ((hB6.trans (hB2.mono hsz6)).mono (by omega)))).mono ?_); rintro e w3 ⟨rfl, hb3⟩
            go_wp2_with fail
            exact hK.out _ _ ⟨since (hB2.trans (hb3.mono hB2.size)), [_, _], rfl, rfl, hR.call (by decide) hB2.size hb3⟩
          · intro s vs w2 _ _ _ _ hR
            obtain ⟨x1, x2, rfl⟩ := hR.two
            have hB2 := hR.old
            simp only [putAll, Act.put, List.setIfInBounds_toArray, List.set_cons_succ, List.set_cons_zero]
            refine mix_op (by rfl) ?_
            intro K hK
            go_wp2_with fail
            exact hK.out _ _ ⟨since (hB2.trans ((ba _ _).mono hB2.size)), [_, _], rfl, rfl, hR.new (by decide) hB2.size _ _ _⟩
          · intro s vs w2 _ hall _ hR
            have hB2 := hR.old
            obtain ⟨kx, rfl, hkx, TX⟩ := hR.all (hall (6, []) (by simp)) (hall (7, []) (by simp))
            simp only [putAll, Act.put, List.setIfInBounds_toArray, List.set_cons_succ, List.set_cons_zero]
            clear hall hR HC kd6 ke6
            obtain ⟨a0, a1, ya0, ya1, za0, za1⟩ := TX.cells
            refine seq_chain (by rfl) ?_
            intro K hK
            go_wp2_with fail
            obtain ⟨W7, hW7⟩ : ∃ W7, (w2.setCell ⟨kx, 0, none⟩ (.int .u64 x.1.toNat)).setCell ⟨kx, 1, none⟩ (.int .u64 x.2.toNat) = W7 := ⟨_, rfl⟩
            have hX7 : DBox W7 kx x := by rw [← hW7]; exact TX.set x
            have hB7 : Below W6.heap.size W6 W7 := by rw [← hW7]; exact (hB2.setCell (p := ⟨kx, 0, none⟩) hkx _).setCell (p := ⟨kx, 1, none⟩) hkx _
            rw [hW7]
            clear hW7 hB2 TX ya0 ya1 za0 za1
            refine hK.out _ _ (since hB7) ?_
            clear hK K
            repeat (first | (refine seq_skip (by rfl) (by rfl) ?_; simp only [Act.put, List.setIfInBounds_toArray, List.set_cons_succ, List.set_cons_zero]) | (refine seq_float (by rfl) (by rfl) (by rfl) ?_; intro K hK; go_big_quiet_op; go_big_quiet_on))
            refine seq_nil ?_
            have hA7 := hA9.below hB7 hA9.1
            have hB7' := hB9.below hB7 hB9.1
            have hD7 := hD6.below hB7 hD6.1
            have hBW7 := hB6.trans (hB7.mono hsz6)
            have hBw7 := hw0.trans (hBW7.mono (by omega))
            have f0 := (bc hBw7 hpb _).trans CE0.out
            have f1 := (bc hBw7 hpb _).trans CE1.out
            have hpb7 : pb < W7.heap.size := by have := hBw7.size; omega
            obtain ⟨l1, u1, u2⟩ := hA7
            obtain ⟨l2, u3, u4⟩ := hB7'
            obtain ⟨l3, u5, u6⟩ := hX7
            obtain ⟨l4, u7, u8⟩ := hD7
            clear hA9 hB9 hD6 hlt6 hB7 HD0
            by_cases hAB : (A, B) = (x, e)
            · have CI := lid (HI.out hAB)
              have hq := node_eq hAB
              clear HI hAB
              go_wp2_with fail
              refine wp_region_seq (fun w' => ∃ s : Since W7.heap.size W7, w' = s.world) [(0, true), (1, true), (3, true), (4, true), (5, true), (6, true), (7, true), (2, false), (8, false), (9, true)] (by kernel_rfl) (by kernel_rfl) (by intro c d v a w h; cases d <;> exact h) (since (Below.refl _ _).drew) ?_
              repeat (first | (refine seq_skip (by rfl) (by rfl) ?_; simp only [Act.put, List.setIfInBounds_toArray, List.set_cons_succ, List.set_cons_zero]) | (refine seq_float (by rfl) (by rfl) (by rfl) ?_; intro K hK; go_big_quiet_op; go_big_quiet_on))
              refine seq_chain (by rfl) ?_
              intro K hK
              go_wp2_with fail
              (with_reducible refine (refNode_any A.1 A.2 B.1 B.2 _).mono ?_); rintro e w3 ⟨rfl, hb3⟩
              have hs3 : Below W7.heap.size W7 w3 := (Below.refl _ _).drew.trans hb3
              go_wp2_with fail
              refine hK.out _ _ (since hs3) ?_
              clear hK K
              repeat (first | (refine seq_skip (by rfl) (by rfl) ?_; simp only [Act.put, List.setIfInBounds_toArray, List.set_cons_succ, List.set_cons_zero]) | (refine seq_float (by rfl) (by rfl) (by rfl) ?_; intro K hK; go_big_quiet_op; go_big_quiet_on))
              refine seq_chain (by rfl) ?_
              intro K hK
              go_wp2_with fail
              (with_reducible refine (refNode_any x.1 x.2 e.1 e.2 _).mono ?_); rintro e w4 ⟨rfl, hb4⟩
              have hs4 := hs3.trans (hb4.mono hs3.size)
              go_wp2_with fail
              refine hK.out _ _ (since hs4) ?_
              clear hK K
              repeat (first | (refine seq_skip (by rfl) (by rfl) ?_; simp only [Act.put, List.setIfInBounds_toArray, List.set_cons_succ, List.set_cons_zero]) | (refine seq_float (by rfl) (by rfl) (by rfl) ?_; intro K hK; go_big_quiet_op; go_big_quiet_on))
              refine seq_nil ?_
              have v7 := (bc hs4 l4 0).trans u7
              have v8 := (bc hs4 l4 1).trans u8
              have l4' : w.heap.size < w4.heap.size := by have := hs4.size; omega
              clear u1 u2 u3 u4 u5 u6 u7 u8 f0 f1
              clear hq
              go_wp2_with fail
              refine wp_region_seq (fun w' => ∃ s : Since w4.heap.size w4, w' = s.world) [(0, true), (1, true), (2, true), (3, true), (4, true), (5, true), (6, true), (7, true), (8, false), (9, false)] (by kernel_rfl) (by kernel_rfl) (by intro c d v a w h; cases d <;> exact h) (since (Below.refl _ _).drew) ?_
              repeat (first | (refine seq_skip (by rfl) (by rfl) ?_; simp only [Act.put, List.setIfInBounds_toArray, List.set_cons_succ, List.set_cons_zero]) | (refine seq_float (by rfl) (by rfl) (by rfl) ?_; intro K hK; go_big_quiet_op; go_big_quiet_on))
              refine seq_chain (by rfl) ?_
              intro K hK
              go_wp2_with fail
              (with_reducible refine (CI.out _ (hBw7.trans ((hs4.trans (Below.refl _ _).drew).mono hBw7.size))).mono ?_); rintro e w5 ⟨rfl, hb5⟩
              have hs5 : Below w4.heap.size w4 w5 := (Below.refl _ _).drew.trans hb5
              go_wp2_with fail
              refine hK.out _ _ (since hs5) ?_
              clear hK K
              repeat (first | (refine seq_skip (by rfl) (by rfl) ?_; simp only [Act.put, List.setIfInBounds_toArray, List.set_cons_succ, List.set_cons_zero]) | (refine seq_float (by rfl) (by rfl) (by rfl) ?_; intro K hK; go_big_quiet_op; go_big_quiet_on))
              refine seq_chain (by rfl) ?_
              intro K hK
              go_wp2_with fail
              refine hK.out _ _ (since hs5) ?_
              clear hK K
              repeat (first | (refine seq_skip (by rfl) (by rfl) ?_; simp only [Act.put, List.setIfInBounds_toArray, List.set_cons_succ, List.set_cons_zero]) | (refine seq_float (by rfl) (by rfl) (by rfl) ?_; intro K hK; go_big_quiet_op; go_big_quiet_on))
              refine seq_nil ?_
              go_wp2_with fail
              go_ret
              exact ⟨rfl, hBw7.trans ((hs4.trans (hs5.mono hs4.size)).mono hBw7.size)⟩
            · have hq := node_ne hAB
              have CC := lid (fun w => collide_any (bstr (1 :: (bytesU A.1 A.2 ++ bytesU B.1 B.2))) (bstr (1 :: (bytesU x.1 x.2 ++ bytesU e.1 e.2))) w (node_size _ _) (node_size _ _) (node_ne' hAB) HRT2.out.symm)
              clear HI hAB
              go_wp2_with fail
              refine wp_region_seq (fun w' => ∃ s : Since W7.heap.size W7, w' = s.world) [(0, true), (1, true), (3, true), (4, true), (5, true), (6, true), (7, true), (2, false), (8, false), (9, true)] (by kernel_rfl) (by kernel_rfl) (by intro c d v a w h; cases d <;> exact h) (since (Below.refl _ _).drew) ?_
              repeat (first | (refine seq_skip (by rfl) (by rfl) ?_; simp only [Act.put, List.setIfInBounds_toArray, List.set_cons_succ, List.set_cons_zero]) | (refine seq_float (by rfl) (by rfl) (by rfl) ?_; intro K hK; go_big_quiet_op; go_big_quiet_on))
              refine seq_chain (by rfl) ?_
              intro K hK
              go_wp2_with fail
              (with_reducible refine (refNode_any A.1 A.2 B.1 B.2 _).mono ?_); rintro e w3 ⟨rfl, hb3⟩
              have hs3 : Below W7.heap.size W7 w3 := (Below.refl _ _).drew.trans hb3
              go_wp2_with fail
              refine hK.out _ _ (since hs3) ?_
              clear hK K
              repeat (first | (refine seq_skip (by rfl) (by rfl) ?_; simp only [Act.put, List.setIfInBounds_toArray, List.set_cons_succ, List.set_cons_zero]) | (refine seq_float (by rfl) (by rfl) (by rfl) ?_; intro K hK; go_big_quiet_op; go_big_quiet_on))
              refine seq_chain (by rfl) ?_
              intro K hK
              go_wp2_with fail
              (with_reducible refine (refNode_any x.1 x.2 e.1 e.2 _).mono ?_); rintro e w4 ⟨rfl, hb4⟩
              have hs4 := hs3.trans (hb4.mono hs3.size)
              go_wp2_with fail
              refine hK.out _ _ (since hs4) ?_
              clear hK K
              repeat (first | (refine seq_skip (by rfl) (by rfl) ?_; simp only [Act.put, List.setIfInBounds_toArray, List.set_cons_succ, List.set_cons_zero]) | (refine seq_float (by rfl) (by rfl) (by rfl) ?_; intro K hK; go_big_quiet_op; go_big_quiet_on))
              refine seq_nil ?_
              have v1 := (bc hs4 l1 0).trans u1
              have v2 := (bc hs4 l1 1).trans u2
              have v3 := (bc hs4 l2 0).trans u3
              have v4 := (bc hs4 l2 1).trans u4
              have v5 := (bc hs4 l3 0).trans u5
              have v6 := (bc hs4 l3 1).trans u6
              have g0 := (bc hs4 hpb7 _).trans f0
              have g1 := (bc hs4 hpb7 _).trans f1
              have m1 : k8 < w4.heap.size := by have := hs4.size; omega
              have m2 : k9 < w4.heap.size := by have := hs4.size; omega
              have m3 : kx < w4.heap.size := by have := hs4.size; omega
              have m4 : pb < w4.heap.size := by have := hs4.size; omega
              clear u1 u2 u3 u4 u5 u6 u7 u8 f0 f1
              clear hq
              go_wp2_with fail
              refine wp_region_seq (fun w' => ∃ s : Since w4.heap.size w4, w' = s.world) [(0, true), (1, true), (3, true), (4, true), (5, true), (6, true), (7, true), (2, false), (8, false), (9, false), (10, false)] (by kernel_rfl) (by kernel_rfl) (by intro c d v a w h; cases d <;> exact h) (since (Below.refl _ _).drew) ?_
              repeat (first | (refine seq_skip (by rfl) (by rfl) ?_; simp only [Act.put, List.setIfInBounds_toArray, List.set_cons_succ, List.set_cons_zero]) | (refine seq_float (by rfl) (by rfl) (by rfl) ?_; intro K hK; go_big_quiet_op; go_big_quiet_on))
              refine seq_chain (by rfl) ?_
              intro K hK
              go_wp2_with fail
              (with_reducible refine (refNode_any A.1 A.2 B.1 B.2 _).mono ?_); rintro e w5 ⟨rfl, hb5⟩
              have hs5 : Below w4.heap.size w4 w5 := (Below.refl _ _).drew.trans hb5
              go_wp2_with fail
              refine hK.out _ _ (since hs5) ?_
              clear hK K
              repeat (first | (refine seq_skip (by rfl) (by rfl) ?_; simp only [Act.put, List.setIfInBounds_toArray, List.set_cons_succ, List.set_cons_zero]) | (refine seq_float (by rfl) (by rfl) (by rfl) ?_; intro K hK; go_big_quiet_op; go_big_quiet_on))
              refine seq_chain (by rfl) ?_
              intro K hK
              go_wp2_with fail
              (with_reducible refine (refNode_any x.1 x.2 e.1 e.2 _).mono ?_); rintro e w6 ⟨rfl, hb6⟩
              have hs6 := hs5.trans (hb6.mono hs5.size)
              go_wp2_with fail
              refine hK.out _ _ (since hs6) ?_
              clear hK K
              repeat (first | (refine seq_skip (by rfl) (by rfl) ?_; simp only [Act.put, List.setIfInBounds_toArray, List.set_cons_succ, List.set_cons_zero]) | (refine seq_float (by rfl) (by rfl) (by rfl) ?_; intro K hK; go_big_quiet_op; go_big_quiet_on))
              refine seq_chain (by rfl) ?_
              intro K hK
              go_wp2_with fail
              (with_reducible refine (CC.out _).mono ?_); rintro e w7 ⟨rfl, hb7⟩
              have hs7 := hs6.trans (hb7.mono hs6.size)
              go_wp2_with fail
              refine hK.out _ _ (since hs7) ?_
              clear hK K
              repeat (first | (refine seq_skip (by rfl) (by rfl) ?_; simp only [Act.put, List.setIfInBounds_toArray, List.set_cons_succ, List.set_cons_zero]) | (refine seq_float (by rfl) (by rfl) (by rfl) ?_; intro K hK; go_big_quiet_op; go_big_quiet_on))
              refine seq_chain (by rfl) ?_
              intro K hK
              go_wp2_with fail
              refine hK.out _ _ (since hs7) ?_
              clear hK K
              repeat (first | (refine seq_skip (by rfl) (by rfl) ?_; simp only [Act.put, List.setIfInBounds_toArray, List.set_cons_succ, List.set_cons_zero]) | (refine seq_float (by rfl) (by rfl) (by rfl) ?_; intro K hK; go_big_quiet_op; go_big_quiet_on))
              refine seq_nil ?_
              go_wp2_with fail
              go_ret
              exact ⟨rfl, hBw7.trans ((hs4.trans (hs7.mono hs4.size)).mono hBw7.size)⟩
      · have HR := lid (resultD_hi H1.out (i := i.toNat) (by omega) d q e)
        have HOK : Hid ((resultD (n - halfN n) (i.toNat - halfN n) d q).2 = true) := by have := HOK0.out; rw [HR.out] at this; exact lid this
        obtain ⟨x, hx⟩ : ∃ x, (resultD (n - halfN n) (i.toNat - halfN n) d q).1 = x := ⟨_, rfl⟩
        have HX := lid hx
        have HRT2 : Hid (pairD e x = pairD A B) := lid (by have := HRT.out; rw [HR.out, HRL.out] at this; rw [← hx]; exact this)
        have HC : Hid (∀ w1, Below w.heap.size w w1 → Calls Try.prog 48 #[.int .i64 ((n : Int) - (halfN n : Int)), .int .i64 (i - halfN n), dv d, .slice (some ⟨pb, po, none⟩) q.length pcap] w1 fun e w' => e = .returned (dv x) ∧ Below w1.heap.size w1 w') := lid fun w1 hb1 => by
          have h := claimed_any q.length q (n - halfN n) _ (i - halfN n) d (some ⟨pb, po, none⟩) q.length pcap w1 rfl rfl (by omega) (by omega) (by omega) (by omega) (by omega) (by omega) (by omega) (hsq.below hb1) (by rw [show Int.toNat (i - halfN n) = i.toNat - halfN n by omega]; exact HOK.out)
          rw [show Int.toNat (i - halfN n) = i.toNat - halfN n by omega, HX.out] at h
          rwa [show ((n - halfN n : Nat) : Int) = (n : Int) - (halfN n : Int) by omega] at h
        have HI : Hid ((A, B) = (e, x) → ∀ w1, Below w.heap.size w w1 → Calls Try.prog 29 #[.slice (some ⟨b, off + halfN n * 2, none⟩) (n - halfN n) (cap - halfN n), .int .i64 (i - halfN n), dv d, .slice (some ⟨pb, po, none⟩) q.length pcap] w1 fun e w' => e = .returned (.bool true) ∧ Below w1.heap.size w1 w') := lid fun hAB w1 hb1 => by
          refine IH.out q (l.drop (halfN n)) (n - halfN n) (i - halfN n) d b (off + halfN n * 2) (cap - halfN n) (some ⟨pb, po, none⟩) q.length pcap w1 (by simp; omega) rfl (by omega) (by omega) (by omega) (by omega) (by omega) (by omega) (by omega) (by omega) (Nat.lt_of_lt_of_le hb hb1.size) ((hc.drop _).below hb1 hb) (hsq.below hb1) ?_ ?_ ?_
          · rw [show Int.toNat (i - halfN n) = i.toNat - halfN n by omega]; exact HOK.out
          · rw [show Int.toNat (i - halfN n) = i.toNat - halfN n by omega, HX.out]
            have e1 := congrArg Prod.snd hAB
            simp only at e1
            rw [← e1]
            exact HB.out.symm
          · rw [show Int.toNat (i - halfN n) = i.toNat - halfN n by omega]
            rw [List.getElem?_drop, show halfN n + (i.toNat - halfN n) = i.toNat by omega]
            exact hne
        clear hx
        go_enter Try.func29, Try.ntmps29
        go_wp2_with fail
        (with_reducible refine (refLeft_any n _ hn2 hn6).mono ?_); rintro e w1 ⟨rfl, rfl⟩
        go_wp2_with fail
        obtain ⟨W, hW⟩ : ∃ W, w.alloc (Obj.cells #[Value.int .u64 d.1.toNat, Value.int .u64 d.2.toNat] 24) = W := ⟨_, rfl⟩
        have hlt : w.heap.size < W.heap.size := by rw [← hW]; simp
        rw [hW] at hw0 HD0 ⊢
        clear hW
        refine wp_region_mix (fun w' => ∃ s : Since W.heap.size W, w' = s.world) [(0, true), (1, true), (2, true), (4, true), (5, true), (6, true)] [(3, []), (7, [3]), (8, []), (9, [])] [(10, false), (11, false)] (by kernel_rfl) (by kernel_rfl) (by intro c d v a w h; cases d <;> exact h) (since (Below.refl _ _).drew) ?_
        repeat (first | (refine seq_skip (by rfl) (by rfl) ?_; simp only [Act.put, List.setIfInBounds_toArray, List.set_cons_succ, List.set_cons_zero]) | (refine seq_float (by rfl) (by rfl) (by rfl) ?_; intro K hK; go_big_quiet_op; go_big_quiet_on))
        refine seq_nil (mix_go [49, 53, 11, 12] [_, _, _, _] (R4 A B W.heap.size W) rfl (by rfl) (fun s h => R4.start _ _ _ _ ⟨h (3, []) (by simp), h (7, [3]) (by simp), h (8, []) (by simp), h (9, []) (by simp)⟩) ⟨?_, ?_, ?_, ?_, trivial⟩ ?_)
        · intro s vs w1 _ _ _ _ hR
          obtain ⟨x1, x2, x3, x4, rfl⟩ := hR.four
          have hB1 := hR.old
          simp only [putAll, Act.put, List.setIfInBounds_toArray, List.set_cons_succ, List.set_cons_zero]
          refine mix_op (by rfl) ?_
          intro K hK
          go_wp2_with fail
          (with_reducible refine (CA.out _ (hw0.trans (hB1.mono (by omega)))).mono ?_); rintro e w2 ⟨rfl, hb2⟩
          go_wp2_with fail
          exact hK.out _ _ ⟨since (hB1.trans (hb2.mono hB1.size)), [_, _, _, _], rfl, rfl, hR.call3 hB1.size hb2⟩
        · intro s vs w1 _ _ _ _ hR
          obtain ⟨x1, x2, x3, x4, rfl⟩ := hR.four
          have hB1 := hR.old
          simp only [putAll, Act.put, List.setIfInBounds_toArray, List.set_cons_succ, List.set_cons_zero]
          refine mix_op (by rfl) ?_
          intro K hK
          go_wp2_with fail
          (with_reducible refine (CB.out _ (hw0.trans (hB1.mono (by omega)))).mono ?_); rintro e w2 ⟨rfl, hb2⟩
          go_wp2_with fail
          exact hK.out _ _ ⟨since (hB1.trans (hb2.mono hB1.size)), [_, _, _, _], rfl, rfl, hR.call7 hB1.size hb2⟩
        · intro s vs w1 _ _ _ _ hR
          obtain ⟨x1, x2, x3, x4, rfl⟩ := hR.four
          have hB1 := hR.old
          simp only [putAll, Act.put, List.setIfInBounds_toArray, List.set_cons_succ, List.set_cons_zero]
          refine mix_op (by rfl) ?_
          intro K hK
          go_wp2_with fail
          exact hK.out _ _ ⟨since (hB1.trans ((ba _ _).mono hB1.size)), [_, _, _, _], rfl, rfl, hR.new8 hB1.size _ _ _⟩
        · intro s vs w1 _ _ _ _ hR
          obtain ⟨x1, x2, x3, x4, rfl⟩ := hR.four
          have hB1 := hR.old
          simp only [putAll, Act.put, List.setIfInBounds_toArray, List.set_cons_succ, List.set_cons_zero]
          refine mix_op (by rfl) ?_
          intro K hK
          go_wp2_with fail
          exact hK.out _ _ ⟨since (hB1.trans ((ba _ _).mono hB1.size)), [_, _, _, _], rfl, rfl, hR.new9 hB1.size _ _ _⟩
        · intro s vs w1 _ hall _ hR
          have hB1 := hR.old
          obtain ⟨k8, k9, rfl, hk8, hk9, hne89, T8, T9⟩ := hR.all (hall (3, []) (by simp)) (hall (7, [3]) (by simp)) (hall (8, []) (by simp)) (hall (9, []) (by simp))
          simp only [putAll, Act.put, List.setIfInBounds_toArray, List.set_cons_succ, List.set_cons_zero]
          clear hall hR CA CB
          obtain ⟨a0, a1, ya0, ya1, za0, za1⟩ := T8.cells
          refine seq_chain (by rfl) ?_
          intro K hK
          go_wp2_with fail
          obtain ⟨W5, hW5⟩ : ∃ W5, (w1.setCell ⟨k8, 0, none⟩ (.int .u64 A.1.toNat)).setCell ⟨k8, 1, none⟩ (.int .u64 A.2.toNat) = W5 := ⟨_, rfl⟩
          have hA8 : DBox W5 k8 A := by rw [← hW5]; exact T8.set A
          have T9' : Two W5 k9 := by rw [← hW5]; exact (T9.other _ _ (Ne.symm hne89)).other _ _ (Ne.symm hne89)
          have hB5 : Below W.heap.size W W5 := by rw [← hW5]; exact (hB1.setCell (p := ⟨k8, 0, none⟩) hk8 _).setCell (p := ⟨k8, 1, none⟩) hk8 _
          rw [hW5]
          clear hW5 hB1 T8 T9 ya0 ya1 za0 za1
          refine hK.out _ _ (since hB5) ?_
          clear hK K
          repeat (first | (refine seq_skip (by rfl) (by rfl) ?_; simp only [Act.put, List.setIfInBounds_toArray, List.set_cons_succ, List.set_cons_zero]) | (refine seq_float (by rfl) (by rfl) (by rfl) ?_; intro K hK; go_big_quiet_op; go_big_quiet_on))
          obtain ⟨b0, b1, yb0, yb1, zb0, zb1⟩ := T9'.cells
          refine seq_chain (by rfl) ?_
          intro K hK
          go_wp2_with fail
          obtain ⟨W6, hW6⟩ : ∃ W6, (W5.setCell ⟨k9, 0, none⟩ (.int .u64 B.1.toNat)).setCell ⟨k9, 1, none⟩ (.int .u64 B.2.toNat) = W6 := ⟨_, rfl⟩
          have hA9 : DBox W6 k8 A := by rw [← hW6]; exact (hA8.other _ _ hne89).other _ _ hne89
          have hB9 : DBox W6 k9 B := by rw [← hW6]; exact T9'.set B
          have hB6 : Below W.heap.size W W6 := by rw [← hW6]; exact (hB5.setCell (p := ⟨k9, 0, none⟩) hk9 _).setCell (p := ⟨k9, 1, none⟩) hk9 _
          rw [hW6]
          clear hW6 hB5 T9' yb0 yb1 zb0 zb1 hA8
          refine hK.out _ _ (since hB6) ?_
          clear hK K
          repeat (first | (refine seq_skip (by rfl) (by rfl) ?_; simp only [Act.put, List.setIfInBounds_toArray, List.set_cons_succ, List.set_cons_zero]) | (refine seq_float (by rfl) (by rfl) (by rfl) ?_; intro K hK; go_big_quiet_op; go_big_quiet_on))
          refine seq_nil ?_
          have hD6 := HD0.out.below hB6 hlt
          have hsz6 := hB6.size
          have kd6 := hD6.2.1
          have ke6 := hD6.2.2
          have hlt6 := hD6.1
          go_wp2_with fail
          refine wp_region_mix (fun w' => ∃ s : Since W6.heap.size W6, w' = s.world) [(0, true), (1, true), (2, true), (3, true), (4, true), (5, true), (6, true), (7, true), (8, true), (9, true), (10, true)] [(11, []), (12, [])] [(13, false)] (by kernel_rfl) (by kernel_rfl) (by intro c d v a w h; cases d <;> exact h) (since (Below.refl _ _).drew) ?_
          repeat (first | (refine seq_skip (by rfl) (by rfl) ?_; simp only [Act.put, List.setIfInBounds_toArray, List.set_cons_succ, List.set_cons_zero]) | (refine seq_float (by rfl) (by rfl) (by rfl) ?_; intro K hK; go_big_quiet_op; go_big_quiet_on))
          refine seq_nil (mix_go [104, 14] [_, _] (R6 11 12 x W6.heap.size W6) rfl (by rfl) (fun s h => R6.start _ _ ⟨h (11, []) (by simp), h (12, []) (by simp)⟩) ⟨?_, ?_, trivial⟩ ?_)
          · intro s vs w2 _ _ _ _ hR
            obtain ⟨x1, x2, rfl⟩ := hR.two
            have hB2 := hR.old
            simp only [putAll, Act.put, List.setIfInBounds_toArray, List.set_cons_succ, List.set_cons_zero]
            refine mix_op (by rfl) ?_
            intro K hK
            go_wp2_with fail
            (with_reducible refine (HC.out _ (hw0.trans ((hB6.trans (hB2.mono hsz6)).mono (by omega)))).mono ?_); rintro e w3 ⟨rfl, hb3⟩
            go_wp2_with fail
            exact hK.out _ _ ⟨since (hB2.trans (hb3.mono hB2.size)), [_, _], rfl, rfl, hR.call (by decide) hB2.size hb3⟩
          · intro s vs w2 _ _ _ _ hR
            obtain ⟨x1, x2, rfl⟩ := hR.two
            have hB2 := hR.old
            simp only [putAll, Act.put, List.setIfInBounds_toArray, List.set_cons_succ, List.set_cons_zero]
            refine mix_op (by rfl) ?_
            intro K hK
            go_wp2_with fail
            exact hK.out _ _ ⟨since (hB2.trans ((ba _ _).mono hB2.size)), [_, _], rfl, rfl, hR.new (by decide) hB2.size _ _ _⟩
          · intro s vs w2 _ hall _ hR
            have hB2 := hR.old
            obtain ⟨kx, rfl, hkx, TX⟩ := hR.all (hall (11, []) (by simp)) (hall (12, []) (by simp))
            simp only [putAll, Act.put, List.setIfInBounds_toArray, List.set_cons_succ, List.set_cons_zero]
            clear hall hR HC kd6 ke6
            obtain ⟨a0, a1, ya0, ya1, za0, za1⟩ := TX.cells
            refine seq_chain (by rfl) ?_
            intro K hK
            go_wp2_with fail
            obtain ⟨W7, hW7⟩ : ∃ W7, (w2.setCell ⟨kx, 0, none⟩ (.int .u64 x.1.toNat)).setCell ⟨kx, 1, none⟩ (.int .u64 x.2.toNat) = W7 := ⟨_, rfl⟩
            have hX7 : DBox W7 kx x := by rw [← hW7]; exact TX.set x
            have hB7 : Below W6.heap.size W6 W7 := by rw [← hW7]; exact (hB2.setCell (p := ⟨kx, 0, none⟩) hkx _).setCell (p := ⟨kx, 1, none⟩) hkx _
            rw [hW7]
            clear hW7 hB2 TX ya0 ya1 za0 za1
            refine hK.out _ _ (since hB7) ?_
            clear hK K
            repeat (first | (refine seq_skip (by rfl) (by rfl) ?_; simp only [Act.put, List.setIfInBounds_toArray, List.set_cons_succ, List.set_cons_zero]) | (refine seq_float (by rfl) (by rfl) (by rfl) ?_; intro K hK; go_big_quiet_op; go_big_quiet_on))
            refine seq_nil ?_
            have hA7 := hA9.below hB7 hA9.1
            have hB7' := hB9.below hB7 hB9.1
            have hD7 := hD6.below hB7 hD6.1
            have hBW7 := hB6.trans (hB7.mono hsz6)
            have hBw7 := hw0.trans (hBW7.mono (by omega))
            have f0 := (bc hBw7 hpb _).trans CE0.out
            have f1 := (bc hBw7 hpb _).trans CE1.out
            have hpb7 : pb < W7.heap.size := by have := hBw7.size; omega
            obtain ⟨l1, u1, u2⟩ := hA7
            obtain ⟨l2, u3, u4⟩ := hB7'
            obtain ⟨l3, u5, u6⟩ := hX7
            obtain ⟨l4, u7, u8⟩ := hD7
            clear hA9 hB9 hD6 hlt6 hB7 HD0
            by_cases hAB : (A, B) = (e, x)
            · have CI := lid (HI.out hAB)
              have hq := node_eq hAB
              clear HI hAB
              go_wp2_with fail
              refine wp_region_seq (fun w' => ∃ s : Since W7.heap.size W7, w' = s.world) [(0, true), (1, true), (3, true), (4, true), (5, true), (6, true), (7, true), (2, false), (8, false), (9, true)] (by kernel_rfl) (by kernel_rfl) (by intro c d v a w h; cases d <;> exact h) (since (Below.refl _ _).drew) ?_
              repeat (first | (refine seq_skip (by rfl) (by rfl) ?_; simp only [Act.put, List.setIfInBounds_toArray, List.set_cons_succ, List.set_cons_zero]) | (refine seq_float (by rfl) (by rfl) (by rfl) ?_; intro K hK; go_big_quiet_op; go_big_quiet_on))
              refine seq_chain (by rfl) ?_
              intro K hK
              go_wp2_with fail
              (with_reducible refine (refNode_any A.1 A.2 B.1 B.2 _).mono ?_); rintro e w3 ⟨rfl, hb3⟩
              have hs3 : Below W7.heap.size W7 w3 := (Below.refl _ _).drew.trans hb3
              go_wp2_with fail
              refine hK.out _ _ (since hs3) ?_
              clear hK K
              repeat (first | (refine seq_skip (by rfl) (by rfl) ?_; simp only [Act.put, List.setIfInBounds_toArray, List.set_cons_succ, List.set_cons_zero]) | (refine seq_float (by rfl) (by rfl) (by rfl) ?_; intro K hK; go_big_quiet_op; go_big_quiet_on))
              refine seq_chain (by rfl) ?_
              intro K hK
              go_wp2_with fail
              (with_reducible refine (refNode_any e.1 e.2 x.1 x.2 _).mono ?_); rintro e w4 ⟨rfl, hb4⟩
              have hs4 := hs3.trans (hb4.mono hs3.size)
              go_wp2_with fail
              refine hK.out _ _ (since hs4) ?_
              clear hK K
              repeat (first | (refine seq_skip (by rfl) (by rfl) ?_; simp only [Act.put, List.setIfInBounds_toArray, List.set_cons_succ, List.set_cons_zero]) | (refine seq_float (by rfl) (by rfl) (by rfl) ?_; intro K hK; go_big_quiet_op; go_big_quiet_on))
              refine seq_nil ?_
              have v7 := (bc hs4 l4 0).trans u7
              have v8 := (bc hs4 l4 1).trans u8
              have l4' : w.heap.size < w4.heap.size := by have := hs4.size; omega
              clear u1 u2 u3 u4 u5 u6 u7 u8 f0 f1
              clear hq
              go_wp2_with fail
              refine wp_region_seq (fun w' => ∃ s : Since w4.heap.size w4, w' = s.world) [(0, true), (1, true), (2, true), (3, true), (4, true), (5, true), (6, true), (7, true), (8, true), (9, true), (10, false), (11, false)] (by kernel_rfl) (by kernel_rfl) (by intro c d v a w h; cases d <;> exact h) (since (Below.refl _ _).drew) ?_
              repeat (first | (refine seq_skip (by rfl) (by rfl) ?_; simp only [Act.put, List.setIfInBounds_toArray, List.set_cons_succ, List.set_cons_zero]) | (refine seq_float (by rfl) (by rfl) (by rfl) ?_; intro K hK; go_big_quiet_op; go_big_quiet_on))
              refine seq_chain (by rfl) ?_
              intro K hK
              go_wp2_with fail
              (with_reducible refine (CI.out _ (hBw7.trans ((hs4.trans (Below.refl _ _).drew).mono hBw7.size))).mono ?_); rintro e w5 ⟨rfl, hb5⟩
              have hs5 : Below w4.heap.size w4 w5 := (Below.refl _ _).drew.trans hb5
              go_wp2_with fail
              refine hK.out _ _ (since hs5) ?_
              clear hK K
              repeat (first | (refine seq_skip (by rfl) (by rfl) ?_; simp only [Act.put, List.setIfInBounds_toArray, List.set_cons_succ, List.set_cons_zero]) | (refine seq_float (by rfl) (by rfl) (by rfl) ?_; intro K hK; go_big_quiet_op; go_big_quiet_on))
              refine seq_chain (by rfl) ?_
              intro K hK
              go_wp2_with fail
              refine hK.out _ _ (since hs5) ?_
              clear hK K
              repeat (first | (refine seq_skip (by rfl) (by rfl) ?_; simp only [Act.put, List.setIfInBounds_toArray, List.set_cons_succ, List.set_cons_zero]) | (refine seq_float (by rfl) (by rfl) (by rfl) ?_; intro K hK; go_big_quiet_op; go_big_quiet_on))
              refine seq_nil ?_
              go_wp2_with fail
              go_ret
              exact ⟨rfl, hBw7.trans ((hs4.trans (hs5.mono hs4.size)).mono hBw7.size)⟩
            · have hq := node_ne hAB
              have CC := lid (fun w => collide_any (bstr (1 :: (bytesU A.1 A.2 ++ bytesU B.1 B.2))) (bstr (1 :: (bytesU e.1 e.2 ++ bytesU x.1 x.2))) w (node_size _ _) (node_size _ _) (node_ne' hAB) HRT2.out.symm)
              clear HI hAB
              go_wp2_with fail
              refine wp_region_seq (fun w' => ∃ s : Since W7.heap.size W7, w' = s.world) [(0, true), (1, true), (3, true), (4, true), (5, true), (6, true), (7, true), (2, false), (8, false), (9, true)] (by kernel_rfl) (by kernel_rfl) (by intro c d v a w h; cases d <;> exact h) (since (Below.refl _ _).drew) ?_
              repeat (first | (refine seq_skip (by rfl) (by rfl) ?_; simp only [Act.put, List.setIfInBounds_toArray, List.set_cons_succ, List.set_cons_zero]) | (refine seq_float (by rfl) (by rfl) (by rfl) ?_; intro K hK; go_big_quiet_op; go_big_quiet_on))
              refine seq_chain (by rfl) ?_
              intro K hK
              go_wp2_with fail
              (with_reducible refine (refNode_any A.1 A.2 B.1 B.2 _).mono ?_); rintro e w3 ⟨rfl, hb3⟩
              have hs3 : Below W7.heap.size W7 w3 := (Below.refl _ _).drew.trans hb3
              go_wp2_with fail
              refine hK.out _ _ (since hs3) ?_
              clear hK K
              repeat (first | (refine seq_skip (by rfl) (by rfl) ?_; simp only [Act.put, List.setIfInBounds_toArray, List.set_cons_succ, List.set_cons_zero]) | (refine seq_float (by rfl) (by rfl) (by rfl) ?_; intro K hK; go_big_quiet_op; go_big_quiet_on))
              refine seq_chain (by rfl) ?_
              intro K hK
              go_wp2_with fail
              (with_reducible refine (refNode_any e.1 e.2 x.1 x.2 _).mono ?_); rintro e w4 ⟨rfl, hb4⟩
              have hs4 := hs3.trans (hb4.mono hs3.size)
              go_wp2_with fail
              refine hK.out _ _ (since hs4) ?_
              clear hK K
              repeat (first | (refine seq_skip (by rfl) (by rfl) ?_; simp only [Act.put, List.setIfInBounds_toArray, List.set_cons_succ, List.set_cons_zero]) | (refine seq_float (by rfl) (by rfl) (by rfl) ?_; intro K hK; go_big_quiet_op; go_big_quiet_on))
              refine seq_nil ?_
              have v1 := (bc hs4 l1 0).trans u1
              have v2 := (bc hs4 l1 1).trans u2
              have v3 := (bc hs4 l2 0).trans u3
              have v4 := (bc hs4 l2 1).trans u4
              have v5 := (bc hs4 l3 0).trans u5
              have v6 := (bc hs4 l3 1).trans u6
              have g0 := (bc hs4 hpb7 _).trans f0
              have g1 := (bc hs4 hpb7 _).trans f1
              have m1 : k8 < w4.heap.size := by have := hs4.size; omega
              have m2 : k9 < w4.heap.size := by have := hs4.size; omega
              have m3 : kx < w4.heap.size := by have := hs4.size; omega
              have m4 : pb < w4.heap.size := by have := hs4.size; omega
              clear u1 u2 u3 u4 u5 u6 u7 u8 f0 f1
              clear hq
              go_wp2_with fail
              refine wp_region_seq (fun w' => ∃ s : Since w4.heap.size w4, w' = s.world) [(0, true), (1, true), (3, true), (4, true), (5, true), (6, true), (7, true), (2, false), (8, false), (9, false), (10, false)] (by kernel_rfl) (by kernel_rfl) (by intro c d v a w h; cases d <;> exact h) (since (Below.refl _ _).drew) ?_
              repeat (first | (refine seq_skip (by rfl) (by rfl) ?_; simp only [Act.put, List.setIfInBounds_toArray, List.set_cons_succ, List.set_cons_zero]) | (refine seq_float (by rfl) (by rfl) (by rfl) ?_; intro K hK; go_big_quiet_op; go_big_quiet_on))
              refine seq_chain (by rfl) ?_
              intro K hK
              go_wp2_with fail
              (with_reducible refine (refNode_any A.1 A.2 B.1 B.2 _).mono ?_); rintro e w5 ⟨rfl, hb5⟩
              have hs5 : Below w4.heap.size w4 w5 := (Below.refl _ _).drew.trans hb5
              go_wp2_with fail
              refine hK.out _ _ (since hs5) ?_
              clear hK K
              repeat (first | (refine seq_skip (by rfl) (by rfl) ?_; simp only [Act.put, List.setIfInBounds_toArray, List.set_cons_succ, List.set_cons_zero]) | (refine seq_float (by rfl) (by rfl) (by rfl) ?_; intro K hK; go_big_quiet_op; go_big_quiet_on))
              refine seq_chain (by rfl) ?_
              intro K hK
              go_wp2_with fail
              (with_reducible refine (refNode_any e.1 e.2 x.1 x.2 _).mono ?_); rintro e w6 ⟨rfl, hb6⟩
              have hs6 := hs5.trans (hb6.mono hs5.size)
              go_wp2_with fail
              refine hK.out _ _ (since hs6) ?_
              clear hK K
              repeat (first | (refine seq_skip (by rfl) (by rfl) ?_; simp only [Act.put, List.setIfInBounds_toArray, List.set_cons_succ, List.set_cons_zero]) | (refine seq_float (by rfl) (by rfl) (by rfl) ?_; intro K hK; go_big_quiet_op; go_big_quiet_on))
              refine seq_chain (by rfl) ?_
              intro K hK
              go_wp2_with fail
              (with_reducible refine (CC.out _).mono ?_); rintro e w7 ⟨rfl, hb7⟩
              have hs7 := hs6.trans (hb7.mono hs6.size)
              go_wp2_with fail
              refine hK.out _ _ (since hs7) ?_
              clear hK K
              repeat (first | (refine seq_skip (by rfl) (by rfl) ?_; simp only [Act.put, List.setIfInBounds_toArray, List.set_cons_succ, List.set_cons_zero]) | (refine seq_float (by rfl) (by rfl) (by rfl) ?_; intro K hK; go_big_quiet_op; go_big_quiet_on))
              refine seq_chain (by rfl) ?_
              intro K hK
              go_wp2_with fail
              refine hK.out _ _ (since hs7) ?_
              clear hK K
              repeat (first | (refine seq_skip (by rfl) (by rfl) ?_; simp only [Act.put, List.setIfInBounds_toArray, List.set_cons_succ, List.set_cons_zero]) | (refine seq_float (by rfl) (by rfl) (by rfl) ?_; intro K hK; go_big_quiet_op; go_big_quiet_on))
              refine seq_nil ?_
              go_wp2_with fail
              go_ret
              exact ⟨rfl, hBw7.trans ((hs4.trans (hs7.mono hs4.size)).mono hBw7.size)⟩
end Go.Proofs.Ytchjmkmcgpbndaa
