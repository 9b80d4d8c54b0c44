/-
  owners.Groups, owners.Required.
-/
import Derived.Test.YtefehgdckmajiaaGreatDoorOwnDiff
import Derived.Test.YtefehgdckmajiaaGreatDoorOwnSmall
namespace Go.Proofs.YtefehgdckmajiaaGreatDoor
open Go.RowKit

theorem OwnMap.keepC {c : Nat → Prop} {w w' : World} {b n : Nat} {R : List (ByteArray × List Rl)} (h : OwnMap c w b n R) (hb : w'.heap[b]? = w.heap[b]?) (hk : KeepC c w w') : OwnMap c w' b n R := by
  obtain ⟨T, h1, ⟨es, clock, h2, h3⟩, h4⟩ := h
  exact ⟨T, h1, ⟨es, clock, hb.trans h2, h3⟩, fun t ht => (h4 t ht).keep hk⟩
def reqAdd (a : List ByteArray × List (List ByteArray)) (g : List ByteArray) : List ByteArray × List (List ByteArray) := if hasS (joinB g) a.1 = true then a else (a.1 ++ [joinB g], a.2 ++ [g])
theorem req_met {a : List ByteArray × List (List ByteArray)} {g : List ByteArray} (h : hasS (joinB g) a.1 = true) : reqAdd a g = a := by unfold reqAdd; rw [if_pos h]
theorem req_new {a : List ByteArray × List (List ByteArray)} {g : List ByteArray} (h : hasS (joinB g) a.1 = false) : reqAdd a g = (a.1 ++ [joinB g], a.2 ++ [g]) := by unfold reqAdd; rw [if_neg (by simp [h])]
def reqP (l1 l2 : List Fl) : List ByteArray := (diffF l1 l2).map (·.1)
def reqO (l1 : List Fl) (p : ByteArray) : List (List ByteArray) := ownF (rulesAt (rulesF l1)) p
/-- The groups that must approve. -/
def reqF (l1 l2 : List Fl) : List (List ByteArray) := (((reqP l1 l2).flatMap (reqO l1)).foldl reqAdd ([], [])).2
theorem req_take {l1 : List Fl} {P : List ByteArray} {i : Nat} (h : i < P.length) : ((P.take (i + 1)).flatMap (reqO l1)).foldl reqAdd ([], []) = (reqO l1 P[i]).foldl reqAdd (((P.take i).flatMap (reqO l1)).foldl reqAdd ([], [])) := by
  rw [List.take_succ_eq_append_getElem h, List.flatMap_append, List.foldl_append]
  simp
theorem fold_take {gs : List (List ByteArray)} {j : Nat} {a : List ByteArray × List (List ByteArray)} (h : j < gs.length) : (gs.take (j + 1)).foldl reqAdd a = reqAdd ((gs.take j).foldl reqAdd a) gs[j] := by
  rw [List.take_succ_eq_append_getElem h, List.foldl_append]
  rfl
theorem diff_paths {l1 l2 : List Fl} {N : Nat} (h1 : ∀ f ∈ l1, f.1.size ≤ N) (h2 : ∀ f ∈ l2, f.1.size ≤ N) : ∀ x ∈ diffF l1 l2, x.1.size ≤ N := by
  induction l1 generalizing l2 with
  | nil =>
    intro x hx
    obtain ⟨f, hf, rfl⟩ := List.mem_map.1 hx
    exact h2 f hf
  | cons a s ih =>
    have ha := h1 a (by simp)
    have hs : ∀ f ∈ s, f.1.size ≤ N := fun f hf => h1 f (by simp [hf])
    show ∀ x ∈ diffA a (diffF s) l2, x.1.size ≤ N
    induction l2 with
    | nil =>
      intro x hx
      rcases List.mem_cons.1 hx with rfl | hx
      · exact ha
      · exact ih hs h2 x hx
    | cons b t ih2 =>
      have hb := h2 b (by simp)
      have ht : ∀ f ∈ t, f.1.size ≤ N := fun f hf => h2 f (by simp [hf])
      intro x hx
      rw [diffA] at hx
      split at hx
      · rcases List.mem_cons.1 hx with rfl | hx
        · exact ha
        · exact ih hs h2 x hx
      · split at hx
        · rcases List.mem_cons.1 hx with rfl | hx
          · exact hb
          · exact ih2 ht x hx
        · rcases List.mem_append.1 hx with hx | hx
          · split at hx
            · cases hx
            · simp only [List.mem_singleton] at hx
              subst hx
              exact ha
          · exact ih hs ht x hx
theorem diff_len {l1 l2 : List Fl} : (diffF l1 l2).length ≤ l1.length + l2.length := by
  induction l1 generalizing l2 with
  | nil => show (l2.map addC).length ≤ _; simp
  | cons a s ih =>
    show (diffA a (diffF s) l2).length ≤ _
    induction l2 with
    | nil => have := ih (l2 := []); simp [diffA] at this ⊢; omega
    | cons b t ih2 =>
      rw [diffA]
      have h1 := ih (l2 := b :: t)
      have h2 := ih (l2 := t)
      simp only [List.length_cons] at h1 ih2 ⊢
      split
      · simp only [List.length_cons]; omega
      · split
        · simp only [List.length_cons]; omega
        · rw [List.length_append]
          split <;> simp <;> omega
theorem KeepC.sub {c c' : Nat → Prop} {w w' : World} (h : KeepC c w w') (hc : ∀ k, c' k → c k) : KeepC c' w w' := ⟨h.size, fun k hk h' => h.kept k hk (hc k h')⟩
theorem KeepC.ofB {B : Nat} {c : Nat → Prop} {w w' : World} (h : Below B w w') (hc : ∀ k, c k → k < B) : KeepC c w w' := ⟨h.size, fun k _ h' => h.block k (hc k h')⟩
theorem OwnSet.more {w : World} {b n m : Nat} {S : List ByteArray} (h : OwnSet w b n S) (hm : n ≤ m) : OwnSet w b m S := by
  obtain ⟨es, clock, h2, h3, h4, h5⟩ := h
  exact ⟨es, clock, h2, h3, Nat.le_trans h4 hm, h5⟩
theorem OwnSet.belowB {w w' : World} {B b n : Nat} {S : List ByteArray} (h : OwnSet w b n S) (hb : Below B w w') (hB : b < B) : OwnSet w' b n S := by
  obtain ⟨es, clock, h2, h3⟩ := h
  exact ⟨es, clock, (hb.block b hB).trans h2, h3⟩
set_option maxRecDepth 100000 in
set_option maxHeartbeats 16000000 in
theorem Required_any (l1 l2 : List Fl) (n1 cap1 n2 cap2 : Nat) (a1 a2 : Option Addr) (w : World) (h1 : FA w a1 n1 cap1 l1) (h2 : FA w a2 n2 cap2 l2) (hn1 : n1 ≤ 100000) (hn2 : n2 ≤ 100000) (hd1 : ∀ f ∈ l1, f.1.size ≤ 1000000 ∧ f.2.size ≤ 60000) (hd2 : ∀ f ∈ l2, f.1.size ≤ 1000000 ∧ f.2.size ≤ 60000) :
    Calls Tryz.prog 15 #[.slice a1 n1 cap1, .slice a2 n2 cap2] w fun e w' => ∃ (v : SV) (x : Int), e = .returned (.tuple #[slv v, .int .i64 x]) ∧ Below w.heap.size w w' ∧
      ((treeC l1 ≠ 0 ∧ x = treeC l1) ∨ (treeC l1 = 0 ∧ treeC l2 ≠ 0 ∧ x = treeC l2) ∨ (treeC l1 = 0 ∧ treeC l2 = 0 ∧ x = 0 ∧ GS (fun k => w.heap.size ≤ k ∧ k < w'.heap.size) w' v (reqF l1 l2))) := by
  have H1 := lid h1
  have H2 := lid h2
  have HD1 := lid hd1
  have HD2 := lid hd2
  have hn19 : n1 ≤ 9223372036854775807 := by omega
  have hn29 : n2 ≤ 9223372036854775807 := by omega
  have C1 := lid (treeCheck_any l1 n1 cap1 a1 w h1 (fun f hf => (hd1 f hf).2))
  have C2 := lid (fun w' (hb : Below w.heap.size w w') => treeCheck_any l2 n2 cap2 a2 w' (H2.out.below hb) (fun f hf => (HD2.out f hf).2))
  clear h1 h2 hd1 hd2
  obtain ⟨t1, ht1⟩ : ∃ t, treeC l1 = t := ⟨_, rfl⟩
  obtain ⟨t2, ht2⟩ : ∃ t, treeC l2 = t := ⟨_, rfl⟩
  rw [ht1] at C1 ⊢
  rw [ht2] at C2 ⊢
  by_cases hz1 : t1 = 0
  · subst hz1
    by_cases hz2 : t2 = 0
    · subst hz2
      have hmm := @run_makeMap Tryz.prog
      clear ht1 ht2
      go_enter Tryz.func15, Tryz.ntmps15
      go_wp2_with fail
      (with_reducible refine (C1.out).mono ?_); rintro e w1 ⟨rfl, hb1⟩
      go_wp2_with fail
      (with_reducible refine (C2.out _ hb1).mono ?_); rintro e w2 ⟨rfl, hb2⟩
      have hb02 := hb1.trans (hb2.mono hb1.size)
      have CR := lid (rulesOf_any l1 n1 cap1 a1 w2 (H1.out.below hb02) (fun f hf => (HD1.out f hf).2) hn1)
      clear hb1 hb2
      go_wp2_with fail
      (with_reducible refine (CR.out).mono ?_); rintro e w3 ⟨rfl, hb3, hm3⟩
      have HM3 := lid hm3
      have hb03 := hb02.trans (hb3.mono hb02.size)
      have hz3 : w2.heap.size < w3.heap.size := by
        obtain ⟨o, ho, _⟩ := hm3.mapped
        exact (Array.getElem?_eq_some_iff.1 ho).1
      have hz23 : w.heap.size ≤ w2.heap.size := hb02.size
      have HM4 := lid (World.ownsMap_made (H := Unit) w3 Tryz.prog 9 (plainElem Tryz.prog 4))
      clear hm3 hb3 hb02
      go_wp2_with fail
      obtain ⟨W4, hW4⟩ : ∃ W4, w3.alloc (Obj.map #[] 0) = W4 := ⟨_, rfl⟩
      have hb4 : Below w3.heap.size w3 W4 := by rw [← hW4]; exact ba _ _
      have hz4 : W4.heap.size = w3.heap.size + 1 := by rw [← hW4]; simp
      rw [hW4] at HM4 ⊢
      have HR4 := lid (HM3.out.below hb4)
      have hb04 := hb03.trans (hb4.mono hb03.size)
      have CC := lid (changed_any l1 l2 n1 cap1 n2 cap2 a1 a2 W4 (H1.out.below hb04) (H2.out.below hb04) hn1 hn2)
      have HZ4 := lid hz4
      clear hW4 hb4 hz4
      (with_reducible refine (CC.out).mono ?_); rintro e w5 ⟨⟨ap, np, cp⟩, rfl, hb5, hg5⟩
      rw [show slv (ap, np, cp) = Value.slice ap np cp from rfl]
      have HR5 := lid (HR4.out.below hb5)
      have HO5 := lid (OwnSet.below (S := []) (n := 0) HM4.out hb5)
      have HG5 := lid hg5
      have hb05 := hb04.trans (hb5.mono hb04.size)
      have HPN : Hid ((reqP l1 l2).length = np) := lid hg5.len
      have hnp : np ≤ 200000 := by
        have := diff_len (l1 := l1) (l2 := l2)
        have e : (reqP l1 l2).length = (diffF l1 l2).length := by simp [reqP]
        have e1 := H1.out.len
        have e2 := H2.out.len
        have := HPN.out
        omega
      have hz5 : w3.heap.size + 1 ≤ w5.heap.size := by have := hb5.size; have := HZ4.out; omega
      have hcp : np ≤ cp := hg5.r.le
      have hnp9 : np ≤ 9223372036854775807 := by omega
      clear hg5 hb5 hb04 hb03
      go_wp2_with fail
      go_loopw [10, 33] (fun v10 u33 wr => ∃ (i : Nat) (S : List ByteArray) (G : List (List ByteArray)) (vs : List SV) (q : SV), i ≤ np ∧ u33 = .int .i64 i ∧ v10 = slv q ∧ Hid ((((reqP l1 l2).take i).flatMap (reqO l1)).foldl reqAdd ([], []) = (S, G)) ∧ Hid (G.length ≤ i * 8) ∧ Hid (OwnSet wr w3.heap.size (i * 8) S) ∧
        Hid (wr.ownsRow w5.heap.size 36 1 (slv q) G.length (vs.map slv)) ∧ Hid (GLs (fun k => w2.heap.size ≤ k ∧ k < w3.heap.size) wr vs G) ∧ Hid (KeepC (fun k => k < w5.heap.size ∧ k ≠ w3.heap.size) w5 wr) ∧ Below w.heap.size w wr) (fun _ u33 _ => np - (intOf u33).toNat)
      case atStart => exact ⟨0, [], [], [], nv, Nat.zero_le _, rfl, rfl, lid rfl, lid (Nat.le_refl _), HO5, lid (World.ownsRow_nil _ _ _ _), lid (GLs.nil _ _), lid (KeepC.refl _ _), hb05⟩
      case round =>
        obtain ⟨i, S, G, vs, ⟨aq, nq, cq⟩, hi, rfl, rfl, HF, HGL, HS, HO, HV, HK, hb⟩ := hrel
        by_cases hlt : i < np
        · have hil : i < (reqP l1 l2).length := by rw [HPN.out]; exact hlt
          have HGp := ((HG5.out.mono (c' := fun k => k < w5.heap.size ∧ k ≠ w3.heap.size) (fun k hk => ⟨hk.2, by have h1 := hk.1; have h2 := HZ4.out; omega⟩)).keep HK.out)
          obtain ⟨b1, o1, rfl, hlb, hcell⟩ := HGp.r.sl.at_ hlt
          have x0 := hcell i _ (svals_at hil)
          have HT := lid (req_take (l1 := l1) hil)
          have hxs : ((reqP l1 l2)[i]).size ≤ 1000000 := by
            obtain ⟨y, hy, e⟩ := List.mem_map.1 (List.getElem_mem hil)
            rw [← e]
            exact diff_paths (fun f hf => (HD1.out f hf).1) (fun f hf => (HD2.out f hf).1) y hy
          obtain ⟨x, hx⟩ : ∃ x, (reqP l1 l2)[i] = x := ⟨_, rfl⟩
          rw [hx] at x0 HT hxs
          have dk : decide ((i : Int) < (np : Int)) = true := by simp; omega
          have CO := lid (ownersOf_any (fun k => w2.heap.size ≤ k ∧ k < w3.heap.size) w2.heap.size n1 (rulesF l1) x wr (HR5.out.keepC (HK.out.kept _ (by omega) ⟨by omega, by omega⟩) (HK.out.sub (fun k hk => ⟨by have := hk.2; omega, by have := hk.2; omega⟩))) hxs)
          clear HGp hcell hx
          go_wp2_with fail
          (with_reducible refine (CO.out).mono ?_); rintro e w6 ⟨⟨ag, ng, cg⟩, rfl, hb6, hgs⟩
          rw [show slv (ag, ng, cg) = Value.slice ag ng cg from rfl]
          have HGS := lid hgs
          have HGN : Hid ((reqO l1 x).length = ng) := lid hgs.len
          have hng : ng ≤ 8 := by rw [← HGN.out]; exact ownF_len x
          have hcg : ng ≤ cg := by obtain ⟨vsg, h1, _⟩ := hgs.r; exact h1.le
          have hng9 : ng ≤ 9223372036854775807 := by omega
          have hw6 := hb.trans (hb6.mono hb.size)
          have HS6 := lid (OwnSet.below HS.out hb6)
          have HO6 := lid (ownsRow_below HO.out hb6)
          have HV6 := lid (HV.out.keep (KeepC.below hb6))
          have HK6 := lid (HK.out.trans (KeepC.below hb6))
          have HSZ : Hid (∀ g ∈ reqO l1 x, smallG g) := lid (ownF_small (fun f hf => (HD1.out f hf).2) x)
          obtain ⟨gs, hgse⟩ : ∃ gs, reqO l1 x = gs := ⟨_, rfl⟩
          have HGE := lid hgse
          rw [show ownF (rulesAt (rulesF l1)) x = gs from hgse] at HGS
          rw [hgse] at HGN HSZ HT
          clear hgs hb6 HS HO HV HK hgse x0
          go_wp2_with fail
          go_loopw [10, 41] (fun v10 u41 wq => ∃ (j : Nat) (S' : List ByteArray) (G' : List (List ByteArray)) (vs : List SV) (q : SV), j ≤ ng ∧ u41 = .int .i64 j ∧ v10 = slv q ∧ Hid ((gs.take j).foldl reqAdd (S, G) = (S', G')) ∧ Hid (G'.length ≤ i * 8 + j) ∧ Hid (OwnSet wq w3.heap.size (i * 8 + j) S') ∧
            Hid (wq.ownsRow w5.heap.size 36 1 (slv q) G'.length (vs.map slv)) ∧ Hid (GLs (fun k => w2.heap.size ≤ k ∧ k < w3.heap.size) wq vs G') ∧ Hid (KeepC (fun k => k < w5.heap.size ∧ k ≠ w3.heap.size) w6 wq) ∧ Below w.heap.size w wq) (fun _ u41 _ => ng - (intOf u41).toNat)
          case atStart => exact ⟨0, S, G, vs, (aq, nq, cq), Nat.zero_le _, rfl, rfl, lid rfl, HGL, HS6, HO6, HV6, lid (KeepC.refl _ _), hw6⟩
          case round =>
            obtain ⟨wq, rfl⟩ : ∃ y, y = wr := ⟨_, rfl⟩
            obtain ⟨j, S', G', vs', ⟨aq', nq', cq'⟩, hj, rfl, rfl, HF', HGL', HS', HO', HV', HK', hb'⟩ := hrel
            by_cases hjl : j < ng
            · have hjg : j < gs.length := by rw [HGN.out]; exact hjl
              obtain ⟨vsg, hsl, hgl⟩ := (HGS.out.keep (HK'.out.sub (fun k hk => ⟨by have := hk.2; omega, by have := hk.2; omega⟩))).r
              have hjv : j < vsg.length := by rw [hgl.1]; exact hjg
              obtain ⟨b2, o2, rfl, hlb2, hcell⟩ := hsl.sl.at_ hjl
              have y0 := hcell j (slv vsg[j]) (by rw [List.getElem?_map, List.getElem?_eq_getElem hjv]; rfl)
              have hgc := hgl.2 j _ _ (List.getElem?_eq_getElem hjv) (List.getElem?_eq_getElem hjg)
              have HT2 := lid (fold_take (a := (S, G)) hjg)
              have hsm := HSZ.out _ (List.getElem_mem hjg)
              obtain ⟨g, hg⟩ : ∃ g, gs[j] = g := ⟨_, rfl⟩
              obtain ⟨⟨a3, n3, c3⟩, hv⟩ : ∃ v, vsg[j] = v := ⟨_, rfl⟩
              rw [hg] at hgc HT2 hsm
              rw [hv] at y0 hgc
              rw [HF'.out] at HT2
              have HGC := lid hgc
              have HJS := lid (joinB_small hsm)
              have dj : decide ((j : Int) < (ng : Int)) = true := by simp; omega
              have CJ := lid (Join_any g n3 c3 a3 wq hgc.len hgc.r.sl hgc.r.le (by have h1 := hgc.len; have h2 := hsm.1; have h3 : (a3, n3, c3).2.1 = n3 := rfl; omega) (by have := HJS.out; omega))
              replace y0 : wq.cell? ⟨b2, o2 + j, none⟩ = some (Value.slice a3 n3 c3) := y0
              clear hgc hsm hg hv hcell hsl hgl
              go_wp2_with fail
              (with_reducible refine (CJ.out).mono ?_); rintro e w7 ⟨rfl, hb7⟩
              have HS7 := lid (OwnSet.below HS'.out hb7)
              have HO7 := lid (ownsRow_below HO'.out hb7)
              have HV7 := lid (HV'.out.keep (KeepC.below hb7))
              have HK7 := lid (HK'.out.trans (KeepC.below hb7))
              have HGC7 := lid (HGC.out.keep (KeepC.below hb7))
              have hw7 := hb'.trans (hb7.mono hb'.size)
              have HLK := lid (OwnSet.look HS7.out (joinB g) (by have := HJS.out; simp only [maxLen]; omega))
              have hk67 : w6.heap.size ≤ w7.heap.size := HK7.out.size
              have hk56 : w5.heap.size ≤ w6.heap.size := HK6.out.size
              obtain ⟨s, hs⟩ : ∃ s, hasS (joinB g) S' = s := ⟨_, rfl⟩
              rw [hs] at HLK
              have HHS := lid hs
              clear hs hb7 HS' HO' HV' HK' y0
              cases s with
              | true =>
                have HF2 : Hid ((gs.take (j + 1)).foldl reqAdd (S, G) = (S', G')) := lid (by rw [HT2.out, req_met HHS.out])
                go_wp2_with (at_lookup; go_must (refine wpList_look _ rfl _ _ 50 rfl _ _ _ rfl rfl HLK.out ?_))
                go_roundw
                case rel => exact ⟨j + 1, S', G', vs', (aq', nq', cq'), by omega, by go_num, rfl, HF2, lid (by have := HGL'.out; omega), lid (HS7.out.more (by omega)), HO7, HV7, HK7, hw7⟩
                case measure => simp [intOf]; omega
              | false =>
                have HF2 : Hid ((gs.take (j + 1)).foldl reqAdd (S, G) = (S' ++ [joinB g], G' ++ [g])) := lid (by rw [HT2.out, req_new HHS.out])
                go_wp2_with (first | (at_lookup; go_must (refine wpList_look _ rfl _ _ 50 rfl _ _ _ rfl rfl HLK.out ?_)) | (at_mapUpdate; go_must (refine wpList_mapUpdate_own _ rfl _ _ _ 50 rfl 9 4 kstr Tryz.underlying50 (plainElem Tryz.prog 4) w3.heap.size (i * 8 + j) _ rfl HS7.out (by simp only [maxLen]; omega) _ _ (keyS (joinB g)) rfl rfl (key_of (by have := HJS.out; simp only [maxLen]; omega)) (.lit (.bool true)) [] (plainElem_bool Tryz.underlying4 true) ?_)))
                intro w8 hown8 hg8
                have HS8 : Hid (OwnSet w8 w3.heap.size (i * 8 + (j + 1)) (S' ++ [joinB g])) := lid (by rw [OwnSet, setD_snoc]; exact hown8)
                have HO8 : Hid (w8.ownsRow w5.heap.size 36 1 (slv (aq', nq', cq')) G'.length (vs'.map slv)) := lid (HO7.out.kept hg8 (by
                  cases hk : (slv (aq', nq', cq')).ownBlock with
                  | none => exact .inl rfl
                  | some k => exact .inr (fun e => by have := ownsRow_row HO7.out k hk; cases e; omega)))
                have hkc8 : KeepC (fun k => k < w5.heap.size ∧ k ≠ w3.heap.size) w7 w8 := KeepC.grown hg8 (fun r e hc => by cases e; exact hc.2 rfl)
                have HV8 := lid (HV7.out.keep (hkc8.sub (fun k hk => ⟨by have := hk.2; omega, by have := hk.2; omega⟩)))
                have HK8 := lid (HK7.out.trans hkc8)
                have HGC8 := lid (HGC7.out.keep (hkc8.sub (fun k hk => ⟨by have := hk.2; omega, by have := hk.2; omega⟩)))
                have hz78 := hg8.size
                have hw8 := hw7.grown hg8 hw7.size (fun q hq => by cases hq; omega)
                have hbase8 : w5.heap.size ≤ w8.heap.size := by omega
                clear hown8 hg8 hkc8 HLK
                go_wp2_with (at_builtin; go_must (refine wpList_append_new (w := w8) #[.slice a3 n3 c3] rfl _ _ 31 rfl w5.heap.size 36 (.slice none 0 0) 1 24 info_sl Tryz.underlying31 rfl (by decide) (slv (aq', nq', cq')) G'.length _ HO8.out rfl rfl rfl (by intro u hu; simp only [List.mem_cons, List.not_mem_nil, or_false] at hu; rw [hu]; rfl) (by have := HGL'.out; simp only [maxLen]; omega) (by have := HGL'.out; omega) hbase8 ?_))
                intro v9 w9 own9 hb9 _
                obtain ⟨a9, c9, rfl⟩ := slv_of own9
                have HO9 : Hid (w9.ownsRow w5.heap.size 36 1 (slv (a9, G'.length + 1, c9)) (G' ++ [g]).length ((vs' ++ [(a3, n3, c3)]).map slv)) := lid (by
                  rw [List.length_append, List.map_append]
                  exact own9)
                have hkc9 : KeepC (fun k => w2.heap.size ≤ k ∧ k < w3.heap.size) w8 w9 := KeepC.ofB hb9 (fun k hk => by have := hk.2; omega)
                have HV9 := lid ((HV8.out.keep hkc9).snoc (HGC8.out.keep hkc9))
                have HS9 := lid (OwnSet.belowB HS8.out hb9 (by omega))
                have HK9 := lid (HK8.out.trans (KeepC.ofB hb9 (fun k hk => hk.1)))
                have hw9 := hw8.trans (hb9.mono (by have := hb05.size; omega))
                clear own9 hb9 hkc9
                go_wp2_with fail
                go_roundw
                case rel => exact ⟨j + 1, _, _, _, (a9, G'.length + 1, c9), by omega, by go_num, rfl, HF2, lid (by have := HGL'.out; simp; omega), HS9, HO9, HV9, HK9, hw9⟩
                case measure => simp [intOf]; omega
            · obtain rfl : j = ng := by omega
              have dj : decide ((j : Int) < (j : Int)) = false := by simp
              have HF2 : Hid ((((reqP l1 l2).take (i + 1)).flatMap (reqO l1)).foldl reqAdd ([], []) = (S', G')) := lid (by
                rw [HT.out, HF.out, ← HF'.out, List.take_of_length_le (Nat.le_of_eq HGN.out)])
              have HK2 := lid (HK6.out.trans HK'.out)
              go_wp2_with fail
              go_roundw
              case rel => exact ⟨i + 1, S', G', vs', (aq', nq', cq'), by omega, by go_num, rfl, HF2, lid (by have := HGL'.out; omega), lid (HS'.out.more (by omega)), HO', HV', HK2, hb'⟩
              case measure => simp [intOf]; omega
        · obtain rfl : i = np := by omega
          have dk : decide ((i : Int) < (i : Int)) = false := by simp
          have HE : Hid (reqF l1 l2 = G) := lid (by
            unfold reqF
            have := HF.out
            rw [List.take_of_length_le (Nat.le_of_eq HPN.out)] at this
            rw [this])
          have HGS : Hid (GS (fun k => w.heap.size ≤ k ∧ k < wr.heap.size) wr (aq, nq, cq) G) := lid (by
            have hs1 := hb05.size
            have hs2 := HK.out.size
            obtain ⟨h1, h2⟩ := SlC.of_own (c := fun k => w.heap.size ≤ k ∧ k < wr.heap.size) HO.out (fun k e => by have := HO.out.lt k e; exact ⟨by omega, this.2⟩)
            exact ⟨⟨vs, h1, HV.out.mono (fun k hk => ⟨by have := hk.1; omega, by have := hk.2; omega⟩)⟩, h2.symm⟩)
          go_wp2_with fail
          go_ret2
          exact ⟨(aq, nq, cq), 0, rfl, hb, .inr (.inr ⟨trivial, trivial, rfl, by rw [HE.out]; exact HGS.out⟩)⟩
    · have u2 : (t2 != 0) = true := by simpa using hz2
      have HZ := lid hz2
      clear hz2
      go_enter Tryz.func15, Tryz.ntmps15
      go_wp2_with fail
      (with_reducible refine (C1.out).mono ?_); rintro e w1 ⟨rfl, hb1⟩
      go_wp2_with fail
      (with_reducible refine (C2.out _ hb1).mono ?_); rintro e w2 ⟨rfl, hb2⟩
      go_wp2_with fail
      go_ret2
      exact ⟨nv, t2, rfl, hb1.trans (hb2.mono hb1.size), .inr (.inl ⟨trivial, HZ.out, rfl⟩)⟩
  · have u1 : (t1 != 0) = true := by simpa using hz1
    have HZ := lid hz1
    clear hz1
    go_enter Tryz.func15, Tryz.ntmps15
    go_wp2_with fail
    (with_reducible refine (C1.out).mono ?_); rintro e w1 ⟨rfl, hb1⟩
    go_wp2_with fail
    go_ret2
    exact ⟨nv, t1, rfl, hb1, .inl ⟨HZ.out, rfl⟩⟩
end Go.Proofs.YtefehgdckmajiaaGreatDoor
