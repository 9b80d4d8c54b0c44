/-
  approval.Missing.
-/
import Derived.Test.YtefehgdckmajiaaGreatDoorAppSaw
namespace Go.Proofs.YtefehgdckmajiaaGreatDoor
open Go.RowKit

/-- An approval: who, change, saw. -/
abbrev Ap := ByteArray × Int × ByteArray
abbrev ape (a : Ap) : List Value := [.string a.1, .int .i64 a.2.1, .string a.2.2]
def apcells (l : List Ap) : List Value := l.flatMap ape
theorem ape_length (a : Ap) : (ape a).length = 3 := rfl
theorem apcells_at {l : List Ap} {k : Nat} (h : k < l.length) : (apcells l)[k * 3 + 0]? = some (.string l[k].1) ∧ (apcells l)[k * 3 + 1]? = some (.int .i64 l[k].2.1) ∧ (apcells l)[k * 3 + 2]? = some (.string l[k].2.2) := ⟨flat_at ape_length h (by omega), flat_at ape_length h (by omega), flat_at ape_length h (by omega)⟩
def standsB (change : Int) (L : List (Ch × List (List ByteArray))) (a : Ap) : Bool := decide (a.2.1 = change) && decide (a.2.2 = viewB a.1 L)
/-- Who has approved. -/
def apS (l : List Ap) (change : Int) (L : List (Ch × List (List ByteArray))) : List ByteArray := (l.filter (standsB change L)).map (·.1)
theorem apS_take {l : List Ap} {change : Int} {L : List (Ch × List (List ByteArray))} {k : Nat} (h : k < l.length) : apS (l.take (k + 1)) change L = apS (l.take k) change L ++ (if standsB change L l[k] = true then [l[k].1] else []) := by
  unfold apS
  rw [List.take_succ_eq_append_getElem h, List.filter_append, List.map_append]
  congr 1
  cases h2 : standsB change L l[k] <;> simp [h2]
/-- Has a member of a group approved? -/
def apprB (S : List ByteArray) (g : List ByteArray) : Bool := (List.range g.length).any fun i => hasS (g.getD i ⟨#[]⟩) S
def missF (R : List (List ByteArray)) (S : List ByteArray) : List (List ByteArray) := R.filter fun g => !apprB S g
theorem missF_take {R : List (List ByteArray)} {S : List ByteArray} {k : Nat} (h : k < R.length) : missF (R.take (k + 1)) S = missF (R.take k) S ++ (if apprB S R[k] = true then [] else [R[k]]) := by
  unfold missF
  rw [List.take_succ_eq_append_getElem h, List.filter_append]
  congr 1
  cases h2 : apprB S R[k] <;> simp [h2]
theorem examE_zero {l1 l2 : List Fl} (h : examE l1 l2 = 0) : treeC l1 = 0 ∧ treeC l2 = 0 := by
  unfold examE at h
  split at h
  · rename_i h1; exact absurd h h1
  · rename_i h1
    split at h
    · rename_i h2; exact absurd h h2
    · rename_i h2
      exact ⟨Decidable.of_not_not h1, Decidable.of_not_not h2⟩
set_option maxRecDepth 100000 in
set_option maxHeartbeats 1000000 in
theorem approved_any (ba ma n : Nat) (S : List ByteArray) (s : ByteArray) (w : World) (hb : w.heap[ba]? = some (.cells #[.map (some ma)] 50 (0, 0))) (hS : OwnSet w ma n S) (hs : s.size ≤ maxLen) :
    Calls Tryz.prog 18 #[.string s, .pointer (some ⟨ba, 0, none⟩)] w fun e w' => e = .returned (.bool (hasS s S)) ∧ Below w.heap.size w w' := by
  have HL := lid (OwnSet.look hS s hs)
  have y0 := row_cell hb 0
  have l0 := row_lt hb
  clear hb hS
  go_enter Tryz.func18, Tryz.ntmps18
  go_wp2_with (at_lookup; go_must (refine wpList_look _ rfl _ _ 50 rfl _ _ _ rfl rfl HL.out ?_))
  go_ret
  exact ⟨rfl, Below.refl _ _⟩
theorem asksA {c : Nat → Prop} {w : World} {ba ma n : Nat} {S : List ByteArray} {v : SV} {g : List ByteArray} (h : GC c w v g) (hb : w.heap[ba]? = some (.cells #[.map (some ma)] 50 (0, 0))) (hS : OwnSet w ma n S) : AsksA ba (svals g) (fun i => hasS (g.getD i ⟨#[]⟩) S) w := by
  intro i u w' hu hb'
  have hi : i < g.length := by
    have := (List.getElem?_eq_some_iff.1 hu).1
    rwa [svals_length] at this
  rw [svals_at hi] at hu
  cases hu
  have e : g.getD i ⟨#[]⟩ = g[i] := by rw [List.getD_eq_getElem?_getD, List.getElem?_eq_getElem hi]; rfl
  refine (approved_any ba ma n S g[i] w' ((hb'.block _ (row_lt hb)).trans hb) (OwnSet.below hS hb') (h.sz _ (List.getElem_mem hi))).mono ?_
  rintro e' w2 ⟨rfl, hb2⟩
  refine ⟨ret_bool ?_, hb2⟩
  show _ = hasS (g.getD i ⟨#[]⟩) S
  rw [e]
theorem JuI.turned {n0 bl mb bm k r : Nat} {v : SV} {L : List (Ch × List (List ByteArray))} {w w' : World} (h : JuI n0 bl mb bm k v L w) (hg : w.grownBy w' (some r)) (h0 : n0 ≤ r) (h1 : bl ≠ r) (h2 : bm ≠ r) (h3 : mb ≠ r) : JuI n0 bl mb bm k v L w' := by
  obtain ⟨D, q1, q2, q3⟩ := h.views
  exact ⟨(hg.block _ (row_lt h.box) (fun e => h1 (Option.some.inj e))).trans h.box, h.ow.keep (KeepC.grown hg (fun r' e hc => by cases e; have hc : r < n0 := hc; omega)), (hg.block _ (row_lt h.mbox) (fun e => h2 (Option.some.inj e))).trans h.mbox, ⟨D, World.ownsMap.kept q1 hg (fun e => h3 (Option.some.inj e)), q2, q3⟩, h.lo, h.bn, Nat.le_trans h.sz hg.size⟩
theorem JuI.more {n0 bl mb bm k : Nat} {v : SV} {L : List (Ch × List (List ByteArray))} {w : World} (h : JuI n0 bl mb bm k v L w) : JuI n0 bl mb bm (k + 1) v L w := by
  obtain ⟨D, ⟨es, clock, q2, q3, q4, q5⟩, r2, r3⟩ := h.views
  exact ⟨h.box, h.ow, h.mbox, ⟨D, ⟨es, clock, q2, q3, Nat.le_succ_of_le q4, q5⟩, r2, r3⟩, h.lo, h.bn, h.sz⟩
theorem OwnSet.turned {w w' : World} {b n r : Nat} {S : List ByteArray} (h : OwnSet w b n S) (hg : w.grownBy w' (some r)) (hne : b ≠ r) : OwnSet w' b n S := World.ownsMap.kept h hg (fun e => hne (Option.some.inj e))
theorem reqF_len {l1 l2 : List Fl} : (reqF l1 l2).length ≤ (diffF l1 l2).length * 8 := by
  have key : ∀ (G : List (List ByteArray)) (a : List ByteArray × List (List ByteArray)), (G.foldl reqAdd a).2.length ≤ a.2.length + G.length := by
    intro G
    induction G with
    | nil => intro a; exact Nat.le_refl _
    | cons x G ih =>
      intro a
      rw [List.foldl_cons]
      refine Nat.le_trans (ih _) ?_
      unfold reqAdd
      split <;> simp <;> omega
  have fl : ∀ (P : List ByteArray), (P.flatMap (reqO l1)).length ≤ P.length * 8 := by
    intro P
    induction P with
    | nil => simp
    | cons p P ih =>
      have := ownF_len (fs := l1) p
      rw [List.flatMap_cons, List.length_append, List.length_cons]
      have e : (reqO l1 p).length ≤ 8 := this
      omega
  have h1 := key ((reqP l1 l2).flatMap (reqO l1)) ([], [])
  have h2 := fl (reqP l1 l2)
  have h3 : (reqP l1 l2).length = (diffF l1 l2).length := by simp [reqP]
  unfold reqF
  simp only [List.length_nil] at h1
  omega
theorem req_small {l1 l2 : List Fl} (h : ∀ f ∈ l1, f.2.size ≤ 60000) : ∀ g ∈ reqF l1 l2, smallG g := by
  have key : ∀ (G : List (List ByteArray)) (a : List ByteArray × List (List ByteArray)), (∀ g ∈ G, smallG g) → (∀ g ∈ a.2, smallG g) → ∀ g ∈ (G.foldl reqAdd a).2, smallG g := by
    intro G
    induction G with
    | nil => intro a _ h2; exact h2
    | cons x G ih =>
      intro a h1 h2
      rw [List.foldl_cons]
      refine ih _ (fun g hg => h1 g (by simp [hg])) ?_
      unfold reqAdd
      split
      · exact h2
      · intro g hg
        rcases List.mem_append.1 hg with hg | hg
        · exact h2 g hg
        · simp only [List.mem_singleton] at hg
          subst hg
          exact h1 g (by simp)
  refine key _ _ (fun g hg => ?_) (fun g hg => by cases hg)
  obtain ⟨p, _, hp⟩ := List.mem_flatMap.1 hg
  exact ownF_small h p g hp
theorem GC.small {c : Nat → Prop} {w : World} {v : SV} {g : List ByteArray} (h : GC c w v g) : g.length = v.2.1 := h.len
set_option maxRecDepth 100000 in
set_option maxHeartbeats 16000000 in
theorem Missing_any (l : List Ap) (n cap : Nat) (ao : Option Addr) (change : Int) (l1 l2 : List Fl) (n1 cap1 n2 cap2 : Nat) (a1 a2 : Option Addr) (w : World) (hl : l.length = n) (hs : Sl w 3 ao n (apcells l)) (hz : ∀ a ∈ l, a.1.size ≤ maxLen) (hcap : n ≤ cap) (hm : n ≤ 100000)
    (h1 : FA w a1 n1 cap1 l1) (h2 : FA w a2 n2 cap2 l2) (hn1 : n1 ≤ 100000) (hn2 : n2 ≤ 100000) (hd1 : ∀ f ∈ l1, f.1.size ≤ 1000000 ∧ f.2.size ≤ 60000) (hd2 : ∀ f ∈ l2, f.1.size ≤ 1000000 ∧ f.2.size ≤ 60000) :
    Calls Tryz.prog 9 #[.slice ao n cap, .int .i64 change, .slice a1 n1 cap1, .slice a2 n2 cap2] w fun e w' => ∃ (v : SV) (x : Int), e = .returned (.tuple #[slv v, .int .i64 x]) ∧ Below w.heap.size w w' ∧ x = examE l1 l2 ∧
      (x = 0 → GS (fun k => w.heap.size ≤ k ∧ k < w'.heap.size) w' v (missF (reqF l1 l2) (apS l change (examL l1 l2)))) ∧ (x ≠ 0 → v = nv) := by
  have CE := lid (examine_any l1 l2 n1 cap1 n2 cap2 a1 a2 w h1 h2 hn1 hn2 hd1 hd2)
  have CR := lid (fun w1 (hb : Below w.heap.size w w1) => Required_any l1 l2 n1 cap1 n2 cap2 a1 a2 w1 (h1.below hb) (h2.below hb) hn1 hn2 hd1 hd2)
  have HSM : Hid (smallL (examL l1 l2)) := lid (examL_small fun f hf => (hd1 f hf).2)
  have HSC : Hid (smallC (examL l1 l2)) := lid (examL_smallC h1.sz h2.sz)
  have HQS : Hid (∀ g ∈ reqF l1 l2, smallG g) := lid (req_small fun f hf => (hd1 f hf).2)
  have hlen : (examL l1 l2).length ≤ 200000 := by
    have := examL_len (l1 := l1) (l2 := l2)
    have e1 := h1.len
    have e2 := h2.len
    omega
  have HPL : Hid ((diffF l1 l2).length ≤ 200000) := lid (by
    have := diff_len (l1 := l1) (l2 := l2)
    have e1 := h1.len
    have e2 := h2.len
    omega)
  have HLN := lid hl
  have HSL := lid hs
  have HZ := lid hz
  have hn9 : n ≤ 9223372036854775807 := by omega
  have hmm := @run_makeMap Tryz.prog
  clear h1 h2 hd1 hd2 hl hs hz
  go_enter Tryz.func9, Tryz.ntmps9
  go_wp2_with fail
  (with_reducible refine (CE.out).mono ?_); rintro e w1 ⟨⟨av, nv', cv⟩, x, rfl, hb1, hx, hs1⟩
  rw [show slv (av, nv', cv) = Value.slice av nv' cv from rfl]
  have HX := lid hx
  have HB1 := lid hb1
  have HS1 := lid hs1
  clear hx hs1 hb1
  by_cases hx0 : x = 0
  · subst hx0
    have HOW := lid (HS1.out rfl)
    obtain ⟨ht1, ht2⟩ := examE_zero HX.out.symm
    have HT1 := lid ht1
    have HT2 := lid ht2
    clear ht1 ht2
    go_wp2_with fail
    (with_reducible refine (CR.out _ HB1.out).mono ?_); rintro e w2 ⟨⟨ar, nr, cr⟩, y, rfl, hb2, hout⟩
    rw [show slv (ar, nr, cr) = Value.slice ar nr cr from rfl]
    obtain ⟨rfl, hreq⟩ : y = 0 ∧ GS (fun k => w1.heap.size ≤ k ∧ k < w2.heap.size) w2 (ar, nr, cr) (reqF l1 l2) := by
      rcases hout with ⟨h, _⟩ | ⟨_, h, _⟩ | ⟨_, _, h, h'⟩
      · exact absurd HT1.out h
      · exact absurd HT2.out h
      · exact ⟨h, h'⟩
    have HRQ := lid hreq
    have HO2 := lid (HOW.out.keep (KeepC.below hb2))
    have hb02 := HB1.out.trans (hb2.mono HB1.out.size)
    have hz12 : w1.heap.size ≤ w2.heap.size := hb2.size
    have HRN : Hid ((reqF l1 l2).length = nr) := lid hreq.len
    have hcr : nr ≤ cr := by obtain ⟨vs, q, _⟩ := hreq.r; exact q.le
    have hcm : cr ≤ 9223372036854775807 := by obtain ⟨vs, q, _⟩ := hreq.r; exact q.max
    have CJ := lid (judge_fn (av, nv', cv) w2)
    clear hout hreq hb2
    go_wp2_with fail
    (with_reducible refine (CJ.out).mono ?_); rintro e w3 ⟨rfl, hw3⟩
    have hb3 : Below w2.heap.size w2 w3 := by rw [hw3]; exact ((ba _ _).alloc (by simp) _).alloc (by simp; omega) _
    have hz3 : w3.heap.size = w2.heap.size + 3 := by rw [hw3]; simp
    have hbl : w3.heap[w2.heap.size]? = some (.cells #[slv (av, nv', cv)] 44 (0, 0)) := by rw [hw3]; exact (h_old (by simp; omega) _).trans ((h_old (by simp) _).trans (h_new rfl _))
    have hmp : w3.heap[w2.heap.size + 1]? = some (.map #[] 0) := by rw [hw3]; exact (h_old (by simp) _).trans (h_new (by simp) _)
    have hbm : w3.heap[w2.heap.size + 2]? = some (.cells #[.map (some (w2.heap.size + 1))] 70 (0, 0)) := by rw [hw3]; exact h_new (by simp) _
    have HJ3 : Hid (JuI w2.heap.size w2.heap.size (w2.heap.size + 1) (w2.heap.size + 2) 0 (av, nv', cv) (examL l1 l2) w3) := lid ⟨hbl, (HO2.out.keep (KeepC.below hb3)).mono (fun k hk => by have hk : w.heap.size ≤ k ∧ k < w1.heap.size := hk; show k < w2.heap.size; omega), hbm, ⟨.map [], by
      have hmade := (World.ownsMap_made (H := Value) (w2.alloc (.cells #[slv (av, nv', cv)] 44)) Tryz.prog 9 heldR).alloc (.cells #[.map (some (w2.heap.size + 1))] 70)
      rw [hw3]
      simpa using hmade, Maps.isMap_empty, fun who h => by simp [Maps.has] at h⟩, by omega, ⟨by omega, by omega⟩, by omega⟩
    have HB3 := lid (hb02.trans (hb3.mono hb02.size))
    have HR3 := lid (HRQ.out.keep (KeepC.below hb3))
    have hz02 : w.heap.size ≤ w2.heap.size := hb02.size
    clear hw3 hbl hmp hbm hb3 CJ hb02
    have HM3 := lid (World.ownsMap_made (H := Unit) w3 Tryz.prog 9 (plainElem Tryz.prog 4))
    go_wp2_with fail
    obtain ⟨W4, hW4⟩ : ∃ W4, (w3.alloc (Obj.map #[] 0)).alloc (Obj.cells #[.map (some (w2.heap.size + 3))] 50) = W4 := ⟨_, rfl⟩
    rw [hW4]
    have hb4 : Below w3.heap.size w3 W4 := by rw [← hW4]; exact (ba _ _).alloc (by simp) _
    have hz4 : W4.heap.size = w2.heap.size + 5 := by rw [← hW4]; simp [hz3]
    have HA4 : Hid (W4.heap[w2.heap.size + 3 + 1]? = some (.cells #[.map (some (w2.heap.size + 3))] 50 (0, 0))) := lid (by rw [← hW4]; exact h_new (by simp [hz3]) _)
    have HS4 : Hid (OwnSet W4 (w2.heap.size + 3) 0 []) := lid (by
      have hq := HM3.out.alloc (Obj.cells #[.map (some (w2.heap.size + 3))] 50)
      rw [hW4, hz3] at hq
      exact hq)
    have HJ4 := lid (HJ3.out.grown hb4)
    have HB4 := lid (HB3.out.trans (hb4.mono HB3.out.size))
    have HR4 := lid (HR3.out.keep (KeepC.below hb4))
    have HZ4 := lid hz4
    clear hW4 hb4 hz4 hz3 HM3
    go_loopw [43] (fun u43 wr => ∃ k : Nat, k ≤ n ∧ u43 = .int .i64 k ∧ Hid (OwnSet wr (w2.heap.size + 3) k (apS (l.take k) change (examL l1 l2))) ∧ Hid (JuI w2.heap.size w2.heap.size (w2.heap.size + 1) (w2.heap.size + 2) k (av, nv', cv) (examL l1 l2) wr) ∧
      Hid (KeepC (fun k => k < w2.heap.size + 5 ∧ k ≠ w2.heap.size + 1 ∧ k ≠ w2.heap.size + 3) W4 wr) ∧ Below w.heap.size w wr) (fun u43 _ => n - (intOf u43).toNat)
    case atStart => exact ⟨0, Nat.zero_le _, rfl, HS4, HJ4, lid (KeepC.refl _ _), HB4.out⟩
    case round =>
      obtain ⟨k, hk, rfl, HS, HJ, HK, hb⟩ := hrel
      have hba : wr.heap[w2.heap.size + 3 + 1]? = some (.cells #[.map (some (w2.heap.size + 3))] 50 (0, 0)) := (HK.out.kept _ (by have := HZ4.out; omega) ⟨by omega, by omega, by omega⟩).trans HA4.out
      have HBA := lid hba
      by_cases hlt : k < n
      · have hkl : k < l.length := by rw [HLN.out]; exact hlt
        obtain ⟨b1, o1, rfl, hlb, hcell⟩ := (HSL.out.below hb).at_ hlt
        have x0 := hcell (k * 3 + 0) _ (apcells_at hkl).1
        have x1 := hcell (k * 3 + 1) _ (apcells_at hkl).2.1
        have x2 := hcell (k * 3 + 2) _ (apcells_at hkl).2.2
        rw [← Nat.add_assoc] at x1 x2
        rw [Nat.add_zero] at x0
        have HT := lid (apS_take (change := change) (L := examL l1 l2) hkl)
        have hzk := HZ.out _ (List.getElem_mem hkl)
        have dk : decide ((k : Int) < (n : Int)) = true := by simp; omega
        obtain ⟨⟨who, ch, saw⟩, hx⟩ : ∃ x, l[k] = x := ⟨_, rfl⟩
        rw [hx] at x0 x1 x2 HT hzk
        replace x0 : wr.cell? ⟨b1, o1 + k * 3, none⟩ = some (Value.string who) := x0
        replace x1 : wr.cell? ⟨b1, o1 + k * 3 + 1, none⟩ = some (Value.int .i64 ch) := x1
        replace x2 : wr.cell? ⟨b1, o1 + k * 3 + 2, none⟩ = some (Value.string saw) := x2
        have hzk : who.size ≤ maxLen := hzk
        clear hcell hx
        obtain ⟨W5, hW5⟩ : ∃ W5, wr.alloc (Obj.cells #[.string who, .int .i64 ch, .string saw] 42) = W5 := ⟨_, rfl⟩
        have hb5 : Below wr.heap.size wr W5 := by rw [← hW5]; exact ba _ _
        have HR5 : Hid (W5.heap[wr.heap.size]? = some (.cells #[.string who, .int .i64 ch, .string saw] 42 (0, 0))) := lid (by rw [← hW5]; exact h_new rfl _)
        have HS5 := lid (OwnSet.below HS.out hb5)
        have HJ5 := lid (HJ.out.grown hb5)
        have HK5 := lid (HK.out.trans (KeepC.below hb5))
        have hw5 := hb.trans (hb5.mono hb.size)
        have hz5 : w2.heap.size + 5 ≤ wr.heap.size := by have := HK.out.size; have := HZ4.out; omega
        have HW5 := lid hW5
        have HB5 := lid hb5
        clear hW5 hb5
        by_cases hc : ch = change
        · have u : ((ch : Int) == change) = true := by simpa using hc
          have HC := lid hc
          clear hc
          have CS := lid (stand_any w2.heap.size w2.heap.size (w2.heap.size + 1) (w2.heap.size + 2) k (av, nv', cv) (examL l1 l2) who saw ch W5 HJ5.out (by omega) HSM.out HSC.out hlen hzk)
          go_wp2_with fail
          rw [HW5.out]
          (with_reducible refine (CS.out).mono ?_); rintro e w6 ⟨rfl, hj6, hg6⟩
          have HJ6 := lid hj6
          have HS6 := lid (OwnSet.turned HS5.out hg6 (by omega))
          have HK6 := lid (HK5.out.trans (KeepC.grown hg6 (fun r e hc => by cases e; exact hc.2.1 rfl)))
          have hw6 := hw5.grown hg6 hw5.size (fun q hq => by cases hq; omega)
          have hr6 : w6.heap[wr.heap.size]? = some (.cells #[.string who, .int .i64 ch, .string saw] 42 (0, 0)) := (hg6.block _ (row_lt HR5.out) (fun e => by have := Option.some.inj e; omega)).trans HR5.out
          have hba6 : w6.heap[w2.heap.size + 3 + 1]? = some (.cells #[.map (some (w2.heap.size + 3))] 50 (0, 0)) := (HK6.out.kept _ (by have := HZ4.out; omega) ⟨by omega, by omega, by omega⟩).trans HA4.out
          have y0 := row_cell hr6 0
          have ly := row_lt hr6
          have z0 := row_cell hba6 0
          have lz := row_lt hba6
          clear hj6 hg6 hr6 hba6 hba x0 x1 x2
          by_cases hst : saw = viewB who (examL l1 l2)
          · have d : decide (saw = viewB who (examL l1 l2)) = true := decide_eq_true hst
            have HE : Hid (apS (l.take (k + 1)) change (examL l1 l2) = apS (l.take k) change (examL l1 l2) ++ [who]) := lid (by rw [HT.out, if_pos]; unfold standsB; simp [HC.out, hst])
            rw [d]
            clear d hst
            go_wp2_with (at_mapUpdate; go_must (refine wpList_mapUpdate_own _ rfl _ _ _ 50 rfl 9 4 kstr Tryz.underlying50 (plainElem Tryz.prog 4) (w2.heap.size + 3) k _ rfl HS6.out (by simp only [maxLen]; omega) _ _ (keyS who) rfl rfl (key_of hzk) (.lit (.bool true)) [] (plainElem_bool Tryz.underlying4 true) ?_))
            intro w7 hown7 hg7
            have HS7 : Hid (OwnSet w7 (w2.heap.size + 3) (k + 1) (apS (l.take (k + 1)) change (examL l1 l2))) := lid (by rw [HE.out, OwnSet, setD_snoc]; exact hown7)
            have HJ7 := lid (HJ6.out.turned hg7 (by omega) (by omega) (by omega) (by omega))
            have HK7 := lid (HK6.out.trans (KeepC.grown hg7 (fun r e hc => by cases e; exact hc.2.2 rfl)))
            have hw7 := hw6.grown hg7 hw6.size (fun q hq => by cases hq; omega)
            clear hown7 hg7
            go_wp2_with fail
            go_roundw
            case rel => exact ⟨k + 1, by omega, by go_num, HS7, HJ7, HK7, hw7⟩
            case measure => simp [intOf]; omega
          · have d : decide (saw = viewB who (examL l1 l2)) = false := decide_eq_false hst
            have HE : Hid (apS (l.take (k + 1)) change (examL l1 l2) = apS (l.take k) change (examL l1 l2)) := lid (by rw [HT.out, if_neg, List.append_nil]; unfold standsB; simp [hst])
            rw [d]
            clear d hst
            go_wp2_with fail
            go_roundw
            case rel => exact ⟨k + 1, by omega, by go_num, lid (by rw [HE.out]; exact HS6.out.more (Nat.le_succ _)), HJ6, HK6, hw6⟩
            case measure => simp [intOf]; omega
        · have u : ((ch : Int) == change) = false := by simpa using hc
          have HE : Hid (apS (l.take (k + 1)) change (examL l1 l2) = apS (l.take k) change (examL l1 l2)) := lid (by rw [HT.out, if_neg, List.append_nil]; unfold standsB; simp [hc])
          clear hba
          go_wp2_with fail
          rw [HW5.out]
          go_roundw
          case rel => exact ⟨k + 1, by omega, by go_num, lid (by rw [HE.out]; exact HS5.out.more (Nat.le_succ _)), lid HJ5.out.more, HK5, hw5⟩
          case measure => simp [intOf]; omega
      · obtain rfl : k = n := by omega
        have dk : decide ((k : Int) < (k : Int)) = false := by simp
        have HTK : Hid (l.take k = l) := lid (List.take_of_length_le (Nat.le_of_eq HLN.out))
        rw [HTK.out] at HS
        have HRQ5 := lid (HR4.out.keep (HK.out.sub (fun k hk => ⟨by have := hk.2; omega, by have := hk.2; omega, by have := hk.2; omega⟩)))
        obtain ⟨w5, rfl⟩ : ∃ y, y = wr := ⟨_, rfl⟩
        have hz5 : w2.heap.size + 5 ≤ w5.heap.size := by have := HK.out.size; have := HZ4.out; omega
        have hnr : nr ≤ 1600000 := by
          have := reqF_len (l1 := l1) (l2 := l2)
          have := HRN.out
          have := HPL.out
          omega
        have HW5 := lid hb
        obtain ⟨R, hR⟩ : ∃ R, reqF l1 l2 = R := ⟨_, rfl⟩
        obtain ⟨S, hS⟩ : ∃ S, apS l change (examL l1 l2) = S := ⟨_, rfl⟩
        rw [hS] at HS
        rw [hR] at HRQ5 HRN HQS
        have HRE := lid hR
        have HSE := lid hS
        clear hba hb hR hS hk
        go_wp2_with fail
        go_loopw [17, 62] (fun v17 u62 wr => ∃ (j : Nat) (q : SV) (vs : List SV), j ≤ nr ∧ u62 = .int .i64 j ∧ v17 = slv q ∧ Hid (wr.ownsRow w5.heap.size 36 1 (slv q) (missF (R.take j) S).length (vs.map slv)) ∧ Hid (GLs (fun k => w1.heap.size ≤ k ∧ k < w2.heap.size) wr vs (missF (R.take j) S)) ∧ Hid (Below w5.heap.size w5 wr)) (fun _ u62 _ => nr - (intOf u62).toNat)
        case atStart => exact ⟨0, nv, [], Nat.zero_le _, rfl, rfl, lid (World.ownsRow_nil _ _ _ _), lid (GLs.nil _ _), lid (Below.refl _ _)⟩
        case round =>
          obtain ⟨j, ⟨aq, nq, cq⟩, vs, hj, rfl, rfl, HO, HV, HB⟩ := hrel
          by_cases hjl : j < nr
          · have hjR : j < R.length := by rw [HRN.out]; exact hjl
            obtain ⟨vsr, hsl, hgl⟩ := (HRQ5.out.keep (KeepC.below HB.out)).r
            have hjv : j < vsr.length := by rw [hgl.1]; exact hjR
            obtain ⟨b2, o2, rfl, hlb2, hcell⟩ := hsl.sl.at_ hjl
            have y0 := hcell j (slv vsr[j]) (by rw [List.getElem?_map, List.getElem?_eq_getElem hjv]; rfl)
            have hgc := hgl.2 j _ _ (List.getElem?_eq_getElem hjv) (List.getElem?_eq_getElem hjR)
            have HT := lid (missF_take (S := S) hjR)
            have hsm := HQS.out _ (List.getElem_mem hjR)
            have HLL : Hid ((missF (R.take j) S).length ≤ 1600000) := lid (by
              have : (missF (R.take j) S).length ≤ (R.take j).length := List.length_filter_le _ _
              have h2 : (R.take j).length ≤ j := List.length_take_le _ _
              omega)
            obtain ⟨g, hg⟩ : ∃ g, R[j] = g := ⟨_, rfl⟩
            obtain ⟨⟨a3, n3, c3⟩, hv⟩ : ∃ v, vsr[j] = v := ⟨_, rfl⟩
            rw [hg] at hgc HT hsm
            rw [hv] at y0 hgc
            have hg3 : g.length = n3 := hgc.len
            have HGC := lid hgc
            have dj : decide ((j : Int) < (nr : Int)) = true := by simp; omega
            have CF := lid (ContainsFuncA (w2.heap.size + 3 + 1) (svals g) n3 c3 a3 (fun i => hasS (g.getD i ⟨#[]⟩) S) wr (by have := hsm.1; omega) hgc.r.sl (asksA hgc ((HB.out.block _ (row_lt HBA.out)).trans HBA.out) (OwnSet.below HS.out HB.out)))
            have HA : Hid ((List.range n3).any (fun i => hasS (g.getD i ⟨#[]⟩) S) = apprB S g) := lid (by unfold apprB; rw [hg3])
            rw [HA.out] at CF
            replace y0 : wr.cell? ⟨b2, o2 + j, none⟩ = some (Value.slice a3 n3 c3) := y0
            clear hgc hsm hg hv hcell hsl hgl
            go_wp2_with fail
            (with_reducible refine (CF.out).mono ?_); rintro e w7 ⟨rfl, hb7⟩
            have HO7 := lid (ownsRow_below HO.out hb7)
            have HV7 := lid (HV.out.keep (KeepC.below hb7))
            have HGC7 := lid (HGC.out.keep (KeepC.below hb7))
            have HB7 := lid (HB.out.trans (hb7.mono HB.out.size))
            have hbs7 : w5.heap.size ≤ w7.heap.size := HB7.out.size
            clear hb7 HO HV HB y0
            cases hap : apprB S g with
            | true =>
              have HE : Hid (missF (R.take (j + 1)) S = missF (R.take j) S) := lid (by rw [HT.out, if_pos hap, List.append_nil])
              clear hap
              go_wp2_with fail
              go_roundw
              case rel => exact ⟨j + 1, (aq, nq, cq), vs, by omega, by go_num, rfl, by rw [HE.out]; exact HO7, by rw [HE.out]; exact HV7, HB7⟩
              case measure => simp [intOf]; omega
            | false =>
              have HE : Hid (missF (R.take (j + 1)) S = missF (R.take j) S ++ [g]) := lid (by rw [HT.out, if_neg (by rw [hap]; decide)])
              clear hap
              go_wp2_with (at_builtin; go_must (refine wpList_append_new (w := w7) #[.slice a3 n3 c3] rfl _ _ 31 rfl w5.heap.size 36 (.slice none 0 0) 1 24 info_sl Tryz.underlying31 rfl (by decide) (slv (aq, nq, cq)) (missF (R.take j) S).length _ HO7.out rfl rfl rfl (by intro u hu; simp only [List.mem_cons, List.not_mem_nil, or_false] at hu; rw [hu]; rfl) (by have := HLL.out; simp only [maxLen]; omega) (by have := HLL.out; omega) hbs7 ?_))
              intro v9 w9 own9 hb9 _
              obtain ⟨a9, c9, rfl⟩ := slv_of own9
              have HO9 : Hid (w9.ownsRow w5.heap.size 36 1 (slv (a9, (missF (R.take j) S).length + 1, c9)) (missF (R.take (j + 1)) S).length ((vs ++ [(a3, n3, c3)]).map slv)) := lid (by rw [HE.out, List.length_append, List.map_append]; exact own9)
              have hkc : KeepC (fun k => w1.heap.size ≤ k ∧ k < w2.heap.size) w7 w9 := KeepC.ofB hb9 (fun k hk => by have := hk.2; omega)
              have HV9 : Hid (GLs (fun k => w1.heap.size ≤ k ∧ k < w2.heap.size) w9 (vs ++ [(a3, n3, c3)]) (missF (R.take (j + 1)) S)) := lid (by rw [HE.out]; exact (HV7.out.keep hkc).snoc (HGC7.out.keep hkc))
              have HB9 := lid (HB7.out.trans hb9)
              clear own9 hb9 hkc
              go_wp2_with fail
              go_roundw
              case rel => exact ⟨j + 1, (a9, (missF (R.take j) S).length + 1, c9), _, by omega, by go_num, rfl, HO9, HV9, HB9⟩
              case measure => simp [intOf]; omega
          · obtain rfl : j = nr := by omega
            have dj : decide ((j : Int) < (j : Int)) = false := by simp
            have HTK : Hid (R.take j = R) := lid (List.take_of_length_le (Nat.le_of_eq HRN.out))
            rw [HTK.out] at HO HV
            have hwe : Below w.heap.size w wr := HW5.out.trans (HB.out.mono HW5.out.size)
            have HGS : Hid (GS (fun k => w.heap.size ≤ k ∧ k < wr.heap.size) wr (aq, nq, cq) (missF R S)) := lid (by
              have hz1 := HB1.out.size
              have hz5' := HB.out.size
              obtain ⟨h1, h2⟩ := SlC.of_own (c := fun k => w.heap.size ≤ k ∧ k < wr.heap.size) HO.out (fun k e => by have := HO.out.lt k e; exact ⟨by omega, this.2⟩)
              exact ⟨⟨vs, h1, HV.out.mono (fun k hk => ⟨by have := hk.1; omega, by have := hk.2; omega⟩)⟩, h2.symm⟩)
            go_wp2_with fail
            go_ret2
            exact ⟨(aq, nq, cq), 0, rfl, hwe, HX.out, fun _ => by rw [HRE.out, HSE.out]; exact HGS.out, fun e => absurd rfl e⟩
  · have u : (x != 0) = true := by simpa using hx0
    have HX0 := lid hx0
    clear hx0
    go_wp2_with fail
    go_ret2
    exact ⟨nv, x, rfl, HB1.out, HX.out, fun e => absurd e HX0.out, fun _ => rfl⟩
end Go.Proofs.YtefehgdckmajiaaGreatDoor
