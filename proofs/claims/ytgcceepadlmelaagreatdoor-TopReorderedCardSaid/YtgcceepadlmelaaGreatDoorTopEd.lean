import Derived.Test.YtgcceepadlmelaaGreatDoorEdApply
import Derived.Test.YtgcceepadlmelaaGreatDoorEdSm
import Derived.Test.YtgcceepadlmelaaGreatDoorEdDf
import Derived.Test.YtgcceepadlmelaaGreatDoorEdMove
namespace Go.Proofs.YtgcceepadlmelaaGreatDoor
set_option maxRecDepth 100000
set_option maxHeartbeats 16000000
open Go.RowKit
theorem kla_own {w : World} {base n : Nat} {v : Value} {K : List Kw} (h : w.ownsRow base 52 5 v n (kcs K)) (hn : K.length = n) (hK : ∀ x ∈ K, KwA w x) : ∃ ao cap, v = .slice ao n cap ∧ KLA w ao n cap K := by
 obtain ⟨a1, c1, e1, l1, x1, s1⟩ := Sl.of_own h
 refine ⟨a1, c1, e1, hn, s1, l1, x1, hK, ?_⟩
 rw [e1] at h
 exact own_cap0 h
theorem Sw.perm {K L : List Kw} (h : Sw K L) : L.Perm K := by
 induction h with
 | refl => exact List.Perm.refl _
 | step _ _ ih => exact (List.Perm.append_left _ (List.Perm.swap _ _ _)).trans ih
def mwA : Mw := ⟨⟨#[97]⟩, none, [], 0, none, [], 0⟩
def mwB : Mw := ⟨⟨#[98]⟩, none, [], 0, none, [], 0⟩
theorem bare_A {w : World} {l : ByteArray} (h : l.size ≤ maxLen) : MwA w ⟨l, none, [], 0, none, [], 0⟩ := ⟨h, SA.empty, DLA.empty⟩
theorem modA : modW mwA := modW_bare (by decide +kernel) none 0 none 0
theorem modB : modW mwB := modW_bare (by decide +kernel) none 0 none 0
theorem diff_ab : diffE [] [mwA.x, mwB.x] = [⟨⟨#[97]⟩, .add⟩, ⟨⟨#[98]⟩, .add⟩] := by
 have hp : pairsM [] [mwA.x, mwB.x] = [(⟨#[97]⟩, none, some mwA.x), (⟨#[98]⟩, none, some mwB.x)] := by
  rw [pairsM, pairsM, pairsM]
  rfl
 have h3 : ∀ m : Mw, m.decls = [] → ph3 none (some m.x) = [] := fun m hm => by
  have e : dO (some m.x) = [] := by show m.decls.map Dw.x = []; rw [hm]; rfl
  unfold ph3
  rw [e, show dO none = [] from rfl, declE]
  rfl
 unfold diffE flatE
 rw [hp]
 simp only [List.flatMap_cons, List.flatMap_nil, h3 mwA rfl, h3 mwB rfl]
 rfl
theorem ordAB : OrdM [mwA, mwB] := by
 refine List.pairwise_cons.2 ⟨fun y hy => ?_, List.pairwise_singleton _ _⟩
 rw [List.mem_singleton.1 hy]
 decide +kernel
theorem mla_ab {w : World} {R : Nat} (h : w.heap[R]? = some (.cells #[.string ⟨#[97]⟩, .slice none 0 0, .slice none 0 0, .string ⟨#[98]⟩, .slice none 0 0, .slice none 0 0] 45 (0, 0))) : MLA w (some ⟨R, 0, none⟩) 2 2 [mwA, mwB] :=
 ⟨rfl, sl_row h rfl, Nat.le_refl _, by simp [maxLen], fun m hm => by
  simp only [List.mem_cons, List.not_mem_nil, or_false] at hm
  rcases hm with rfl | rfl <;> exact bare_A (by decide), fun h => by cases h⟩
theorem MLA.empty {w : World} : MLA w none 0 0 [] := ⟨rfl, Sl.nil, Nat.le_refl _, Nat.zero_le _, fun _ h => (by cases h), fun _ => rfl⟩
theorem valid_K {K : List Kw} {E : List Ed} (hKE : K.map Kw.x = E.map Ed.k) (hE : ∀ e ∈ E, e.vld) : ∀ x ∈ K, FitK x ∧ TestK x := fun x hx => by
 have h1 : x.x ∈ E.map Ed.k := by rw [← hKE]; exact List.mem_map.2 ⟨x, hx, rfl⟩
 obtain ⟨e, he, e1⟩ := List.mem_map.1 h1
 exact Ed.vld_k (hE e he) e1.symm
theorem not_notInd {k1 k2 : Kw} (h : k1.pack ≠ k2.pack) : ¬ NotInd [k1, k2] := by
 rintro ⟨p, a, b, q, hs, hi⟩
 have hp := hs.perm
 have hl := hp.length_eq
 rw [List.length_append, List.length_cons, List.length_cons] at hl
 have hl2 : ([k1, k2] : List Kw).length = 2 := rfl
 rw [hl2] at hl
 have e1 : p = [] := List.eq_nil_of_length_eq_zero (by omega)
 have e2 : q = [] := List.eq_nil_of_length_eq_zero (by omega)
 subst e1 e2
 rw [List.nil_append] at hp
 have hne : a.pack ≠ b.pack := by
  have ha : a = k1 ∨ a = k2 := by have := hp.subset (List.mem_cons_self ..); simpa using this
  rcases ha with rfl | rfl
  ·have h2 := (List.perm_cons a).1 hp
   have : b = k2 := by have := h2.subset (List.mem_cons_self ..); simpa using this
   rw [this]
   exact h
  ·have h2 := (List.perm_cons a).1 (hp.trans (List.Perm.swap _ _ _))
   have : b = k1 := by have := h2.subset (List.mem_cons_self ..); simpa using this
   rw [this]
   exact Ne.symm h
 unfold indK at hi
 rw [if_pos hne] at hi
 cases hi
theorem edited_any (w : World) : Calls Tryz.prog 6 #[] w (TrueB w) := by
 obtain ⟨W0, hW0⟩ : ∃ y, ((w.alloc (.cells #[.string ⟨#[97]⟩, .slice none 0 0, .slice none 0 0] 45)).alloc (.cells #[.string ⟨#[98]⟩, .slice none 0 0, .slice none 0 0] 45)).alloc (.cells #[.string ⟨#[97]⟩, .slice none 0 0, .slice none 0 0, .string ⟨#[98]⟩, .slice none 0 0, .slice none 0 0] 45) = y := ⟨_, rfl⟩
 have hb0 : Below w.heap.size w W0 := by rw [← hW0]; exact ((ba _ _).alloc (by simp) _).alloc (by simp <;> omega) _
 have hR0 : W0.heap[w.heap.size]? = some (.cells #[.string ⟨#[97]⟩, .slice none 0 0, .slice none 0 0] 45 (0, 0)) := by rw [← hW0]; exact (h_old (by simp <;> omega) _).trans ((h_old (by simp) _).trans (h_new rfl _))
 have hR1 : W0.heap[w.heap.size + 1]? = some (.cells #[.string ⟨#[98]⟩, .slice none 0 0, .slice none 0 0] 45 (0, 0)) := by rw [← hW0]; exact (h_old (by simp) _).trans (h_new (by simp) _)
 have hR2 : W0.heap[w.heap.size + 1 + 1]? = some (.cells #[.string ⟨#[97]⟩, .slice none 0 0, .slice none 0 0, .string ⟨#[98]⟩, .slice none 0 0, .slice none 0 0] 45 (0, 0)) := by rw [← hW0]; exact h_new (by simp) _
 have CD := lid (Diff_any none (some ⟨w.heap.size + 1 + 1, 0, none⟩) 0 0 2 2 [] [mwA, mwB] W0 MLA.empty (mla_ab hR2) (by omega) (by omega))
 have HW0 := lid hW0
 have HB0 := lid hb0
 have HR0 := lid hR0
 have HR1 := lid hR1
 have x0 := row_cell hR0 0
 clear x0 hW0 hb0 hR0 hR1 hR2
 go_enter Tryz.func6, Tryz.ntmps6
 go_wp2_with fail
 rw [HW0.out]
 (with_reducible refine CD.out.mono ?_); rintro e w1 hD
 obtain ⟨v1, q, rfl, hb1, hor⟩ := hD
 have hval : (OrdM ([] : List Mw) ∧ ∀ m ∈ ([] : List Mw), modW m) ∧ (OrdM [mwA, mwB] ∧ ∀ m ∈ [mwA, mwB], modW m) := ⟨⟨List.Pairwise.nil, fun _ h => by cases h⟩, ordAB, fun m hm => by
  simp only [List.mem_cons, List.not_mem_nil, or_false] at hm
  rcases hm with rfl | rfl
  ·exact modA
  ·exact modB⟩
 obtain ⟨rfl, K, ho1, hk1, hkx, -⟩ : q = 0 ∧ ∃ K : List Kw, w1.ownsRow W0.heap.size 52 5 v1 K.length (kcs K) ∧ (∀ x ∈ K, KwA w1 x) ∧ K.map Kw.x = ([⟨⟨#[97]⟩, .add⟩, ⟨⟨#[98]⟩, .add⟩] : List Ed).map Ed.k ∧ True := by
  rcases hor with ⟨_, h⟩ | ⟨h1, _, _, K, h2, h3, h4, _⟩
  ·exact absurd hval h
  ·refine ⟨h1, K, h2, h3, ?_, trivial⟩
   rw [h4]
   show (diffE [] [mwA.x, mwB.x]).map Ed.k = _
   rw [diff_ab]
 obtain ⟨k1, k2, rfl⟩ : ∃ k1 k2, K = [k1, k2] := by
  have hl := congrArg List.length hkx
  rw [List.length_map, List.length_map] at hl
  match K, hl with
  | [a, b], _ => exact ⟨a, b, rfl⟩
 obtain ⟨E, hEE⟩ : ∃ E : List Ed, ([⟨⟨#[97]⟩, .add⟩, ⟨⟨#[98]⟩, .add⟩] : List Ed) = E := ⟨_, rfl⟩
 have hpk : k1.pack ≠ k2.pack := by
  have e1 : k1.x.pack = ⟨#[97]⟩ := congrArg (fun l : List Kc => match l with | a :: _ => a.pack | [] => ⟨#[97]⟩) hkx
  have e2 : k2.x.pack = ⟨#[98]⟩ := congrArg (fun l : List Kc => match l with | _ :: a :: _ => a.pack | _ => ⟨#[98]⟩) hkx
  have e1' : k1.pack = ⟨#[97]⟩ := e1
  have e2' : k2.pack = ⟨#[98]⟩ := e2
  rw [e1', e2']
  decide
 have hEv : ∀ e ∈ E, e.vld := fun e he => by
  rw [← hEE] at he
  simp only [List.mem_cons, List.not_mem_nil, or_false] at he
  rcases he with rfl | rfl
  ·exact ⟨by decide +kernel, trivial⟩
  ·exact ⟨by decide +kernel, trivial⟩
 have hokT : OkL [mwA.x, mwB.x] := ordM_ok (A := [mwA, mwB]) hval.2.1 hval.2.2
 have hlead : apL E (absM []) (absM [mwA.x, mwB.x]) := by
  rw [← hEE, ← diff_ab]
  exact diff_lead ⟨List.Pairwise.nil, fun _ h => by cases h⟩ hokT
 rw [hEE] at hkx
 obtain ⟨a1, c1, rfl, hkla⟩ := kla_own ho1 rfl hk1
 have CM : Hid (Calls Tryz.prog 9 #[.slice a1 2 c1, .int .i64 0, .int .i64 1] w1 fun r w' => ∃ v L, r = .returned (.tuple #[v, .bool true]) ∧ Hid (Below w1.heap.size w1 w' ∧ w'.ownsRow w1.heap.size 52 5 v 2 (kcs L) ∧ Sw [k1, k2] L)) := lid ((Move_any a1 2 c1 [k1, k2] w1 hkla (by omega) 0 1 (by omega) (by omega) (valid_K hkx hEv)).mono (by
  rintro r w' ⟨h1, h2⟩
  rcases h2 with ⟨_, h3⟩ | ⟨v, L, rfl, h3, h4⟩
  ·exact absurd h3 (not_notInd hpk)
  ·exact ⟨v, L, rfl, lid ⟨h1, h3, h4⟩⟩))
 have HB1 := lid hb1
 have HKW := lid hk1
 have HKX := lid hkx
 have HEV := lid hEv
 have HLEAD := lid hlead
 have HT := lid hokT
 clear hor hval ho1 hkla hb1 hk1 hkx hpk hEE hEv hlead hokT CD
 go_wp2_with fail
 (with_reducible refine (CM.out).mono ?_); rintro e w2 ⟨v2, L, rfl, hm⟩
 have CA : Hid (∃ a2 c2, v2 = .slice a2 2 c2 ∧ Calls Tryz.prog 10 #[.slice none 0 0, .slice a2 2 c2] w2 fun r w' => ∃ v M, r = .returned (.tuple #[v, .int .i64 0]) ∧ Hid (MO w2 w' v M ∧ M.map Mw.x = [mwA.x, mwB.x])) := lid (by
  obtain ⟨m1, m2, m3⟩ := hm.out
  obtain ⟨hl, hmem⟩ := m3.mem
  obtain ⟨a2, c2, rfl, hk2⟩ := kla_own m2 (by rw [hl]; rfl) (fun x hx => (HKW.out x ((hmem x).1 hx)).below m1)
  obtain ⟨E', q1, q2, q3⟩ := sw_lead m3 HKX.out (fun e he => ⟨Ed.vld_fit (HEV.out e he), Ed.vld_named (HEV.out e he)⟩) HLEAD.out
  refine ⟨a2, c2, rfl, (Apply_any none a2 0 0 2 c2 [] L E' w2 MLA.empty hk2 (by omega) (by omega) q1 (fun e he => HEV.out e (q2 e he)) List.Pairwise.nil (fun _ h => by cases h) [mwA.x, mwB.x] HT.out ?_ q3).mono ?_⟩
  ·intro m hm
   simp only [List.mem_cons, List.not_mem_nil, or_false] at hm
   rcases hm with rfl | rfl
   ·exact ⟨mwA, rfl, modA⟩
   ·exact ⟨mwB, rfl, modB⟩
  ·rintro r w' ⟨v, M, rfl, h1, h2⟩
   exact ⟨v, M, rfl, lid ⟨h1, h2⟩⟩)
 have HB2 := lid (HB1.out.trans (hm.out.1.mono HB1.out.size))
 obtain ⟨a2, c2, rfl, ca⟩ := CA.out
 have CA2 := lid ca
 clear ca CA hm CM
 go_wp2_with fail
 (with_reducible refine (CA2.out).mono ?_); rintro e w3 ⟨v3, M, rfl, hm⟩
 have HB3 : Hid (Below W0.heap.size W0 w3) := lid (HB2.out.trans (hm.out.1.bel.mono HB2.out.size))
 have hlM : M.length = 2 := by have := congrArg List.length hm.out.2; rw [List.length_map] at this; exact this
 obtain ⟨a3, c3, hv3, hmla⟩ := hm.out.1.mla
 rw [hlM] at hv3 hmla
 subst hv3
 have x0 : w3.cell? ⟨w.heap.size, 0, none⟩ = some (.string ⟨#[97]⟩) := row_cell ((HB3.out.block _ (row_lt HR0.out)).trans HR0.out) 0
 have x1 : w3.cell? ⟨w.heap.size, 1, none⟩ = some (.slice none 0 0) := row_cell ((HB3.out.block _ (row_lt HR0.out)).trans HR0.out) 1
 have x2 : w3.cell? ⟨w.heap.size, 2, none⟩ = some (.slice none 0 0) := row_cell ((HB3.out.block _ (row_lt HR0.out)).trans HR0.out) 2
 have y0 : w3.cell? ⟨w.heap.size + 1, 0, none⟩ = some (.string ⟨#[98]⟩) := row_cell ((HB3.out.block _ (row_lt HR1.out)).trans HR1.out) 0
 have y1 : w3.cell? ⟨w.heap.size + 1, 1, none⟩ = some (.slice none 0 0) := row_cell ((HB3.out.block _ (row_lt HR1.out)).trans HR1.out) 1
 have y2 : w3.cell? ⟨w.heap.size + 1, 2, none⟩ = some (.slice none 0 0) := row_cell ((HB3.out.block _ (row_lt HR1.out)).trans HR1.out) 2
 have lx : w.heap.size < w3.heap.size := row_lt ((HB3.out.block _ (row_lt HR0.out)).trans HR0.out)
 have ly : w.heap.size + 1 < w3.heap.size := row_lt ((HB3.out.block _ (row_lt HR1.out)).trans HR1.out)
 obtain ⟨W4, hW4⟩ : ∃ y, w3.alloc (.cells #[.string ⟨#[97]⟩, .slice none 0 0, .slice none 0 0, .string ⟨#[98]⟩, .slice none 0 0, .slice none 0 0] 45) = y := ⟨_, rfl⟩
 have hb4 : Below w3.heap.size w3 W4 := by rw [← hW4]; exact ba _ _
 have CS := lid (SameMs_any a3 (some ⟨w3.heap.size, 0, none⟩) 2 c3 2 M [mwA, mwB] W4 (hmla.below hb4) (mla_ab (by rw [← hW4]; exact h_new rfl _)) hm.out.2)
 have HW4 := lid hW4
 have HB4 := lid (HB3.out.trans (hb4.mono HB3.out.size))
 clear hmla hm hW4 hb4 hlM CA2
 go_wp2_with fail
 rw [HW4.out]
 (with_reducible refine (CS.out).mono ?_); rintro e w5 ⟨rfl, hb5⟩
 have HB5 := lid (HB4.out.trans (hb5.mono HB4.out.size))
 clear hb5
 go_wp2_with fail
 go_ret
 exact ⟨rfl, HB0.out.trans (HB5.out.mono HB0.out.size)⟩
end Go.Proofs.YtgcceepadlmelaaGreatDoor
