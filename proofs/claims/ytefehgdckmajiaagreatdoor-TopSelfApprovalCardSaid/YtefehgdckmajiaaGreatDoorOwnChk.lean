/-
  owners.checkRule, owners.check.
-/
import Derived.Test.YtefehgdckmajiaaGreatDoorOwnIdx
namespace Go.Proofs.YtefehgdckmajiaaGreatDoor
open Go.RowKit

/-- Why the people of a group are not valid. -/
def peopleGo : List ByteArray → List ByteArray → Int
  | _, [] => 0
  | p, x :: l => if personB x = false then 6 else if inS p x = true then 7 else peopleGo (p ++ [x]) l
theorem people_name {p l : List ByteArray} {x : ByteArray} (h : personB x = false) : peopleGo p (x :: l) = 6 := by simp [peopleGo, h]
theorem people_twice {p l : List ByteArray} {x : ByteArray} (h : personB x = true) (hi : inS p x = true) : peopleGo p (x :: l) = 7 := by simp [peopleGo, h, hi]
theorem people_next {p l : List ByteArray} {x : ByteArray} (h : personB x = true) (hi : inS p x = false) : peopleGo p (x :: l) = peopleGo (p ++ [x]) l := by simp [peopleGo, h, hi]
def groupsGo : List (List ByteArray) → Int
  | [] => 0
  | g :: l => if peopleGo [] g = 0 then groupsGo l else peopleGo [] g
theorem groups_bad {g : List ByteArray} {l : List (List ByteArray)} (h : peopleGo [] g ≠ 0) : groupsGo (g :: l) = peopleGo [] g := by simp [groupsGo, h]
theorem groups_next {g : List ByteArray} {l : List (List ByteArray)} (h : peopleGo [] g = 0) : groupsGo (g :: l) = groupsGo l := by simp [groupsGo, h]
def emptyG (gs : List (List ByteArray)) : Bool := (List.range gs.length).any fun i => decide ((gs.getD i []).length = 0)
def longG (gs : List (List ByteArray)) : Bool := (List.range gs.length).any fun i => decide (20 < (gs.getD i []).length)
/-- owners.checkRule. -/
def chkRl (r : Rl) : Int :=
  if prefixB r.1 = false then 6
  else if r.2.length = 0 ∨ emptyG r.2 = true then 1
  else if 8 < r.2.length ∨ longG r.2 = true then 4
  else groupsGo r.2
/-- owners.check. -/
def rulesGo : List ByteArray → List Rl → Int
  | _, [] => 0
  | m, r :: l => if chkRl r = 0 then (if hasS r.1 m = true then 7 else rulesGo (m ++ [r.1]) l) else chkRl r
def chkL (l : List Rl) : Int := if 100 < l.length then 4 else rulesGo [] l
set_option maxRecDepth 100000 in
theorem isEmpty_any (v : SV) (w : World) : Calls Tryz.prog 93 #[slv v] w fun e w' => e = .returned (.bool (decide (v.2.1 = 0))) ∧ w' = w := by
  obtain ⟨ao, n, cap⟩ := v
  have d : ((n : Int) == 0) = decide (n = 0) := by by_cases h : n = 0 <;> simp [h]
  go_enter Tryz.func93, Tryz.ntmps93
  go_wp2_with fail
  go_ret
  exact ⟨ret_bool (by first | rfl | exact d | simp), rfl⟩
set_option maxRecDepth 100000 in
theorem isLong_any (v : SV) (w : World) : Calls Tryz.prog 94 #[slv v] w fun e w' => e = .returned (.bool (decide (20 < v.2.1))) ∧ w' = w := by
  obtain ⟨ao, n, cap⟩ := v
  by_cases h : 20 < n
  · have d : decide ((20 : Int) < (n : Int)) = true := by simp; omega
    have HV : Hid (decide (20 < n) = true) := lid (decide_eq_true h)
    clear h
    go_enter Tryz.func94, Tryz.ntmps94
    go_wp2_with fail
    go_ret
    exact ⟨ret_bool HV.out.symm, rfl⟩
  · have d : decide ((20 : Int) < (n : Int)) = false := by simp; omega
    have HV : Hid (decide (20 < n) = false) := lid (decide_eq_false h)
    clear h
    go_enter Tryz.func94, Tryz.ntmps94
    go_wp2_with fail
    go_ret
    exact ⟨ret_bool HV.out.symm, rfl⟩
theorem asksE {c : Nat → Prop} {w : World} {vs : List SV} {gs : List (List ByteArray)} (h : GLs c w vs gs) : AsksE (vs.map slv) (fun i => decide ((gs.getD i []).length = 0)) w := by
  intro i u w' hu hb
  rw [List.getElem?_map] at hu
  cases hv : vs[i]? with
  | none => rw [hv] at hu; cases hu
  | some v =>
    rw [hv] at hu
    cases hu
    have hi : i < gs.length := by rw [← h.1]; exact (List.getElem?_eq_some_iff.1 hv).1
    have hg := h.2 i v gs[i] hv (List.getElem?_eq_getElem hi)
    refine (isEmpty_any v w').mono ?_
    rintro e w2 ⟨rfl, rfl⟩
    refine ⟨ret_bool ?_, Below.refl _ _⟩
    have e : gs.getD i [] = gs[i] := by rw [List.getD_eq_getElem?_getD, List.getElem?_eq_getElem hi]; rfl
    show _ = decide ((gs.getD i []).length = 0)
    rw [e, ← hg.len]
theorem asksM {c : Nat → Prop} {w : World} {vs : List SV} {gs : List (List ByteArray)} (h : GLs c w vs gs) : AsksM (vs.map slv) (fun i => decide (20 < (gs.getD i []).length)) w := by
  intro i u w' hu hb
  rw [List.getElem?_map] at hu
  cases hv : vs[i]? with
  | none => rw [hv] at hu; cases hu
  | some v =>
    rw [hv] at hu
    cases hu
    have hi : i < gs.length := by rw [← h.1]; exact (List.getElem?_eq_some_iff.1 hv).1
    have hg := h.2 i v gs[i] hv (List.getElem?_eq_getElem hi)
    refine (isLong_any v w').mono ?_
    rintro e w2 ⟨rfl, rfl⟩
    refine ⟨ret_bool ?_, Below.refl _ _⟩
    have e : gs.getD i [] = gs[i] := by rw [List.getD_eq_getElem?_getD, List.getElem?_eq_getElem hi]; rfl
    show _ = decide (20 < (gs.getD i []).length)
    rw [e, ← hg.len]
theorem chk_name {r : Rl} (h : prefixB r.1 = false) : chkRl r = 6 := by unfold chkRl; rw [if_pos h]
theorem chk_none {r : Rl} (h : prefixB r.1 = true) (h0 : r.2.length = 0 ∨ emptyG r.2 = true) : chkRl r = 1 := by unfold chkRl; rw [if_neg (by simp [h]), if_pos h0]
theorem chk_long {r : Rl} (h : prefixB r.1 = true) (h0 : ¬ (r.2.length = 0 ∨ emptyG r.2 = true)) (h1 : 8 < r.2.length ∨ longG r.2 = true) : chkRl r = 4 := by unfold chkRl; rw [if_neg (by simp [h]), if_neg h0, if_pos h1]
theorem chk_go {r : Rl} (h : prefixB r.1 = true) (h0 : ¬ (r.2.length = 0 ∨ emptyG r.2 = true)) (h1 : ¬ (8 < r.2.length ∨ longG r.2 = true)) : chkRl r = groupsGo r.2 := by unfold chkRl; rw [if_neg (by simp [h]), if_neg h0, if_neg h1]
theorem long_at {gs : List (List ByteArray)} (h : longG gs = false) {g : List ByteArray} (hg : g ∈ gs) : g.length ≤ 20 := by
  obtain ⟨i, hi, rfl⟩ := List.getElem_of_mem hg
  unfold longG at h
  rw [List.any_eq_false] at h
  have := h i (by simpa using hi)
  rw [List.getD_eq_getElem?_getD, List.getElem?_eq_getElem hi] at this
  simpa using this
set_option maxRecDepth 100000 in
set_option maxHeartbeats 8000000 in
theorem checkRule_any (c : Nat → Prop) (p : ByteArray) (gs : List (List ByteArray)) (n cap : Nat) (ao : Option Addr) (w : World) (hs : p.size ≤ maxLen) (h : GS c w (ao, n, cap) gs) (hm : n ≤ 1000000) :
    Calls Tryz.prog 82 #[.agg #[.string p, .slice ao n cap]] w fun e w' => e = .returned (.int .i64 (chkRl (p, gs))) ∧ Below w.heap.size w w' := by
  obtain ⟨W, hW⟩ : ∃ x, w.alloc (.cells #[.string p, .slice ao n cap] 99) = x := ⟨_, rfl⟩
  have hbW : Below w.heap.size w W := by rw [← hW]; exact ba _ _
  have HR : Hid (W.heap[w.heap.size]? = some (.cells #[.string p, .slice ao n cap] 99 (0, 0))) := lid (by rw [← hW]; exact h_new rfl _)
  have HG := lid (h.keep (KeepC.below hbW))
  have hn : gs.length = n := h.len
  have y0 := row_cell HR.out 0
  have y1 := row_cell HR.out 1
  have lR := row_lt HR.out
  have HW := lid hW
  have HB0 := lid hbW
  have CP := lid (isPrefix_any p W hs)
  have hn9 : n ≤ 9223372036854775807 := by omega
  clear h hW hbW
  cases hp : prefixB p with
  | false =>
    have HV := lid (chk_name (r := (p, gs)) hp)
    rw [hp] at CP
    clear hp
    go_enter Tryz.func82, Tryz.ntmps82
    go_wp2_with fail
    rw [HW.out]
    (with_reducible refine (CP.out).mono ?_); rintro e w1 ⟨rfl, rfl⟩
    go_wp2_with fail
    go_ret
    exact ⟨ret_int' HV.out.symm, HB0.out⟩
  | true =>
    have HP := lid hp
    rw [hp] at CP
    clear hp
    by_cases h0 : n = 0
    · have HV := lid (chk_none (r := (p, gs)) HP.out (.inl (by rw [hn, h0])))
      subst h0
      go_enter Tryz.func82, Tryz.ntmps82
      go_wp2_with fail
      rw [HW.out]
      (with_reducible refine (CP.out).mono ?_); rintro e w1 ⟨rfl, rfl⟩
      go_wp2_with fail
      go_ret
      exact ⟨ret_int' HV.out.symm, HB0.out⟩
    have u0 : ((n : Int) == 0) = false := by simp; omega
    obtain ⟨vs, hsl, hgl⟩ := HG.out.r
    have HGL := lid hgl
    have HSL := lid hsl.sl
    have HL : Hid ((List.range n).any (fun i => decide ((gs.getD i []).length = 0)) = emptyG gs) := lid (by rw [← hn]; rfl)
    have HL2 : Hid ((List.range n).any (fun i => decide (20 < (gs.getD i []).length)) = longG gs) := lid (by rw [← hn]; rfl)
    have CE := lid (ContainsFuncE (vs.map slv) n cap ao _ W hm hsl.sl (asksE hgl))
    rw [HL.out] at CE
    clear hsl hgl
    cases he : emptyG gs with
    | true =>
      have HV := lid (chk_none (r := (p, gs)) HP.out (.inr he))
      rw [he] at CE
      clear he
      go_enter Tryz.func82, Tryz.ntmps82
      go_wp2_with fail
      rw [HW.out]
      (with_reducible refine (CP.out).mono ?_); rintro e w1 ⟨rfl, rfl⟩
      go_wp2_with fail
      (with_reducible refine (CE.out).mono ?_); rintro e w2 ⟨rfl, hb2⟩
      go_wp2_with fail
      go_ret
      exact ⟨ret_int' HV.out.symm, HB0.out.trans (hb2.mono HB0.out.size)⟩
    | false =>
      have HNE : Hid (¬ (gs.length = 0 ∨ emptyG gs = true)) := lid (by rw [hn, he]; simp [h0])
      rw [he] at CE
      clear he
      by_cases h8 : 8 < n
      · have d8 : decide ((8 : Int) < (n : Int)) = true := by simp; omega
        have HV := lid (chk_long (r := (p, gs)) HP.out HNE.out (.inl (by rw [hn]; exact h8)))
        clear h8
        go_enter Tryz.func82, Tryz.ntmps82
        go_wp2_with fail
        rw [HW.out]
        (with_reducible refine (CP.out).mono ?_); rintro e w1 ⟨rfl, rfl⟩
        go_wp2_with fail
        (with_reducible refine (CE.out).mono ?_); rintro e w2 ⟨rfl, hb2⟩
        have y1' := (bc hb2 lR _).trans y1
        have lR2 := Nat.lt_of_lt_of_le lR hb2.size
        go_wp2_with fail
        go_ret
        exact ⟨ret_int' HV.out.symm, HB0.out.trans (hb2.mono HB0.out.size)⟩
      have d8 : decide ((8 : Int) < (n : Int)) = false := by simp; omega
      have CM := lid (fun w2 (hb2 : Below W.heap.size W w2) => ContainsFuncM (vs.map slv) n cap ao _ w2 hm (HSL.out.below hb2) (asksM (HGL.out.keep (KeepC.below hb2))))
      cases hl : longG gs with
      | true =>
        have HV := lid (chk_long (r := (p, gs)) HP.out HNE.out (.inr hl))
        rw [HL2.out, hl] at CM
        clear hl
        go_enter Tryz.func82, Tryz.ntmps82
        go_wp2_with fail
        rw [HW.out]
        (with_reducible refine (CP.out).mono ?_); rintro e w1 ⟨rfl, rfl⟩
        go_wp2_with fail
        (with_reducible refine (CE.out).mono ?_); rintro e w2 ⟨rfl, hb2⟩
        have y1' := (bc hb2 lR _).trans y1
        have lR2 := Nat.lt_of_lt_of_le lR hb2.size
        go_wp2_with fail
        (with_reducible refine (CM.out _ hb2).mono ?_); rintro e w3 ⟨rfl, hb3⟩
        go_wp2_with fail
        go_ret
        exact ⟨ret_int' HV.out.symm, HB0.out.trans ((hb2.trans (hb3.mono hb2.size)).mono HB0.out.size)⟩
      | false =>
        have HV := lid (chk_go (r := (p, gs)) HP.out HNE.out (by rw [hn, hl]; simp [h8]))
        have HLA := lid (fun g (hg : g ∈ gs) => long_at hl hg)
        rw [HL2.out, hl] at CM
        clear hl h8
        go_enter Tryz.func82, Tryz.ntmps82
        go_wp2_with fail
        rw [HW.out]
        (with_reducible refine (CP.out).mono ?_); rintro e w1 ⟨rfl, rfl⟩
        go_wp2_with fail
        (with_reducible refine (CE.out).mono ?_); rintro e w2 ⟨rfl, hb2⟩
        have y1' := (bc hb2 lR _).trans y1
        have lR2 := Nat.lt_of_lt_of_le lR hb2.size
        go_wp2_with fail
        (with_reducible refine (CM.out _ hb2).mono ?_); rintro e w3 ⟨rfl, hb3⟩
        have y13 := (bc hb3 lR2 _).trans y1'
        have lR3 := Nat.lt_of_lt_of_le lR2 hb3.size
        have hb23 := hb2.trans (hb3.mono hb2.size)
        have HS3 := lid (HSL.out.below hb23)
        have HG3 := lid (HGL.out.keep (KeepC.below hb23))
        have HB3 := lid (HB0.out.trans (hb23.mono HB0.out.size))
        clear CE CM CP y0 y1 y1' hb2 hb3 hb23
        go_wp2_with fail
        go_loopw [34] (fun i wr => ∃ k : Nat, k ≤ n ∧ i = .int .i64 k ∧ Hid (groupsGo gs = groupsGo (gs.drop k)) ∧ Below w3.heap.size w3 wr) (fun i _ => n - (intOf i).toNat)
        case atStart => exact ⟨0, Nat.zero_le _, rfl, lid rfl, Below.refl _ _⟩
        case round =>
          obtain ⟨k, hk, rfl, HT, hb⟩ := hrel
          by_cases hlt : k < n
          · have hkl : k < gs.length := by omega
            have hkv : k < vs.length := by rw [HG3.out.1]; exact hkl
            obtain ⟨b1, o1, rfl, hlb, hcell⟩ := (HS3.out.below hb).at_ hlt
            have x0 := hcell k (slv vs[k]) (by rw [List.getElem?_map, List.getElem?_eq_getElem hkv]; rfl)
            have HGk := lid ((HG3.out.2 k _ _ (List.getElem?_eq_getElem hkv) (List.getElem?_eq_getElem hkl)).keep (KeepC.below hb))
            have HD := lid (List.drop_eq_getElem_cons hkl)
            have HLk := lid (HLA.out _ (List.getElem_mem hkl))
            have dk : decide ((k : Int) < (n : Int)) = true := by simp; omega
            obtain ⟨⟨a2, n2, c2⟩, hv⟩ : ∃ v, vs[k] = v := ⟨_, rfl⟩
            obtain ⟨g, hg⟩ : ∃ g, gs[k] = g := ⟨_, rfl⟩
            rw [hv] at x0 HGk
            replace x0 : wr.cell? ⟨b1, o1 + k, none⟩ = some (Value.slice a2 n2 c2) := x0
            rw [hg] at HGk HD HLk
            have hgn : g.length = n2 := HGk.out.len
            have hn2 : n2 ≤ 20 := by have := HLk.out; omega
            clear hcell hv hg
            go_wp2_with fail
            go_loopw [40] (fun i wq => ∃ m : Nat, m ≤ n2 ∧ i = .int .i64 m ∧ Hid (peopleGo [] g = peopleGo (g.take m) (g.drop m)) ∧ Below w3.heap.size w3 wq ∧ Hid (GC c wq (a2, n2, c2) g)) (fun i _ => n2 - (intOf i).toNat)
            case atStart => exact ⟨0, Nat.zero_le _, rfl, lid rfl, hb, HGk⟩
            case round =>
              clear hb HGk x0
              obtain ⟨wq, rfl⟩ : ∃ y, y = wr := ⟨_, rfl⟩
              obtain ⟨m, hm2, rfl, HM, hb, HGk⟩ := hrel
              by_cases hml : m < n2
              · have hmg : m < g.length := by omega
                obtain ⟨b2, o2, rfl, hlb2, hcell⟩ := HGk.out.r.sl.at_ hml
                have x0 := hcell m _ (svals_at hmg)
                have HDm := lid (List.drop_eq_getElem_cons hmg)
                have HTm := lid (List.take_succ_eq_append_getElem hmg)
                have HSm := lid (HGk.out.sz _ (List.getElem_mem hmg))
                have dm : decide ((m : Int) < (n2 : Int)) = true := by simp; omega
                have hcap : n2 ≤ c2 := HGk.out.r.le
                have hcm : c2 ≤ 9223372036854775807 := HGk.out.r.max
                have HTK : Hid (Sl wq 1 (some ⟨b2, o2, none⟩) m (svals (g.take m))) := lid (by
                  have := HGk.out.r.sl.take (k := m) (by show m ≤ n2; omega)
                  rwa [Nat.mul_one, show (svals g).take m = svals (g.take m) by simp [svals]] at this)
                have HTL : Hid ((g.take m).length = m) := lid (by simp; omega)
                obtain ⟨x, hx⟩ : ∃ x, g[m] = x := ⟨_, rfl⟩
                rw [hx] at x0 HDm HTm HSm
                clear hcell hx
                go_wp2_with fail
                (with_reducible refine (isPerson_any x _ HSm.out).mono ?_); rintro e w5 ⟨rfl, hb5⟩
                have hb35 := hb.trans (hb5.mono hb.size)
                cases hpx : personB x with
                | false =>
                  have HE : Hid (peopleGo [] g = 6) := lid (by rw [HM.out, HDm.out, people_name hpx])
                  have HF : Hid (groupsGo gs = 6) := lid (by rw [HT.out, HD.out, groups_bad (by rw [HE.out]; decide), HE.out])
                  clear hpx
                  go_wp2_with fail
                  go_ret
                  exact ⟨ret_int' (by rw [HV.out, HF.out]), HB3.out.trans (hb35.mono HB3.out.size)⟩
                | true =>
                  have HPX := lid hpx
                  clear hpx
                  have CC := lid (ContainsS_any (g.take m) m c2 (some ⟨b2, o2, none⟩) x w5 (by omega) HTL.out (HTK.out.below hb5))
                  go_wp2_with fail
                  (with_reducible refine (CC.out).mono ?_); rintro e w6 ⟨rfl, rfl⟩
                  cases hin : inS (g.take m) x with
                  | true =>
                    have HE : Hid (peopleGo [] g = 7) := lid (by rw [HM.out, HDm.out, people_twice HPX.out hin])
                    have HF : Hid (groupsGo gs = 7) := lid (by rw [HT.out, HD.out, groups_bad (by rw [HE.out]; decide), HE.out])
                    clear hin
                    go_wp2_with fail
                    go_ret
                    exact ⟨ret_int' (by rw [HV.out, HF.out]), HB3.out.trans (hb35.mono HB3.out.size)⟩
                  | false =>
                    have HE : Hid (peopleGo [] g = peopleGo (g.take (m + 1)) (g.drop (m + 1))) := lid (by rw [HM.out, HDm.out, people_next HPX.out hin, HTm.out])
                    have HG5 := lid (HGk.out.keep (KeepC.below hb5))
                    clear hin
                    go_wp2_with fail
                    go_roundw
                    case rel => exact ⟨m + 1, by omega, by go_num, HE, hb35, HG5⟩
                    case measure => simp [intOf]; omega
              · obtain rfl : m = n2 := by omega
                have HE : Hid (groupsGo gs = groupsGo (gs.drop (k + 1))) := lid (by
                  rw [HT.out, HD.out, groups_next]
                  rw [HM.out, List.drop_of_length_le (Nat.le_of_eq hgn)]
                  rfl)
                have dm : decide ((m : Int) < (m : Int)) = false := by simp
                go_wp2_with fail
                go_roundw
                case rel => exact ⟨k + 1, by omega, by go_num, HE, hb⟩
                case measure => simp [intOf]; omega
          · obtain rfl : k = n := by omega
            have dk : decide ((k : Int) < (k : Int)) = false := by simp
            have HE : Hid (groupsGo gs = 0) := lid (by rw [HT.out, List.drop_of_length_le (Nat.le_of_eq hn)]; rfl)
            go_wp2_with fail
            go_ret
            exact ⟨ret_int' (by rw [HV.out, HE.out]), HB3.out.trans (hb.mono HB3.out.size)⟩
theorem rules_bad {m : List ByteArray} {r : Rl} {l : List Rl} (h : chkRl r ≠ 0) : rulesGo m (r :: l) = chkRl r := by simp [rulesGo, h]
theorem rules_twice {m : List ByteArray} {r : Rl} {l : List Rl} (h : chkRl r = 0) (hs : hasS r.1 m = true) : rulesGo m (r :: l) = 7 := by simp [rulesGo, h, hs]
theorem rules_next {m : List ByteArray} {r : Rl} {l : List Rl} (h : chkRl r = 0) (hs : hasS r.1 m = false) : rulesGo m (r :: l) = rulesGo (m ++ [r.1]) l := by simp [rulesGo, h, hs]
set_option maxRecDepth 100000 in
set_option maxHeartbeats 8000000 in
theorem check_owners (c : Nat → Prop) (l : List Rl) (n cap : Nat) (ao : Option Addr) (w : World) (h : RS c w (ao, n, cap) l) (hg : ∀ r ∈ l, r.2.length ≤ 1000000) :
    Calls Tryz.prog 61 #[.slice ao n cap] w fun e w' => e = .returned (.int .i64 (chkL l)) ∧ Below w.heap.size w w' := by
  have hn : l.length = n := h.len
  obtain ⟨ps, hsl, hrl⟩ := h.r
  have hmx : n ≤ 9223372036854775807 := Nat.le_trans hsl.le hsl.max
  by_cases h100 : 100 < n
  · have HV : Hid (chkL l = 4) := lid (by unfold chkL; rw [if_pos (by rw [hn]; exact h100)])
    have d : decide ((100 : Int) < (n : Int)) = true := by simp; omega
    clear h h100 hsl hrl
    go_enter Tryz.func61, Tryz.ntmps61
    go_wp2_with fail
    go_ret
    exact ⟨ret_int' HV.out.symm, Below.refl _ _⟩
  have HV : Hid (chkL l = rulesGo [] l) := lid (by unfold chkL; rw [if_neg (by rw [hn]; exact h100)])
  have d : decide ((100 : Int) < (n : Int)) = false := by simp; omega
  have hn100 : n ≤ 100 := by omega
  have HS := lid hsl.sl
  have HRL := lid hrl
  have HGL := lid hg
  have HN := lid hn
  have HPN : Hid (ps.length = n) := lid (by rw [hrl.1]; exact hn)
  clear h h100 hsl hrl hg hn
  have hmm := @run_makeMap Tryz.prog
  have HM := lid (World.ownsMap_made (H := Unit) w Tryz.prog 9 (plainElem Tryz.prog 4))
  go_enter Tryz.func61, Tryz.ntmps61
  go_wp2_with fail
  go_loopw [13] (fun i wr => ∃ k : Nat, k ≤ n ∧ i = .int .i64 k ∧ Hid (rulesGo [] l = rulesGo ((l.take k).map (·.1)) (l.drop k)) ∧ Hid (OwnSet wr w.heap.size k ((l.take k).map (·.1))) ∧ Below w.heap.size w wr) (fun i _ => n - (intOf i).toNat)
  case atStart => exact ⟨0, Nat.zero_le _, rfl, lid rfl, HM, ba _ _⟩
  case round =>
    obtain ⟨k, hk, rfl, HT, HO, hb⟩ := hrel
    by_cases hlt : k < n
    · have hkl : k < l.length := by rw [HN.out]; exact hlt
      have hkp : k < ps.length := by rw [HPN.out]; exact hlt
      obtain ⟨b1, o1, rfl, hlb, hcell⟩ := (HS.out.below hb).at_ hlt
      have x0 := hcell (k * 2 + 0) _ (pcells_at hkp).1
      have x1 := hcell (k * 2 + 1) _ (pcells_at hkp).2
      rw [← Nat.add_assoc] at x1
      rw [Nat.add_zero] at x0
      have hE := HRL.out.2 k _ _ (List.getElem?_eq_getElem hkp) (List.getElem?_eq_getElem hkl)
      have HD := lid (List.drop_eq_getElem_cons hkl)
      have HTK : Hid ((l.take (k + 1)).map (·.1) = (l.take k).map (·.1) ++ [(l[k]).1]) := lid (by rw [List.take_succ_eq_append_getElem hkl, List.map_append]; rfl)
      have HLn := lid (HGL.out _ (List.getElem_mem hkl))
      have dk : decide ((k : Int) < (n : Int)) = true := by simp; omega
      obtain ⟨⟨q, a2, n2, c2⟩, hv⟩ : ∃ v, ps[k] = v := ⟨_, rfl⟩
      obtain ⟨⟨p, gs⟩, hg⟩ : ∃ g, l[k] = g := ⟨_, rfl⟩
      rw [hv] at x0 x1 hE
      rw [hg] at hE HD HTK HLn
      obtain ⟨e1, hsz, hgs⟩ := hE
      have e1 : q = p := e1
      subst e1
      replace x0 : wr.cell? ⟨b1, o1 + k * 2, none⟩ = some (Value.string q) := x0
      replace x1 : wr.cell? ⟨b1, o1 + k * 2 + 1, none⟩ = some (Value.slice a2 n2 c2) := x1
      have HSZ : Hid (q.size ≤ maxLen) := lid hsz
      have hgn : gs.length = n2 := hgs.len
      have HGS := lid (hgs.keep (KeepC.below hb))
      clear hcell hv hg hsz hgs
      go_wp2_with fail
      obtain ⟨W1, hW1⟩ : ∃ W1, wr.alloc (Obj.cells #[.string q, .slice a2 n2 c2] 99) = W1 := ⟨_, rfl⟩
      have hb1 : Below wr.heap.size wr W1 := by rw [← hW1]; exact ba _ _
      have hR : W1.heap[wr.heap.size]? = some (.cells #[.string q, .slice a2 n2 c2] 99 (0, 0)) := by rw [← hW1]; exact h_new rfl _
      have HO1 := lid (OwnSet.below HO.out hb1)
      rw [hW1]
      have y0 := row_cell hR 0
      have y1 := row_cell hR 1
      have lR := row_lt hR
      have hw1 := hb.trans (hb1.mono hb.size)
      have CC := lid (checkRule_any c q gs n2 c2 a2 W1 HSZ.out (HGS.out.keep (KeepC.below hb1)) (by have := HLn.out; rw [← hgn]; exact this))
      clear hW1 x0 x1 hR HO
      go_wp2_with fail
      (with_reducible refine (CC.out).mono ?_); rintro e w2 ⟨rfl, hb2⟩
      have hw2 := hw1.trans (hb2.mono hw1.size)
      have y0' := (bc hb2 lR _).trans y0
      have lR2 := Nat.lt_of_lt_of_le lR hb2.size
      have HO2 := lid (OwnSet.below HO1.out hb2)
      obtain ⟨q0, hq0⟩ : ∃ x, chkRl (q, gs) = x := ⟨_, rfl⟩
      rw [hq0]
      by_cases hz : q0 = 0
      · subst hz
        have HQ := lid hq0
        have HL := lid (HO2.out.look q HSZ.out)
        obtain ⟨s, hs⟩ : ∃ s, hasS q ((l.take k).map (·.1)) = s := ⟨_, rfl⟩
        rw [hs] at HL
        have HHS := lid hs
        clear hq0 hs y0 y1
        cases s with
        | true =>
          have HX : Hid (rulesGo [] l = 7) := lid (by rw [HT.out, HD.out, rules_twice HQ.out HHS.out])
          go_wp2_with (at_lookup; go_must (refine wpList_look _ rfl _ _ 50 rfl _ _ _ rfl rfl HL.out ?_))
          go_ret
          exact ⟨ret_int' (by rw [HV.out, HX.out]), hw2⟩
        | false =>
          have HX : Hid (rulesGo [] l = rulesGo ((l.take (k + 1)).map (·.1)) (l.drop (k + 1))) := lid (by rw [HT.out, HD.out, rules_next HQ.out HHS.out, HTK.out])
          go_wp2_with (first | (at_lookup; go_must (refine wpList_look _ rfl _ _ 50 rfl _ _ _ rfl rfl HL.out ?_)) | (at_mapUpdate; go_must (refine wpList_mapUpdate_own _ rfl _ _ _ 50 rfl 9 4 kstr Tryz.underlying50 (plainElem Tryz.prog 4) w.heap.size k _ rfl HO2.out (by simp only [maxLen]; omega) _ _ (keyS q) rfl rfl (key_of HSZ.out) (.lit (.bool true)) [] (plainElem_bool Tryz.underlying4 true) ?_)))
          intro w5 hown5 hg5
          have HO5 : Hid (OwnSet w5 w.heap.size (k + 1) ((l.take (k + 1)).map (·.1))) := lid (by rw [HTK.out, OwnSet, setD_snoc, List.map_take]; exact hown5)
          have hb5 := hw2.grown hg5 hw2.size (fun j hj => by cases hj; exact Nat.le_refl _)
          clear hown5 hg5
          go_wp2_with fail
          go_roundw
          case rel => exact ⟨k + 1, by omega, by go_num, HX, HO5, hb5⟩
          case measure => simp [intOf]; omega
      · have uz : (q0 != 0) = true := by simpa using hz
        have HX : Hid (rulesGo [] l = q0) := lid (by rw [HT.out, HD.out, rules_bad (by rw [hq0]; exact hz), hq0])
        clear hz hq0
        go_wp2_with fail
        go_ret
        exact ⟨ret_int' (by rw [HV.out, HX.out]), hw2⟩
    · obtain rfl : k = n := by omega
      have dk : decide ((k : Int) < (k : Int)) = false := by simp
      have HX : Hid (rulesGo [] l = 0) := lid (by rw [HT.out, List.drop_of_length_le (Nat.le_of_eq HN.out)]; rfl)
      go_wp2_with fail
      go_ret
      exact ⟨ret_int' (by rw [HV.out, HX.out]), hb⟩
end Go.Proofs.YtefehgdckmajiaaGreatDoor
