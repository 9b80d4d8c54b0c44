/-
  tree.visit.
-/
import Derived.Test.YtphjillihapbfaaGreatDoorGrpT
namespace Go.Proofs.YtphjillihapbfaaGreatDoor
open Go.RowKit Go.Shelf
attribute [local go_sem] Oper.semAt_some

theorem swap_world_in {F : Fence} {n : Nat} {P : Program} {ops : Array Oper} {Q : Exit → Act → World → Prop} {rest : List Oper} {a : Act} {w w' : World} (h : w = w') (h2 : wpListIn F n P ops Q rest a w') : wpListIn F n P ops Q rest a w := by rw [h]; exact h2
abbrev vv (x : Fl) : Value := .agg #[.string x.1, .string x.2, .int .i64 0]
/-- What tree.visit does where k steps load all. -/
def VisitOK (k : Nat) : Prop := ∀ (p : List It) (n cap : Nat) (ao : Option Addr) (d : Dg) (pre : ByteArray) (L : List Fl) (l m bx N : Nat) (J Jx : List Fl → World → Prop) (done : List Fl) (W : World), GoodP p → n ≤ 90000 → PA W ao n cap p → ND bx W → Lo W ao → (∀ x, ao = some x → ¬ Ter bx W x.block) → loadP p k d pre.data.toList = some L → pre.size ≤ 200 →
    (∀ s X X', J s X → X.grownBy X' none → J s X') →
    (∀ s x X, J s X → s.length < N → YieldAt Fence.wide m Tryz.prog l #[vv x] X fun e X' => (e = .returned (.bool true) ∧ J (s ++ [x]) X' ∧ KT bx X X') ∨ (e = .returned (.bool false) ∧ Jx (s ++ [x]) X')) →
    J done W → done.length + L.length ≤ N →
    Calls Tryz.prog 36 #[.slice ao n cap, dv d, .string pre, .func (.yield l) #[] #[]] W fun e W' => (e = .returned (.bool true) ∧ J (done ++ L) W' ∧ KT bx W W') ∨ (e = .returned (.bool false) ∧ ∃ s, Jx s W')
theorem grown_none {w w' : World} (h : Below w.heap.size w w') : w.grownBy w' none := grown_below h none
theorem goL_drop {ld : Dg → List UInt8 → Option (List Fl)} {p : List It} {pre : List UInt8} {es : List Ent} {i : Nat} {R : List Fl} (hi : i < es.length) (h : goL ld p pre (es.drop i) = some R) :
    ¬ 100 < pre.length + (es[i]).1.size ∧ ∃ a b, R = a ++ b ∧ goL ld p pre (es.drop (i + 1)) = some b ∧ (if (es[i]).2.1 = true then ld (es[i]).2.2 (pre ++ (es[i]).1.data.toList ++ [47]) else (getO p (es[i]).2.2).bind fun o => if o.kind = 1 then some [(bstr (pre ++ (es[i]).1.data.toList), o.data)] else none) = some a := by
  rw [List.drop_eq_getElem_cons hi] at h
  unfold goL at h
  split at h
  · cases h
  · rename_i h100
    rw [Option.bind_eq_some_iff] at h
    obtain ⟨a, ha, h⟩ := h
    rw [Option.map_eq_some_iff] at h
    obtain ⟨b, hb, e⟩ := h
    exact ⟨h100, a, b, e.symm, hb, ha⟩
set_option maxRecDepth 100000 in
set_option maxHeartbeats 16000000 in
theorem visit_step (k : Nat) (ih : ∀ k', k = k' + 1 → VisitOK k') : VisitOK k := by
  intro p n cap ao d pre L l m bx N J Jx done W hG hn hP hND hLo hT hL hpre hJ hY hJ0 hlen
  obtain ⟨k', rfl⟩ : ∃ k', k = k' + 1 := by
    cases k with
    | zero => cases hL
    | succ k => exact ⟨k, rfl⟩
  have IH := ih k' rfl
  unfold loadP at hL
  rw [Option.bind_eq_some_iff] at hL
  obtain ⟨o, ho, hL⟩ := hL
  split at hL
  case isFalse => cases hL
  case isTrue hk2 =>
  obtain ⟨hkd, hne⟩ := hk2
  obtain ⟨W0, hW0⟩ : ∃ W0, (W.alloc (Obj.cells #[.int .u64 d.1.toNat, .int .u64 d.2.toNat] 31)).alloc (Obj.cells #[.func (.yield l) #[] #[]] 88) = W0 := ⟨_, rfl⟩
  have hb0 : Below W.heap.size W W0 := by rw [← hW0]; exact (ba W _).alloc (by simp) _
  have hD0 : W0.heap[W.heap.size]? = some (.cells #[.int .u64 d.1.toNat, .int .u64 d.2.toNat] 31 (0, 0)) := by rw [← hW0]; exact (h_old (by simp) _).trans (h_new rfl _)
  have hY0 : W0.heap[W.heap.size + 1]? = some (.cells #[.func (.yield l) #[] #[]] 88 (0, 0)) := by rw [← hW0]; exact h_new (by simp) _
  have y0 : W0.cell? ⟨W.heap.size, 0, none⟩ = some (.int .u64 d.1.toNat) := row_cell hD0 0
  have y1 : W0.cell? ⟨W.heap.size, 1, none⟩ = some (.int .u64 d.2.toNat) := row_cell hD0 1
  have ly := row_lt hD0
  have CG := lid (poolGet_any p d n cap ao W0 o (hP.below hb0) hG (by omega) ho)
  have HB0 := lid hb0
  have HW0 := lid hW0
  have HY0 := lid hY0
  have HL := lid hL
  have HIH := lid IH
  have HG := lid hG
  have HP := lid hP
  have HND := lid hND
  have HT := lid hT
  have HLO := lid hLo
  have HJ := lid hJ
  have HYI := lid hY
  have HJ0 := lid hJ0
  have HKD := lid hkd
  have HNE := lid hne
  clear ih IH hL ho hG hP hND hLo hT hJ hY hJ0 hW0 hb0 hD0 hY0 hkd hne
  show Calls Tryz.prog 36 #[.slice ao n cap, .agg #[.int .u64 d.1.toNat, .int .u64 d.2.toNat], .string pre, .func (.yield l) #[] #[]] W _
  refine (callsIn_wide (n := m + 1)).1 ?_
  refine callsIn_of_wp Tryz.func36 rfl trivial ?_ rfl
  simp only [Tryz.ntmps36, List.size_toArray, List.length_cons, List.length_nil, Nat.reduceAdd, Nat.reduceSub, Array.replicate_succ, Array.replicate_zero, List.push_toArray, List.append_toArray, List.nil_append, List.cons_append]
  gi_wp2_with fail
  rw [HW0.out]
  refine ⟨trivial, (callsIn_wide.2 CG.out).mono ?_⟩
  rintro e w1 ⟨ae, ap, ne, ce, np, cp, rfl, hnp, hoa, hb1, hia, _⟩
  obtain ⟨W2, hW2⟩ : ∃ y, w1.alloc (Obj.cells (ocells o ae ne ce ap np cp) 72) = y := ⟨_, rfl⟩
  have hb2 : Below w1.heap.size w1 W2 := by rw [← hW2]; exact ba _ _
  have hO2 : W2.heap[w1.heap.size]? = some (.cells (ocells o ae ne ce ap np cp) 72 (0, 0)) := by rw [← hW2]; exact heap_alloc_new w1 _
  have o0 : W2.cell? ⟨w1.heap.size, 0, none⟩ = some (.int .i64 o.kind) := row_cell hO2 0
  have o2 : W2.cell? ⟨w1.heap.size, 2, none⟩ = some (.slice ae ne ce) := row_cell hO2 2
  have lo := row_lt hO2
  have HW2 := lid hW2
  have h12 := hb1.trans (hb2.mono hb1.size)
  have HY2 := lid ((h12.block _ (row_lt HY0.out)).trans HY0.out)
  have HB2 := lid (HB0.out.trans (h12.mono HB0.out.size))
  have HES := lid (hoa.es.below hb2)
  have HEL := lid hoa.elen
  have HESZ := lid hoa.esz
  have hnemax : ne ≤ 9223372036854775807 := hoa.emax
  rw [HKD.out] at o0
  clear hW2 hb2 hO2 hb1 hoa h12 y0 y1
  have HJ2 : Hid (J done W2) := lid (HJ.out _ _ _ HJ0.out (grown_none HB2.out))
  have HK2 : Hid (KT bx W W2) := lid (KT.below HB2.out)
  by_cases hne0 : ne = 0
  · subst hne0
    have he0 : o.ents = [] := List.eq_nil_of_length_eq_zero HEL.out
    have hp0 : pre.data.toList = [] := HNE.out.resolve_left (fun h => h he0)
    have hp1 : pre.toList.isEmpty = true := by rw [ByteArray.toList_eq, hp0]; rfl
    have HL0 : Hid (L = []) := lid (by
      have := HL.out
      rw [he0] at this
      exact (Option.some.inj this).symm)
    clear he0 hp0
    gi_wp2_with (with_reducible refine swap_world_in HW2.out ?_)
    refine wpIn_loop_rounds 1 ?_
    rw [roundsIn_succ]
    gi_wp2_with fail
    go_ret
    exact .inl ⟨rfl, by rw [HL0.out, List.append_nil]; exact HJ2.out, HK2.out⟩
  · have dq : ((ne : Int) == 0) = false := by simpa using hne0
    have hne1 : 0 < ne := by omega
    gi_wp2_with (with_reducible refine swap_world_in HW2.out ?_)
    have HND2 := lid (HK2.out HND.out).nd
    have hyt : ¬ Ter bx W2 (W.heap.size + 1) := fresh HND.out HB2.out (Nat.le_succ _)
    have het : ∀ x, ae = some x → ¬ Ter bx W2 x.block := fun x hx => fresh HND.out HB2.out (Nat.le_trans HB0.out.size (hia x hx))
    have HPT : Hid (PA W2 ao n cap p ∧ ∀ x, ao = some x → ¬ Ter bx W2 x.block) := lid ⟨HP.out.below HB2.out, fun x hx ht => HT.out x hx ((ter_same (HB2.out.block bx HND.out.lt) _).1 ht)⟩
    have HYT := lid hyt
    have HET := lid het
    have hynz : W.heap.size + 1 < W2.heap.size := row_lt HY2.out
    clear hyt het hne0
    gi_loopw [49] (fun u49 wr => ∃ (i : Nat) (A R : List Fl), i ≤ ne ∧ u49 = .int .i64 i ∧ Hid (goL (loadP p k') p pre.data.toList (o.ents.drop i) = some R) ∧ Hid (L = A ++ R) ∧ Hid (J (done ++ A) wr) ∧ Hid (KT1 bx W2 wr)) (fun u49 _ => ne - (intOf u49).toNat)
    case atStart => exact ⟨0, [], L, Nat.zero_le _, rfl, lid HL.out, lid rfl, lid (by rw [List.append_nil]; exact HJ2.out), lid (KT.refl _ _ HND2.out)⟩
    case round =>
      obtain ⟨i, A, R, hi, rfl, HGL, HLA, HJr, HKr⟩ := hrel
      have hsr := HKr.out.size
      by_cases hlt : i < ne
      · have hil : i < o.ents.length := by rw [HEL.out]; exact hlt
        obtain ⟨h100, a, b, hR, hgb, hga⟩ := goL_drop hil HGL.out
        obtain ⟨b3, o3, rfl, hlb3, hc3⟩ := (HES.out.kt HKr.out HET.out).at_ hlt
        obtain ⟨z0, z1, z2, z3⟩ := ecells_at hil
        have x0 := hc3 _ _ z0
        have x1 := hc3 _ _ z1
        have x2 := hc3 _ _ z2
        have x3 := hc3 _ _ z3
        rw [← Nat.add_assoc] at x1 x2 x3
        rw [Nat.add_zero] at x0
        have dk : decide ((i : Int) < (ne : Int)) = true := by simp; omega
        have HRB : Hid (R = a ++ b) := lid hR
        have HGB := lid hgb
        have hesz := HESZ.out _ (List.getElem_mem hil)
        obtain ⟨⟨nm, dir, dg⟩, hv⟩ : ∃ v, o.ents[i] = v := ⟨_, rfl⟩
        rw [hv] at x0 x1 x2 x3 h100 hga hesz
        replace x0 : wr.cell? ⟨b3, o3 + i * 4, none⟩ = some (Value.string nm) := x0
        replace x1 : wr.cell? ⟨b3, o3 + i * 4 + 1, none⟩ = some (Value.bool dir) := x1
        replace x2 : wr.cell? ⟨b3, o3 + i * 4 + 2, none⟩ = some (Value.int .u64 dg.1.toNat) := x2
        replace x3 : wr.cell? ⟨b3, o3 + i * 4 + 3, none⟩ = some (Value.int .u64 dg.2.toNat) := x3
        replace h100 : ¬ 100 < pre.data.toList.length + nm.size := h100
        replace hga : (if dir = true then loadP p k' dg (pre.data.toList ++ nm.data.toList ++ [47]) else (getO p dg).bind fun o => if o.kind = 1 then some [(bstr (pre.data.toList ++ nm.data.toList), o.data)] else none) = some a := hga
        have HGA := lid hga
        have hyr : wr.heap[W.heap.size + 1]? = some (.cells #[.func (.yield l) #[] #[]] 88 (0, 0)) := (HKr.out.keep _ _ _ _ HY2.out HYT.out).trans HY2.out
        obtain ⟨W3, hW3⟩ : ∃ y, wr.alloc (Obj.cells #[.string nm, .bool dir, .int .u64 dg.1.toNat, .int .u64 dg.2.toNat] 83) = y := ⟨_, rfl⟩
        have hb3 : Below wr.heap.size wr W3 := by rw [← hW3]; exact ba _ _
        have hE3 : W3.heap[wr.heap.size]? = some (.cells #[.string nm, .bool dir, .int .u64 dg.1.toNat, .int .u64 dg.2.toNat] 83 (0, 0)) := by rw [← hW3]; exact h_new rfl _
        have e0 : W3.cell? ⟨wr.heap.size, 0, none⟩ = some (.string nm) := row_cell hE3 0
        have e1 : W3.cell? ⟨wr.heap.size, 1, none⟩ = some (.bool dir) := row_cell hE3 1
        have e2 : W3.cell? ⟨wr.heap.size, 2, none⟩ = some (.int .u64 dg.1.toNat) := row_cell hE3 2
        have e3 : W3.cell? ⟨wr.heap.size, 3, none⟩ = some (.int .u64 dg.2.toNat) := row_cell hE3 3
        have le3 := row_lt hE3
        have hy3 := (hb3.block _ (row_lt hyr)).trans hyr
        have v0 : W3.cell? ⟨W.heap.size + 1, 0, none⟩ = some (.func (.yield l) #[] #[]) := row_cell hy3 0
        have lv := row_lt hy3
        have HW3 := lid hW3
        have HJ3 : Hid (J (done ++ A) W3) := lid (HJ.out _ _ _ HJr.out (grown_none hb3))
        have HK3 : Hid (KT1 bx W2 W3) := lid ((KT.trans (fun _ => HKr.out) (KT.below hb3)) HND2.out)
        have HP3 : Hid (PA W3 ao n cap p) := lid ((HPT.out.1.kt HKr.out HPT.out.2).below hb3)
        have HPN3 : Hid (∀ x, ao = some x → ¬ Ter bx W3 x.block) := lid (fun x hx ht => HKr.out.safe (Nat.lt_of_lt_of_le (HLO.out x hx) HB2.out.size) (HPT.out.2 x hx) ((ter_same (hb3.block bx HKr.out.nd.lt) _).1 ht))
        have hsl : (pre ++ nm).size = pre.size + nm.size := by simp
        have hs100 : ¬ (100 : Int) < ((pre ++ nm).size : Int) := by rw [hsl]; have : pre.data.toList.length = pre.size := rfl; omega
        clear hW3 hc3 z0 z1 z2 z3 hv hga hgb hR hyr hy3 hE3
        have HB3 := lid hb3
        cases dir with
        | true =>
          have hga := HGA.out
          rw [if_pos rfl] at hga
          have htl : (pre ++ nm ++ ⟨#[47]⟩ : ByteArray).data.toList = pre.data.toList ++ nm.data.toList ++ [47] := by simp
          have hs101 : (pre ++ nm ++ ⟨#[47]⟩ : ByteArray).size ≤ 200 := by
            have h1 : (pre ++ nm ++ ⟨#[47]⟩ : ByteArray).size = (pre ++ nm).size + (⟨#[47]⟩ : ByteArray).size := by simp
            have h2 : (⟨#[47]⟩ : ByteArray).size = 1 := rfl
            omega
          have hlN : (done ++ A).length + a.length ≤ N := by
            have := congrArg List.length HLA.out
            rw [HRB.out] at this
            simp only [List.length_append] at this ⊢
            omega
          have CV := lid (HIH.out p n cap ao dg (pre ++ nm ++ ⟨#[47]⟩) a l m bx N J Jx (done ++ A) W3 HG.out hn HP3.out HK3.out.nd (HLO.out.mono (by have := HB2.out.size; have := hb3.size; omega)) HPN3.out (by rw [htl]; exact hga) hs101 HJ.out HYI.out HJ3.out hlN)
          have HA' : Hid (L = (A ++ a) ++ b) := lid (by rw [HLA.out, HRB.out, List.append_assoc])
          clear hga htl hlN hb3
          gi_wp2_with (with_reducible refine swap_world_in HW3.out ?_)
          refine ⟨trivial, (callsIn_wide.2 CV.out).mono ?_⟩
          rintro e w4 (⟨rfl, hJ4, hK4⟩ | ⟨rfl, s, hJx⟩)
          · have HJ4 : Hid (J (done ++ (A ++ a)) w4) := lid (by rw [← List.append_assoc]; exact hJ4)
            have HK4 : Hid (KT1 bx W2 w4) := lid ((KT.trans (fun _ => HK3.out) hK4) HND2.out)
            clear hJ4 hK4 e0 e1 e2 e3 v0
            gi_wp2_with fail
            go_roundw
            case rel => exact ⟨i + 1, A ++ a, b, by omega, by go_num, HGB, HA', HJ4, HK4⟩
            case measure => simp [intOf]; omega
          · have HJX := lid hJx
            clear hJx e0 e1 e2 e3 v0
            gi_wp2_with fail
            go_ret
            exact .inr ⟨rfl, s, HJX.out⟩
        | false =>
          have hga := HGA.out
          rw [if_neg (by simp), Option.bind_eq_some_iff] at hga
          obtain ⟨o1, ho1, hga⟩ := hga
          split at hga
          case isFalse => cases hga
          case isTrue hk1 =>
          have hae : a = [(pre ++ nm, o1.data)] := by
            rw [← Option.some.inj hga]
            congr 2
          have hlN : (done ++ A).length < N := by
            have := congrArg List.length HLA.out
            rw [HRB.out, hae] at this
            simp only [List.length_append, List.length_cons, List.length_nil] at this ⊢
            omega
          have CD := lid (data_any p dg n cap ao W3 o1 HP3.out HG.out (by omega) ho1 hk1)
          have HA' : Hid (L = (A ++ [(pre ++ nm, o1.data)]) ++ b) := lid (by rw [HLA.out, HRB.out, hae, List.append_assoc])
          have HLN := lid hlN
          clear hga hae hlN hb3 ho1 hk1
          gi_wp2_with (with_reducible refine swap_world_in HW3.out ?_)
          refine ⟨trivial, (callsIn_wide.2 CD.out).mono ?_⟩
          rintro e w4 ⟨rfl, hb4⟩
          have hJ4 : J (done ++ A) w4 := HJ.out _ _ _ HJ3.out (grown_none hb4)
          have v4 := (bc hb4 lv 0).trans v0
          have lv4 := Nat.lt_of_lt_of_le lv hb4.size
          have HK4 : Hid (KT1 bx W2 w4) := lid ((KT.trans (fun _ => HK3.out) (KT.below hb4)) HND2.out)
          obtain ⟨fn, tmps, assign, body, hy, hR⟩ := HYI.out (done ++ A) (pre ++ nm, o1.data) w4 hJ4 HLN.out
          clear hJ4 e0 e1 e2 e3 v0 hb4
          gi_wp2_with fail
          refine hR.mono ?_
          rintro e W' (⟨rfl, hJ', hK'⟩ | ⟨rfl, hJx'⟩)
          · have HJ5 : Hid (J (done ++ (A ++ [(pre ++ nm, o1.data)])) W') := lid (by rw [← List.append_assoc]; exact hJ')
            have HK5 : Hid (KT1 bx W2 W') := lid ((KT.trans (fun _ => HK4.out) hK') HND2.out)
            clear hJ' hK' v4 hy hR
            gi_wp2_with fail
            go_roundw
            case rel => exact ⟨i + 1, A ++ [(pre ++ nm, o1.data)], b, by omega, by go_num, HGB, HA', HJ5, HK5⟩
            case measure => simp [intOf]; omega
          · have HJX := lid hJx'
            clear hJx' v4 hy hR
            gi_wp2_with fail
            go_ret
            exact .inr ⟨rfl, _, HJX.out⟩
      · obtain rfl : i = ne := by omega
        have hR0 := HGL.out
        rw [List.drop_of_length_le (by rw [HEL.out]; exact Nat.le_refl _)] at hR0
        have HRN : Hid (L = A) := lid (by rw [HLA.out, ← Option.some.inj hR0, List.append_nil])
        clear hR0
        gi_wp2_with fail
        go_ret
        exact .inl ⟨rfl, by rw [HRN.out]; exact HJr.out, (KT.trans HK2.out (fun _ => HKr.out))⟩
theorem visit_any : ∀ k, VisitOK k
  | 0 => visit_step 0 (fun k' h => by omega)
  | k + 1 => visit_step (k + 1) (fun k' h => by obtain rfl : k = k' := (by omega); exact visit_any k)
end Go.Proofs.YtphjillihapbfaaGreatDoor
