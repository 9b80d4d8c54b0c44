/-
  approval.seen: the iterator over what a person sees.
-/
import Derived.Test.YtefehgdckmajiaaGreatDoorAppIdx
import Derived.Test.YtefehgdckmajiaaGreatDoorRFA
namespace Go.Proofs.YtefehgdckmajiaaGreatDoor
open Go.RowKit Go.Shelf
attribute [local go_sem] Oper.semAt_some

/-- Does a person belong to one of the groups? -/
def mineB (who : ByteArray) (gs : List (List ByteArray)) : Bool := (List.range gs.length).any fun i => inS (gs.getD i []) who
def seenF (who : ByteArray) (L : List (Ch × List (List ByteArray))) : List Ch := (L.filter fun e => mineB who e.2).map (·.1)
theorem seen_cons_yes {who : ByteArray} {e : Ch × List (List ByteArray)} {L : List (Ch × List (List ByteArray))} (h : mineB who e.2 = true) : seenF who (e :: L) = e.1 :: seenF who L := by simp [seenF, h]
theorem seen_cons_no {who : ByteArray} {e : Ch × List (List ByteArray)} {L : List (Ch × List (List ByteArray))} (h : mineB who e.2 = false) : seenF who (e :: L) = seenF who L := by simp [seenF, h]
set_option maxRecDepth 100000 in
set_option maxHeartbeats 1000000 in
theorem seen_fn (v : SV) (who : ByteArray) (w : World) :
    Calls Tryz.prog 31 #[slv v, .string who] w fun e w' => e = .returned (.func (.func 49) #[] #[.pointer (some ⟨w.heap.size, 0, none⟩), .pointer (some ⟨w.heap.size + 1, 0, none⟩)]) ∧
      w' = (w.alloc (.cells #[slv v] 44)).alloc (.cells #[.string who] 9) := by
  obtain ⟨a, n, c⟩ := v
  go_enter Tryz.func31, Tryz.ntmps31
  go_wp2_with fail
  go_ret
  exact ⟨by simp, rfl⟩
set_option maxRecDepth 100000 in
set_option maxHeartbeats 1000000 in
theorem member_any (bw : Nat) (who : ByteArray) (g : List ByteArray) (n cap : Nat) (ao : Option Addr) (w : World) (hb : w.heap[bw]? = some (.cells #[.string who] 9 (0, 0))) (hn : g.length = n) (hs : Sl w 1 ao n (svals g)) (hm : n ≤ 1000000) :
    Calls Tryz.prog 51 #[.slice ao n cap, .pointer (some ⟨bw, 0, none⟩)] w fun e w' => e = .returned (.bool (inS g who)) ∧ Below w.heap.size w w' := by
  have CC := lid (ContainsS_any g n cap ao who w hm hn hs)
  have y0 := row_cell hb 0
  have l0 := row_lt hb
  clear hb hs
  go_enter Tryz.func51, Tryz.ntmps51
  go_wp2_with fail
  (with_reducible refine (CC.out).mono ?_); rintro e w1 ⟨rfl, hw⟩
  go_wp2_with fail
  go_ret
  exact ⟨rfl, by first | exact hw ▸ Below.refl _ _ | exact hw⟩
abbrev chv (x : Ch) : Value := .agg #[.string x.1, .bool x.2.1, .bool x.2.2.1, .string x.2.2.2.1, .string x.2.2.2.2]
def ChX (s : List Ch) (x : Ch) (_ : World) : Prop := ∃ t, s = x :: t
def ChT (s : List Ch) (x : Ch) (s' : List Ch) : Prop := s = x :: s'
theorem KF.keepS {c : Nat → Prop} {B : Nat} {W W' : World} (h : KF c B W W') : KeepS c W W' := fun _ _ _ _ hc hs => h.sl hs fun b o e => hc ⟨b, o, none⟩ e
theorem OwLs.keepS {c : Nat → Prop} {w w' : World} {rows : List Ow} {L : List (Ch × List (List ByteArray))} (h : OwLs c w rows L) (hk : KeepS c w w') : OwLs c w' rows L := ⟨h.len, fun i r e hr he => ⟨(h.at_ i r e hr he).1, (h.at_ i r e hr he).2.keepS hk⟩⟩
theorem owcells_at {l : List Ow} {k : Nat} (h : k < l.length) : (owcells l)[k * 6 + 0]? = some (.string l[k].1.1) ∧ (owcells l)[k * 6 + 1]? = some (.bool l[k].1.2.1) ∧ (owcells l)[k * 6 + 2]? = some (.bool l[k].1.2.2.1) ∧ (owcells l)[k * 6 + 3]? = some (.string l[k].1.2.2.2.1) ∧ (owcells l)[k * 6 + 4]? = some (.string l[k].1.2.2.2.2) ∧ (owcells l)[k * 6 + 5]? = some (slv l[k].2) :=
  ⟨flat_at owe_length h (by omega), flat_at owe_length h (by omega), flat_at owe_length h (by omega), flat_at owe_length h (by omega), flat_at owe_length h (by omega), flat_at owe_length h (by omega)⟩
def smallL (L : List (Ch × List (List ByteArray))) : Prop := ∀ e ∈ L, e.2.length ≤ 1000000 ∧ ∀ g ∈ e.2, g.length ≤ 1000000
theorem asksS {c : Nat → Prop} {w : World} {bw : Nat} {who : ByteArray} {vs : List SV} {gs : List (List ByteArray)} (h : GLs c w vs gs) (hb : w.heap[bw]? = some (.cells #[.string who] 9 (0, 0))) (hm : ∀ g ∈ gs, g.length ≤ 1000000) : AsksS bw (vs.map slv) (fun i => inS (gs.getD i []) who) w := by
  intro i u w' hu hb'
  rw [List.getElem?_map] at hu
  cases hv : vs[i]? with
  | none => rw [hv] at hu; cases hu
  | some v =>
    rw [hv] at hu
    cases hu
    have hi : i < gs.length := by rw [← h.1]; exact (List.getElem?_eq_some_iff.1 hv).1
    have hg := h.2 i v gs[i] hv (List.getElem?_eq_getElem hi)
    have e : gs.getD i [] = gs[i] := by rw [List.getD_eq_getElem?_getD, List.getElem?_eq_getElem hi]; rfl
    have h1 := hm _ (List.getElem_mem hi)
    have h2 := hg.len
    refine (member_any bw who gs[i] v.2.1 v.2.2 v.1 w' ((hb'.block _ (row_lt hb)).trans hb) hg.len (hg.r.sl.below hb') (by omega)).mono ?_
    rintro e' w2 ⟨rfl, hb2⟩
    refine ⟨ret_bool ?_, hb2⟩
    show _ = inS (gs.getD i []) who
    rw [e]
set_option maxRecDepth 100000 in
set_option maxHeartbeats 8000000 in
theorem seen_iter (l m : Nat) (c : Nat → Prop) (B bo bw : Nat) (v : SV) (who : ByteArray) (L : List (Ch × List (List ByteArray))) (J : List Ch → World → Prop) (Jx : List Ch → Ch → World → Prop) (hJ : ∀ s, Ab B (J s))
    (hY : RoundC Tryz.prog m l c B chv ChX ChT J Jx) (W : World) (ho : W.heap[bo]? = some (.cells #[slv v] 44 (0, 0))) (hw : W.heap[bw]? = some (.cells #[.string who] 9 (0, 0))) (h2 : c bw) (hL : OwS c W v L) (hsm : smallL L) (hlen : L.length ≤ 1000000) (hJ0 : J (seenF who L) W) :
    Calls Tryz.prog 49 #[.func (.yield l) #[] #[], .pointer (some ⟨bo, 0, none⟩), .pointer (some ⟨bw, 0, none⟩)] W fun e W' => e = .returned (.tuple #[]) ∧ (J [] W' ∨ ∃ s x, Jx s x W') := by
  obtain ⟨av, nv', cv⟩ := v
  obtain ⟨⟨rows, hsl, hls⟩, hn⟩ := hL
  have HW := lid hw
  have HJ := lid hJ
  have HY := lid hY
  have HJ0 := lid hJ0
  have HN : Hid (L.length = nv') := lid hn
  have HSM := lid hsm
  have HSL := lid hsl
  have HLS := lid hls
  have hnc : nv' ≤ cv := hsl.le
  have hn6 : nv' ≤ 1000000 := by rw [← HN.out]; exact hlen
  have hn9 : nv' ≤ 9223372036854775807 := by omega
  have ho' : W.heap[bo]? = some (.cells #[.slice av nv' cv] 44 (0, 0)) := ho
  have s0 := row_cell ho' 0
  have lS := row_lt ho'
  clear ho ho' hw hJ hY hJ0 hsl hls hn hsm
  refine (callsIn_wide (n := m + 1)).1 ?_
  refine callsIn_of_wp Tryz.func49 rfl trivial ?_ rfl
  simp only [Tryz.ntmps49, List.size_toArray, List.length_cons, List.length_nil, Nat.reduceAdd, Nat.reduceSub, Array.replicate_succ, Array.replicate_zero, List.push_toArray, List.append_toArray, List.nil_append, List.cons_append]
  gi_wp2_with fail
  gi_loopw [9] (fun i wr => ∃ k : Nat, k ≤ nv' ∧ i = .int .i64 k ∧ Hid (wr.heap[bw]? = some (.cells #[.string who] 9 (0, 0))) ∧ Hid (SlC c wr 6 (av, nv', cv) (owcells rows)) ∧ Hid (OwLs c wr rows L) ∧ Hid (J (seenF who (L.drop k)) wr)) (fun i _ => nv' - (intOf i).toNat)
  case atStart => exact ⟨0, Nat.zero_le _, rfl, HW, HSL, HLS, HJ0⟩
  case round =>
    clear s0 lS HW HSL HLS HJ0
    obtain ⟨k, hk, rfl, HW, HSL, HLS, HJ0⟩ := hrel
    by_cases hlt : k < nv'
    · have hkL : k < L.length := by rw [HN.out]; exact hlt
      have hkr : k < rows.length := by rw [HLS.out.len]; exact hkL
      obtain ⟨b1, o1, e1, hlb, hcell⟩ := HSL.out.sl.at_ hlt
      have e1 : av = some ⟨b1, o1, none⟩ := e1
      subst e1
      have x0 := hcell (k * 6 + 0) _ (owcells_at hkr).1
      have x1 := hcell (k * 6 + 1) _ (owcells_at hkr).2.1
      have x2 := hcell (k * 6 + 2) _ (owcells_at hkr).2.2.1
      have x3 := hcell (k * 6 + 3) _ (owcells_at hkr).2.2.2.1
      have x4 := hcell (k * 6 + 4) _ (owcells_at hkr).2.2.2.2.1
      have x5 := hcell (k * 6 + 5) _ (owcells_at hkr).2.2.2.2.2
      rw [← Nat.add_assoc] at x1 x2 x3 x4 x5
      rw [Nat.add_zero] at x0
      have hat := HLS.out.at_ k _ _ (List.getElem?_eq_getElem hkr) (List.getElem?_eq_getElem hkL)
      have HD : Hid (L.drop k = L[k] :: L.drop (k + 1)) := lid (List.drop_eq_getElem_cons hkL)
      have hsmk := HSM.out _ (List.getElem_mem hkL)
      have dk : decide ((k : Int) < (nv' : Int)) = true := by simp; omega
      obtain ⟨⟨⟨p, g1, g2, s1, s2⟩, ag, ng, cg⟩, hr⟩ : ∃ x, rows[k] = x := ⟨_, rfl⟩
      obtain ⟨⟨ch, gs⟩, he⟩ : ∃ x, L[k] = x := ⟨_, rfl⟩
      rw [hr] at x0 x1 x2 x3 x4 x5 hat
      rw [he] at hat HD hsmk
      have hch : (p, g1, g2, s1, s2) = ch := hat.1
      subst hch
      have hgs : GS c wr (ag, ng, cg) gs := hat.2
      replace x0 : wr.cell? ⟨b1, o1 + k * 6, none⟩ = some (Value.string p) := x0
      replace x1 : wr.cell? ⟨b1, o1 + k * 6 + 1, none⟩ = some (Value.bool g1) := x1
      replace x2 : wr.cell? ⟨b1, o1 + k * 6 + 2, none⟩ = some (Value.bool g2) := x2
      replace x3 : wr.cell? ⟨b1, o1 + k * 6 + 3, none⟩ = some (Value.string s1) := x3
      replace x4 : wr.cell? ⟨b1, o1 + k * 6 + 4, none⟩ = some (Value.string s2) := x4
      replace x5 : wr.cell? ⟨b1, o1 + k * 6 + 5, none⟩ = some (Value.slice ag ng cg) := x5
      have hgn : gs.length = ng := hgs.len
      have HGS := lid hgs
      have HSK := lid hsmk
      clear hcell hat hr he hgs hsmk
      gi_wp2_with fail
      obtain ⟨W1, hW1⟩ : ∃ W1, wr.alloc (Obj.cells #[.string p, .bool g1, .bool g2, .string s1, .string s2, .slice ag ng cg] 64) = W1 := ⟨_, rfl⟩
      have hb1 : Below wr.heap.size wr W1 := by rw [← hW1]; exact ba _ _
      have HR : Hid (W1.heap[wr.heap.size]? = some (.cells #[.string p, .bool g1, .bool g2, .string s1, .string s2, .slice ag ng cg] 64 (0, 0))) := lid (by rw [← hW1]; exact h_new rfl _)
      rw [hW1]
      have y0 := row_cell HR.out 0
      have y1 := row_cell HR.out 1
      have y2 := row_cell HR.out 2
      have y3 := row_cell HR.out 3
      have y4 := row_cell HR.out 4
      have y5 := row_cell HR.out 5
      have lR := row_lt HR.out
      have HB1 := lid hb1
      obtain ⟨vsg, hslg, hglg⟩ := (HGS.out.keep (KeepC.below hb1)).r
      have CF := lid (ContainsFuncS bw (vsg.map slv) ng cg ag (fun i => inS (gs.getD i []) who) W1 (by have := HSK.out.1; omega) hslg.sl (asksS hglg ((hb1.block _ (row_lt HW.out)).trans HW.out) HSK.out.2))
      have HM : Hid ((List.range ng).any (fun i => inS (gs.getD i []) who) = mineB who gs) := lid (by unfold mineB; rw [hgn])
      rw [HM.out] at CF
      clear hW1 hb1 hslg hglg x0 x1 x2 x3 x4 x5
      gi_wp2_with fail
      refine ⟨trivial, (callsIn_wide.2 CF.out).mono ?_⟩
      rintro e w2 ⟨rfl, hb2⟩
      have hb12 := HB1.out.trans (hb2.mono HB1.out.size)
      have HW2 := lid ((hb12.block _ (row_lt HW.out)).trans HW.out)
      have HSL2 := lid (HSL.out.keep (KeepC.below hb12))
      have HLS2 := lid (HLS.out.keep (KeepC.below hb12))
      have HJ2 := lid ((HJ.out _).below HJ0.out hb12)
      have hR2 := (hb2.block _ lR).trans HR.out
      have z0 := row_cell hR2 0
      have z1 := row_cell hR2 1
      have z2 := row_cell hR2 2
      have z3 := row_cell hR2 3
      have z4 := row_cell hR2 4
      have lR2 := row_lt hR2
      clear hb2 hb12 hR2 y0 y1 y2 y3 y4 y5 lR
      cases hmi : mineB who gs with
      | false =>
        have HE : Hid (seenF who (L.drop k) = seenF who (L.drop (k + 1))) := lid (by rw [HD.out, seen_cons_no hmi])
        rw [HE.out] at HJ2
        clear hmi
        gi_wp2_with fail
        refine ⟨(fun f hf => by cases hf), ?_⟩
        gi_wp2_with fail
        go_roundw
        case rel => exact ⟨k + 1, by omega, by go_num, HW2, HSL2, HLS2, HJ2⟩
        case measure => simp [intOf]; omega
      | true =>
        have HE : Hid (seenF who (L.drop k) = (p, g1, g2, s1, s2) :: seenF who (L.drop (k + 1))) := lid (by rw [HD.out, seen_cons_yes hmi])
        rw [HE.out] at HJ2
        clear hmi
        obtain ⟨fn, tmps, assign, body, hy, hR⟩ := HY.out _ (p, g1, g2, s1, s2) w2 HJ2.out ⟨_, rfl⟩
        rw [show chv (p, g1, g2, s1, s2) = .agg #[.string p, .bool g1, .bool g2, .string s1, .string s2] from rfl] at hy
        have HR1 := lid hR
        clear hR
        gi_wp2_with fail
        refine HR1.out.mono ?_
        rintro e W' (⟨rfl, hk', s', hT, hJ'⟩ | ⟨rfl, hk', hJx'⟩)
        · have hs' : s' = seenF who (L.drop (k + 1)) := by
            unfold ChT at hT
            exact (List.cons.inj hT).2.symm
          subst hs'
          have HJ' := lid hJ'
          have HW' := lid (hk'.cells _ _ _ _ h2 HW2.out)
          have HSL' := lid (HSL2.out.keepS hk'.keepS)
          have HLS' := lid (HLS2.out.keepS hk'.keepS)
          clear hJ' hT hk' hy
          gi_wp2_with fail
          go_roundw
          case rel => exact ⟨k + 1, by omega, by go_num, HW', HSL', HLS', HJ'⟩
          case measure => simp [intOf]; omega
        · have HJ' := lid hJx'
          clear hJx' hk'
          gi_wp2_with fail
          exact bodyPost_ret (results_none rfl _ _ _) rfl ⟨rfl, .inr ⟨_, _, HJ'.out⟩⟩
    · obtain rfl : k = nv' := by omega
      have dk : decide ((k : Int) < (k : Int)) = false := by simp
      have HE : Hid (L.drop k = []) := lid (List.drop_of_length_le (Nat.le_of_eq HN.out))
      rw [HE.out] at HJ0
      gi_wp2_with fail
      exact bodyPost_end (results_none rfl _ _ _) rfl ⟨rfl, .inl HJ0.out⟩
end Go.Proofs.YtefehgdckmajiaaGreatDoor
