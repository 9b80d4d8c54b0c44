/-
  LeaseRuns: the law walk.
-/
import Derived.Test.YtghkldodceamcaaLeaRunA
import Derived.Test.YtghkldodceamcaaKeepK
namespace Go.Proofs.Ytghkldodceamcaa
open Go.RowKit

theorem LsB.n0 {w : World} {b n cap : Nat} {ao : Option Addr} {T : Ls} {P : Prop} (_ : LsB w b ao n cap T) (h : n ≠ 0 → P) : n = 0 ∨ P := by
  by_cases h0 : n = 0
  · exact .inl h0
  · exact .inr (h h0)
theorem LzB.n0 {w : World} {b n cap : Nat} {ao : Option Addr} {T : List Lz} {P : Prop} (_ : LzB w b ao n cap T) (h : n ≠ 0 → P) : n = 0 ∨ P := by
  by_cases h0 : n = 0
  · exact .inl h0
  · exact .inr (h h0)
set_option maxRecDepth 100000 in
theorem wpList_eq_dgg {ops : Array Oper} {rest : List Oper} {o : Oper} {a : Act} {Q : Exit → Act → World → Prop} {w : World} (r q : Dg) (v : Bool) (x y : Operand) (hw : Region.wanted o (yielded ops a.tmps) = true) (h : o.op = .binOp .eql 27 x y 27)
    (hx : a.eval x = .agg #[.int .u64 r.1.toNat, .int .u64 r.2.toNat]) (hy : a.eval y = .agg #[.int .u64 q.1.toNat, .int .u64 q.2.toNat]) (hv : decide (r = q) = v) (hk : wpList Try.prog ops Q rest (a.put o.dst (.bool v)) w) : wpList Try.prog ops Q (o :: rest) a w := by
  refine wpList_step fun K hK => ?_
  rw [if_pos hw]
  subst hv
  have hK2 := hK _ _ hk
  have hd : decide (r = q) = (((r.1.toNat : Int) == (q.1.toNat : Int)) && ((r.2.toNat : Int) == (q.2.toNat : Int))) := by
    rw [Bool.eq_iff_iff]
    simp only [decide_eq_true_eq, Bool.and_eq_true, beq_iff_eq]
    constructor
    · rintro rfl; exact ⟨rfl, rfl⟩
    · rintro ⟨h1, h2⟩
      exact Prod.ext (UInt64.toNat_inj.1 (by omega)) (UInt64.toNat_inj.1 (by omega))
  rw [hd] at hK2
  unfold Oper.wp execOp
  rw [h]
  simp only [hx, hy]
  simp [go_sem]
  exact hK2
/-- What is carried through the checks. -/
structure Fx (w : World) (T : Ls) (ao : Option Addr) (n cap : Nat) (M : List Lz) (am : Option Addr) (nm cm : Nat) (V : Value) (md : Nat) (D : List Lz) (v : World) : Prop where
  bt : v.heap[w.heap.size + 1 + 1]? = some (.cells (tcells T ao n cap) 24 (0, 0))
  ht : LsB v 0 ao n cap T
  hm : LzB v 0 am nm cm M
  ho : v.ownsRow w.heap.size 31 5 V md (lzcells D)
  hb : Below w.heap.size w v

/-- What holds between two deeds. -/
def Rr (nd : Nat) (w : World) (a d i : Value) (wr : World) : Prop :=
  ∃ (k : Nat) (t : Ls) (ao : Option Addr) (n cap : Nat) (all : List Lz) (al : Option Addr) (nl cl : Nat) (dead : List Lz) (md : Nat),
    k ≤ nd ∧ i = .int .i64 k ∧ a = .slice al nl cl ∧ Hid (RI t all dead) ∧ nl ≤ k ∧ md ≤ 256 * k ∧
    Hid (wr.heap[w.heap.size + 1 + 1]? = some (.cells (tcells t ao n cap) 24 (0, 0))) ∧ Hid (LsB wr 0 ao n cap t) ∧ Hid (LzB wr 0 al nl cl all) ∧ Hid (wr.ownsRow w.heap.size 31 5 d md (lzcells dead)) ∧
    Hid ((n = 0 ∨ NA (w.heap.size + 1 + 1) ao) ∧ (nl = 0 ∨ NA (w.heap.size + 1 + 1) al)) ∧ Hid (∀ X, d.ownBlock = some X → X ≠ w.heap.size + 1 + 1 ∧ (n = 0 ∨ NA X ao) ∧ (nl = 0 ∨ NA X al)) ∧ Hid (dead.length = md) ∧ Below w.heap.size w wr

set_option maxRecDepth 100000 in
set_option maxHeartbeats 16000000 in
theorem LawRuns_any (ds : List De) (ado : Option Addr) (nd capd : Nat) (w : World) (hl : ds.length = nd) (hok : ∀ d ∈ ds, deOk d) (h : Sl w 5 ado nd (decells ds)) :
    Calls Try.prog 7 #[.slice ado nd capd] w fun e w' => e = .returned (.bool true) ∧ Below w.heap.size w w' := by
  have hb : Below w.heap.size w w := Below.refl _ _
  have HS := lid h
  clear h
  by_cases h20 : 20 < nd
  case pos =>
    have d1 : decide ((20 : Int) < (nd : Int)) = true := by simp; omega
    go_enter Try.func7, Try.ntmps7
    go_wp2_with fail
    (with_reducible refine (awake_any _).mono ?_); rintro e wa ⟨rfl, hb1⟩
    have hfin := hb.trans (hb1.mono hb.size)
    go_wp2_with fail
    go_ret
    exact ⟨rfl, hfin⟩
  have d1 : decide ((20 : Int) < (nd : Int)) = false := by simp; omega
  go_enter Try.func7, Try.ntmps7
  go_wp2_with fail
  have bw : w.heap.size ≤ w.heap.size := hb.size
  obtain ⟨W0, hW⟩ : ∃ y, ((w.alloc (.cells #[] 31)).alloc (.cells #[] 31)).alloc (.cells tz 24) = y := ⟨_, rfl⟩
  rw [hW]
  have hbW : Below w.heap.size w W0 := by rw [← hW]; exact ((((Below.refl w.heap.size w).alloc (Nat.le_refl _) _).alloc (by simp only [World.size_alloc]; omega) _).alloc (by simp only [World.size_alloc]; omega) _)
  have gW0 : w.heap.size + 2 < W0.heap.size := by rw [← hW]; simp only [World.size_alloc]; omega
  have BA : Hid (W0.heap[w.heap.size]? = some (.cells #[] 31 (0, 0))) := lid (by
    rw [← hW]
    iterate 2 rw [Below.heap_alloc _ _ _ (by simp only [World.size_alloc]; omega)]
    have := heap_alloc_new w (.cells #[] 31)
    exact this)
  have BQ : Hid (W0.heap[w.heap.size + 1]? = some (.cells #[] 31 (0, 0))) := lid (by
    rw [← hW]
    iterate 1 rw [Below.heap_alloc _ _ _ (by simp only [World.size_alloc]; omega)]
    have := heap_alloc_new (w.alloc (.cells #[] 31)) (.cells #[] 31)
    simp only [World.size_alloc] at this
    exact this)
  have BT : Hid (W0.heap[w.heap.size + 1 + 1]? = some (.cells tz 24 (0, 0))) := lid (by
    rw [← hW]
    have := heap_alloc_new ((w.alloc (.cells #[] 31)).alloc (.cells #[] 31)) (.cells tz 24)
    simp only [World.size_alloc] at this
    exact this)
  clear hW
  replace hb := hb.trans (hbW.mono hb.size)
  have mW0 := hbW.size
  clear hbW
  go_loopw [4, 5, 27] (fun a d i wr => Rr nd w a d i wr) (fun _ _ i _ => nd - (intOf i).toNat)
  case atStart => exact ⟨0, ls0, none, 0, 0, [], some ⟨w.heap.size, 0, none⟩, 0, 0, [], 0, Nat.zero_le _, rfl, rfl, lid RI.start, Nat.le_refl _, Nat.le_refl _, BT, lid ⟨⟨rfl, Sl.nil, by simp [maxLen], by intro x hx; cases hx⟩, Nat.le_refl _, fun _ => rfl, fun a h => by cases h⟩, lid ⟨rfl, Sl.nil, Nat.le_refl _, (fun e => by cases e), by simp [maxLen], fun _ _ => Nat.zero_le _⟩, lid (own_empty5 BQ.out (by omega)), lid ⟨.inl rfl, .inl rfl⟩, lid (fun X hX => by cases hX; exact ⟨by simp, .inl rfl, .inl rfl⟩), lid rfl, hb⟩
  case round =>
    clear BA BQ BT hb
    obtain ⟨k, t, ao, n, cap, all, al, nl, cl, dead, md, hk, rfl, rfl, HI, hnl, hmd, BT, HA, HL, HO, HNK, HND, HDL, hb⟩ := hrel
    have HSR := lid (HS.out.below hb)
    by_cases hlt : k < nd
    case neg =>
      have dk : decide ((k : Int) < (nd : Int)) = false := by simp; omega
      go_wp2_with fail
      (with_reducible refine (awake_any _).mono ?_); rintro e wa ⟨rfl, hb1⟩
      have hfin := hb.trans (hb1.mono hb.size)
      go_wp2_with fail
      go_ret
      exact ⟨rfl, hfin⟩
    have dk : decide ((k : Int) < (nd : Int)) = true := by simp; omega
    have hkl : k < ds.length := by omega
    obtain ⟨b1, o1, rfl, hlb, hcell⟩ := HSR.out.at_ hlt
    have x0 := hcell (k * 5 + 0) _ (decells_at hkl).1
    have x1 := hcell (k * 5 + 1) _ (decells_at hkl).2.1
    have x2 := hcell (k * 5 + 2) _ (decells_at hkl).2.2.1
    have x3 := hcell (k * 5 + 3) _ (decells_at hkl).2.2.2.1
    have x4 := hcell (k * 5 + 4) _ (decells_at hkl).2.2.2.2
    rw [← Nat.add_assoc] at x1 x2 x3 x4
    rw [Nat.add_zero] at x0
    have HOK := lid (hok _ (List.getElem_mem hkl))
    obtain ⟨de, hx⟩ : ∃ y, ds[k] = y := ⟨_, rfl⟩
    rw [hx] at x0 x1 x2 x3 x4 HOK
    clear hx hcell
    have q1 := row_cell BT.out 0
    have q2 := row_cell BT.out 1
    have q3 := row_cell BT.out 2
    have q4 := row_lt BT.out
    go_wp2_with fail
    clear q1 q2 q3 q4
    clear x0 x1 x2 x3 x4
    have lBTwr := row_lt BT.out
    have bwr : w.heap.size ≤ wr.heap.size := hb.size
    obtain ⟨W1, hW⟩ : ∃ y, wr.alloc (.cells (dec de) 51) = y := ⟨_, rfl⟩
    rw [hW]
    have hbW : Below wr.heap.size wr W1 := by rw [← hW]; exact ((Below.refl wr.heap.size wr).alloc (Nat.le_refl _) _)
    have gW1 : wr.heap.size + 0 < W1.heap.size := by rw [← hW]; simp only [World.size_alloc]; omega
    have BD : Hid (W1.heap[wr.heap.size]? = some (.cells (dec de) 51 (0, 0))) := lid (by
      rw [← hW]
      have := heap_alloc_new wr (.cells (dec de) 51)
      exact this)
    clear hW
    replace BT := lid ((hbW.block _ (row_lt BT.out)).trans BT.out)
    replace HA := lid (HA.out.below hbW)
    replace HL := lid (HL.out.below hbW)
    replace HO := lid (ownsRow_below HO.out hbW)
    replace hb := hb.trans (hbW.mono hb.size)
    have mW1 := hbW.size
    clear hbW
    have v0 := HI.out.v.c0
    have v1 := HI.out.v.c1
    have CD := lid (do_any t ao n cap all al nl cl de.1 de.2.1 de.2.2.1 de.2.2.2.1 de.2.2.2.2 W1 HA.out.A HA.out.le HA.out.z HL.out (by omega) (fun x hx => by have := HI.out.sz x hx; simp only [maxLen]; omega) v0 v1 HOK.out.1 HOK.out.2.1 HOK.out.2.2.1 HOK.out.2.2.2.1 HOK.out.2.2.2.2)
    clear HOK v0 v1
    (with_reducible refine (CD.out).mono ?_); rintro e w2 ⟨T, M, G, E, aoT, nT, capT, aoM, nM, capM, aoG, nG, capG, rfl, hst, hT, hM, hG, hNA, hb1⟩
    clear CD
    have HNK2 := lid (hNA (w.heap.size + 1 + 1) (row_lt BT.out) HNK.out.1 HNK.out.2)
    have HND2 : Hid (∀ X, u5.ownBlock = some X → X ≠ w.heap.size + 1 + 1 ∧ (nT = 0 ∨ NA X aoT) ∧ (nM = 0 ∨ NA X aoM)) := lid (fun X hX => ⟨(HND.out X hX).1, hNA X (own_lt HO.out hX).2 (HND.out X hX).2.1 (HND.out X hX).2.2⟩)
    have HST := lid hst
    clear hst hNA
    clear BD
    replace BT := lid ((hb1.block _ (row_lt BT.out)).trans BT.out)
    replace HA := lid (HA.out.below hb1)
    replace HL := lid (HL.out.below hb1)
    replace HO := lid (ownsRow_below HO.out hb1)
    replace hb := hb.trans (hb1.mono hb.size)
    have mw2 := hb1.size
    clear hb1
    have HT := lid hT
    have HM := lid hM
    have HG := lid hG
    clear hT hM hG
    by_cases hE : E = 0
    case neg =>
      have d0 : (E == 0) = false := by simpa using hE
      have HT0 := lid (HST.out.bad hE)
      go_wp2_with fail
      have lBTw2 := row_lt BT.out
      have bw2 : w.heap.size ≤ w2.heap.size := hb.size
      obtain ⟨W2, hW⟩ : ∃ y, w2.alloc (.cells (tcells T aoT nT capT) 24) = y := ⟨_, rfl⟩
      rw [hW]
      have hbW : Below w2.heap.size w2 W2 := by rw [← hW]; exact ((Below.refl w2.heap.size w2).alloc (Nat.le_refl _) _)
      have gW2 : w2.heap.size + 0 < W2.heap.size := by rw [← hW]; simp only [World.size_alloc]; omega
      have BT8 : Hid (W2.heap[w2.heap.size]? = some (.cells (tcells T aoT nT capT) 24 (0, 0))) := lid (by
        rw [← hW]
        have := heap_alloc_new w2 (.cells (tcells T aoT nT capT) 24)
        exact this)
      clear hW
      replace BT := lid ((hbW.block _ (row_lt BT.out)).trans BT.out)
      replace HA := lid (HA.out.below hbW)
      replace HL := lid (HL.out.below hbW)
      replace HO := lid (ownsRow_below HO.out hbW)
      replace HT := lid (HT.out.below hbW)
      replace HM := lid (HM.out.below hbW)
      replace HG := lid (HG.out.below hbW)
      replace hb := hb.trans (hbW.mono hb.size)
      have mW2 := hbW.size
      clear hbW
      have CS := lid (same_zero (aT := aoT) (nT := nT) (cT := capT) HT0.out HT.out.A)
      have q5 := row_cell BT8.out 0
      have q6 := row_cell BT8.out 1
      have q7 := row_cell BT8.out 2
      have q8 := row_lt BT8.out
      go_wp2_with fail
      clear q5 q6 q7 q8
      (with_reducible refine (CS.out).mono ?_); rintro e w3 ⟨rfl, hb1⟩
      clear CS
      replace BT := lid ((hb1.block _ (row_lt BT.out)).trans BT.out)
      replace HA := lid (HA.out.below hb1)
      replace HL := lid (HL.out.below hb1)
      replace HO := lid (ownsRow_below HO.out hb1)
      replace HT := lid (HT.out.below hb1)
      replace HM := lid (HM.out.below hb1)
      replace HG := lid (HG.out.below hb1)
      replace BT8 := lid ((hb1.block _ (row_lt BT8.out)).trans BT8.out)
      replace hb := hb.trans (hb1.mono hb.size)
      have mw3 := hb1.size
      clear hb1
      go_wp2_with fail
      go_roundw
      case rel => exact ⟨k + 1, t, ao, n, cap, all, al, nl, cl, dead, md, by omega, by go_num, rfl, HI, by omega, by omega, BT, HA, HL, HO, HNK, HND, HDL, hb⟩
      case measure => simp [intOf]; omega
    have hln := HL.out.len
    rw [hE] at HST
    have HRI := HI.out.step HST.out
    have hnM : nM ≤ k + 1 := by have h1 := HRI.2.1; have h2 := HM.out.len; omega
    have hnG : nG ≤ 256 := by have h1 := HRI.2.2; have h2 := HG.out.len; omega
    replace HRI := lid HRI.1
    have d0 : (E == 0) = true := by simpa using hE
    have hGl := HG.out.len
    have HO0 := HO
    clear HI HST HNK HND hE hln
    clear HA HL
    go_wp2_with fail
    have lBTw2 := row_lt BT.out
    have bw2 : w.heap.size ≤ w2.heap.size := hb.size
    obtain ⟨W2, hW⟩ : ∃ y, w2.alloc (.cells (tcells T aoT nT capT) 24) = y := ⟨_, rfl⟩
    rw [hW]
    have hbW : Below w2.heap.size w2 W2 := by rw [← hW]; exact ((Below.refl w2.heap.size w2).alloc (Nat.le_refl _) _)
    have gW2 : w2.heap.size + 0 < W2.heap.size := by rw [← hW]; simp only [World.size_alloc]; omega
    have BT8 : Hid (W2.heap[w2.heap.size]? = some (.cells (tcells T aoT nT capT) 24 (0, 0))) := lid (by
      rw [← hW]
      have := heap_alloc_new w2 (.cells (tcells T aoT nT capT) 24)
      exact this)
    clear hW
    replace BT := lid ((hbW.block _ (row_lt BT.out)).trans BT.out)
    replace HO := lid (ownsRow_below HO.out hbW)
    replace HT := lid (HT.out.below hbW)
    replace HM := lid (HM.out.below hbW)
    replace HG := lid (HG.out.below hbW)
    replace hb := hb.trans (hbW.mono hb.size)
    have mW2 := hbW.size
    clear hbW
    have a0 := SinceK.cell (k := w2.heap.size) (W := W2) (row_cell BT8.out 0)
    have a1 := SinceK.cell (k := w2.heap.size) (W := W2) (row_cell BT8.out 1)
    have a2 := SinceK.cell (k := w2.heap.size) (W := W2) (row_cell BT8.out 2)
    refine wp_region_seq (fun w' => ∃ s : SinceK w2.heap.size W2, w' = s.world) [(0, true), (1, true), (2, true), (3, true), (4, false), (5, false), (6, false), (7, false)] (by kernel_rfl) (by kernel_rfl) (by intro c d v a w h; cases d <;> exact h) (sincek (KeepK.refl _ _).drew) ?_
    repeat (first | (refine seq_skip (by rfl) (by rfl) ?_; simp only [Act.put, List.setIfInBounds_toArray, List.set_cons_succ, List.set_cons_zero]) | (refine seq_float (by rfl) (by rfl) (by rfl) ?_; intro K hK; go_big_quiet_op; go_big_quiet_on))
    clear a0 a1 a2
    refine seq_chain (by rfl) ?_
    intro K hK
    go_wp2_with (at_builtin; go_must (refine wpList_append_slat (w := W2.drew) rfl _ _ 22 rfl w.heap.size 31 (.agg #[.int .u64 0, .int .u64 0, .string ⟨#[]⟩, .int .i64 0, .int .i64 0]) 5 48 info_lz Try.underlying22 rfl (by decide) _ md _ HO.out.drew rfl aoG nG capG (lzcells G) rfl HG.out.sl HG.out.z (lzcells_one G) (by simp only [maxLen]; omega) (by omega) hb.size ?_))
    intro v' w3 hown hb3 hg hat
    obtain ⟨m2, hm2⟩ : ∃ y, md + nG = y := ⟨_, rfl⟩
    rw [hm2] at hown
    have lT := row_lt BT.out
    have l8 := row_lt BT8.out
    have HND3 : Hid (∀ X, v'.ownBlock = some X → X ≠ w.heap.size + 1 + 1 ∧ (nT = 0 ∨ NA X aoT) ∧ (nM = 0 ∨ NA X aoM)) := lid (by
      intro X hX
      rcases hat with h4 | h4
      · exact HND2.out X (by rw [← h4]; exact hX)
      · rw [h4] at hX
        have hX2 : W2.heap.size = X := Option.some.inj hX
        subst hX2
        exact ⟨by omega, HT.out.hi.imp id (fun h a e => by have := h a e; omega), HM.out.hi.imp id (fun h a e => by have := h a e; omega)⟩)
    have hne8 : some w2.heap.size ≠ u5.ownBlock := fun e => by have := own_lt HO0.out e.symm; omega
    have hneT : some (w.heap.size + 1 + 1) ≠ u5.ownBlock := fun e => (HND2.out _ e.symm).1 rfl
    have hk3 : KeepK w2.heap.size W2 w3 := (KeepK.refl _ _).drew.grown hg l8 hne8
    have BT3 := (hg.block _ lT hneT).trans BT.out
    have HT3 := lid ((HT.out.below (Below.refl _ _).drew).grown hg hb3.size (HT.out.n0 fun h0 X e => ((HND2.out X e).2.1).resolve_left h0))
    have HM3 := lid ((HM.out.below (Below.refl _ _).drew).grown hg hb3.size (HM.out.n0 fun h0 X e => ((HND2.out X e).2.2).resolve_left h0))
    have HO3 := lid hown
    have hbw3 : Below w.heap.size w w3 := hb.drew.trans hb3
    obtain ⟨aoD, capD, rfl⟩ := own_slice hown
    clear hown hb3 hg hat HND2 hne8 hneT hb HO BT BT8 HT HM HG HO0
    go_wp2_with fail
    refine hK.out _ _ (sincek hk3) ?_
    clear hK K
    repeat (first | (refine seq_skip (by rfl) (by rfl) ?_; simp only [Act.put, List.setIfInBounds_toArray, List.set_cons_succ, List.set_cons_zero]) | (refine seq_float (by rfl) (by rfl) (by rfl) ?_; intro K hK; go_big_quiet_op; go_big_quiet_on))
    have p0 := row_cell BT3 0
    have z0 := row_fz BT3 0
    have p1 := row_cell BT3 1
    have z1 := row_fz BT3 1
    have p2 := row_cell BT3 2
    have z2 := row_fz BT3 2
    refine seq_chain (by rfl) ?_
    intro K hK
    go_wp2_with fail
    clear p0 p1 p2 z0 z1 z2
    obtain ⟨w4, hw4⟩ : ∃ y, put3 (w.heap.size + 1 + 1) T aoT nT capT w3 = y := ⟨_, rfl⟩
    have BT : Hid (w4.heap[w.heap.size + 1 + 1]? = some (.cells (tcells T aoT nT capT) 24 (0, 0))) := lid (by rw [← hw4]; exact row_set (row_set (row_set BT3 0 (.int .i64 T.clock)) 1 (.int .i64 T.epoch)) 2 (.slice aoT nT capT))
    have HT := lid (HT3.out.put3 (T := T) (ao := aoT) (n := nT) (cap := capT) HNK2.out.1)
    have HM := lid (HM3.out.put3 (T := T) (ao := aoT) (n := nT) (cap := capT) HNK2.out.2)
    have HO := lid (put3_own2 (T := T) (ao := aoT) (n := nT) (cap := capT) HO3.out (fun g hg => (HND3.out g hg).1))
    have hb := put3_below (T := T) (ao := aoT) (n := nT) (cap := capT) hbw3 (show w.heap.size ≤ w.heap.size + 1 + 1 by omega)
    have hk4 : KeepK w2.heap.size W2 (put3 (w.heap.size + 1 + 1) T aoT nT capT w3) := ((hk3.setCell (p := ⟨w.heap.size + 1 + 1, 0, none⟩) (by simp only; omega) _).setCell (p := ⟨w.heap.size + 1 + 1, 1, none⟩) (by simp only; omega) _).setCell (p := ⟨w.heap.size + 1 + 1, 2, none⟩) (by simp only; omega) _
    rw [hw4] at HT HM HO hb hk4
    unfold put3 at hw4
    rw [hw4]
    clear hw4 BT3 HT3 HM3 HO3 hbw3 hk3
    refine hK.out _ _ (sincek hk4) ?_
    clear hK K
    repeat (first | (refine seq_skip (by rfl) (by rfl) ?_; simp only [Act.put, List.setIfInBounds_toArray, List.set_cons_succ, List.set_cons_zero]) | (refine seq_float (by rfl) (by rfl) (by rfl) ?_; intro K hK; go_big_quiet_op; go_big_quiet_on))
    refine seq_chain (by rfl) ?_
    intro K hK
    go_wp2_with fail
    refine hK.out _ _ (sincek hk4) ?_
    clear hK K
    repeat (first | (refine seq_skip (by rfl) (by rfl) ?_; simp only [Act.put, List.setIfInBounds_toArray, List.set_cons_succ, List.set_cons_zero]) | (refine seq_float (by rfl) (by rfl) (by rfl) ?_; intro K hK; go_big_quiet_op; go_big_quiet_on))
    refine seq_chain (by rfl) ?_
    intro K hK
    go_wp2_with fail
    refine hK.out _ _ (sincek hk4) ?_
    clear hK K
    repeat (first | (refine seq_skip (by rfl) (by rfl) ?_; simp only [Act.put, List.setIfInBounds_toArray, List.set_cons_succ, List.set_cons_zero]) | (refine seq_float (by rfl) (by rfl) (by rfl) ?_; intro K hK; go_big_quiet_op; go_big_quiet_on))
    clear hk4
    refine seq_nil ?_
    have HLZ : Hid (lzcells dead ++ lzcells G = lzcells (dead ++ G)) := lid (by unfold lzcells; rw [List.flatMap_append])
    rw [HLZ.out] at HO
    clear HLZ
    have HDL2 : Hid ((dead ++ G).length = m2) := lid (by rw [List.length_append, HDL.out, hGl, hm2])
    have CK := lid (leaCheck_any T aoT nT capT w4 HT.out.A HT.out.le)
    rw [check_iff.2 HRI.out.v] at CK
    have q5 := row_cell BT.out 0
    have q6 := row_cell BT.out 1
    have q7 := row_cell BT.out 2
    have q8 := row_lt BT.out
    go_wp2_with fail
    clear q5 q6 q7 q8
    (with_reducible refine (CK.out).mono ?_); rintro e w5 ⟨rfl, hb1⟩
    clear CK
    replace BT := lid ((hb1.block _ (row_lt BT.out)).trans BT.out)
    replace HT := lid (HT.out.below hb1)
    replace HM := lid (HM.out.below hb1)
    replace HO := lid (ownsRow_below HO.out hb1)
    replace hb := hb.trans (hb1.mono hb.size)
    have mw5 := hb1.size
    clear hb1
    go_wp2_with fail
    have hF : Fx w T aoT nT capT M aoM nM capM (.slice aoD m2 capD) m2 (dead ++ G) w5 := ⟨BT.out, HT.out, HM.out, HO.out, hb⟩
    clear BT HT HM HO hb
    have HND3' := HND3
    clear HND3
    go_loopw [56] (fun i v => ∃ j : Nat, j ≤ m2 ∧ i = .int .i64 j ∧ Fx w T aoT nT capT M aoM nM capM (.slice aoD m2 capD) m2 (dead ++ G) v) (fun i _ => m2 - (intOf i).toNat)
    case atStart => exact ⟨0, Nat.zero_le _, rfl, hF⟩
    case round =>
      clear hF
      obtain ⟨j, hj, rfl, hF⟩ := hrel
      obtain ⟨v, rfl⟩ : ∃ y, y = wr := ⟨_, rfl⟩
      have BT := lid hF.bt
      have HT := lid hF.ht
      have HM := lid hF.hm
      have HO := lid hF.ho
      have hb := hF.hb
      clear hF
      have HDS := lid (own_sl HO.out)
      by_cases hjt : j < m2
      case pos =>
        have hjl : j < (dead ++ G).length := by rw [HDL2.out]; exact hjt
        have dj : decide ((j : Int) < (m2 : Int)) = true := by simp; omega
        obtain ⟨b2, o2, rfl, hlb2, hcell⟩ := HDS.out.at_ hjt
        have x0 := hcell (j * 5 + 0) _ (lzcells_at hjl).1
        have x1 := hcell (j * 5 + 1) _ (lzcells_at hjl).2.1
        have x2 := hcell (j * 5 + 2) _ (lzcells_at hjl).2.2.1
        have x3 := hcell (j * 5 + 3) _ (lzcells_at hjl).2.2.2.1
        have x4 := hcell (j * 5 + 4) _ (lzcells_at hjl).2.2.2.2
        rw [← Nat.add_assoc] at x1 x2 x3 x4
        rw [Nat.add_zero] at x0
        have HXF := lid (HRI.out.gone (List.getElem_mem hjl))
        obtain ⟨x, hx⟩ : ∃ y, (dead ++ G)[j] = y := ⟨_, rfl⟩
        rw [hx] at x0 x1 x2 x3 x4 HXF
        clear hx hcell HDS
        have q9 := row_cell BT.out 0
        have q10 := row_cell BT.out 1
        have q11 := row_cell BT.out 2
        have q12 := row_lt BT.out
        go_wp2_with fail
        clear q9 q10 q11 q12
        clear x0 x1 x2 x3 x4
        have lBTv := row_lt BT.out
        have bv : w.heap.size ≤ v.heap.size := hb.size
        obtain ⟨W6, hW⟩ : ∃ y, v.alloc (.cells (lzc x) 31) = y := ⟨_, rfl⟩
        rw [hW]
        have hbW : Below v.heap.size v W6 := by rw [← hW]; exact ((Below.refl v.heap.size v).alloc (Nat.le_refl _) _)
        have gW6 : v.heap.size + 0 < W6.heap.size := by rw [← hW]; simp only [World.size_alloc]; omega
        have BX : Hid (W6.heap[v.heap.size]? = some (.cells (lzc x) 31 (0, 0))) := lid (by
          rw [← hW]
          have := heap_alloc_new v (.cells (lzc x) 31)
          exact this)
        clear hW
        replace BT := lid ((hbW.block _ (row_lt BT.out)).trans BT.out)
        replace HT := lid (HT.out.below hbW)
        replace HM := lid (HM.out.below hbW)
        replace HO := lid (ownsRow_below HO.out hbW)
        replace hb := hb.trans (hbW.mono hb.size)
        have mW6 := hbW.size
        clear hbW
        have CH := lid (holds_any T aoT nT capT x W6 HT.out.A HT.out.le)
        rw [HXF.out] at CH
        (with_reducible refine (CH.out).mono ?_); rintro e w7 ⟨rfl, hb1⟩
        clear CH
        replace BT := lid ((hb1.block _ (row_lt BT.out)).trans BT.out)
        replace HT := lid (HT.out.below hb1)
        replace HM := lid (HM.out.below hb1)
        replace HO := lid (ownsRow_below HO.out hb1)
        replace BX := lid ((hb1.block _ (row_lt BX.out)).trans BX.out)
        replace hb := hb.trans (hb1.mono hb.size)
        have mw7 := hb1.size
        clear hb1
        go_wp2_with fail
        go_roundw
        case rel => exact ⟨j + 1, by omega, by go_num, ⟨BT.out, HT.out, HM.out, HO.out, hb⟩⟩
        case measure => simp [intOf]; omega
      have dj : decide ((j : Int) < (m2 : Int)) = false := by simp; omega
      clear HDS
      go_wp2_with fail
      have hF : Fx w T aoT nT capT M aoM nM capM (.slice aoD m2 capD) m2 (dead ++ G) v := ⟨BT.out, HT.out, HM.out, HO.out, hb⟩
      clear BT HT HM HO hb
      go_loopw [66] (fun i u => ∃ j : Nat, j ≤ nM ∧ i = .int .i64 j ∧ Fx w T aoT nT capT M aoM nM capM (.slice aoD m2 capD) m2 (dead ++ G) u) (fun i _ => nM - (intOf i).toNat)
      case atStart => exact ⟨0, Nat.zero_le _, rfl, hF⟩
      case round =>
        clear hF
        obtain ⟨j, hj, rfl, hF⟩ := hrel
        obtain ⟨u, rfl⟩ : ∃ y, y = wr := ⟨_, rfl⟩
        have BT := lid hF.bt
        have HT := lid hF.ht
        have HM := lid hF.hm
        have HO := lid hF.ho
        have hb := hF.hb
        clear hF
        by_cases hjt : j < nM
        case neg =>
          have dj : decide ((j : Int) < (nM : Int)) = false := by simp; omega
          go_wp2_with fail
          go_roundw
          case rel => exact ⟨k + 1, T, aoT, nT, capT, M, aoM, nM, capM, dead ++ G, m2, by omega, by go_num, rfl, HRI, by omega, by omega, BT, HT, HM, HO, HNK2, HND3', HDL2, hb⟩
          case measure => simp [intOf]; omega
        have dj : decide ((j : Int) < (nM : Int)) = true := by simp; omega
        have hjl : j < M.length := by rw [HM.out.len]; exact hjt
        obtain ⟨b2, o2, rfl, hlb2, hcell⟩ := HM.out.sl.at_ hjt
        have x0 := hcell (j * 5 + 0) _ (lzcells_at hjl).1
        have x1 := hcell (j * 5 + 1) _ (lzcells_at hjl).2.1
        have x2 := hcell (j * 5 + 2) _ (lzcells_at hjl).2.2.1
        have x3 := hcell (j * 5 + 3) _ (lzcells_at hjl).2.2.2.1
        have x4 := hcell (j * 5 + 4) _ (lzcells_at hjl).2.2.2.2
        rw [← Nat.add_assoc] at x1 x2 x3 x4
        rw [Nat.add_zero] at x0
        have HTW := lid (fun i (hi : i < j) => HRI.out.two hjl hi)
        obtain ⟨x, hx⟩ : ∃ y, M[j] = y := ⟨_, rfl⟩
        rw [hx] at x0 x1 x2 x3 x4 HTW
        clear hx hcell
        have hjc : j ≤ capM := by have := HM.out.le; omega
        have hj0 : (0 : Int) ≤ (j : Int) := by omega
        go_wp2_with fail
        clear x0 x1 x2 x3 x4
        have lBTu := row_lt BT.out
        have bu : w.heap.size ≤ u.heap.size := hb.size
        obtain ⟨W6, hW⟩ : ∃ y, u.alloc (.cells (lzc x) 31) = y := ⟨_, rfl⟩
        rw [hW]
        have hbW : Below u.heap.size u W6 := by rw [← hW]; exact ((Below.refl u.heap.size u).alloc (Nat.le_refl _) _)
        have gW6 : u.heap.size + 0 < W6.heap.size := by rw [← hW]; simp only [World.size_alloc]; omega
        have BX : Hid (W6.heap[u.heap.size]? = some (.cells (lzc x) 31 (0, 0))) := lid (by
          rw [← hW]
          have := heap_alloc_new u (.cells (lzc x) 31)
          exact this)
        clear hW
        replace BT := lid ((hbW.block _ (row_lt BT.out)).trans BT.out)
        replace HT := lid (HT.out.below hbW)
        replace HM := lid (HM.out.below hbW)
        replace HO := lid (ownsRow_below HO.out hbW)
        replace hb := hb.trans (hbW.mono hb.size)
        have mW6 := hbW.size
        clear hbW
        have hF : Fx w T aoT nT capT M (some ⟨b2, o2, none⟩) nM capM (.slice aoD m2 capD) m2 (dead ++ G) W6 := ⟨BT.out, HT.out, HM.out, HO.out, hb⟩
        have hX := BX.out
        clear BT HT HM HO hb BX
        go_loopw [75] (fun i s => ∃ l : Nat, l ≤ j ∧ i = .int .i64 l ∧ Fx w T aoT nT capT M (some ⟨b2, o2, none⟩) nM capM (.slice aoD m2 capD) m2 (dead ++ G) s ∧ s.heap[u.heap.size]? = some (.cells (lzc x) 31 (0, 0))) (fun i _ => j - (intOf i).toNat)
        case atStart => exact ⟨0, Nat.zero_le _, rfl, hF, hX⟩
        case round =>
          clear hF hX
          obtain ⟨l, hl', rfl, hF, hX⟩ := hrel
          obtain ⟨s, rfl⟩ : ∃ y, y = wr := ⟨_, rfl⟩
          have BT := lid hF.bt
          have HT := lid hF.ht
          have HM := lid hF.hm
          have HO := lid hF.ho
          have hb := hF.hb
          clear hF
          have BX := lid hX
          clear hX
          by_cases hlj : l < j
          case neg =>
            have dl : decide ((l : Int) < (j : Int)) = false := by simp; omega
            go_wp2_with fail
            go_roundw
            case rel => exact ⟨j + 1, by omega, by go_num, ⟨BT.out, HT.out, HM.out, HO.out, hb⟩⟩
            case measure => simp [intOf]; omega
          have dl : decide ((l : Int) < (j : Int)) = true := by simp; omega
          have hll : l < M.length := by omega
          obtain ⟨b2', o2', e2, hlb3, hcell⟩ := HM.out.sl.at_ (show l < nM by omega)
          cases e2
          have y0 := hcell (l * 5 + 0) _ (lzcells_at hll).1
          have y1 := hcell (l * 5 + 1) _ (lzcells_at hll).2.1
          have y2 := hcell (l * 5 + 2) _ (lzcells_at hll).2.2.1
          have y3 := hcell (l * 5 + 3) _ (lzcells_at hll).2.2.2.1
          have y4 := hcell (l * 5 + 4) _ (lzcells_at hll).2.2.2.2
          rw [← Nat.add_assoc] at y1 y2 y3 y4
          rw [Nat.add_zero] at y0
          have hep := HTW.out l hlj
          obtain ⟨yl, hy⟩ : ∃ z, M[l] = z := ⟨_, rfl⟩
          rw [hy] at y0 y1 y2 y3 y4 hep
          clear hy hcell
          have de : (x.2.2.2 == yl.2.2.2) = false := by simp; omega
          have q9 := row_cell BT.out 0
          have q10 := row_cell BT.out 1
          have q11 := row_cell BT.out 2
          have q12 := row_cell BX.out 0
          have q13 := row_cell BX.out 1
          have q14 := row_cell BX.out 2
          have q15 := row_cell BX.out 3
          have q16 := row_cell BX.out 4
          have q17 := row_lt BT.out
          have q18 := row_lt BX.out
          go_wp2_with fail
          clear q9 q10 q11 q12 q13 q14 q15 q16 q17 q18
          clear y0 y1 y2 y3 y4
          have lBTs := row_lt BT.out
          have lBXs := row_lt BX.out
          have bs : w.heap.size ≤ s.heap.size := hb.size
          obtain ⟨W8, hW⟩ : ∃ y, s.alloc (.cells (lzc yl) 31) = y := ⟨_, rfl⟩
          rw [hW]
          have hbW : Below s.heap.size s W8 := by rw [← hW]; exact ((Below.refl s.heap.size s).alloc (Nat.le_refl _) _)
          have gW8 : s.heap.size + 0 < W8.heap.size := by rw [← hW]; simp only [World.size_alloc]; omega
          have BY : Hid (W8.heap[s.heap.size]? = some (.cells (lzc yl) 31 (0, 0))) := lid (by
            rw [← hW]
            have := heap_alloc_new s (.cells (lzc yl) 31)
            exact this)
          clear hW
          replace BT := lid ((hbW.block _ (row_lt BT.out)).trans BT.out)
          replace HT := lid (HT.out.below hbW)
          replace HM := lid (HM.out.below hbW)
          replace HO := lid (ownsRow_below HO.out hbW)
          replace BX := lid ((hbW.block _ (row_lt BX.out)).trans BX.out)
          replace hb := hb.trans (hbW.mono hb.size)
          have mW8 := hbW.size
          clear hbW
          have CH := lid (holds_any T aoT nT capT x W8 HT.out.A HT.out.le)
          obtain ⟨hx, hHX⟩ : ∃ z, holdsB T x = z := ⟨_, rfl⟩
          rw [hHX] at CH
          (with_reducible refine (CH.out).mono ?_); rintro e w9 ⟨rfl, hb1⟩
          clear CH
          replace BT := lid ((hb1.block _ (row_lt BT.out)).trans BT.out)
          replace HT := lid (HT.out.below hb1)
          replace HM := lid (HM.out.below hb1)
          replace HO := lid (ownsRow_below HO.out hb1)
          replace BX := lid ((hb1.block _ (row_lt BX.out)).trans BX.out)
          replace BY := lid ((hb1.block _ (row_lt BY.out)).trans BY.out)
          replace hb := hb.trans (hb1.mono hb.size)
          have mw9 := hb1.size
          clear hb1
          cases hx with
          | false =>
            have q19 := row_cell BX.out 0
            have q20 := row_cell BX.out 1
            have q21 := row_cell BX.out 2
            have q22 := row_cell BX.out 3
            have q23 := row_cell BX.out 4
            have q24 := row_cell BY.out 0
            have q25 := row_cell BY.out 1
            have q26 := row_cell BY.out 2
            have q27 := row_cell BY.out 3
            have q28 := row_cell BY.out 4
            have q29 := row_cell BT.out 0
            have q30 := row_cell BT.out 1
            have q31 := row_cell BT.out 2
            have q32 := row_lt BX.out
            have q33 := row_lt BY.out
            have q34 := row_lt BT.out
            go_wp2_with fail
            clear q19 q20 q21 q22 q23 q24 q25 q26 q27 q28 q29 q30 q31 q32 q33 q34
            go_roundw
            case rel => exact ⟨l + 1, by omega, by go_num, ⟨BT.out, HT.out, HM.out, HO.out, hb⟩, BX.out⟩
            case measure => simp [intOf]; omega
          | true =>
            have q19 := row_cell BX.out 0
            have q20 := row_cell BX.out 1
            have q21 := row_cell BX.out 2
            have q22 := row_cell BX.out 3
            have q23 := row_cell BX.out 4
            have q24 := row_cell BY.out 0
            have q25 := row_cell BY.out 1
            have q26 := row_cell BY.out 2
            have q27 := row_cell BY.out 3
            have q28 := row_cell BY.out 4
            have q29 := row_cell BT.out 0
            have q30 := row_cell BT.out 1
            have q31 := row_cell BT.out 2
            have q32 := row_lt BX.out
            have q33 := row_lt BY.out
            have q34 := row_lt BT.out
            go_wp2_with fail
            clear q19 q20 q21 q22 q23 q24 q25 q26 q27 q28 q29 q30 q31 q32 q33 q34
            have CH := lid (holds_any T aoT nT capT yl w9 HT.out.A HT.out.le)
            obtain ⟨hy, hHY⟩ : ∃ z, holdsB T yl = z := ⟨_, rfl⟩
            rw [hHY] at CH
            (with_reducible refine (CH.out).mono ?_); rintro e wA ⟨rfl, hb1⟩
            clear CH
            replace BT := lid ((hb1.block _ (row_lt BT.out)).trans BT.out)
            replace HT := lid (HT.out.below hb1)
            replace HM := lid (HM.out.below hb1)
            replace HO := lid (ownsRow_below HO.out hb1)
            replace BX := lid ((hb1.block _ (row_lt BX.out)).trans BX.out)
            replace BY := lid ((hb1.block _ (row_lt BY.out)).trans BY.out)
            replace hb := hb.trans (hb1.mono hb.size)
            have mwA := hb1.size
            clear hb1
            cases hy with
            | false =>
              have q35 := row_cell BX.out 0
              have q36 := row_cell BX.out 1
              have q37 := row_cell BX.out 2
              have q38 := row_cell BX.out 3
              have q39 := row_cell BX.out 4
              have q40 := row_cell BY.out 0
              have q41 := row_cell BY.out 1
              have q42 := row_cell BY.out 2
              have q43 := row_cell BY.out 3
              have q44 := row_cell BY.out 4
              have q45 := row_cell BT.out 0
              have q46 := row_cell BT.out 1
              have q47 := row_cell BT.out 2
              have q48 := row_lt BX.out
              have q49 := row_lt BY.out
              have q50 := row_lt BT.out
              go_wp2_with fail
              clear q35 q36 q37 q38 q39 q40 q41 q42 q43 q44 q45 q46 q47 q48 q49 q50
              go_roundw
              case rel => exact ⟨l + 1, by omega, by go_num, ⟨BT.out, HT.out, HM.out, HO.out, hb⟩, BX.out⟩
              case measure => simp [intOf]; omega
            | true =>
              have hno := HRI.out.one hHX hHY hep
              clear hHX hHY
              by_cases hjob : x.1 = yl.1
              · have dW : ¬ x.2.1 = yl.2.1 := fun e => hno ⟨hjob, e⟩
                have dW2 : (x.2.1.toList == yl.2.1.toList) = false := by
                  rw [str_beq]
                  simpa using dW
                have dW3 : ¬ x.2.1.toList = yl.2.1.toList := by
                  intro e
                  rw [e] at dW2
                  simp at dW2
                have HJ := lid hjob
                clear hjob
                have q35 := row_cell BX.out 0
                have q36 := row_cell BX.out 1
                have q37 := row_cell BX.out 2
                have q38 := row_cell BX.out 3
                have q39 := row_cell BX.out 4
                have q40 := row_cell BY.out 0
                have q41 := row_cell BY.out 1
                have q42 := row_cell BY.out 2
                have q43 := row_cell BY.out 3
                have q44 := row_cell BY.out 4
                have q45 := row_cell BT.out 0
                have q46 := row_cell BT.out 1
                have q47 := row_cell BT.out 2
                have q48 := row_lt BX.out
                have q49 := row_lt BY.out
                have q50 := row_lt BT.out
                go_wp2_with (refine wpList_eq_dgg x.1 yl.1 true _ _ (by rfl) rfl rfl rfl (by simp [HJ.out]) ?_)
                clear q35 q36 q37 q38 q39 q40 q41 q42 q43 q44 q45 q46 q47 q48 q49 q50
                go_roundw
                case rel => exact ⟨l + 1, by omega, by go_num, ⟨BT.out, HT.out, HM.out, HO.out, hb⟩, BX.out⟩
                case measure => simp [intOf]; omega
              · skip
                have q35 := row_cell BX.out 0
                have q36 := row_cell BX.out 1
                have q37 := row_cell BX.out 2
                have q38 := row_cell BX.out 3
                have q39 := row_cell BX.out 4
                have q40 := row_cell BY.out 0
                have q41 := row_cell BY.out 1
                have q42 := row_cell BY.out 2
                have q43 := row_cell BY.out 3
                have q44 := row_cell BY.out 4
                have q45 := row_cell BT.out 0
                have q46 := row_cell BT.out 1
                have q47 := row_cell BT.out 2
                have q48 := row_lt BX.out
                have q49 := row_lt BY.out
                have q50 := row_lt BT.out
                go_wp2_with (refine wpList_eq_dgg x.1 yl.1 false _ _ (by rfl) rfl rfl rfl (by simp [hjob]) ?_)
                clear q35 q36 q37 q38 q39 q40 q41 q42 q43 q44 q45 q46 q47 q48 q49 q50
                go_roundw
                case rel => exact ⟨l + 1, by omega, by go_num, ⟨BT.out, HT.out, HM.out, HO.out, hb⟩, BX.out⟩
                case measure => simp [intOf]; omega
end Go.Proofs.Ytghkldodceamcaa
