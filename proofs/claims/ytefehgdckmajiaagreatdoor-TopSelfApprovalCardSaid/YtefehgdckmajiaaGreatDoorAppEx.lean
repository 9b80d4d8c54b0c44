/-
  owners.Groups, approval.examine.
-/
import Derived.Test.YtefehgdckmajiaaGreatDoorAppRl
import Derived.Test.YtefehgdckmajiaaGreatDoorAppDiff
namespace Go.Proofs.YtefehgdckmajiaaGreatDoor
open Go.RowKit

def gErr (l : List Fl) (x : ByteArray) : Int := if treeC l ≠ 0 then treeC l else if treeC [(x, ⟨#[]⟩)] ≠ 0 then 6 else 0
theorem gErr_tree {l : List Fl} {x : ByteArray} (h : treeC l ≠ 0) : gErr l x = treeC l := by unfold gErr; rw [if_pos h]
theorem gErr_path {l : List Fl} {x : ByteArray} (h : treeC l = 0) (h2 : treeC [(x, ⟨#[]⟩)] ≠ 0) : gErr l x = 6 := by unfold gErr; rw [if_neg (by simp [h]), if_pos h2]
theorem gErr_ok {l : List Fl} {x : ByteArray} (h : treeC l = 0) (h2 : treeC [(x, ⟨#[]⟩)] = 0) : gErr l x = 0 := by unfold gErr; rw [if_neg (by simp [h]), if_neg (by simp [h2])]
set_option maxRecDepth 100000 in
set_option maxHeartbeats 8000000 in
theorem Groups_any (l : List Fl) (n cap : Nat) (ao : Option Addr) (x : ByteArray) (w : World) (h : FA w ao n cap l) (hd : ∀ f ∈ l, f.2.size ≤ 60000) (hn : n ≤ 100000) (hx : x.size ≤ 1000000) :
    Calls Tryz.prog 24 #[.slice ao n cap, .string x] w fun e w' => ∃ (v : SV) (y : Int), e = .returned (.tuple #[slv v, .int .i64 y]) ∧ Below w.heap.size w w' ∧ y = gErr l x ∧ (y = 0 → GS (fun k => w.heap.size ≤ k ∧ k < w'.heap.size) w' v (reqO l x)) := by
  have HFA := lid h
  have C1 := lid (treeCheck_any l n cap ao w h hd)
  have HD := lid hd
  clear h hd
  by_cases hz1 : treeC l = 0
  · rw [hz1] at C1
    have HZ1 := lid hz1
    clear hz1
    have C2 := lid (fun (w1 : World) => treeCheck_any [(x, ⟨#[]⟩)] 1 1 (some ⟨w1.heap.size, 0, none⟩) (w1.alloc (.cells (fca (x, ⟨#[]⟩)) 27)) ⟨rfl, ⟨rfl, .inr ⟨w1.heap.size, 0, rfl, by simp, fun j u hu => by
      rw [Nat.zero_add]
      exact (cell_new_at rfl _ _ _).trans (by simpa [fcells] using hu)⟩⟩, Nat.le_refl _, by simp [maxLen], (fun e => by cases e), fun f hf => by simp only [List.mem_singleton] at hf; subst hf; exact ⟨by simp only [maxLen]; omega, show (0 : Nat) ≤ maxLen by decide⟩⟩ (fun f hf => by simp only [List.mem_singleton] at hf; subst hf; exact Nat.zero_le _))
    by_cases hz2 : treeC [(x, ⟨#[]⟩)] = 0
    · rw [hz2] at C2
      have HV := lid (gErr_ok HZ1.out hz2)
      clear hz2
      go_enter Tryz.func24, Tryz.ntmps24
      go_wp2_with fail
      (with_reducible refine (C1.out).mono ?_); rintro e w1 ⟨rfl, hb1⟩
      go_wp2_with fail
      (with_reducible refine (C2.out w1).mono ?_); rintro e w2 ⟨rfl, hb2⟩
      have hb02 : Below w.heap.size w w2 := hb1.trans (((ba w1 _).trans (hb2.mono (by simp))).mono hb1.size)
      have CR := lid (rulesOf_any l n cap ao w2 (HFA.out.below hb02) HD.out hn)
      clear hb1 hb2
      go_wp2_with fail
      (with_reducible refine (CR.out).mono ?_); rintro e w3 ⟨rfl, hb3, hm3⟩
      have CO := lid (ownersOf_any _ w2.heap.size n (rulesF l) x w3 hm3 hx)
      have hb03 := hb02.trans (hb3.mono hb02.size)
      have hz2 : w.heap.size ≤ w2.heap.size := hb02.size
      clear hm3 hb3
      go_wp2_with fail
      (with_reducible refine (CO.out).mono ?_); rintro e w4 ⟨v, rfl, hb4, hgs⟩
      have HGS : Hid (GS (fun k => w.heap.size ≤ k ∧ k < w4.heap.size) w4 v (reqO l x)) := lid (hgs.mono fun k hk => ⟨Nat.le_trans hz2 hk.1, Nat.lt_of_lt_of_le hk.2 hb4.size⟩)
      have hb04 := hb03.trans (hb4.mono hb03.size)
      clear hgs hb4 hb03
      go_wp2_with fail
      go_ret2
      exact ⟨v, 0, rfl, hb04, HV.out.symm, fun _ => HGS.out⟩
    · obtain ⟨t2, ht2⟩ : ∃ t, treeC [(x, ⟨#[]⟩)] = t := ⟨_, rfl⟩
      have HV := lid (gErr_path HZ1.out hz2)
      rw [ht2] at C2 hz2
      have u2 : (t2 != 0) = true := by simpa using hz2
      clear hz2 ht2
      go_enter Tryz.func24, Tryz.ntmps24
      go_wp2_with fail
      (with_reducible refine (C1.out).mono ?_); rintro e w1 ⟨rfl, hb1⟩
      go_wp2_with fail
      (with_reducible refine (C2.out w1).mono ?_); rintro e w2 ⟨rfl, hb2⟩
      have hb02 : Below w.heap.size w w2 := hb1.trans (((ba w1 _).trans (hb2.mono (by simp))).mono hb1.size)
      go_wp2_with fail
      go_ret2
      exact ⟨nv, 6, rfl, hb02, HV.out.symm, fun e => by cases e⟩
  · obtain ⟨t1, ht1⟩ : ∃ t, treeC l = t := ⟨_, rfl⟩
    have HV := lid (gErr_tree (x := x) hz1)
    rw [ht1] at C1 hz1 HV
    have u1 : (t1 != 0) = true := by simpa using hz1
    have HZ := lid hz1
    clear hz1 ht1
    go_enter Tryz.func24, Tryz.ntmps24
    go_wp2_with fail
    (with_reducible refine (C1.out).mono ?_); rintro e w1 ⟨rfl, hb1⟩
    go_wp2_with fail
    go_ret2
    exact ⟨nv, t1, rfl, hb1, HV.out.symm, fun e => absurd e HZ.out⟩
/-- A change with the value of its groups. -/
abbrev Ow := Ch × SV
abbrev owe (r : Ow) : List Value := [.string r.1.1, .bool r.1.2.1, .bool r.1.2.2.1, .string r.1.2.2.2.1, .string r.1.2.2.2.2, slv r.2]
def owcells (l : List Ow) : List Value := l.flatMap owe
theorem owe_length (r : Ow) : (owe r).length = 6 := rfl
theorem owcells_length (l : List Ow) : (owcells l).length = l.length * 6 := flat_length owe_length l
theorem owcells_append (l m : List Ow) : owcells (l ++ m) = owcells l ++ owcells m := by simp [owcells]
/-- Owned changes one by one. -/
structure OwLs (c : Nat → Prop) (w : World) (rows : List Ow) (L : List (Ch × List (List ByteArray))) : Prop where
  len : rows.length = L.length
  at_ : ∀ (i : Nat) r e, rows[i]? = some r → L[i]? = some e → r.1 = e.1 ∧ GS c w r.2 e.2
theorem OwLs.nil (c : Nat → Prop) (w : World) : OwLs c w [] [] := ⟨rfl, fun i r e h _ => by simp at h⟩
theorem OwLs.keep {c : Nat → Prop} {w w' : World} {rows : List Ow} {L : List (Ch × List (List ByteArray))} (h : OwLs c w rows L) (hk : KeepC c w w') : OwLs c w' rows L := ⟨h.len, fun i r e hr he => ⟨(h.at_ i r e hr he).1, (h.at_ i r e hr he).2.keep hk⟩⟩
theorem OwLs.mono {c c' : Nat → Prop} {w : World} {rows : List Ow} {L : List (Ch × List (List ByteArray))} (h : OwLs c w rows L) (hc : ∀ k, c k → c' k) : OwLs c' w rows L := ⟨h.len, fun i r e hr he => ⟨(h.at_ i r e hr he).1, (h.at_ i r e hr he).2.mono hc⟩⟩
theorem OwLs.snoc {c : Nat → Prop} {w : World} {rows : List Ow} {L : List (Ch × List (List ByteArray))} {r : Ow} {e : Ch × List (List ByteArray)} (h : OwLs c w rows L) (h1 : r.1 = e.1) (h2 : GS c w r.2 e.2) : OwLs c w (rows ++ [r]) (L ++ [e]) := by
  refine ⟨by simp [h.len], fun i r' e' hr he => ?_⟩
  rcases Nat.lt_or_ge i rows.length with hi | hi
  · rw [List.getElem?_append_left hi] at hr
    rw [List.getElem?_append_left (by rw [← h.len]; exact hi)] at he
    exact h.at_ i r' e' hr he
  · rw [List.getElem?_append_right hi] at hr
    rw [List.getElem?_append_right (by rw [← h.len]; exact hi)] at he
    have e0 : i - rows.length = 0 := by
      rcases Nat.eq_zero_or_pos (i - rows.length) with h0 | h0
      · exact h0
      · rw [List.getElem?_eq_none (by show 1 ≤ _; omega)] at hr; cases hr
    rw [e0] at hr
    rw [← h.len, e0] at he
    cases hr; cases he
    exact ⟨h1, h2⟩
/-- Owned changes: a slice of them. -/
structure OwS (c : Nat → Prop) (w : World) (v : SV) (L : List (Ch × List (List ByteArray))) : Prop where
  r : ∃ rows : List Ow, SlC c w 6 v (owcells rows) ∧ OwLs c w rows L
  len : L.length = v.2.1
def exErr (rs : List Fl) : List Ch → Int
  | [] => 0
  | c :: l => if gErr rs c.1 = 0 then exErr rs l else gErr rs c.1
/-- Why examine fails. -/
def examE (l1 l2 : List Fl) : Int := if treeC l1 ≠ 0 then treeC l1 else if treeC l2 ≠ 0 then treeC l2 else exErr (rulesO l1) (diffF l1 l2)
def examL (l1 l2 : List Fl) : List (Ch × List (List ByteArray)) := (diffF l1 l2).map fun c => (c, reqO (rulesO l1) c.1)
def coldO (base hi : Nat) (v : SV) (k : Nat) : Prop := base ≤ k ∧ k < hi ∧ (slv v).ownBlock ≠ some k
theorem info_ow : (Tryz.prog.info? 64).map (fun i => (i.zero, i.size, i.bytes)) = some (some (.agg #[.string ⟨#[]⟩, .bool false, .bool false, .string ⟨#[]⟩, .string ⟨#[]⟩, .slice none 0 0]), 6, 80) := by kernel_rfl
theorem exErr_take {rs : List Fl} {D : List Ch} : ∀ {k : Nat}, (∀ x ∈ D.take k, gErr rs x.1 = 0) → exErr rs D = exErr rs (D.drop k) := by
  intro k
  induction k generalizing D with
  | zero => intro _; rfl
  | succ k ih =>
    intro h
    cases D with
    | nil => rfl
    | cons c D =>
      rw [exErr, if_pos (h c (by simp)), List.drop_succ_cons]
      exact ih fun x hx => h x (by simp [hx])
set_option maxRecDepth 100000 in
set_option maxHeartbeats 16000000 in
theorem examine_any (l1 l2 : List Fl) (n1 cap1 n2 cap2 : Nat) (a1 a2 : Option Addr) (w : World) (h1 : FA w a1 n1 cap1 l1) (h2 : FA w a2 n2 cap2 l2) (hn1 : n1 ≤ 100000) (hn2 : n2 ≤ 100000) (hd1 : ∀ f ∈ l1, f.1.size ≤ 1000000 ∧ f.2.size ≤ 60000) (hd2 : ∀ f ∈ l2, f.1.size ≤ 1000000 ∧ f.2.size ≤ 60000) :
    Calls Tryz.prog 14 #[.slice a1 n1 cap1, .slice a2 n2 cap2] w fun e w' => ∃ (v : SV) (x : Int), e = .returned (.tuple #[slv v, .int .i64 x]) ∧ Below w.heap.size w w' ∧ x = examE l1 l2 ∧ (x = 0 → OwS (fun k => w.heap.size ≤ k ∧ k < w'.heap.size) w' v (examL l1 l2)) := by
  have H1 := lid h1
  have H2 := lid h2
  have HD1 := lid hd1
  have HD2 := lid hd2
  have C1 := lid (treeCheck_any l1 n1 cap1 a1 w h1 (fun f hf => (hd1 f hf).2))
  have C2 := lid (fun w' (hb : Below w.heap.size w w') => treeCheck_any l2 n2 cap2 a2 w' (H2.out.below hb) (fun f hf => (HD2.out f hf).2))
  clear h1 h2 hd1 hd2
  by_cases hz1 : treeC l1 = 0
  · by_cases hz2 : treeC l2 = 0
    · have HV : Hid (examE l1 l2 = exErr (rulesO l1) (diffF l1 l2)) := lid (by unfold examE; rw [if_neg (by simp [hz1]), if_neg (by simp [hz2])])
      rw [hz1] at C1
      rw [hz2] at C2
      clear hz1 hz2
      go_enter Tryz.func14, Tryz.ntmps14
      go_wp2_with fail
      (with_reducible refine (C1.out).mono ?_); rintro e w1 ⟨rfl, hb1⟩
      go_wp2_with fail
      (with_reducible refine (C2.out _ hb1).mono ?_); rintro e w2 ⟨rfl, hb2⟩
      have hb02 := hb1.trans (hb2.mono hb1.size)
      have CR := lid (rulesOnly_any l1 n1 cap1 a1 w2 (H1.out.below hb02) hn1)
      clear hb1 hb2
      go_wp2_with fail
      (with_reducible refine (CR.out).mono ?_); rintro e w3 ⟨⟨ar, nr, cr⟩, rfl, hb3, hr3⟩
      rw [show slv (ar, nr, cr) = Value.slice ar nr cr from rfl]
      have hb03 := hb02.trans (hb3.mono hb02.size)
      have HRO : Hid (FA w3 ar nr cr (rulesO l1)) := lid hr3
      have CD := lid (difference_any l1 l2 n1 cap1 n2 cap2 a1 a2 w3 (H1.out.below hb03) (H2.out.below hb03) hn1 hn2)
      clear hr3 hb3 hb02
      go_wp2_with fail
      (with_reducible refine (CD.out).mono ?_); rintro e w4 ⟨⟨ad, nd, cd⟩, rfl, hb4, hsl, hdl, hdz⟩
      rw [show slv (ad, nd, cd) = Value.slice ad nd cd from rfl]
      have HDS : Hid (Sl w4 5 ad nd (chcells (diffF l1 l2))) := lid hsl.sl
      have HDL : Hid ((diffF l1 l2).length = nd) := lid hdl
      have HDZ := lid hdz
      have HR4 := lid (HRO.out.below hb4)
      have hb04 := hb03.trans (hb4.mono hb03.size)
      have hcd : nd ≤ cd := hsl.le
      have hnd : nd ≤ 200000 := by
        have := diff_len (l1 := l1) (l2 := l2)
        have e1 := H1.out.len
        have e2 := H2.out.len
        have := HDL.out
        omega
      have hnr : nr ≤ 100000 := by
        have e1 := HRO.out.len
        have := rulesO_len (l := l1)
        have := H1.out.len
        omega
      have hnd9 : nd ≤ 9223372036854775807 := by omega
      have HPS : Hid (∀ x ∈ diffF l1 l2, x.1.size ≤ 1000000) := lid (diff_paths (fun f hf => (HD1.out f hf).1) (fun f hf => (HD2.out f hf).1))
      clear hsl hdl hdz hb4 hb03
      go_wp2_with fail
      go_loopw [9, 30] (fun v9 u30 wr => ∃ (i : Nat) (q : SV) (rows : List Ow), i ≤ nd ∧ u30 = .int .i64 i ∧ v9 = slv q ∧ Hid (∀ x ∈ (diffF l1 l2).take i, gErr (rulesO l1) x.1 = 0) ∧ Hid (wr.ownsRow w4.heap.size 64 6 (slv q) i (owcells rows)) ∧
        Hid (OwLs (coldO w4.heap.size wr.heap.size q) wr rows (((diffF l1 l2).take i).map fun c => (c, reqO (rulesO l1) c.1))) ∧ Below w4.heap.size w4 wr) (fun _ u30 _ => nd - (intOf u30).toNat)
      case atStart => exact ⟨0, nv, [], Nat.zero_le _, rfl, rfl, lid (fun x hx => by cases hx), lid (World.ownsRow_nil _ _ _ _), lid (OwLs.nil _ _), Below.refl _ _⟩
      case round =>
        obtain ⟨i, ⟨aq, nq, cq⟩, rows, hi, rfl, rfl, HE, HO, HV4, hb⟩ := hrel
        by_cases hlt : i < nd
        · have hil : i < (diffF l1 l2).length := by rw [HDL.out]; exact hlt
          obtain ⟨b1, o1, rfl, hlb, hcell⟩ := (HDS.out.below hb).at_ hlt
          have x0 := hcell (i * 5 + 0) _ (chcells_at hil).1
          have x1 := hcell (i * 5 + 1) _ (chcells_at hil).2.1
          have x2 := hcell (i * 5 + 2) _ (chcells_at hil).2.2.1
          have x3 := hcell (i * 5 + 3) _ (chcells_at hil).2.2.2.1
          have x4 := hcell (i * 5 + 4) _ (chcells_at hil).2.2.2.2
          rw [← Nat.add_assoc] at x1 x2 x3 x4
          rw [Nat.add_zero] at x0
          have HT : Hid ((diffF l1 l2).take (i + 1) = (diffF l1 l2).take i ++ [(diffF l1 l2)[i]]) := lid (List.take_succ_eq_append_getElem hil)
          have HDR : Hid ((diffF l1 l2).drop i = (diffF l1 l2)[i] :: (diffF l1 l2).drop (i + 1)) := lid (List.drop_eq_getElem_cons hil)
          have hps := HPS.out _ (List.getElem_mem hil)
          have dk : decide ((i : Int) < (nd : Int)) = true := by simp; omega
          obtain ⟨⟨p, g1, g2, s1, s2⟩, hx⟩ : ∃ x, (diffF l1 l2)[i] = x := ⟨_, rfl⟩
          rw [hx] at x0 x1 x2 x3 x4 HT HDR hps
          replace x0 : wr.cell? ⟨b1, o1 + i * 5, none⟩ = some (Value.string p) := x0
          replace x1 : wr.cell? ⟨b1, o1 + i * 5 + 1, none⟩ = some (Value.bool g1) := x1
          replace x2 : wr.cell? ⟨b1, o1 + i * 5 + 2, none⟩ = some (Value.bool g2) := x2
          replace x3 : wr.cell? ⟨b1, o1 + i * 5 + 3, none⟩ = some (Value.string s1) := x3
          replace x4 : wr.cell? ⟨b1, o1 + i * 5 + 4, none⟩ = some (Value.string s2) := x4
          clear hcell hx
          go_wp2_with fail
          obtain ⟨W1, hW1⟩ : ∃ W1, wr.alloc (Obj.cells #[.string p, .bool g1, .bool g2, .string s1, .string s2] 61) = W1 := ⟨_, rfl⟩
          have hb1 : Below wr.heap.size wr W1 := by rw [← hW1]; exact ba _ _
          have hR : W1.heap[wr.heap.size]? = some (.cells #[.string p, .bool g1, .bool g2, .string s1, .string s2] 61 (0, 0)) := by rw [← hW1]; exact h_new rfl _
          rw [hW1]
          have y0 := row_cell hR 0
          have HR := lid hR
          have lR := row_lt hR
          have CG := lid (Groups_any (rulesO l1) nr cr ar p W1 (HR4.out.below (hb.trans (hb1.mono hb.size))) (fun f hf => (HD1.out f (rulesO_mem hf)).2) hnr hps)
          have HO1 := lid (ownsRow_below HO.out hb1)
          have HV1 := lid ((HV4.out.keep (KeepC.below hb1)).mono (c' := coldO w4.heap.size W1.heap.size (aq, nq, cq)) (fun k hk => ⟨hk.1, Nat.lt_of_lt_of_le hk.2.1 hb1.size, hk.2.2⟩))
          have hw1 := hb.trans (hb1.mono hb.size)
          clear hW1 hb1 hR x0 x1 x2 x3 x4 HO HV4
          go_wp2_with fail
          (with_reducible refine (CG.out).mono ?_); rintro e w6 ⟨⟨ag, ng, cg⟩, y, rfl, hb6, hy, hgs⟩
          rw [show slv (ag, ng, cg) = Value.slice ag ng cg from rfl]
          have HY := lid hy
          have hw6 := hw1.trans (hb6.mono hw1.size)
          clear hy
          by_cases hy0 : y = 0
          · subst hy0
            have hR6 := (hb6.block _ lR).trans HR.out
            have z0 := row_cell hR6 0
            have z1 := row_cell hR6 1
            have z2 := row_cell hR6 2
            have z3 := row_cell hR6 3
            have z4 := row_cell hR6 4
            have lR6 := row_lt hR6
            have HE6 : Hid (∀ x ∈ (diffF l1 l2).take (i + 1), gErr (rulesO l1) x.1 = 0) := lid (fun x hx => by
              rw [HT.out] at hx
              rcases List.mem_append.1 hx with hx | hx
              · exact HE.out x hx
              · simp only [List.mem_singleton] at hx
                subst hx
                exact HY.out.symm)
            have HG6 : Hid (GS (coldO w4.heap.size w6.heap.size (aq, nq, cq)) w6 (ag, ng, cg) (reqO (rulesO l1) p)) := lid ((hgs rfl).mono fun k hk => ⟨Nat.le_trans hw1.size hk.1, hk.2, fun e => by have := (HO1.out.lt k e).2; have := hk.1; omega⟩)
            have HV6 := lid ((HV1.out.keep (KeepC.below hb6)).mono (c' := coldO w4.heap.size w6.heap.size (aq, nq, cq)) (fun k hk => ⟨hk.1, Nat.lt_of_lt_of_le hk.2.1 hb6.size, hk.2.2⟩))
            have HO6 := lid (ownsRow_below HO1.out hb6)
            have hbs6 := hw6.size
            clear hgs hb6 hR6 y0
            go_wp2_with (at_builtin; go_must (refine wpList_append_new_at (w := w6) #[.string p, .bool g1, .bool g2, .string s1, .string s2, .slice ag ng cg] rfl _ _ 44 rfl w4.heap.size 64 (.agg #[.string ⟨#[]⟩, .bool false, .bool false, .string ⟨#[]⟩, .string ⟨#[]⟩, .slice none 0 0]) 6 80 info_ow Tryz.underlying44 rfl (by decide) (slv (aq, nq, cq)) i _ HO6.out rfl rfl rfl (by intro u hu; simp only [List.mem_cons, List.not_mem_nil, or_false] at hu; rcases hu with rfl | rfl | rfl | rfl | rfl | rfl <;> rfl) (by simp only [maxLen]; omega) (by omega) hbs6 ?_))
            intro v9 w9 own9 hg9 hat9
            obtain ⟨a9, c9, rfl⟩ := slv_of own9
            have hz9 : w6.heap.size + 1 ≤ w9.heap.size := by have := hg9.size; simpa using this
            have HO9 : Hid (w9.ownsRow w4.heap.size 64 6 (slv (a9, i + 1, c9)) (i + 1) (owcells (rows ++ [((p, g1, g2, s1, s2), (ag, ng, cg))]))) := lid (by rw [owcells_append]; exact own9)
            have hk9 : KeepC (coldO w4.heap.size w6.heap.size (aq, nq, cq)) w6 w9 := (KeepC.below (ba _ _)).trans (KeepC.grown hg9 fun r e hc => hc.2.2 e)
            have hm9 : ∀ k, coldO w4.heap.size w6.heap.size (aq, nq, cq) k → coldO w4.heap.size w9.heap.size (a9, i + 1, c9) k := fun k hk => ⟨hk.1, by have := hk.2.1; omega, fun e => by
              rcases hat9 with h | h
              · exact hk.2.2 (h ▸ e)
              · have e2 := h.symm.trans e
                have e3 := Option.some.inj e2
                have := hk.2.1
                omega⟩
            have HV9 : Hid (OwLs (coldO w4.heap.size w9.heap.size (a9, i + 1, c9)) w9 (rows ++ [((p, g1, g2, s1, s2), (ag, ng, cg))]) (((diffF l1 l2).take (i + 1)).map fun c => (c, reqO (rulesO l1) c.1))) := lid (by
              rw [HT.out, List.map_append]
              exact ((HV6.out.keep hk9).mono hm9).snoc rfl ((HG6.out.keep hk9).mono hm9))
            have hw9 : Below w4.heap.size w4 w9 := (hw6.trans ((ba w6 _).mono hw6.size)).grown hg9 (by simp; omega) (fun k e => ownsRow_row HO6.out k e)
            clear own9 hg9 hat9 hk9 hm9
            go_wp2_with fail
            go_roundw
            case rel => exact ⟨i + 1, (a9, i + 1, c9), _, by omega, by go_num, rfl, HE6, HO9, HV9, hw9⟩
            case measure => simp [intOf]; omega
          · have u : (y != 0) = true := by simpa using hy0
            have HX : Hid (examE l1 l2 = y) := lid (by
              rw [HV.out, exErr_take HE.out, HDR.out, exErr, if_neg (by rw [← HY.out]; exact hy0)]
              exact HY.out.symm)
            have HY0 := lid hy0
            have hw06 := hb04.trans (hw6.mono hb04.size)
            clear hy0 hgs hb6
            go_wp2_with fail
            go_ret2
            exact ⟨nv, y, rfl, hw06, HX.out.symm, fun e => absurd e HY0.out⟩
        · obtain rfl : i = nd := by omega
          have dk : decide ((i : Int) < (i : Int)) = false := by simp
          have HTK : Hid ((diffF l1 l2).take i = diffF l1 l2) := lid (List.take_of_length_le (Nat.le_of_eq HDL.out))
          have HX : Hid (examE l1 l2 = 0) := lid (by
            rw [HV.out, exErr_take HE.out, List.drop_of_length_le (Nat.le_of_eq HDL.out)]
            rfl)
          have HS : Hid (OwS (fun k => w.heap.size ≤ k ∧ k < wr.heap.size) wr (aq, nq, cq) (examL l1 l2)) := lid (by
            have hs := hb04.size
            obtain ⟨h1, h2⟩ := SlC.of_own (c := fun k => w.heap.size ≤ k ∧ k < wr.heap.size) HO.out (fun k e => by have := HO.out.lt k e; exact ⟨by omega, this.2⟩)
            have h3 := HV4.out
            rw [HTK.out] at h3
            exact ⟨⟨rows, h1, h3.mono fun k hk => ⟨by have := hk.1; omega, hk.2.1⟩⟩, by rw [examL, List.length_map, HDL.out]; exact h2.symm⟩)
          have hw06 := hb04.trans (hb.mono hb04.size)
          go_wp2_with fail
          go_ret2
          exact ⟨(aq, nq, cq), 0, rfl, hw06, HX.out.symm, fun _ => HS.out⟩
    · obtain ⟨t2, ht2⟩ : ∃ t, treeC l2 = t := ⟨_, rfl⟩
      have HV : Hid (examE l1 l2 = t2) := lid (by unfold examE; rw [if_neg (by simp [hz1]), if_pos hz2, ht2])
      rw [hz1] at C1
      rw [ht2] at C2 hz2
      have u2 : (t2 != 0) = true := by simpa using hz2
      have HZ := lid hz2
      clear hz2 ht2 hz1
      go_enter Tryz.func14, Tryz.ntmps14
      go_wp2_with fail
      (with_reducible refine (C1.out).mono ?_); rintro e w1 ⟨rfl, hb1⟩
      go_wp2_with fail
      (with_reducible refine (C2.out _ hb1).mono ?_); rintro e w2 ⟨rfl, hb2⟩
      go_wp2_with fail
      go_ret2
      exact ⟨nv, t2, rfl, hb1.trans (hb2.mono hb1.size), HV.out.symm, fun e => absurd e HZ.out⟩
  · obtain ⟨t1, ht1⟩ : ∃ t, treeC l1 = t := ⟨_, rfl⟩
    have HV : Hid (examE l1 l2 = t1) := lid (by unfold examE; rw [if_pos hz1, ht1])
    rw [ht1] at C1 hz1
    have u1 : (t1 != 0) = true := by simpa using hz1
    have HZ := lid hz1
    clear hz1 ht1
    go_enter Tryz.func14, Tryz.ntmps14
    go_wp2_with fail
    (with_reducible refine (C1.out).mono ?_); rintro e w1 ⟨rfl, hb1⟩
    go_wp2_with fail
    go_ret2
    exact ⟨nv, t1, rfl, hb1, HV.out.symm, fun e => absurd e HZ.out⟩
end Go.Proofs.YtefehgdckmajiaaGreatDoor
