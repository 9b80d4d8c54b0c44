/-
  tree.blob, tree.Check.
-/
import Derived.Test.YtphjillihapbfaaGreatDoorGrpK
import Derived.Test.YtphjillihapbfaaGreatDoorGrpJ
import Derived.Test.YtphjillihapbfaaGreatDoorGrpF
namespace Go.Proofs.YtphjillihapbfaaGreatDoor
open Go.RowKit

theorem OwnSet.below {w w' : World} {b n : Nat} {S : List ByteArray} (h : OwnSet w b n S) (hb : Below w.heap.size w w') : OwnSet w' b n S := World.ownsMap.kept (row := none) h ⟨hb.os, hb.tape, hb.output, hb.size, fun k hk _ => hb.block k hk⟩ (by simp)
theorem wpList_lookg {P : Program} (w : World) {ops : Array Oper} {rest : List Oper} {o : Oper} {a : Act} {Q : Exit → Act → World → Prop}
    (hw : Region.wanted o (yielded ops a.tmps) = true) (m x : Operand) (t : TypeId) (hop : o.op = Op.lookup t m x false) (v : Value) (mv xv : Value) (hm : a.eval m = mv) (hx : a.eval x = xv)
    (hrun : (Instr.lookup t mv xv false).run P w = .ok v w) (hK : ∀ c : Value, c = v → wpList P ops Q rest (a.put o.dst c) w) : wpList P ops Q (o :: rest) a w := by
  refine wpList_step fun K' hK' => ?_
  rw [if_pos hw]
  unfold Oper.wp
  simp [execOp, hop, hm, hx, hrun, Result.andThen]
  exact hK' _ _ (hK _ rfl)
/-- The errors of files one by one, behind a path. -/
def treeGo : Option ByteArray → List Fl → Int
  | _, [] => 0
  | p, f :: l => if pathB f.1 = false then 6 else if (p.any fun q => leB f.1 q) = true then 10 else treeGo (some f.1) l
theorem tree_name {p : Option ByteArray} {f : Fl} {l : List Fl} (h : pathB f.1 = false) : treeGo p (f :: l) = 6 := by simp [treeGo, h]
theorem tree_order {q : ByteArray} {f : Fl} {l : List Fl} (h : pathB f.1 = true) (ho : leB f.1 q = true) : treeGo (some q) (f :: l) = 10 := by simp [treeGo, h, ho]
theorem tree_next {p : Option ByteArray} {f : Fl} {l : List Fl} (h : pathB f.1 = true) (ho : ∀ q, p = some q → leB f.1 q = false) : treeGo p (f :: l) = treeGo (some f.1) l := by
  cases p with
  | none => simp [treeGo, h]
  | some q => simp [treeGo, h, ho q rfl]
/-- Is the path's beginning before k a directory that is a file? -/
def nestI (S : List ByteArray) (p : ByteArray) (k : Nat) : Bool := decide (p.data.toList[k]? = some 47) && hasS (p.extract 0 k) S
def nestF (S : List ByteArray) (f : Fl) : Bool := (List.range f.1.size).any (nestI S f.1)
/-- tree.Check, of files of small data. -/
def treeC (l : List Fl) : Int := if 200 < l.length then 4 else if treeGo none l = 0 then (if l.any (nestF (l.map (·.1))) = true then 7 else 0) else treeGo none l
theorem range_any_succ {f : Nat → Bool} {k : Nat} (h : (List.range k).any f = false) (hk : f k = false) : (List.range (k + 1)).any f = false := by
  rw [List.range_succ, List.any_append, h]
  simp [hk]
theorem nest_byte {p : ByteArray} {k : Nat} (hk : k < p.size) (S : List ByteArray) : nestI S p k = (decide (p[k] = 47) && hasS (p.extract 0 k) S) := by
  unfold nestI
  rw [show p.data.toList[k]? = some (p[k]'hk) from List.getElem?_eq_getElem (show k < p.data.toList.length from hk)]
  simp
theorem byte47 (b : UInt8) : ((b.toNat : Int) == 47) = decide (b = 47) := by
  by_cases h : b = 47
  · subst h; rfl
  · have : b.toNat ≠ 47 := fun e => h (UInt8.toNat_inj.1 e)
    rw [decide_eq_false h]
    simp
    omega
theorem checkO_blob (s : ByteArray) : checkO (obB s) = 0 := by
  unfold checkO obB hasE hasC zeroB emptyB
  simp
theorem ObjA.blob (w : World) {s : ByteArray} (h : s.size ≤ maxLen) : ObjA w none 0 none 0 (obB s) := by
  constructor <;> first | rfl | exact Sl.nil | exact h | exact .inl rfl | (simp [obB, maxLen]; done) | exact Nat.zero_le _
set_option maxRecDepth 100000 in
set_option maxHeartbeats 1000000 in
theorem blob_any (s : ByteArray) (w : World) :
    Calls Tryz.prog 24 #[.string s] w fun e w' => e = .returned (.agg (ocells (obB s) none 0 0 none 0 0)) ∧ Below w.heap.size w w' := by
  go_enter Tryz.func24, Tryz.ntmps24
  go_wp2_with fail
  exact bodyPost_ret (v := .agg (ocells (obB s) none 0 0 none 0 0)) (by simp [results, Tryz.results24, go_sem, obB]) rfl ⟨rfl, ba _ _⟩
set_option maxRecDepth 100000 in
set_option maxHeartbeats 8000000 in
theorem treeCheck_any (l : List Fl) (n cap : Nat) (ao : Option Addr) (w : World) (h : FA w ao n cap l) (hd : ∀ f ∈ l, f.2.size ≤ 60000) :
    Calls Tryz.prog 12 #[.slice ao n cap] w fun e w' => e = .returned (.int .i64 (treeC l)) ∧ Below w.heap.size w w' := by
  have hmx : n ≤ 9223372036854775807 := Nat.le_trans h.le h.max
  by_cases h200 : 200 < n
  · have HV : Hid (treeC l = 4) := lid (by unfold treeC; rw [if_pos (by rw [h.len]; exact h200)])
    have d : decide ((200 : Int) < (n : Int)) = true := by simp; omega
    clear h h200
    go_enter Tryz.func12, Tryz.ntmps12
    go_wp2_with fail
    go_ret
    exact ⟨ret_int' HV.out.symm, Below.refl _ _⟩
  have HV : Hid (treeC l = if treeGo none l = 0 then (if l.any (nestF (l.map (·.1))) = true then 7 else 0) else treeGo none l) := lid (by unfold treeC; rw [if_neg (by rw [h.len]; exact h200)])
  have d : decide ((200 : Int) < (n : Int)) = false := by simp; omega
  have hn : n ≤ 200 := by omega
  have HN := lid h.len
  have HS := lid h.sl
  have HR := lid h.sz
  have HDA := lid hd
  clear h h200 hd
  have hmm := @run_makeMap Tryz.prog
  have HM := lid (World.ownsMap_made (H := Unit) w Tryz.prog 9 (plainElem Tryz.prog 4))
  go_enter Tryz.func12, Tryz.ntmps12
  go_wp2_with fail
  go_loopw [15] (fun i wr => ∃ (k : Nat) (p : Option ByteArray), k ≤ n ∧ i = .int .i64 k ∧ Hid (treeGo none l = treeGo p (l.drop k)) ∧ Hid (k = 0 ∧ p = none ∨ ∃ (j : Nat) (hj : j < l.length), k = j + 1 ∧ p = some (l[j]).1) ∧ Hid (OwnSet wr w.heap.size k ((l.take k).map (·.1))) ∧ Below w.heap.size w wr) (fun i _ => n - (intOf i).toNat)
  case atStart => exact ⟨0, none, Nat.zero_le _, rfl, lid rfl, lid (.inl ⟨rfl, rfl⟩), HM, ba _ _⟩
  case round =>
    obtain ⟨k, p, hk, rfl, HG, HP, HO, hb⟩ := hrel
    by_cases hlt : k < n
    · have hkl : k < l.length := by rw [HN.out]; exact hlt
      obtain ⟨b1, o1, rfl, hlb, hcell⟩ := (HS.out.below hb).at_ hlt
      have x0 := hcell (k * 2 + 0) _ (fcells_at hkl).1
      have x1 := hcell (k * 2 + 1) _ (fcells_at hkl).2
      rw [← Nat.add_assoc] at x1
      rw [Nat.add_zero] at x0
      have HD := lid (List.drop_eq_getElem_cons hkl)
      have HRS := lid (HR.out _ (List.getElem_mem hkl))
      have HDS := lid (HDA.out _ (List.getElem_mem hkl))
      have HK0 : Hid (∀ j (hj : j < l.length), wr.cell? ⟨b1, o1 + j * 2, none⟩ = some (.string (l[j]).1)) := lid (fun j hj => by have := hcell (j * 2 + 0) _ (fcells_at hj).1; rwa [Nat.add_zero] at this)
      have HT : Hid ((l.take (k + 1)).map (·.1) = (l.take k).map (·.1) ++ [(l[k]).1]) := lid (by rw [List.take_succ_eq_append_getElem hkl, List.map_append]; rfl)
      have dk : decide ((k : Int) < (n : Int)) = true := by simp; omega
      obtain ⟨x, hrk⟩ : ∃ r, l[k] = r := ⟨_, rfl⟩
      rw [hrk] at x0 x1 HD HRS HT HDS
      have HRK := lid hrk
      have HDT : Hid ((obB x.2).data.size ≤ 60000) := lid HDS.out
      clear hcell hrk
      go_wp2_with fail
      obtain ⟨W1, hW1⟩ : ∃ W1, wr.alloc (Obj.cells (fca x) 45) = W1 := ⟨_, rfl⟩
      have hb1 : Below wr.heap.size wr W1 := by rw [← hW1]; exact ba _ _
      have y0 : W1.cell? ⟨wr.heap.size, 0, none⟩ = some (.string x.1) := by rw [← hW1]; exact cell_new_at rfl _ _ _
      have y1 : W1.cell? ⟨wr.heap.size, 1, none⟩ = some (.string x.2) := by rw [← hW1]; exact cell_new_at rfl _ _ _
      have hlt1 : wr.heap.size < W1.heap.size := by rw [← hW1]; simp
      have hlb1 : b1 < W1.heap.size := by omega
      have HO1 : Hid (OwnSet W1 w.heap.size k ((l.take k).map (·.1))) := lid (by rw [← hW1]; exact HO.out.alloc _)
      rw [hW1]
      have hw1 := hb.trans (hb1.mono hb.size)
      clear hW1 x0 x1
      go_wp2_with fail
      (with_reducible refine (isPath_any x.1 _ HRS.out.1).mono ?_); rintro e w2 ⟨rfl, hb2⟩
      have y0' := (bc hb2 hlt1 _).trans y0
      have y1' := (bc hb2 hlt1 _).trans y1
      have hlt2 := Nat.lt_of_lt_of_le hlt1 hb2.size
      have hw2 := hw1.trans (hb2.mono hw1.size)
      have HO2 := lid (OwnSet.below HO1.out hb2)
      cases hB : pathB x.1 with
      | false =>
        have HX := lid (tree_name (f := x) (p := p) (l := l.drop (k + 1)) hB)
        clear hB
        go_wp2_with fail
        go_ret
        exact ⟨ret_int' (by rw [HV.out, HG.out, HD.out, HX.out]; rfl), hw2⟩
      | true =>
        have HB := lid hB
        clear hB y0 y1 HO1
        go_wp2_with fail
        (with_reducible refine (blob_any x.2 _).mono ?_); rintro e w3 ⟨rfl, hb3⟩
        go_wp2_with fail
        (with_reducible refine (objCheck_any (obB x.2) none none 0 0 0 0 _ (ObjA.blob _ HRS.out.2) (Nat.le_refl _) HDT.out).mono ?_); rintro e w4 ⟨rfl, hb4⟩
        rw [checkO_blob]
        have hb24 := hb3.trans (hb4.mono hb3.size)
        have z0 := (bc hb24 hlt2 _).trans y0'
        have hlt4 := Nat.lt_of_lt_of_le hlt2 hb24.size
        have hw4 := hw2.trans (hb24.mono hw2.size)
        have HO4 := lid (OwnSet.below HO2.out hb24)
        have hb14 := hb1.trans ((hb2.trans (hb24.mono hb2.size)).mono hb1.size)
        have hlb4 : b1 < w4.heap.size := by omega
        clear HO2 y0' y1' hb3 hb4
        rcases HP.out with ⟨rfl, rfl⟩ | ⟨j, hj, rfl, rfl⟩
        · have HX := lid (tree_next (f := x) (p := none) (l := l.drop (0 + 1)) HB.out (fun q h => by cases h))
          go_wp2_with fail
          refine wp_region_seq (fun w' => ∃ s : Since w4.heap.size w4, w' = s.world) [(0, true), (1, true), (2, true), (3, true), (4, true), (5, true), (6, true), (7, true), (8, true), (9, true), (10, true), (11, true), (12, true), (13, false)] (by kernel_rfl) (by kernel_rfl) (by intro c d v a w h; first | (cases d <;> exact h) | cases h.1) (since (Below.refl _ _).drew) ?_
          repeat (first | (refine seq_skip (by rfl) (by rfl) ?_; simp only [Act.put, List.setIfInBounds_toArray, List.set_cons_succ, List.set_cons_zero]) | (refine seq_float (by rfl) (by rfl) (by rfl) ?_; intro K hK; go_big_quiet_op; go_big_quiet_on))
          refine seq_chain (by rfl) ?_
          intro K hK
          go_wp2_with fail
          refine hK.out _ _ (since (Below.refl _ _).drew) ?_
          clear hK K
          repeat (first | (refine seq_skip (by rfl) (by rfl) ?_; simp only [Act.put, List.setIfInBounds_toArray, List.set_cons_succ, List.set_cons_zero]) | (refine seq_float (by rfl) (by rfl) (by rfl) ?_; intro K hK; go_big_quiet_op; go_big_quiet_on))
          refine seq_nil ?_
          go_wp2_with (at_mapUpdate; go_must (refine wpList_mapUpdate_own _ rfl _ _ _ 67 rfl 9 4 kstr Tryz.underlying67 (plainElem Tryz.prog 4) w.heap.size 0 _ rfl HO4.out.drew (by simp only [maxLen]; omega) _ _ (keyS x.1) rfl rfl (key_of HRS.out.1) (.lit (.bool true)) [] (plainElem_bool Tryz.underlying4 true) ?_))
          intro w5 hown5 hg5
          have HO5 : Hid (OwnSet w5 w.heap.size (0 + 1) ((l.take (0 + 1)).map (·.1))) := lid (by rw [HT.out, OwnSet, setD_snoc, List.map_take]; exact hown5)
          have hb5 := hw4.drew.grown hg5 (by have := hw4.size; show w.heap.size ≤ _; simpa using this) (fun j hj => by cases hj; exact Nat.le_refl _)
          clear hown5 hg5
          go_wp2_with fail
          go_roundw
          case rel => exact ⟨0 + 1, some x.1, by omega, by go_num, lid (by rw [HG.out, HD.out, HX.out]), lid (.inr ⟨0, hkl, rfl, by rw [HRK.out]⟩), HO5, hb5⟩
          case measure => simp [intOf]; omega
        · have z := (bc hb14 hlb _).trans (HK0.out j hj)
          obtain ⟨pt, hpt⟩ : ∃ pt, (l[j]).1 = pt := ⟨_, rfl⟩
          rw [hpt] at z HG
          have hj9 : j ≤ 1000000 := by omega
          have hjn : (j : Int) < n := by omega
          have hjn1 : (j : Int) + 1 < n := by omega
          have e0 : ((j + 1 : Nat) : Int) = (j : Int) + 1 := by omega
          have hpos : decide ((0 : Int) < (j : Int) + 1) = true := decide_eq_true (by omega)
          have wj : IntKind.i64.wrap (j : Int) = j := IntWalk.i64_in _ (by omega)
          have hjl : decide (j < n) = true := by simp; omega
          clear hpt
          cases ho : leB x.1 pt with
          | true =>
            have HX := lid (tree_order (f := x) (q := pt) (l := l.drop (j + 1 + 1)) HB.out ho)
            have hd : (Op.bytesLess x.1.toList pt.toList || x.1.toList == pt.toList) = true := ho
            clear ho
            go_wp2_with fail
            refine wp_region_seq (fun w' => ∃ s : Since w4.heap.size w4, w' = s.world) [(0, true), (1, true), (2, true), (3, true), (4, true), (5, true), (6, true), (7, true), (8, true), (9, true), (10, true), (11, true), (12, true), (13, false)] (by kernel_rfl) (by kernel_rfl) (by intro c d v a w h; first | (cases d <;> exact h) | cases h.1) (since (Below.refl _ _).drew) ?_
            repeat (first | (refine seq_skip (by rfl) (by rfl) ?_; simp only [Act.put, List.setIfInBounds_toArray, List.set_cons_succ, List.set_cons_zero]) | (refine seq_float (by rfl) (by rfl) (by rfl) ?_; intro K hK; go_big_quiet_op; go_big_quiet_on))
            refine seq_chain (by rfl) ?_
            intro K hK
            go_wp2_with fail
            refine hK.out _ _ (since (Below.refl _ _).drew) ?_
            clear hK K
            repeat (first | (refine seq_skip (by rfl) (by rfl) ?_; simp only [Act.put, List.setIfInBounds_toArray, List.set_cons_succ, List.set_cons_zero]) | (refine seq_float (by rfl) (by rfl) (by rfl) ?_; intro K hK; go_big_quiet_op; go_big_quiet_on))
            refine seq_nil ?_
            go_wp2_with fail
            go_ret
            exact ⟨ret_int' (by rw [HV.out, HG.out, HD.out, HX.out]; rfl), hw4.drew⟩
          | false =>
            have HX := lid (tree_next (f := x) (p := some pt) (l := l.drop (j + 1 + 1)) HB.out (fun q h => by cases h; exact ho))
            have hd : (Op.bytesLess x.1.toList pt.toList || x.1.toList == pt.toList) = false := ho
            clear ho
            go_wp2_with fail
            refine wp_region_seq (fun w' => ∃ s : Since w4.heap.size w4, w' = s.world) [(0, true), (1, true), (2, true), (3, true), (4, true), (5, true), (6, true), (7, true), (8, true), (9, true), (10, true), (11, true), (12, true), (13, false)] (by kernel_rfl) (by kernel_rfl) (by intro c d v a w h; first | (cases d <;> exact h) | cases h.1) (since (Below.refl _ _).drew) ?_
            repeat (first | (refine seq_skip (by rfl) (by rfl) ?_; simp only [Act.put, List.setIfInBounds_toArray, List.set_cons_succ, List.set_cons_zero]) | (refine seq_float (by rfl) (by rfl) (by rfl) ?_; intro K hK; go_big_quiet_op; go_big_quiet_on))
            refine seq_chain (by rfl) ?_
            intro K hK
            go_wp2_with fail
            refine hK.out _ _ (since (Below.refl _ _).drew) ?_
            clear hK K
            repeat (first | (refine seq_skip (by rfl) (by rfl) ?_; simp only [Act.put, List.setIfInBounds_toArray, List.set_cons_succ, List.set_cons_zero]) | (refine seq_float (by rfl) (by rfl) (by rfl) ?_; intro K hK; go_big_quiet_op; go_big_quiet_on))
            refine seq_nil ?_
            go_wp2_with (at_mapUpdate; go_must (refine wpList_mapUpdate_own _ rfl _ _ _ 67 rfl 9 4 kstr Tryz.underlying67 (plainElem Tryz.prog 4) w.heap.size (j + 1) _ rfl HO4.out.drew (by simp only [maxLen]; omega) _ _ (keyS x.1) rfl rfl (key_of HRS.out.1) (.lit (.bool true)) [] (plainElem_bool Tryz.underlying4 true) ?_))
            intro w5 hown5 hg5
            have HO5 : Hid (OwnSet w5 w.heap.size ((j + 1) + 1) ((l.take ((j + 1) + 1)).map (·.1))) := lid (by rw [HT.out, OwnSet, setD_snoc, List.map_take]; exact hown5)
            have hb5 := hw4.drew.grown hg5 (by have := hw4.size; show w.heap.size ≤ _; simpa using this) (fun j hj => by cases hj; exact Nat.le_refl _)
            clear hown5 hg5
            go_wp2_with fail
            go_roundw
            case rel => exact ⟨(j + 1) + 1, some x.1, by omega, by go_num, lid (by rw [HG.out, HD.out, HX.out]), lid (.inr ⟨(j + 1), hkl, rfl, by rw [HRK.out]⟩), HO5, hb5⟩
            case measure => simp [intOf]; omega
    · obtain rfl : k = n := by omega
      have HTK : Hid (l.take k = l) := lid (List.take_of_length_le (Nat.le_of_eq HN.out))
      have HGZ : Hid (treeGo none l = 0) := lid (by rw [HG.out, List.drop_of_length_le (Nat.le_of_eq HN.out)]; cases p <;> rfl)
      rw [HTK.out] at HO
      replace HV : Hid (treeC l = if l.any (nestF (l.map (·.1))) = true then 7 else 0) := lid (by rw [HV.out, if_pos HGZ.out])
      have dk : decide ((k : Int) < (k : Int)) = false := by simp
      clear HG HP HGZ HTK HM
      obtain ⟨w1, rfl⟩ : ∃ y, y = wr := ⟨_, rfl⟩
      go_wp2_with fail
      go_loopw [51] (fun i wr => ∃ (k2 : Nat), k2 ≤ k ∧ i = .int .i64 k2 ∧ Hid ((l.take k2).any (nestF (l.map (·.1))) = false) ∧ Hid (OwnSet wr w.heap.size k (l.map (·.1))) ∧ Below w.heap.size w wr) (fun i _ => k - (intOf i).toNat)
      case atStart => exact ⟨0, Nat.zero_le _, rfl, lid rfl, HO, hb⟩
      case round =>
        clear HO hb
        obtain ⟨i, hi, rfl, HT, HO, hb⟩ := hrel
        by_cases hlt : i < k
        · have hkl : i < l.length := by rw [HN.out]; exact hlt
          obtain ⟨b1, o1, rfl, hlb, hcell⟩ := (HS.out.below hb).at_ hlt
          have x0 := hcell (i * 2 + 0) _ (fcells_at hkl).1
          have x1 := hcell (i * 2 + 1) _ (fcells_at hkl).2
          rw [← Nat.add_assoc] at x1
          rw [Nat.add_zero] at x0
          have HRS := lid (HR.out _ (List.getElem_mem hkl))
          have HY : Hid (nestF (l.map (·.1)) l[i] = true → l.any (nestF (l.map (·.1))) = true) := lid (fun e => List.any_eq_true.2 ⟨l[i], List.getElem_mem hkl, e⟩)
          have HZ : Hid (nestF (l.map (·.1)) l[i] = false → (l.take (i + 1)).any (nestF (l.map (·.1))) = false) := lid (fun e => ftake_succ hkl HT.out e)
          have dk : decide ((i : Int) < (k : Int)) = true := by simp; omega
          obtain ⟨x, hrk⟩ : ∃ r, l[i] = r := ⟨_, rfl⟩
          rw [hrk] at x0 x1 HRS HY HZ
          have hsz : x.1.size ≤ 9223372036854775807 := HRS.out.1
          clear hcell hrk
          go_wp2_with fail
          obtain ⟨W1, hW1⟩ : ∃ W1, wr.alloc (Obj.cells (fca x) 45) = W1 := ⟨_, rfl⟩
          have hb1 : Below wr.heap.size wr W1 := by rw [← hW1]; exact ba _ _
          have y0 : W1.cell? ⟨wr.heap.size, 0, none⟩ = some (.string x.1) := by rw [← hW1]; exact cell_new_at rfl _ _ _
          have HO1 : Hid (OwnSet W1 w.heap.size k (l.map (·.1))) := lid (by rw [← hW1]; exact HO.out.alloc _)
          rw [hW1]
          have hw1 := hb.trans (hb1.mono hb.size)
          clear hW1 x0 x1 HO
          go_wp2_with fail
          go_loopw [58] (fun q wq => ∃ (m : Nat), m ≤ x.1.size ∧ q = .int .i64 m ∧ Hid ((List.range m).any (nestI (l.map (·.1)) x.1) = false) ∧ W1 = wq) (fun q _ => x.1.size - (intOf q).toNat)
          case atStart => exact ⟨0, Nat.zero_le _, rfl, lid rfl, rfl⟩
          case round =>
            obtain ⟨m, hm, rfl, HM2, rfl⟩ := hrel
            by_cases hml : m < x.1.size
            · have dm : decide ((m : Int) < (x.1.size : Int)) = true := by simp; omega
              have HB7 := lid (byte47 (x.1[m]'hml))
              have HNI := lid (nest_byte hml (l.map (·.1)))
              have HNX : Hid (nestI (l.map (·.1)) x.1 m = true → nestF (l.map (·.1)) x = true) := lid (fun e => List.any_eq_true.2 ⟨m, by simpa using hml, e⟩)
              have HNY : Hid (nestI (l.map (·.1)) x.1 m = false → (List.range (m + 1)).any (nestI (l.map (·.1)) x.1) = false) := lid (fun e => range_any_succ HM2.out e)
              have HL := lid (OwnSet.look HO1.out (x.1.extract 0 m) (by rw [ByteArray.size_extract]; have := HRS.out.1; omega))
              cases h7 : decide (x.1[m]'hml = 47) with
              | false =>
                rw [h7] at HB7 HNI
                have u7 := HB7.out
                have HE := lid (HNY.out (by rw [HNI.out]; rfl))
                clear h7
                go_wp2_with fail
                go_roundw
                case rel => exact ⟨m + 1, by omega, by go_num, HE, trivial⟩
                case measure => simp [intOf]; omega
              | true =>
                rw [h7] at HB7 HNI
                have u7 := HB7.out
                clear h7
                obtain ⟨q, hq⟩ : ∃ q, hasS (x.1.extract 0 m) (l.map (·.1)) = q := ⟨_, rfl⟩
                rw [hq] at HL HNI
                clear hq
                cases q with
                | false =>
                  have HE := lid (HNY.out (by rw [HNI.out]; rfl))
                  go_wp2_with (at_lookup; go_must (refine wpList_lookg _ (by rfl) _ _ 67 rfl _ _ _ rfl rfl HL.out ?_))
                  go_roundw
                  case rel => exact ⟨m + 1, by omega, by go_num, HE, trivial⟩
                  case measure => simp [intOf]; omega
                | true =>
                  have HE := lid (HY.out (HNX.out (by rw [HNI.out]; rfl)))
                  go_wp2_with (at_lookup; go_must (refine wpList_lookg _ (by rfl) _ _ 67 rfl _ _ _ rfl rfl HL.out ?_))
                  go_ret
                  exact ⟨ret_int' (by rw [HV.out, HE.out]; rfl), hw1⟩
            · obtain rfl : m = x.1.size := by omega
              have dm : decide ((x.1.size : Int) < (x.1.size : Int)) = false := by simp
              have HE := lid (HZ.out HM2.out)
              go_wp2_with fail
              go_roundw
              case rel => exact ⟨i + 1, by omega, by go_num, HE, HO1, hw1⟩
              case measure => simp [intOf]; omega
        · obtain rfl : i = k := by omega
          have dk : decide ((i : Int) < (i : Int)) = false := by simp
          have HE : Hid (l.any (nestF (l.map (·.1))) = false) := lid (by have := HT.out; rwa [List.take_of_length_le (Nat.le_of_eq HN.out)] at this)
          go_wp2_with fail
          go_ret
          exact ⟨ret_int' (by rw [HV.out, HE.out]; rfl), hb⟩
end Go.Proofs.YtphjillihapbfaaGreatDoor
