/-
  approval.rulesOnly, owners.Groups.
-/
import Derived.Test.YtefehgdckmajiaaGreatDoorOwnReq
namespace Go.Proofs.YtefehgdckmajiaaGreatDoor
open Go.RowKit
/-- Is it the path of an owners file (as approval asks it)? -/
def onlyP (p : ByteArray) : Bool := decide (6 ≤ p.size) && (decide (p.extract (p.size - 6) p.size = ownB) && (decide (p.size = 6) || decide (p.data.toList.getD (p.size - 7) 0 = 47)))
def rulesO (l : List Fl) : List Fl := l.filter fun f => onlyP f.1
theorem info_fl : (Tryz.prog.info? 27).map (fun i => (i.zero, i.size, i.bytes)) = some (some (.agg #[.string ⟨#[]⟩, .string ⟨#[]⟩]), 2, 32) := by kernel_rfl
theorem rulesO_take {l : List Fl} {k : Nat} (h : k < l.length) : rulesO (l.take (k + 1)) = rulesO (l.take k) ++ (if onlyP l[k].1 = true then [l[k]] else []) := by
  unfold rulesO
  rw [List.take_succ_eq_append_getElem h, List.filter_append]
  congr 1
  cases h2 : onlyP l[k].1 <;> simp [h2]
theorem rulesO_mem {l : List Fl} {f : Fl} (h : f ∈ rulesO l) : f ∈ l := (List.mem_filter.1 h).1
theorem rulesO_len {l : List Fl} : (rulesO l).length ≤ l.length := List.length_filter_le _ _
set_option maxRecDepth 100000 in
set_option maxHeartbeats 8000000 in
theorem rulesOnly_any (l : List Fl) (n cap : Nat) (ao : Option Addr) (w : World) (h : FA w ao n cap l) (hn : n ≤ 100000) :
    Calls Tryz.prog 22 #[.slice ao n cap] w fun e w' => ∃ v : SV, e = .returned (slv v) ∧ Below w.heap.size w w' ∧ FA w' v.1 v.2.1 v.2.2 (rulesO l) := by
  have HN : Hid (l.length = n) := lid h.len
  have HS : Hid (Sl w 2 ao n (fcells l)) := lid h.sl
  have HRW := lid h.sz
  have hn9 : n ≤ 9223372036854775807 := by omega
  have hcap : n ≤ cap := h.le
  clear h
  go_enter Tryz.func22, Tryz.ntmps22
  go_wp2_with fail
  go_loopw [3, 9] (fun v3 u9 wr => ∃ (k : Nat) (q : SV), k ≤ n ∧ u9 = .int .i64 k ∧ v3 = slv q ∧ Hid (wr.ownsRow w.heap.size 27 2 (slv q) (rulesO (l.take k)).length (fcells (rulesO (l.take k)))) ∧ Below w.heap.size w wr) (fun _ u9 _ => n - (intOf u9).toNat)
  case atStart => exact ⟨0, nv, Nat.zero_le _, rfl, rfl, lid (World.ownsRow_nil _ _ _ _), Below.refl _ _⟩
  case round =>
    obtain ⟨k, ⟨aq, nq, cq⟩, hk, rfl, rfl, HO, hb⟩ := hrel
    by_cases hlt : k < n
    · have hkl : k < l.length := by rw [HN.out]; exact hlt
      obtain ⟨b1, o1, rfl, hlb, hcell⟩ := (HS.out.below hb).at_ hlt
      have x0 := hcell (k * 2 + 0) _ (fcells_at hkl).1
      have x1 := hcell (k * 2 + 1) _ (fcells_at hkl).2
      rw [← Nat.add_assoc] at x1
      rw [Nat.add_zero] at x0
      have HT := lid (rulesO_take hkl)
      have HSZ := lid (HRW.out _ (List.getElem_mem hkl))
      have HLL : Hid ((rulesO (l.take k)).length ≤ 100000) := lid (by have := rulesO_len (l := l.take k); have e : (l.take k).length ≤ k := List.length_take_le _ _; omega)
      have dk : decide ((k : Int) < (n : Int)) = true := by simp; omega
      obtain ⟨⟨p, d⟩, hv⟩ : ∃ v, l[k] = v := ⟨_, rfl⟩
      rw [hv] at x0 x1 HT HSZ
      replace x0 : wr.cell? ⟨b1, o1 + k * 2, none⟩ = some (Value.string p) := x0
      replace x1 : wr.cell? ⟨b1, o1 + k * 2 + 1, none⟩ = some (Value.string d) := x1
      have hp63 : p.size ≤ 9223372036854775807 := HSZ.out.1
      have hbs := hb.size
      clear hcell hv
      by_cases h6 : p.size < 6
      · have d6 : decide ((0 : Int) ≤ (p.size : Int) - 6) = false := by simp; omega
        have HI : Hid (onlyP p = false) := lid (by unfold onlyP; rw [decide_eq_false (by omega)]; rfl)
        go_wp2_with fail
        obtain ⟨W1, hW1⟩ : ∃ W1, wr.alloc (Obj.cells #[.string p, .string d] 27) = W1 := ⟨_, rfl⟩
        have hb1 : Below wr.heap.size wr W1 := by rw [← hW1]; exact ba _ _
        have hR : W1.heap[wr.heap.size]? = some (.cells #[.string p, .string d] 27 (0, 0)) := by rw [← hW1]; exact h_new rfl _
        have HO1 := lid (ownsRow_below HO.out hb1)
        rw [hW1]
        have y0 := row_cell hR 0
        have y1 := row_cell hR 1
        have lR := row_lt hR
        have hw1 := hb.trans (hb1.mono hb.size)
        have hbs1 : w.heap.size ≤ W1.heap.size := hw1.size
        clear hW1 x0 x1 hR HO hb1
        have HO2 : Hid (W1.ownsRow w.heap.size 27 2 (slv (aq, nq, cq)) (rulesO (l.take (k + 1))).length (fcells (rulesO (l.take (k + 1))))) := lid (by rw [HT.out, if_neg (by rw [HI.out]; decide), List.append_nil]; exact HO1.out)
        go_wp2_with fail
        go_roundw
        case rel => exact ⟨k + 1, (aq, nq, cq), by omega, by go_num, rfl, HO2, hw1⟩
        case measure => simp [intOf]; omega
      obtain ⟨m, hm⟩ : ∃ m, p.size = m + 6 := ⟨p.size - 6, by omega⟩
      have e6 : (p.size : Int) - 6 = (m : Int) := by omega
      have d6 : decide ((0 : Int) ≤ (m : Int)) = true := by simp
      have hm6 : m ≤ p.size := by omega
      have e0 : p.size - 6 = m := by omega
      have HM := lid hm
      clear hm h6
      by_cases hx : p.extract m p.size = ownB
      · have ux := str_eq hx
        rw [ownB_list] at ux
        by_cases hm0 : m = 0
        · subst hm0
          have ux0 : (p.toList == [79, 87, 78, 69, 82, 83]) = true := by simpa using ux
          have HI : Hid (onlyP p = true) := lid (by unfold onlyP; rw [decide_eq_true (by have := HM.out; omega), e0, decide_eq_true hx, decide_eq_true (by have := HM.out; omega)]; rfl)
          clear hx e0
          have HO1 : Hid ((wr.alloc (Obj.cells #[.string p, .string d] 27)).ownsRow w.heap.size 27 2 (slv (aq, nq, cq)) (rulesO (l.take k)).length (fcells (rulesO (l.take k)))) := lid (HO.out.alloc _)
          have hbs1 : w.heap.size ≤ (wr.alloc (Obj.cells #[.string p, .string d] 27)).heap.size := by simp; omega
          go_wp2_with (at_builtin; go_must (refine wpList_append_new (w := wr.alloc (Obj.cells #[.string p, .string d] 27)) (fca (p, d)) rfl _ _ 22 rfl w.heap.size 27 (.agg #[.string ⟨#[]⟩, .string ⟨#[]⟩]) 2 32 info_fl Tryz.underlying22 rfl (by decide) (slv (aq, nq, cq)) (rulesO (l.take k)).length _ HO1.out rfl (by simp [Act.eval]) rfl (by intro u hu; exact fcells_one [(p, d)] u (by simpa [fcells] using hu)) (by have := HLL.out; simp only [maxLen]; omega) (by have := HLL.out; omega) hbs1 ?_))
          intro v9 w9 own9 hb9 _
          obtain ⟨a9, c9, rfl⟩ := slv_of own9
          have HO2 : Hid (w9.ownsRow w.heap.size 27 2 (slv (a9, (rulesO (l.take k)).length + 1, c9)) (rulesO (l.take (k + 1))).length (fcells (rulesO (l.take (k + 1))))) := lid (by rw [HT.out, if_pos HI.out, List.length_append, fcells_append]; exact own9)
          have hw9 := hb.trans (((ba wr (Obj.cells #[.string p, .string d] 27)).mono hb.size).trans hb9)
          clear own9 hb9
          go_wp2_with fail
          go_roundw
          case rel => exact ⟨k + 1, (a9, (rulesO (l.take k)).length + 1, c9), by omega, by go_num, rfl, HO2, hw9⟩
          case measure => simp [intOf]; omega
        · obtain ⟨q, rfl⟩ : ∃ q, m = q + 1 := ⟨m - 1, by omega⟩
          have u0 : (((q + 1 : Nat) : Int) == 0) = false := by simp; omega
          have e1 : ((q + 1 : Nat) : Int) - 1 = (q : Int) := by omega
          have hq : q < p.size := by omega
          have HGD : Hid (p.data.toList.getD (p.size - 7) 0 = p[q]) := lid (by
            rw [show p.size - 7 = q by have := HM.out; omega, List.getD_eq_getElem?_getD, List.getElem?_eq_getElem (show q < p.data.toList.length from hq)]
            rfl)
          by_cases h47 : p[q] = 47
          · have u7 : ((p[q].toNat : Int) == 47) = true := by rw [h47]; rfl
            have HI : Hid (onlyP p = true) := lid (by unfold onlyP; rw [decide_eq_true (by have := HM.out; omega), e0, decide_eq_true hx, HGD.out, decide_eq_true h47]; simp)
            clear hx e0 h47 hm0
            have HO1 : Hid ((wr.alloc (Obj.cells #[.string p, .string d] 27)).ownsRow w.heap.size 27 2 (slv (aq, nq, cq)) (rulesO (l.take k)).length (fcells (rulesO (l.take k)))) := lid (HO.out.alloc _)
            have hbs1 : w.heap.size ≤ (wr.alloc (Obj.cells #[.string p, .string d] 27)).heap.size := by simp; omega
            go_wp2_with (at_builtin; go_must (refine wpList_append_new (w := wr.alloc (Obj.cells #[.string p, .string d] 27)) (fca (p, d)) rfl _ _ 22 rfl w.heap.size 27 (.agg #[.string ⟨#[]⟩, .string ⟨#[]⟩]) 2 32 info_fl Tryz.underlying22 rfl (by decide) (slv (aq, nq, cq)) (rulesO (l.take k)).length _ HO1.out rfl (by simp [Act.eval]) rfl (by intro u hu; exact fcells_one [(p, d)] u (by simpa [fcells] using hu)) (by have := HLL.out; simp only [maxLen]; omega) (by have := HLL.out; omega) hbs1 ?_))
            intro v9 w9 own9 hb9 _
            obtain ⟨a9, c9, rfl⟩ := slv_of own9
            have HO2 : Hid (w9.ownsRow w.heap.size 27 2 (slv (a9, (rulesO (l.take k)).length + 1, c9)) (rulesO (l.take (k + 1))).length (fcells (rulesO (l.take (k + 1))))) := lid (by rw [HT.out, if_pos HI.out, List.length_append, fcells_append]; exact own9)
            have hw9 := hb.trans (((ba wr (Obj.cells #[.string p, .string d] 27)).mono hb.size).trans hb9)
            clear own9 hb9
            go_wp2_with fail
            go_roundw
            case rel => exact ⟨k + 1, (a9, (rulesO (l.take k)).length + 1, c9), by omega, by go_num, rfl, HO2, hw9⟩
            case measure => simp [intOf]; omega
          · have u7 : ((p[q].toNat : Int) == 47) = false := by rw [show ((47 : Int)) = ((47 : UInt8).toNat : Int) from rfl, byte_eq, decide_eq_false h47]
            have HI : Hid (onlyP p = false) := lid (by unfold onlyP; rw [decide_eq_true (by have := HM.out; omega), e0, decide_eq_true hx, HGD.out, decide_eq_false h47, decide_eq_false (by have := HM.out; omega)]; rfl)
            clear hx e0 h47 hm0
            go_wp2_with fail
            obtain ⟨W1, hW1⟩ : ∃ W1, wr.alloc (Obj.cells #[.string p, .string d] 27) = W1 := ⟨_, rfl⟩
            have hb1 : Below wr.heap.size wr W1 := by rw [← hW1]; exact ba _ _
            have hR : W1.heap[wr.heap.size]? = some (.cells #[.string p, .string d] 27 (0, 0)) := by rw [← hW1]; exact h_new rfl _
            have HO1 := lid (ownsRow_below HO.out hb1)
            rw [hW1]
            have y0 := row_cell hR 0
            have y1 := row_cell hR 1
            have lR := row_lt hR
            have hw1 := hb.trans (hb1.mono hb.size)
            have hbs1 : w.heap.size ≤ W1.heap.size := hw1.size
            clear hW1 x0 x1 hR HO hb1
            have HO2 : Hid (W1.ownsRow w.heap.size 27 2 (slv (aq, nq, cq)) (rulesO (l.take (k + 1))).length (fcells (rulesO (l.take (k + 1))))) := lid (by rw [HT.out, if_neg (by rw [HI.out]; decide), List.append_nil]; exact HO1.out)
            go_wp2_with fail
            go_roundw
            case rel => exact ⟨k + 1, (aq, nq, cq), by omega, by go_num, rfl, HO2, hw1⟩
            case measure => simp [intOf]; omega
      · have ux := str_ne hx
        rw [ownB_list] at ux
        have HI : Hid (onlyP p = false) := lid (by unfold onlyP; rw [e0, decide_eq_false hx]; simp)
        clear hx e0
        go_wp2_with fail
        obtain ⟨W1, hW1⟩ : ∃ W1, wr.alloc (Obj.cells #[.string p, .string d] 27) = W1 := ⟨_, rfl⟩
        have hb1 : Below wr.heap.size wr W1 := by rw [← hW1]; exact ba _ _
        have hR : W1.heap[wr.heap.size]? = some (.cells #[.string p, .string d] 27 (0, 0)) := by rw [← hW1]; exact h_new rfl _
        have HO1 := lid (ownsRow_below HO.out hb1)
        rw [hW1]
        have y0 := row_cell hR 0
        have y1 := row_cell hR 1
        have lR := row_lt hR
        have hw1 := hb.trans (hb1.mono hb.size)
        have hbs1 : w.heap.size ≤ W1.heap.size := hw1.size
        clear hW1 x0 x1 hR HO hb1
        have HO2 : Hid (W1.ownsRow w.heap.size 27 2 (slv (aq, nq, cq)) (rulesO (l.take (k + 1))).length (fcells (rulesO (l.take (k + 1))))) := lid (by rw [HT.out, if_neg (by rw [HI.out]; decide), List.append_nil]; exact HO1.out)
        go_wp2_with fail
        go_roundw
        case rel => exact ⟨k + 1, (aq, nq, cq), by omega, by go_num, rfl, HO2, hw1⟩
        case measure => simp [intOf]; omega
    · obtain rfl : k = n := by omega
      have dk : decide ((k : Int) < (k : Int)) = false := by simp
      have HX : Hid (rulesO (l.take k) = rulesO l) := lid (by rw [List.take_of_length_le (Nat.le_of_eq HN.out)])
      rw [HX.out] at HO
      have HF : Hid (FA wr aq nq cq (rulesO l)) := lid (by
        obtain ⟨h1, h2⟩ := SlC.of_own (c := fun _ => True) HO.out (fun _ _ => trivial)
        exact ⟨h2.symm, h1.sl, h1.le, h1.max, h1.z, fun f hf => HRW.out f (rulesO_mem hf)⟩)
      go_wp2_with fail
      go_ret
      exact ⟨(aq, nq, cq), rfl, hb, HF.out⟩
end Go.Proofs.YtefehgdckmajiaaGreatDoor
