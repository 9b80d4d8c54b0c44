/-
  owners.rulesOf.
-/
import Derived.Test.YtefehgdckmajiaaGreatDoorRdParse
import Derived.Test.YtefehgdckmajiaaGreatDoorOwnMap
import Derived.Test.YtefehgdckmajiaaGreatDoorOwnLast
namespace Go.Proofs.YtefehgdckmajiaaGreatDoor
open Go.RowKit
def ownB : ByteArray := ⟨#[79, 87, 78, 69, 82, 83]⟩
theorem ownB_list : ownB.toList = [79, 87, 78, 69, 82, 83] := by rw [ByteArray.toList_eq]; rfl
/-- Is it the path of an owners file? -/
def isOwn (p : ByteArray) : Bool := decide (p = ownB) || Lib.hasSuffix p.data.toList [47, 79, 87, 78, 69, 82, 83]
def ruleE (f : Fl) : List (ByteArray × List Rl) := if isOwn f.1 = true then (match parseF f.2 with | some l => [(f.1, l)] | none => []) else []
/-- The rules of the owners files. -/
def rulesF (l : List Fl) : List (ByteArray × List Rl) := l.flatMap ruleE
theorem rulesF_take {l : List Fl} {k : Nat} (h : k < l.length) : rulesF (l.take (k + 1)) = rulesF (l.take k) ++ ruleE l[k] := by
  rw [rulesF, List.take_succ_eq_append_getElem h, List.flatMap_append]
  simp [rulesF]
theorem ruleE_not {f : Fl} (h : isOwn f.1 = false) : ruleE f = [] := by simp [ruleE, h]
theorem ruleE_bad {f : Fl} (h : parseF f.2 = none) : ruleE f = [] := by unfold ruleE; rw [h]; split <;> rfl
theorem ruleE_ok {f : Fl} {l : List Rl} (h : isOwn f.1 = true) (hp : parseF f.2 = some l) : ruleE f = [(f.1, l)] := by simp [ruleE, h, hp]
theorem OwnMap.new {c : Nat → Prop} {w : World} {b n : Nat} (h : w.ownsMap Tryz.prog 9 heldR b n (.map [] : DataW Value)) : OwnMap c w b n [] := ⟨[], rfl, h, fun t ht => by cases ht⟩
theorem OwnMap.mono {c c' : Nat → Prop} {w : World} {b n : Nat} {R : List (ByteArray × List Rl)} (h : OwnMap c w b n R) (hc : ∀ k, c k → c' k) : OwnMap c' w b n R := by
  obtain ⟨T, h1, h2, h3⟩ := h
  exact ⟨T, h1, h2, fun t ht => (h3 t ht).mono hc⟩
theorem OwnMap.mapped {c : Nat → Prop} {w : World} {b n : Nat} {R : List (ByteArray × List Rl)} (h : OwnMap c w b n R) : ∃ o : Obj, w.heap[b]? = some o ∧ o.isCells = false := by
  obtain ⟨T, _, ⟨es, clock, hb, _⟩, _⟩ := h
  exact ⟨_, hb, rfl⟩
theorem OwnMap.more {c : Nat → Prop} {w : World} {b n m : Nat} {R : List (ByteArray × List Rl)} (h : OwnMap c w b n R) (hm : n ≤ m) : OwnMap c w b m R := by
  obtain ⟨T, h1, ⟨es, clock, h2, h3, h4, h5⟩, h6⟩ := h
  exact ⟨T, h1, ⟨es, clock, h2, h3, Nat.le_trans h4 hm, h5⟩, h6⟩
set_option maxRecDepth 100000 in
set_option maxHeartbeats 8000000 in
theorem rulesOf_any (l : List Fl) (n cap : Nat) (ao : Option Addr) (w : World) (h : FA w ao n cap l) (hd : ∀ f ∈ l, f.2.size ≤ 60000) (hn : n ≤ 100000) :
    Calls Tryz.prog 25 #[.slice ao n cap] w fun e w' => e = .returned (.map (some w.heap.size)) ∧ Below w.heap.size w w' ∧ OwnMap (fun k => w.heap.size ≤ k ∧ k < w'.heap.size) w' w.heap.size n (rulesF l) := by
  have HN : Hid (l.length = n) := lid h.len
  have HS : Hid (Sl w 2 ao n (fcells l)) := lid h.sl
  have HRW := lid h.sz
  have HD := lid hd
  have hn9 : n ≤ 9223372036854775807 := by omega
  have hcap : n ≤ cap := h.le
  clear h hd
  have hmm := @run_makeMap Tryz.prog
  have HM := lid (World.ownsMap_made (H := Value) w Tryz.prog 9 heldR)
  go_enter Tryz.func25, Tryz.ntmps25
  go_wp2_with fail
  go_loopw [12] (fun i wr => ∃ k : Nat, k ≤ n ∧ i = .int .i64 k ∧ Hid (OwnMap (fun k => w.heap.size ≤ k ∧ k < wr.heap.size) wr w.heap.size k (rulesF (l.take k))) ∧ Below w.heap.size w wr) (fun i _ => n - (intOf i).toNat)
  case atStart => exact ⟨0, Nat.zero_le _, rfl, OwnMap.new HM.out, ba _ _⟩
  case round =>
    obtain ⟨k, hk, rfl, HO, hb⟩ := hrel
    by_cases hlt : k < n
    · have hkl : k < l.length := by rw [HN.out]; exact hlt
      obtain ⟨b1, o1, rfl, hlb, hcell⟩ := (HS.out.below hb).at_ hlt
      have x0 := hcell (k * 2 + 0) _ (fcells_at hkl).1
      have x1 := hcell (k * 2 + 1) _ (fcells_at hkl).2
      rw [← Nat.add_assoc] at x1
      rw [Nat.add_zero] at x0
      have HT := lid (rulesF_take hkl)
      have HSZ := lid (HRW.out _ (List.getElem_mem hkl))
      have HDZ := lid (HD.out _ (List.getElem_mem hkl))
      have dk : decide ((k : Int) < (n : Int)) = true := by simp; omega
      obtain ⟨⟨p, d⟩, hv⟩ : ∃ v, l[k] = v := ⟨_, rfl⟩
      rw [hv] at x0 x1 HT HSZ HDZ
      replace x0 : wr.cell? ⟨b1, o1 + k * 2, none⟩ = some (Value.string p) := x0
      replace x1 : wr.cell? ⟨b1, o1 + k * 2 + 1, none⟩ = some (Value.string d) := x1
      have hp63 : p.size ≤ 9223372036854775807 := HSZ.out.1
      have CS := lid (fun w1 => strings_HasSuffix p ⟨#[47, 79, 87, 78, 69, 82, 83]⟩ w1 hp63)
      clear hcell hv
      by_cases hp : p = ownB
      · have u0 := str_eq hp
        rw [ownB_list] at u0
        have HI : Hid (isOwn p = true) := lid (by unfold isOwn; simp [hp])
        clear hp
        go_wp2_with fail
        obtain ⟨W1, hW1⟩ : ∃ W1, wr.alloc (Obj.cells #[.string p, .string d] 27) = W1 := ⟨_, rfl⟩
        have hb1 : Below wr.heap.size wr W1 := by rw [← hW1]; exact ba _ _
        have hR : W1.heap[wr.heap.size]? = some (.cells #[.string p, .string d] 27 (0, 0)) := by rw [← hW1]; exact h_new rfl _
        have HO1 := lid (OwnMap.below HO.out hb1)
        rw [hW1]
        have y0 := row_cell hR 0
        have y1 := row_cell hR 1
        have lR := row_lt hR
        have hw1 := hb.trans (hb1.mono hb.size)
        have CC := lid (Parse_any d W1 HDZ.out)
        clear hW1 x0 x1 hR HO
        (with_reducible refine (CC.out).mono ?_); rintro e w5 ⟨v, m, x, rfl, hb5, hout⟩
        have y05 := (bc hb5 lR _).trans y0
        have lR5 := Nat.lt_of_lt_of_le lR hb5.size
        have hw5 := hw1.trans (hb5.mono hw1.size)
        have HO5 := lid (OwnMap.below HO1.out hb5)
        have h15 : w.heap.size ≤ W1.heap.size := hw1.size
        clear y0 y1 lR
        rcases hout with ⟨rfl, rl, hpf, hrs⟩ | ⟨hx, hpf⟩
        · have HE : Hid (rulesF (l.take (k + 1)) = rulesF (l.take k) ++ [(p, rl)]) := lid (by rw [HT.out, ruleE_ok HI.out hpf])
          have HRS : Hid (RS (fun k => w.heap.size ≤ k ∧ k < w5.heap.size) w5 v rl) := lid (hrs.mono fun q hq => ⟨Nat.le_trans h15 hq.1, hq.2⟩)
          have h55 : wr.heap.size ≤ w5.heap.size := Nat.le_trans hb1.size hb5.size
          obtain ⟨o6, ho6, hc6⟩ := HO5.out.mapped
          have HOB : Hid (∃ o : Obj, w5.heap[w.heap.size]? = some o ∧ o.isCells = false) := lid ⟨o6, ho6, hc6⟩
          obtain ⟨T, hT1, hT2, hT3⟩ := HO5.out
          have HT1 := lid hT1
          have HT2 := lid hT2
          have HT3 := lid hT3
          clear hpf hrs hT1 hT2 hT3 ho6 hc6 HO5
          go_wp2_with (at_mapUpdate; go_must (refine wpList_mapUpdate_own _ rfl _ _ _ 65 rfl 9 92 kstr Tryz.underlying65 heldR w.heap.size k _ rfl HT2.out (by simp only [maxLen]; omega) _ _ (keyS p) rfl rfl (key_of HSZ.out.1) (.held (slv v)) [] rfl ?_))
          intro w6 hown6 hg6
          have HO6 : Hid (OwnMap (fun k => w.heap.size ≤ k ∧ k < w6.heap.size) w6 w.heap.size (k + 1) (rulesF (l.take (k + 1)))) := lid (by
            have h66 := hg6.size
            have hk6 : KeepS (fun k => w.heap.size ≤ k ∧ k < w6.heap.size) w5 w6 := KeepS.grown hg6 (fun r e => by cases e; exact HOB.out)
            refine ⟨T ++ [(p, v, rl)], by rw [HE.out, List.map_append, HT1.out]; rfl, by rw [mapD_snoc]; exact hown6, fun t ht => ?_⟩
            rcases List.mem_append.1 ht with ht | ht
            · exact ((HT3.out t ht).mono fun q hq => ⟨hq.1, Nat.lt_of_lt_of_le hq.2 (Nat.le_trans h55 h66)⟩).keepS hk6
            · simp only [List.mem_singleton] at ht
              subst ht
              exact (HRS.out.mono fun q hq => ⟨hq.1, Nat.lt_of_lt_of_le hq.2 h66⟩).keepS hk6)
          have hw6 := hw5.grown hg6 hw5.size (fun j hj => by cases hj; exact Nat.le_refl _)
          clear hown6 hg6 hw5 y05
          go_wp2_with fail
          go_roundw
          case rel => exact ⟨k + 1, by omega, by go_num, HO6, hw6⟩
          case measure => simp [intOf]; omega
        · have u : (x == 0) = false := by simpa using hx
          have HO6 : Hid (OwnMap (fun k => w.heap.size ≤ k ∧ k < w5.heap.size) w5 w.heap.size (k + 1) (rulesF (l.take (k + 1)))) := lid (by rw [HT.out, ruleE_bad hpf, List.append_nil]; exact (HO5.out.more (Nat.le_succ _)).mono fun q hq => ⟨hq.1, Nat.lt_of_lt_of_le hq.2 (Nat.le_trans hb1.size hb5.size)⟩)
          clear hx hpf HO5
          go_wp2_with fail
          go_roundw
          case rel => exact ⟨k + 1, by omega, by go_num, HO6, hw5⟩
          case measure => simp [intOf]; omega
      · have u0 := str_ne hp
        rw [ownB_list] at u0
        have HI0 : Hid (isOwn p = Lib.hasSuffix p.data.toList [47, 79, 87, 78, 69, 82, 83]) := lid (by unfold isOwn; simp [hp])
        clear hp
        go_wp2_with fail
        obtain ⟨W1, hW1⟩ : ∃ W1, wr.alloc (Obj.cells #[.string p, .string d] 27) = W1 := ⟨_, rfl⟩
        have hb1 : Below wr.heap.size wr W1 := by rw [← hW1]; exact ba _ _
        have hR : W1.heap[wr.heap.size]? = some (.cells #[.string p, .string d] 27 (0, 0)) := by rw [← hW1]; exact h_new rfl _
        have HO1 := lid (OwnMap.below HO.out hb1)
        rw [hW1]
        have y0 := row_cell hR 0
        have y1 := row_cell hR 1
        have lR := row_lt hR
        have hw1 := hb.trans (hb1.mono hb.size)
        have CC := lid (Parse_any d W1 HDZ.out)
        clear hW1 x0 x1 hR HO
        (with_reducible refine (CS.out _).mono ?_); rintro e w2 ⟨rfl, rfl⟩
        obtain ⟨q, hq⟩ : ∃ q, Lib.hasSuffix p.data.toList [47, 79, 87, 78, 69, 82, 83] = q := ⟨_, rfl⟩
        rw [hq] at HI0 ⊢
        clear hq
        cases q with
        | false =>
          have HO6 : Hid (OwnMap (fun k => w.heap.size ≤ k ∧ k < w2.heap.size) w2 w.heap.size (k + 1) (rulesF (l.take (k + 1)))) := lid (by rw [HT.out, ruleE_not HI0.out, List.append_nil]; exact (HO1.out.more (Nat.le_succ _)).mono fun q hq => ⟨hq.1, Nat.lt_of_lt_of_le hq.2 hb1.size⟩)
          go_wp2_with fail
          go_roundw
          case rel => exact ⟨k + 1, by omega, by go_num, HO6, hw1⟩
          case measure => simp [intOf]; omega
        | true =>
          have HI := HI0
          go_wp2_with fail
          (with_reducible refine (CC.out).mono ?_); rintro e w5 ⟨v, m, x, rfl, hb5, hout⟩
          have y05 := (bc hb5 lR _).trans y0
          have lR5 := Nat.lt_of_lt_of_le lR hb5.size
          have hw5 := hw1.trans (hb5.mono hw1.size)
          have HO5 := lid (OwnMap.below HO1.out hb5)
          have h15 : w.heap.size ≤ w2.heap.size := hw1.size
          clear y0 y1 lR
          rcases hout with ⟨rfl, rl, hpf, hrs⟩ | ⟨hx, hpf⟩
          · have HE : Hid (rulesF (l.take (k + 1)) = rulesF (l.take k) ++ [(p, rl)]) := lid (by rw [HT.out, ruleE_ok HI.out hpf])
            have HRS : Hid (RS (fun k => w.heap.size ≤ k ∧ k < w5.heap.size) w5 v rl) := lid (hrs.mono fun q hq => ⟨Nat.le_trans h15 hq.1, hq.2⟩)
            have h55 : wr.heap.size ≤ w5.heap.size := Nat.le_trans hb1.size hb5.size
            obtain ⟨o6, ho6, hc6⟩ := HO5.out.mapped
            have HOB : Hid (∃ o : Obj, w5.heap[w.heap.size]? = some o ∧ o.isCells = false) := lid ⟨o6, ho6, hc6⟩
            obtain ⟨T, hT1, hT2, hT3⟩ := HO5.out
            have HT1 := lid hT1
            have HT2 := lid hT2
            have HT3 := lid hT3
            clear hpf hrs hT1 hT2 hT3 ho6 hc6 HO5
            go_wp2_with (at_mapUpdate; go_must (refine wpList_mapUpdate_own _ rfl _ _ _ 65 rfl 9 92 kstr Tryz.underlying65 heldR w.heap.size k _ rfl HT2.out (by simp only [maxLen]; omega) _ _ (keyS p) rfl rfl (key_of HSZ.out.1) (.held (slv v)) [] rfl ?_))
            intro w6 hown6 hg6
            have HO6 : Hid (OwnMap (fun k => w.heap.size ≤ k ∧ k < w6.heap.size) w6 w.heap.size (k + 1) (rulesF (l.take (k + 1)))) := lid (by
              have h66 := hg6.size
              have hk6 : KeepS (fun k => w.heap.size ≤ k ∧ k < w6.heap.size) w5 w6 := KeepS.grown hg6 (fun r e => by cases e; exact HOB.out)
              refine ⟨T ++ [(p, v, rl)], by rw [HE.out, List.map_append, HT1.out]; rfl, by rw [mapD_snoc]; exact hown6, fun t ht => ?_⟩
              rcases List.mem_append.1 ht with ht | ht
              · exact ((HT3.out t ht).mono fun q hq => ⟨hq.1, Nat.lt_of_lt_of_le hq.2 (Nat.le_trans h55 h66)⟩).keepS hk6
              · simp only [List.mem_singleton] at ht
                subst ht
                exact (HRS.out.mono fun q hq => ⟨hq.1, Nat.lt_of_lt_of_le hq.2 h66⟩).keepS hk6)
            have hw6 := hw5.grown hg6 hw5.size (fun j hj => by cases hj; exact Nat.le_refl _)
            clear hown6 hg6 hw5 y05
            go_wp2_with fail
            go_roundw
            case rel => exact ⟨k + 1, by omega, by go_num, HO6, hw6⟩
            case measure => simp [intOf]; omega
          · have u : (x == 0) = false := by simpa using hx
            have HO6 : Hid (OwnMap (fun k => w.heap.size ≤ k ∧ k < w5.heap.size) w5 w.heap.size (k + 1) (rulesF (l.take (k + 1)))) := lid (by rw [HT.out, ruleE_bad hpf, List.append_nil]; exact (HO5.out.more (Nat.le_succ _)).mono fun q hq => ⟨hq.1, Nat.lt_of_lt_of_le hq.2 (Nat.le_trans hb1.size hb5.size)⟩)
            clear hx hpf HO5
            go_wp2_with fail
            go_roundw
            case rel => exact ⟨k + 1, by omega, by go_num, HO6, hw5⟩
            case measure => simp [intOf]; omega
    · obtain rfl : k = n := by omega
      have dk : decide ((k : Int) < (k : Int)) = false := by simp
      have HX : Hid (rulesF (l.take k) = rulesF l) := lid (by rw [List.take_of_length_le (Nat.le_of_eq HN.out)])
      rw [HX.out] at HO
      go_wp2_with fail
      go_ret
      exact ⟨rfl, hb, HO.out⟩
end Go.Proofs.YtefehgdckmajiaaGreatDoor
