/-
  The reference's Great.
-/
import Derived.Test.YtmkdcnkbhnegnaaObjAwake
namespace Go.Proofs.Ytmkdcnkbhnegnaa
open Go.RowKit

set_option maxRecDepth 100000 in
set_option maxHeartbeats 8000000 in
theorem Great_any (o : Ob) (ae ap : Option Addr) (ne ce np cp : Nat) (w : World) (h : ObjA w ae ne ap np o) :
    Calls Try.prog 10 #[.agg (ocells o ae ne ce ap np cp)] w fun e w' => e = .returned (.bool (!smallB o)) ∧ Below w.heap.size w w' := by
  have hb0 := ba w (Obj.cells (ocells o ae ne ce ap np cp) 28)
  have HO0 := OBox.new w o ae ne ce ap np cp 28
  obtain ⟨W, hW⟩ : ∃ W, w.alloc (Obj.cells (ocells o ae ne ce ap np cp) 28) = W := ⟨_, rfl⟩
  rw [hW] at hb0 HO0
  have HA := lid (h.below hb0)
  have HW := lid hW
  have HEN := lid HW.out
  have HO := lid HO0
  have HN := lid h.plen
  have HM := lid h.elen
  have nm' : np ≤ 9223372036854775807 := h.pmax
  have mm' : ne ≤ 9223372036854775807 := h.emax
  have dm' : o.data.size ≤ 9223372036854775807 := h.dsz
  have am' : o.auth.size ≤ 9223372036854775807 := h.asz
  have gm' : o.msg.size ≤ 9223372036854775807 := h.msz
  have O1 := HO.out
  obtain ⟨l0, c0, c1, c2, c3, c4, c5, c6, c7, c8⟩ := O1
  rw [← HW.out] at c0 c1 c2 c3 c4 c5 c6 c7 c8
  clear hW HO0 h
  by_cases qd : 200 < o.data.size
  case pos =>
    have ud : decide ((200 : Int) < (o.data.size : Int)) = true := by simp; omega
    have ud' : decide (200 < o.data.size) = true := decide_eq_true qd
    have HV : Hid ((!smallB o) = true) := lid (by rw [smallB_no (by rw [HM.out, HN.out]; omega)]; rfl)
    go_enter Try.func10, Try.ntmps10
    go_wp2_with fail
    rw [HW.out]
    go_ret
    exact ⟨ret_bool' HV.out.symm, hb0⟩
  have ud : decide ((200 : Int) < (o.data.size : Int)) = false := by simp; omega
  have ud' : decide (200 < o.data.size) = false := decide_eq_false qd
  by_cases qe : 12 < ne
  case pos =>
    have ue : decide ((12 : Int) < (ne : Int)) = true := by simp; omega
    have ue' : decide (12 < ne) = true := decide_eq_true qe
    have HV : Hid ((!smallB o) = true) := lid (by rw [smallB_no (by rw [HM.out, HN.out]; omega)]; rfl)
    go_enter Try.func10, Try.ntmps10
    go_wp2_with fail
    rw [HW.out]
    go_ret
    exact ⟨ret_bool' HV.out.symm, hb0⟩
  have ue : decide ((12 : Int) < (ne : Int)) = false := by simp; omega
  have ue' : decide (12 < ne) = false := decide_eq_false qe
  by_cases qp : 12 < np
  case pos =>
    have up : decide ((12 : Int) < (np : Int)) = true := by simp; omega
    have up' : decide (12 < np) = true := decide_eq_true qp
    have HV : Hid ((!smallB o) = true) := lid (by rw [smallB_no (by rw [HM.out, HN.out]; omega)]; rfl)
    go_enter Try.func10, Try.ntmps10
    go_wp2_with fail
    rw [HW.out]
    go_ret
    exact ⟨ret_bool' HV.out.symm, hb0⟩
  have up : decide ((12 : Int) < (np : Int)) = false := by simp; omega
  have up' : decide (12 < np) = false := decide_eq_false qp
  by_cases qa : 50 < o.auth.size
  case pos =>
    have ua : decide ((50 : Int) < (o.auth.size : Int)) = true := by simp; omega
    have ua' : decide (50 < o.auth.size) = true := decide_eq_true qa
    have HV : Hid ((!smallB o) = true) := lid (by rw [smallB_no (by rw [HM.out, HN.out]; omega)]; rfl)
    go_enter Try.func10, Try.ntmps10
    go_wp2_with fail
    rw [HW.out]
    go_ret
    exact ⟨ret_bool' HV.out.symm, hb0⟩
  have ua : decide ((50 : Int) < (o.auth.size : Int)) = false := by simp; omega
  have ua' : decide (50 < o.auth.size) = false := decide_eq_false qa
  by_cases qm : 250 < o.msg.size
  case pos =>
    have um : decide ((250 : Int) < (o.msg.size : Int)) = true := by simp; omega
    have um' : decide (250 < o.msg.size) = true := decide_eq_true qm
    have HV : Hid ((!smallB o) = true) := lid (by rw [smallB_no (by rw [HM.out, HN.out]; omega)]; rfl)
    go_enter Try.func10, Try.ntmps10
    go_wp2_with fail
    rw [HW.out]
    go_ret
    exact ⟨ret_bool' HV.out.symm, hb0⟩
  have um : decide ((250 : Int) < (o.msg.size : Int)) = false := by simp; omega
  have um' : decide (250 < o.msg.size) = false := decide_eq_false qm
  have HS : Hid (o.data.size ≤ 200 ∧ o.ents.length ≤ 12 ∧ o.pars.length ≤ 12 ∧ o.auth.size ≤ 50 ∧ o.msg.size ≤ 250) := lid (by rw [HM.out, HN.out]; omega)
  have n12 : ne ≤ 12 := by omega
  clear qd qe qp qa qm
  go_enter Try.func10, Try.ntmps10
  go_wp2_with fail
  rw [HW.out]
  clear HW HEN c0 c1 c2 c3 c4 c5 c6 c7 c8 ud ud' ue ue' up up' ua ua' um um'
  go_loopw [3] (fun i wr => ∃ k : Nat, k ≤ ne ∧ i = .int .i64 k ∧ Hid (∀ e ∈ o.ents.take k, e.1.size ≤ 50) ∧ Below W.heap.size W wr) (fun i _ => ne - (intOf i).toNat)
  case atStart => exact ⟨0, Nat.zero_le _, rfl, lid (by simp), Below.refl _ _⟩
  case round =>
    obtain ⟨k, hk, rfl, HT, hwr⟩ := hrel
    obtain ⟨lr, c0, c1, c2, c3, c4, c5, c6, c7, c8⟩ := HO.out.below hwr
    clear c0 c1 c3 c4 c5 c6 c7 c8
    by_cases hlt : k < ne
    · have hkl : k < o.ents.length := by rw [HM.out]; exact hlt
      obtain ⟨b1, o1, rfl, hlb, hcell⟩ := (HA.out.es.below hwr).at_ hlt
      have x0 := hcell (k * 4 + 0) _ (ecells_at hkl).1
      rw [Nat.add_zero] at x0
      have dk : decide ((k : Int) < (ne : Int)) = true := by simp; omega
      have HE := lid (List.getElem_mem hkl)
      have HK := lid (List.take_succ_eq_append_getElem hkl)
      have hsz : (o.ents[k]).1.size ≤ 9223372036854775807 := HA.out.esz _ (List.getElem_mem hkl)
      clear hcell
      obtain ⟨r, hrk⟩ : ∃ r, o.ents[k] = r := ⟨_, rfl⟩
      rw [hrk] at x0 HE HK hsz
      clear hrk
      by_cases q : 50 < r.1.size
      · have u : decide ((50 : Int) < (r.1.size : Int)) = true := by simp; omega
        have u' : decide (50 < r.1.size) = true := decide_eq_true q
        have HV : Hid ((!smallB o) = true) := lid (by rw [smallB_name HE.out (by omega)]; rfl)
        clear q
        go_wp2_with fail
        go_ret
        exact ⟨ret_bool' HV.out.symm, hb0.trans (hwr.mono hb0.size)⟩
      · have u : decide ((50 : Int) < (r.1.size : Int)) = false := by simp; omega
        have u' : decide (50 < r.1.size) = false := decide_eq_false q
        have HQ := lid q
        clear q
        go_wp2_with fail
        go_roundw
        case rel => exact ⟨k + 1, by omega, by go_num, lid (by
          intro e he
          rw [HK.out] at he
          rcases List.mem_append.1 he with he | he
          · exact HT.out e he
          · rw [List.mem_singleton] at he; subst he; have := HQ.out; omega), hwr⟩
        case measure => simp [intOf]; omega
    · obtain rfl : k = ne := by omega
      have HV : Hid ((!smallB o) = false) := lid (by rw [smallB_yes HS.out (by have := HT.out; rw [List.take_of_length_le (by rw [HM.out]; exact Nat.le_refl _)] at this; exact this)]; rfl)
      go_wp2_with fail
      go_ret
      exact ⟨ret_bool' HV.out.symm, hb0.trans (hwr.mono hb0.size)⟩
end Go.Proofs.Ytmkdcnkbhnegnaa
