/-
  ObjEnts Mix DigBox ObjIdx ObjComm.
-/
import Derived.Test.YtefehgdckmajiaaGreatDoorGrpC
import Derived.Test.YtefehgdckmajiaaGreatDoorGrpA
namespace Go.Proofs.YtefehgdckmajiaaGreatDoor
open Go.RowKit

theorem ret_int' {a b : Int} (h : a = b) : Ending.returned (.int .i64 a) = .returned (.int .i64 b) := by rw [h]
theorem zeroB_spell (d : Dg) : (((d.1.toNat : Int) == 0) && ((d.2.toNat : Int) == 0)) = zeroB d := by
  unfold zeroB
  rw [Bool.eq_iff_iff]
  simp only [Bool.and_eq_true, beq_iff_eq, decide_eq_true_eq]
  constructor
  · rintro ⟨h1, h2⟩
    exact Prod.ext (UInt64.toNat_inj.1 (by simp; omega)) (UInt64.toNat_inj.1 (by simp; omega))
  · rintro rfl
    simp
set_option maxRecDepth 100000 in
set_option maxHeartbeats 8000000 in
theorem checkEntries_any (l : List Ent) (n cap : Nat) (ao : Option Addr) (w : World) (hn : l.length = n) (hs : Sl w 4 ao n (ecells l)) (hr : ∀ e ∈ l, e.1.size ≤ maxLen) (hm : n ≤ maxLen) :
    Calls Tryz.prog 90 #[.slice ao n cap] w fun e w' => e = .returned (.int .i64 (entsE l)) ∧ Below w.heap.size w w' := by
  have HN := lid hn
  have HS := lid hs
  have HR := lid hr
  have hm' : n ≤ 9223372036854775807 := hm
  clear hn hs hr hm
  by_cases h4 : 200 < n
  · have HC : Hid (entsE l = 4) := lid (by unfold entsE; rw [if_neg (by rw [HN.out]; omega)])
    have d4 : decide ((200 : Int) < (n : Int)) = true := by simp; omega
    go_enter Tryz.func90, Tryz.ntmps90
    go_wp2_with fail
    go_ret
    exact ⟨ret_int' HC.out.symm, Below.refl _ _⟩
  have HC : Hid (entsE l = entsGo none l) := lid (by unfold entsE; rw [if_pos (by rw [HN.out]; omega)])
  have d4 : decide ((200 : Int) < (n : Int)) = false := by simp; omega
  go_enter Tryz.func90, Tryz.ntmps90
  go_wp2_with fail
  go_loopw [3, 4, 10, 15, 20, 34] (fun _ _ i _ _ _ wr => ∃ (k : Nat) (p : Option ByteArray), k ≤ n ∧ i = .int .i64 k ∧ Hid (entsGo none l = entsGo p (l.drop k)) ∧ Hid (k = 0 ∧ p = none ∨ ∃ (j : Nat) (hj : j < l.length), k = j + 1 ∧ p = some (l[j]).1) ∧ Below w.heap.size w wr) (fun _ _ i _ _ _ _ => n - (intOf i).toNat)
  case atStart => exact ⟨0, none, Nat.zero_le _, rfl, lid rfl, lid (.inl ⟨rfl, rfl⟩), Below.refl _ _⟩
  case round =>
    obtain ⟨k, p, hk, rfl, HG, HP, hb⟩ := hrel
    by_cases hlt : k < n
    · have hkl : k < l.length := by rw [HN.out]; exact hlt
      obtain ⟨b1, o1, rfl, hlb, hcell⟩ := (HS.out.below hb).at_ hlt
      have x0 := hcell (k * 4 + 0) _ (ecells_at hkl).1
      have x1 := hcell (k * 4 + 1) _ (ecells_at hkl).2.1
      have x2 := hcell (k * 4 + 2) _ (ecells_at hkl).2.2.1
      have x3 := hcell (k * 4 + 3) _ (ecells_at hkl).2.2.2
      rw [← Nat.add_assoc] at x1 x2 x3
      rw [Nat.add_zero] at x0
      have HD := lid (List.drop_eq_getElem_cons hkl)
      have HRS := lid (HR.out _ (List.getElem_mem hkl))
      have HK0 : Hid (∀ j (hj : j < l.length), wr.cell? ⟨b1, o1 + j * 4, none⟩ = some (.string (l[j]).1)) := lid (fun j hj => by have := hcell (j * 4 + 0) _ (ecells_at hj).1; rwa [Nat.add_zero] at this)
      have dk : decide ((k : Int) < (n : Int)) = true := by simp; omega
      clear hcell
      obtain ⟨r, hrk⟩ : ∃ r, l[k] = r := ⟨_, rfl⟩
      rw [hrk] at x0 x1 x2 x3 HD HRS
      obtain ⟨a, dir, d⟩ := r
      simp only at x0 x1 x2 x3
      have HZS := lid (zeroB_spell d)
      have hr0 := congrArg Prod.fst hrk
      clear hrk
      go_wp2_with fail
      obtain ⟨W1, hW1⟩ : ∃ W1, wr.alloc (Obj.cells #[.string a, .bool dir, .int .u64 d.1.toNat, .int .u64 d.2.toNat] 140) = W1 := ⟨_, rfl⟩
      have hb1 : Below wr.heap.size wr W1 := by rw [← hW1]; exact ba _ _
      have y0 : W1.cell? ⟨wr.heap.size, 0, none⟩ = some (.string a) := by rw [← hW1]; exact cell_new_at rfl _ _ _
      have y2 : W1.cell? ⟨wr.heap.size, 2, none⟩ = some (.int .u64 d.1.toNat) := by rw [← hW1]; exact cell_new_at rfl _ _ _
      have y3 : W1.cell? ⟨wr.heap.size, 3, none⟩ = some (.int .u64 d.2.toNat) := by rw [← hW1]; exact cell_new_at rfl _ _ _
      have hlt1 : wr.heap.size < W1.heap.size := by rw [← hW1]; simp
      have hlb1 : b1 < W1.heap.size := by omega
      rw [hW1]
      have hw1 := hb.trans (hb1.mono hb.size)
      clear hW1 x0 x1 x2 x3
      (with_reducible refine (valid_any a _ HRS.out).mono ?_); rintro e w2 ⟨rfl, rfl⟩
      cases hB : nameB a with
      | false =>
        have HV := lid (ents_name (e := (a, dir, d)) (p := p) (l := l.drop (k + 1)) hB)
        clear hB
        go_wp2_with fail
        go_ret
        exact ⟨ret_int' (by rw [HC.out, HG.out, HD.out, HV.out]), hw1⟩
      | true =>
        have HB := lid hB
        clear hB
        rcases HP.out with ⟨rfl, rfl⟩ | ⟨j, hj, rfl, rfl⟩
        · have HO : Hid (∀ q, (none : Option ByteArray) = some q → leB a q = false) := lid (fun q h => by cases h)
          go_wp2_with fail
          refine wp_region_seq (fun w' => ∃ s : Since w2.heap.size w2, w' = s.world) [(0, true), (1, true), (2, true), (3, true), (4, true), (5, true), (6, true), (7, true), (8, true), (9, true), (10, true), (11, true), (12, true), (13, false)] (by kernel_rfl) (by kernel_rfl) (by intro c d v a w h; first | (cases d <;> exact h) | cases h.1) (since (Below.refl _ _).drew) ?_
          repeat (first | (refine seq_skip (by rfl) (by rfl) ?_; simp only [Act.put, List.setIfInBounds_toArray, List.set_cons_succ, List.set_cons_zero]) | (refine seq_float (by rfl) (by rfl) (by rfl) ?_; intro K hK; go_big_quiet_op; go_big_quiet_on))
          refine seq_chain (by rfl) ?_
          intro K hK
          go_wp2_with fail
          refine hK.out _ _ (since (Below.refl _ _).drew) ?_
          clear hK K
          repeat (first | (refine seq_skip (by rfl) (by rfl) ?_; simp only [Act.put, List.setIfInBounds_toArray, List.set_cons_succ, List.set_cons_zero]) | (refine seq_float (by rfl) (by rfl) (by rfl) ?_; intro K hK; go_big_quiet_op; go_big_quiet_on))
          refine seq_nil ?_
          cases hz : zeroB d with
          | true =>
            have HV := lid (ents_zero (e := (a, dir, d)) (p := none) (l := l.drop (0 + 1)) HB.out HO.out hz)
            rw [hz] at HZS
            have z0 := HZS.out
            clear hz
            go_wp2_with fail
            go_ret
            exact ⟨ret_int' (by rw [HC.out, HG.out, HD.out, HV.out]), hw1.drew⟩
          | false =>
            have HV := lid (ents_next (e := (a, dir, d)) (p := none) (l := l.drop (0 + 1)) HB.out HO.out hz)
            rw [hz] at HZS
            have z0 := HZS.out
            clear hz
            go_wp2_with fail
            go_roundw
            case rel => exact ⟨1, some a, by omega, by go_num, lid (by rw [HG.out, HD.out, HV.out]), lid (.inr ⟨0, hkl, rfl, by rw [hr0]⟩), hw1.drew⟩
            case measure => simp [intOf]; omega
        · have z := (bc hb1 hlb _).trans (HK0.out j hj)
          obtain ⟨pt, hpt⟩ : ∃ pt, (l[j]).1 = pt := ⟨_, rfl⟩
          rw [hpt] at z HG
          have hj9 : j ≤ 200 := by omega
          have hjn : (j : Int) < n := by omega
          have hjn1 : (j : Int) + 1 < n := by omega
          have e0 : ((j + 1 : Nat) : Int) = (j : Int) + 1 := by omega
          have hpos : decide ((0 : Int) < (j : Int) + 1) = true := decide_eq_true (by omega)
          have wj : IntKind.i64.wrap (j : Int) = j := IntWalk.i64_in _ (by omega)
          have hjl : decide (j < n) = true := by simp; omega
          clear hpt
          cases ho : leB a pt with
          | true =>
            have HV := lid (ents_order (e := (a, dir, d)) (q := pt) (l := l.drop (j + 1 + 1)) HB.out ho)
            have hd : (Op.bytesLess a.toList pt.toList || a.toList == pt.toList) = true := ho
            clear ho
            go_wp2_with fail
            refine wp_region_seq (fun w' => ∃ s : Since w2.heap.size w2, w' = s.world) [(0, true), (1, true), (2, true), (3, true), (4, true), (5, true), (6, true), (7, true), (8, true), (9, true), (10, true), (11, true), (12, true), (13, false)] (by kernel_rfl) (by kernel_rfl) (by intro c d v a w h; first | (cases d <;> exact h) | cases h.1) (since (Below.refl _ _).drew) ?_
            repeat (first | (refine seq_skip (by rfl) (by rfl) ?_; simp only [Act.put, List.setIfInBounds_toArray, List.set_cons_succ, List.set_cons_zero]) | (refine seq_float (by rfl) (by rfl) (by rfl) ?_; intro K hK; go_big_quiet_op; go_big_quiet_on))
            refine seq_chain (by rfl) ?_
            intro K hK
            go_wp2_with fail
            refine hK.out _ _ (since (Below.refl _ _).drew) ?_
            clear hK K
            repeat (first | (refine seq_skip (by rfl) (by rfl) ?_; simp only [Act.put, List.setIfInBounds_toArray, List.set_cons_succ, List.set_cons_zero]) | (refine seq_float (by rfl) (by rfl) (by rfl) ?_; intro K hK; go_big_quiet_op; go_big_quiet_on))
            refine seq_nil ?_
            go_wp2_with fail
            go_ret
            exact ⟨ret_int' (by rw [HC.out, HG.out, HD.out, HV.out]), hw1.drew⟩
          | false =>
            have HO : Hid (∀ q, some pt = some q → leB a q = false) := lid (fun q h => by cases h; exact ho)
            have hd : (Op.bytesLess a.toList pt.toList || a.toList == pt.toList) = false := ho
            clear ho
            go_wp2_with fail
            refine wp_region_seq (fun w' => ∃ s : Since w2.heap.size w2, w' = s.world) [(0, true), (1, true), (2, true), (3, true), (4, true), (5, true), (6, true), (7, true), (8, true), (9, true), (10, true), (11, true), (12, true), (13, false)] (by kernel_rfl) (by kernel_rfl) (by intro c d v a w h; first | (cases d <;> exact h) | cases h.1) (since (Below.refl _ _).drew) ?_
            repeat (first | (refine seq_skip (by rfl) (by rfl) ?_; simp only [Act.put, List.setIfInBounds_toArray, List.set_cons_succ, List.set_cons_zero]) | (refine seq_float (by rfl) (by rfl) (by rfl) ?_; intro K hK; go_big_quiet_op; go_big_quiet_on))
            refine seq_chain (by rfl) ?_
            intro K hK
            go_wp2_with fail
            refine hK.out _ _ (since (Below.refl _ _).drew) ?_
            clear hK K
            repeat (first | (refine seq_skip (by rfl) (by rfl) ?_; simp only [Act.put, List.setIfInBounds_toArray, List.set_cons_succ, List.set_cons_zero]) | (refine seq_float (by rfl) (by rfl) (by rfl) ?_; intro K hK; go_big_quiet_op; go_big_quiet_on))
            refine seq_nil ?_
            cases hz : zeroB d with
            | true =>
              have HV := lid (ents_zero (e := (a, dir, d)) (p := some pt) (l := l.drop (j + 1 + 1)) HB.out HO.out hz)
              rw [hz] at HZS
              have z0 := HZS.out
              clear hz
              go_wp2_with fail
              go_ret
              exact ⟨ret_int' (by rw [HC.out, HG.out, HD.out, HV.out]), hw1.drew⟩
            | false =>
              have HV := lid (ents_next (e := (a, dir, d)) (p := some pt) (l := l.drop (j + 1 + 1)) HB.out HO.out hz)
              rw [hz] at HZS
              have z0 := HZS.out
              clear hz
              go_wp2_with fail
              go_roundw
              case rel => exact ⟨j + 1 + 1, some a, by omega, by go_num, lid (by rw [HG.out, HD.out, HV.out]), lid (.inr ⟨j + 1, hkl, rfl, by rw [hr0]⟩), hw1.drew⟩
              case measure => simp [intOf]; omega
    · obtain rfl : k = n := by omega
      have HV : Hid (entsGo none l = 0) := lid (by rw [HG.out, List.drop_eq_nil_of_le (by rw [HN.out]; exact Nat.le_refl _)]; cases p <;> rfl)
      go_wp2_with fail
      go_ret
      exact ⟨ret_int' (by rw [HC.out, HV.out]), hb⟩

end Go.Proofs.YtefehgdckmajiaaGreatDoor

namespace Go.Proofs.YtefehgdckmajiaaGreatDoor
open Go.RowKit

def upd (s : Nat → Bool) (i : Nat) : Nat → Bool := fun k => if k = i then true else s k
@[simp] theorem upd_same (s : Nat → Bool) (i : Nat) : upd s i i = true := by simp [upd]
theorem upd_ne (s : Nat → Bool) {i k : Nat} (h : k ≠ i) : upd s i k = s k := by simp [upd, h]
/-- Slots of a frame set anew. -/
def putAll (a : Act) : List Nat → List Value → Act
  | k :: ks, v :: vs => putAll (a.put (some k) v) ks vs
  | _, _ => a

/-- Whatever comes up is one of cs, and what it needs has been. -/
def mixB (md : Region.Mode) (ops : Array Oper) (cs : List (Nat × List Nat)) (fin : Array Bool → Bool) : Nat → Array Bool → Bool
  | 0, listed => cs.all (fun c => listed.getD c.1 false) && fin listed
  | n + 1, listed => !(Region.ready md ops listed).isEmpty && (Region.ready md ops listed).all fun i => (cs.any fun c => c.1 == i && c.2.all fun d => listed.getD d false) && mixB md ops cs fin n (listed.setIfInBounds i true)

section
variable {P : Program} {ops : Array Oper} {Q : Exit → Act → World → Prop} {md : Region.Mode} {C : World → Prop}
theorem wpAnyH_mix {cs : List (Nat × List Nat)} {fin : Array Bool → Bool} {fuel0 : Nat} {I : (Nat → Bool) → Act → World → Prop}
    (hstep : ∀ c ∈ cs, ∀ s a w, s c.1 = false → (∀ d ∈ c.2, s d = true) → C w → I s a w → wpOp P ops Q c.1 (fun a' w' => C w' ∧ I (upd s c.1) a' w') a w)
    (hend : ∀ listed s a w, fin listed = true → (∀ c ∈ cs, s c.1 = true) → C w → I s a w → wpAnyH P md ops Q C fuel0 listed a w) :
    ∀ (n : Nat) (listed : Array Bool) (s : Nat → Bool) (a : Act) (w : World), (∀ k, s k = listed.getD k false) → mixB md ops cs fin n listed = true → C w → I s a w → wpAnyH P md ops Q C (n + fuel0) listed a w
  | 0, listed, s, a, w, hs, hB, hC, hI => by
    simp only [mixB, Bool.and_eq_true, List.all_eq_true] at hB
    rw [Nat.zero_add]
    exact hend listed s a w hB.2 (fun c hc => by rw [hs]; exact hB.1 c hc) hC hI
  | n + 1, listed, s, a, w, hs, hB, hC, hI => by
    simp only [mixB, Bool.and_eq_true, List.all_eq_true, List.any_eq_true, beq_iff_eq] at hB
    obtain ⟨hne, hall⟩ := hB
    rw [show n + 1 + fuel0 = n + fuel0 + 1 by omega]
    refine wpAnyH_all rfl (by intro e; rw [e] at hne; simp at hne) (fun i hi => ?_)
    obtain ⟨⟨c, hc, rfl, hd⟩, hB'⟩ := hall i hi
    have h0 : listed.getD c.1 true = false := (mem_ready.1 hi).1
    have hlt : c.1 < listed.size := by
      rcases Nat.lt_or_ge c.1 listed.size with h | h
      · exact h
      · rw [Array.getD_eq_getD_getElem?, Array.getElem?_eq_none h] at h0
        cases h0
    have h1 : listed.getD c.1 false = false := by
      rw [Array.getD_eq_getD_getElem?, Array.getElem?_eq_getElem hlt] at h0 ⊢
      exact h0
    refine wpOp_mono (fun a' w' hh => ⟨hh.1, wpAnyH_mix hstep hend n _ (upd s c.1) a' w' ?_ hB' hh.1 hh.2⟩) (hstep c hc s a w (by rw [hs]; exact h1) (fun d hdd => by rw [hs]; exact hd d hdd) hC hI)
    intro k
    by_cases e : k = c.1
    · subst e
      rw [upd_same, Array.getD_eq_getD_getElem?, Array.getElem?_setIfInBounds_self_of_lt hlt]
      rfl
    · rw [upd_ne s e, getD_set_ne false (Ne.symm e)]
      exact hs k

/-- What is to be shown where the mix begins. -/
def MixGo (P : Program) (ops : Array Oper) (C : World → Prop) (Q : Exit → Act → World → Prop) (cs : List (Nat × List Nat)) (post : List (Nat × Bool)) (a : Act) (w : World) : Prop :=
  ∃ I : (Nat → Bool) → Act → World → Prop, (∀ s, (∀ c ∈ cs, s c.1 = false) → I s a w) ∧
    (∀ c ∈ cs, ∀ s a w, s c.1 = false → (∀ d ∈ c.2, s d = true) → C w → I s a w → wpOp P ops Q c.1 (fun a' w' => C w' ∧ I (upd s c.1) a' w') a w) ∧
    (∀ s a w, (∀ c ∈ cs, s c.1 = true) → C w → I s a w → seqRun P ops C Q (fun a w => Q .normal a w) post a w)

/-- THE BEGINNING. -/
theorem wp_region_mix {id : Nat} {a : Act} {w : World} {l : List Oper} (C : World → Prop) (pre : List (Nat × Bool)) (cs : List (Nat × List Nat)) (post : List (Nat × Bool)) (hm : P.follows .mixedOrders = true)
    (hB : (Region.noSelect l.toArray && decide (pre.length + (cs.length + post.length) = l.length) && (match seqB .any l.toArray pre (Array.replicate l.length false) with
      | some listed => (cs.all fun c => !listed.getD c.1 false) && mixB .any l.toArray cs (fun l1 => match seqB .any l.toArray post l1 with | some l2 => (Region.ready .any l.toArray l2).isEmpty | none => false) cs.length listed
      | none => false)) = true)
    (hQ : ∀ c d v a w, Q (.panic c) (Act.put a d v) w → Q (.panic c) a w) (hC : C w.drew)
    (h : seqRun P l.toArray C Q (MixGo P l.toArray C Q cs post) pre a w.drew) : (Code.region id l.toArray true).wp P Q a w := by
  simp only [Bool.and_eq_true, decide_eq_true_eq] at hB
  obtain ⟨⟨hs, hl⟩, hB⟩ := hB
  split at hB
  · rename_i listed hsq
    simp only [Bool.and_eq_true, List.all_eq_true] at hB
    obtain ⟨hfresh, hmix⟩ := hB
    refine wp_region_held (S := C) hm ?_
    have := wpAnyH_of_seq (md := .any) (P := P) (fuel := cs.length + post.length) hs hQ pre _ listed a w.drew hC hsq (fun a w hCw hq => ?_) h
    · rw [hl] at this
      simpa using this
    · obtain ⟨I, h0, h1, h2⟩ := hq
      refine wpAnyH_mix h1 ?_ cs.length listed (fun k => listed.getD k false) a w (fun _ => rfl) hmix hCw (h0 _ (fun c hc => by have := hfresh c hc; revert this; cases listed.getD c.1 false <;> simp))
      intro l1 s a w hfin hall hCw hI
      split at hfin
      · rename_i l2 hl2
        have := wpAnyH_of_seq (md := .any) (P := P) (fuel := 0) hs hQ post _ l2 a w hCw hl2 (fun a w _ hq => ⟨by simpa using hfin, hq⟩) (h2 s a w hall hCw hI)
        simpa using this
      · cases hfin
  · cases hB

/-- One operation as a list of one. -/
theorem mix_op {i : Nat} {o : Oper} {l : List Oper} (hi : l[i]? = some o) {a : Act} {w : World} {G : Act → World → Prop} (h : ∀ K : Act → World → Prop, Hid (∀ a w, G a w → K a w) → wpList P l.toArray (Exit.then K Q) [o] a w) : wpOp P l.toArray Q i G a w := by
  have h1 := h G (fun _ _ hg => hg)
  have hi' : l.toArray[i]? = some o := by simpa using hi
  unfold wpOp
  simp only [hi']
  unfold wpList at h1
  split
  · rename_i hw
    rw [if_pos hw] at h1
    refine h1.imp ?_ (fun ⟨h2, b, v, h3⟩ => ⟨h2, b, v, h3⟩)
    intro h2
    unfold Oper.wp at *
    generalize (execOp a.eval o).run P w = r at *
    cases r with
    | ok n w' =>
      cases n <;> simp only [Oper.upon] at h2 ⊢ <;>
        first
          | exact h2
          | exact Calls.mono h2 (fun e w'' he => by cases e <;> exact he)
          | exact Rows.mono h2 (fun _ _ he => he)
    | halt x w' => cases x <;> simp only [Oper.upon] at h2 ⊢ <;> exact h2
  · rename_i hw
    rw [if_neg hw] at h1
    exact h1

/-- The operations of the mix, one by one, over a frame of which only some slots turn. -/
def MixSteps (P : Program) (l : List Oper) (C : World → Prop) (Q : Exit → Act → World → Prop) (a : Act) (slots : List Nat) (R : (Nat → Bool) → List Value → World → Prop) : List (Nat × List Nat) → Prop
  | [] => True
  | c :: cs => (∀ s vs w, vs.length = slots.length → s c.1 = false → (∀ d ∈ c.2, s d = true) → C w → R s vs w →
      wpOp P l.toArray Q c.1 (fun a' w' => C w' ∧ ∃ vs', vs'.length = slots.length ∧ a' = putAll a slots vs' ∧ R (upd s c.1) vs' w') (putAll a slots vs) w) ∧ MixSteps P l C Q a slots R cs
theorem mixSteps_mem {l : List Oper} {a : Act} {slots : List Nat} {R : (Nat → Bool) → List Value → World → Prop} : ∀ {cs : List (Nat × List Nat)}, MixSteps P l C Q a slots R cs → ∀ c ∈ cs, ∀ s vs w, vs.length = slots.length → s c.1 = false → (∀ d ∈ c.2, s d = true) → C w → R s vs w →
      wpOp P l.toArray Q c.1 (fun a' w' => C w' ∧ ∃ vs', vs'.length = slots.length ∧ a' = putAll a slots vs' ∧ R (upd s c.1) vs' w') (putAll a slots vs) w
  | [], _, _, hc => by cases hc
  | c0 :: cs, h, c, hc => by
    rcases List.mem_cons.1 hc with rfl | hc
    · exact h.1
    · exact mixSteps_mem h.2 c hc
theorem mix_go {l : List Oper} {cs : List (Nat × List Nat)} {post : List (Nat × Bool)} {a : Act} {w : World} (slots : List Nat) (vs0 : List Value) (R : (Nat → Bool) → List Value → World → Prop) (hl : vs0.length = slots.length) (h0 : a = putAll a slots vs0)
    (hi : ∀ s : Nat → Bool, (∀ c ∈ cs, s c.1 = false) → R s vs0 w) (hs : MixSteps P l C Q a slots R cs)
    (he : ∀ s vs w', vs.length = slots.length → (∀ c ∈ cs, s c.1 = true) → C w' → R s vs w' → seqRun P l.toArray C Q (fun a w => Q .normal a w) post (putAll a slots vs) w') : MixGo P l.toArray C Q cs post a w := by
  refine ⟨fun s a' w' => ∃ vs, vs.length = slots.length ∧ a' = putAll a slots vs ∧ R s vs w', fun s hs0 => ⟨vs0, hl, h0, hi s hs0⟩, ?_, ?_⟩
  · rintro c hc s a' w' h1 h2 hC ⟨vs, hvl, rfl, hR⟩
    exact mixSteps_mem hs c hc s vs w' hvl h1 h2 hC hR
  · rintro s a' w' hall hC ⟨vs, hvl, rfl, hR⟩
    exact he s vs w' hvl hall hC hR
end
theorem below_of_since {B : Nat} {W w' : World} (h : ∃ x : Since B W, w' = x.world) : Below B W w' := by
  obtain ⟨x, rfl⟩ := h
  exact x.2
end Go.Proofs.YtefehgdckmajiaaGreatDoor

namespace Go.Proofs.YtefehgdckmajiaaGreatDoor
open Go.RowKit

/-- A digest in a box. -/
def DBox (w : World) (k : Nat) (d : Dg) : Prop := k < w.heap.size ∧ w.cell? ⟨k, 0, none⟩ = some (.int .u64 d.1.toNat) ∧ w.cell? ⟨k, 1, none⟩ = some (.int .u64 d.2.toNat)
theorem DBox.below {w w' : World} {k B : Nat} {d : Dg} (h : DBox w k d) (hb : Below B w w') (hk : k < B) : DBox w' k d :=
  ⟨Nat.lt_of_lt_of_le h.1 hb.size, (bc hb hk 0).trans h.2.1, (bc hb hk 1).trans h.2.2⟩
theorem DBox.new (w : World) (d : Dg) (t : TypeId) : DBox (w.alloc (.cells #[.int .u64 d.1.toNat, .int .u64 d.2.toNat] t)) w.heap.size d := by
  refine ⟨by simp, ?_, ?_⟩ <;> rw [cell_of_row _ _ _ _ t _ (heap_alloc_new w _)] <;> rfl
/-- A box of two cells. -/
def Two (w : World) (k : Nat) : Prop := ∃ c0 c1 t, w.heap[k]? = some (.cells #[c0, c1] t (0, 0))
theorem Two.lt {w : World} {k : Nat} (h : Two w k) : k < w.heap.size := by
  obtain ⟨c0, c1, t, h⟩ := h
  exact (Array.getElem?_eq_some_iff.1 h).1
theorem Two.below {w w' : World} {k B : Nat} (h : Two w k) (hb : Below B w w') (hk : k < B) : Two w' k := by
  obtain ⟨c0, c1, t, h⟩ := h
  exact ⟨c0, c1, t, (hb.block k hk).trans h⟩
theorem Two.new (w : World) (c0 c1 : Value) (t : TypeId) : Two (w.alloc (.cells #[c0, c1] t)) w.heap.size := ⟨c0, c1, t, heap_alloc_new w _⟩
theorem Two.cells {w : World} {k : Nat} (h : Two w k) : ∃ c0 c1, w.cell? ⟨k, 0, none⟩ = some c0 ∧ w.cell? ⟨k, 1, none⟩ = some c1 ∧ w.frozen? ⟨k, 0, none⟩ = false ∧ w.frozen? ⟨k, 1, none⟩ = false := by
  obtain ⟨c0, c1, t, h⟩ := h
  exact ⟨c0, c1, by rw [cell_of_row w k 0 _ t _ h]; rfl, by rw [cell_of_row w k 1 _ t _ h]; rfl, frozen_of_row w k 0 _ t h, frozen_of_row w k 1 _ t h⟩
theorem Two.other {w : World} {k : Nat} (h : Two w k) (a : Addr) (x : Value) (hne : k ≠ a.block) : Two (w.setCell a x) k := by
  obtain ⟨c0, c1, t, h⟩ := h
  exact ⟨c0, c1, t, (Below.heap_setCell _ _ _ _ hne).trans h⟩
theorem Two.set {w : World} {k : Nat} (h : Two w k) (d : Dg) : DBox ((w.setCell ⟨k, 0, none⟩ (.int .u64 d.1.toNat)).setCell ⟨k, 1, none⟩ (.int .u64 d.2.toNat)) k d := by
  obtain ⟨c0, c1, t, h⟩ := h
  have h1 := heap_setCell_same w k 0 #[c0, c1] t (.int .u64 d.1.toNat) h
  have h2 := heap_setCell_same _ k 1 _ t (.int .u64 d.2.toNat) h1
  refine ⟨(Array.getElem?_eq_some_iff.1 h2).1, ?_, ?_⟩ <;> rw [cell_of_row _ k _ _ t _ h2] <;> rfl
theorem DBox.other {w : World} {k : Nat} {d : Dg} (h : DBox w k d) (a : Addr) (x : Value) (hne : k ≠ a.block) : DBox (w.setCell a x) k d := by
  refine ⟨by rw [World.size_setCell]; exact h.1, ?_, ?_⟩
  · exact (World.cell?_setCell_other _ _ _ _ (by intro e; exact hne (congrArg Addr.block e.symm))).trans h.2.1
  · exact (World.cell?_setCell_other _ _ _ _ (by intro e; exact hne (congrArg Addr.block e.symm))).trans h.2.2
end Go.Proofs.YtefehgdckmajiaaGreatDoor

namespace Go.Proofs.YtefehgdckmajiaaGreatDoor
open Go.RowKit

theorem beq_dg3 (a b : Dg) : (((a.1.toNat : Int) == (b.1.toNat : Int)) && ((a.2.toNat : Int) == (b.2.toNat : Int))) = decide (a = b) := by
  rw [Bool.eq_iff_iff]
  simp only [Bool.and_eq_true, beq_iff_eq, decide_eq_true_eq]
  constructor
  · rintro ⟨h1, h2⟩
    exact Prod.ext (UInt64.toNat_inj.1 (by omega)) (UInt64.toNat_inj.1 (by omega))
  · rintro rfl
    exact ⟨rfl, rfl⟩
/-- '==' of two digests, in a region. -/
theorem quiet_eq_dg3 {C : World → Prop} {K : Act → Prop} {a : Act} {o : Oper} (q r : Dg) (v : Bool) (x y : Operand) (h : o.op = .binOp .eql 86 x y 86)
    (hx : a.eval x = dv q) (hy : a.eval y = dv r) (hv : decide (q = r) = v) (hk : K (a.put o.dst (.bool v))) : o.quiet Tryz.prog a C K := by
  refine ⟨.bool v, fun w _ => ?_, hk⟩
  subst hv
  unfold Oper.quietAt execOp
  rw [h]
  simp only [hx, hy]
  simp [go_sem]
  exact beq_dg3 q r

set_option maxRecDepth 100000 in
set_option maxHeartbeats 4000000 in
theorem Index_any (l : List Dg) (d : Dg) (n cap : Nat) (ao : Option Addr) (w : World) (hn : l.length = n) (hm : n ≤ 1000000) (hs : DSl w ao l) :
    Calls Tryz.prog 102 #[.slice ao n cap, dv d] w fun e w' => (∃ r : Int, e = .returned (.int .i64 r) ∧ decide (0 ≤ r) = decide (d ∈ l)) ∧ Below w.heap.size w w' := by
  have HN := lid hn
  have hb0 := ba w (Obj.cells #[.int .u64 d.1.toNat, .int .u64 d.2.toNat] 86)
  have D0 := DBox.new w d 86
  obtain ⟨W, hW⟩ : ∃ W, w.alloc (Obj.cells #[.int .u64 d.1.toNat, .int .u64 d.2.toNat] 86) = W := ⟨_, rfl⟩
  rw [hW] at hb0 D0
  have HS := lid (hs.below hb0)
  have HW := lid hW
  obtain ⟨l0, c0, c1⟩ := D0
  have C0 := lid c0
  have C1 := lid c1
  clear hn hs hW c0 c1
  go_enter Tryz.func102, Tryz.ntmps102
  go_wp2_with fail
  rw [HW.out]
  clear HW
  go_loopw [5, 8] (fun _ i wr => ∃ (k : Nat), k ≤ n ∧ i = .int .i64 k ∧ Hid (d ∉ l.take k) ∧ Below W.heap.size W wr) (fun _ i _ => n - (intOf i).toNat)
  case atStart => exact ⟨0, Nat.zero_le _, rfl, lid (by simp), Below.refl _ _⟩
  case round =>
    obtain ⟨k, hk, rfl, HM, hb⟩ := hrel
    by_cases hlt : k < n
    · have hkl : k < l.length := by rw [HN.out]; exact hlt
      obtain ⟨b1, o1, rfl, hlb1, hd1⟩ := (HS.out.below hb).resolve_left (by omega)
      obtain ⟨x0, x1⟩ := hd1 k hkl
      have c0 := (bc hb l0 0).trans C0.out
      have c1 := (bc hb l0 1).trans C1.out
      have lr : w.heap.size < wr.heap.size := by have := hb.size; omega
      have HT := lid (List.take_succ_eq_append_getElem hkl)
      have hmem : Hid (l[k] ∈ l) := lid (List.getElem_mem hkl)
      have dk : decide ((k : Int) < (n : Int)) = true := by simp; omega
      clear hd1
      obtain ⟨q, hq⟩ : ∃ q, l[k] = q := ⟨_, rfl⟩
      rw [hq] at x0 x1 HT hmem
      clear hq
      by_cases hdq : d = q
      · have HQ := lid (decide_eq_true hdq)
        have HR : Hid (decide (d ∈ l) = true) := lid (decide_eq_true (by rw [hdq]; exact hmem.out))
        clear hdq
        go_wp2_with fail
        refine wp_region_seq (fun w' => ∃ s : Since wr.heap.size wr, w' = s.world) [(0, true), (1, true), (2, true), (3, true), (4, true), (5, true)] (by kernel_rfl) (by kernel_rfl) (by intro c d v a w h; first | (cases d <;> exact h) | cases h.1) (since (Below.refl _ _).drew) ?_
        iterate 5 (first | (refine seq_skip (by rfl) (by rfl) ?_; simp only [Act.put, List.setIfInBounds_toArray, List.set_cons_succ, List.set_cons_zero]) | (refine seq_float (by rfl) (by rfl) (by rfl) ?_; intro K hK; go_big_quiet_op; go_big_quiet_on))
        refine seq_float (by rfl) (by rfl) (by rfl) ?_; intro K hK
        refine quiet_eq_dg3 d q true _ _ rfl rfl rfl HQ.out ?_
        simp only [Act.put, List.setIfInBounds_toArray, List.set_cons_succ, List.set_cons_zero]
        go_big_quiet_on
        refine seq_nil ?_
        go_wp2_with fail
        go_ret
        exact ⟨⟨k, rfl, by rw [HR.out]; simp⟩, hb0.trans ((hb.mono hb0.size).drew)⟩
      · have HQ := lid (decide_eq_false hdq)
        have HT2 : Hid (d ∉ l.take (k + 1)) := lid (by rw [HT.out, List.mem_append]; rintro (h | h); exact HM.out h; exact hdq (List.mem_singleton.1 h))
        clear hdq
        go_wp2_with fail
        refine wp_region_seq (fun w' => ∃ s : Since wr.heap.size wr, w' = s.world) [(0, true), (1, true), (2, true), (3, true), (4, true), (5, true)] (by kernel_rfl) (by kernel_rfl) (by intro c d v a w h; first | (cases d <;> exact h) | cases h.1) (since (Below.refl _ _).drew) ?_
        iterate 5 (first | (refine seq_skip (by rfl) (by rfl) ?_; simp only [Act.put, List.setIfInBounds_toArray, List.set_cons_succ, List.set_cons_zero]) | (refine seq_float (by rfl) (by rfl) (by rfl) ?_; intro K hK; go_big_quiet_op; go_big_quiet_on))
        refine seq_float (by rfl) (by rfl) (by rfl) ?_; intro K hK
        refine quiet_eq_dg3 d q false _ _ rfl rfl rfl HQ.out ?_
        simp only [Act.put, List.setIfInBounds_toArray, List.set_cons_succ, List.set_cons_zero]
        go_big_quiet_on
        refine seq_nil ?_
        go_wp2_with fail
        go_roundw
        case rel => exact ⟨k + 1, by omega, by go_num, HT2, hb.drew⟩
        case measure => simp [intOf]; omega
    · obtain rfl : k = n := by omega
      have HR : Hid (decide (d ∈ l) = false) := lid (decide_eq_false (by have := HM.out; rwa [List.take_of_length_le (by rw [HN.out]; exact Nat.le_refl _)] at this))
      go_wp2_with fail
      go_ret
      exact ⟨⟨-1, rfl, by rw [HR.out]; decide⟩, hb0.trans (hb.mono hb0.size)⟩

set_option maxRecDepth 100000 in
theorem Contains_any (l : List Dg) (d : Dg) (n cap : Nat) (ao : Option Addr) (w : World) (hn : l.length = n) (hm : n ≤ 1000000) (hs : DSl w ao l) :
    Calls Tryz.prog 97 #[.slice ao n cap, dv d] w fun e w' => e = .returned (.bool (decide (d ∈ l))) ∧ Below w.heap.size w w' := by
  have hb0 := ba w (Obj.cells #[.int .u64 d.1.toNat, .int .u64 d.2.toNat] 86)
  have CI := lid (Index_any l d n cap ao _ hn hm (hs.below hb0))
  clear hs
  go_enter Tryz.func97, Tryz.ntmps97
  go_wp2_with fail
  (with_reducible refine (CI.out).mono ?_); rintro e w1 ⟨⟨r, rfl, hr⟩, hb1⟩
  have HR := lid hr
  clear hr
  go_wp2_with fail
  go_ret
  exact ⟨ret_bool' HR.out, hb0.trans (hb1.mono hb0.size)⟩
end Go.Proofs.YtefehgdckmajiaaGreatDoor

namespace Go.Proofs.YtefehgdckmajiaaGreatDoor
open Go.RowKit

/-- Why parents are not valid: s have been before. -/
def parsGo : List Dg → List Dg → Int
  | _, [] => 0
  | s, d :: l => if zeroB d = true then 1 else if decide (d ∈ s) = true then 7 else parsGo (s ++ [d]) l
theorem pars_zero {s l : List Dg} {d : Dg} (h : zeroB d = true) : parsGo s (d :: l) = 1 := by simp [parsGo, h]
theorem pars_twice {s l : List Dg} {d : Dg} (h : zeroB d = false) (hs : decide (d ∈ s) = true) : parsGo s (d :: l) = 7 := by unfold parsGo; rw [if_neg (by simp [h]), if_pos hs]
theorem pars_next {s l : List Dg} {d : Dg} (h : zeroB d = false) (hs : decide (d ∈ s) = false) : parsGo s (d :: l) = parsGo (s ++ [d]) l := by rw [parsGo, if_neg (by simp [h]), if_neg (by rw [hs]; decide)]
def commE (o : Ob) : Int :=
  if zeroB o.tree = true then 1
  else if 8 < o.pars.length then 4
  else if parsGo [] o.pars = 0 then (if nameB o.auth = true then (if o.time < 0 ∨ 1099511627776 < o.time then 2 else if 200 < o.msg.size then 4 else 0) else 6)
  else parsGo [] o.pars
/-- An object in memory. -/
structure ObjA (w : World) (ae : Option Addr) (ne : Nat) (ap : Option Addr) (np : Nat) (o : Ob) : Prop where
  elen : o.ents.length = ne
  es : Sl w 4 ae ne (ecells o.ents)
  emax : ne ≤ maxLen
  esz : ∀ e ∈ o.ents, e.1.size ≤ maxLen
  plen : o.pars.length = np
  ps : DSl w ap o.pars
  pmax : np ≤ maxLen
  dsz : o.data.size ≤ maxLen
  asz : o.auth.size ≤ maxLen
  msz : o.msg.size ≤ maxLen
theorem ObjA.below {w w' : World} {ae ap : Option Addr} {ne np : Nat} {o : Ob} (h : ObjA w ae ne ap np o) (hb : Below w.heap.size w w') : ObjA w' ae ne ap np o :=
  ⟨h.elen, h.es.below hb, h.emax, h.esz, h.plen, h.ps.below hb, h.pmax, h.dsz, h.asz, h.msz⟩
abbrev ocells (o : Ob) (ae : Option Addr) (ne ce : Nat) (ap : Option Addr) (np cp : Nat) : Array Value := #[.int .i64 o.kind, .string o.data, .slice ae ne ce, .int .u64 o.tree.1.toNat, .int .u64 o.tree.2.toNat, .slice ap np cp, .string o.auth, .int .i64 o.time, .string o.msg]
/-- The cells of an object in a box. -/
def OBox (w : World) (k : Nat) (o : Ob) (ae : Option Addr) (ne ce : Nat) (ap : Option Addr) (np cp : Nat) : Prop :=
  k < w.heap.size ∧ w.cell? ⟨k, 0, none⟩ = some (.int .i64 o.kind) ∧ w.cell? ⟨k, 1, none⟩ = some (.string o.data) ∧ w.cell? ⟨k, 2, none⟩ = some (.slice ae ne ce) ∧ w.cell? ⟨k, 3, none⟩ = some (.int .u64 o.tree.1.toNat) ∧ w.cell? ⟨k, 4, none⟩ = some (.int .u64 o.tree.2.toNat) ∧ w.cell? ⟨k, 5, none⟩ = some (.slice ap np cp) ∧ w.cell? ⟨k, 6, none⟩ = some (.string o.auth) ∧ w.cell? ⟨k, 7, none⟩ = some (.int .i64 o.time) ∧ w.cell? ⟨k, 8, none⟩ = some (.string o.msg)
theorem OBox.new (w : World) (o : Ob) (ae : Option Addr) (ne ce : Nat) (ap : Option Addr) (np cp : Nat) (t : TypeId) : OBox (w.alloc (.cells (ocells o ae ne ce ap np cp) t)) w.heap.size o ae ne ce ap np cp := by
  refine ⟨by simp, ?_, ?_, ?_, ?_, ?_, ?_, ?_, ?_, ?_⟩ <;> (rw [cell_new_at rfl]; rfl)
theorem OBox.below {w w' : World} {k : Nat} {o : Ob} {ae ap : Option Addr} {ne ce np cp : Nat} (h : OBox w k o ae ne ce ap np cp) (hb : Below w.heap.size w w') : OBox w' k o ae ne ce ap np cp := by
  obtain ⟨h0, h1, h2, h3, h4, h5, h6, h7, h8, h9⟩ := h
  exact ⟨Nat.lt_of_lt_of_le h0 hb.size, (bc hb h0 _).trans h1, (bc hb h0 _).trans h2, (bc hb h0 _).trans h3, (bc hb h0 _).trans h4, (bc hb h0 _).trans h5, (bc hb h0 _).trans h6, (bc hb h0 _).trans h7, (bc hb h0 _).trans h8, (bc hb h0 _).trans h9⟩
theorem DSl.take {w : World} {ao : Option Addr} {l : List Dg} (h : DSl w ao l) (k : Nat) : DSl w ao (l.take k) := by
  rcases h with h | ⟨b, off, e, hlt, hc⟩
  · exact .inl (by rw [List.length_take, h, Nat.min_zero])
  · exact .inr ⟨b, off, e, hlt, hc.take k⟩

set_option maxRecDepth 100000 in
set_option maxHeartbeats 16000000 in
theorem checkCommit_any (o : Ob) (ae ap : Option Addr) (ne ce np cp : Nat) (w : World) (h : ObjA w ae ne ap np o) (hc : np ≤ cp) :
    Calls Tryz.prog 91 #[.agg (ocells o ae ne ce ap np cp)] w fun e w' => e = .returned (.int .i64 (commE o)) ∧ Below w.heap.size w w' := by
  have hb0 := ba w (Obj.cells (ocells o ae ne ce ap np cp) 89)
  have HO0 := OBox.new w o ae ne ce ap np cp 89
  obtain ⟨W, hW⟩ : ∃ W, w.alloc (Obj.cells (ocells o ae ne ce ap np cp) 89) = W := ⟨_, rfl⟩
  rw [hW] at hb0 HO0
  have HA := lid (h.below hb0)
  have HW := lid hW
  have HO := lid HO0
  have HN := lid h.plen
  have nm' : np ≤ 9223372036854775807 := h.pmax
  have mm : o.msg.size ≤ 9223372036854775807 := HA.out.msz
  clear hW h HO0
  have HZS := lid (zeroB_spell o.tree)
  cases hz : zeroB o.tree with
  | true =>
    have HV : Hid (commE o = 1) := lid (by unfold commE; rw [if_pos hz])
    rw [hz] at HZS
    have z0 := HZS.out
    clear hz
    go_enter Tryz.func91, Tryz.ntmps91
    go_wp2_with fail
    go_ret
    exact ⟨ret_int' HV.out.symm, by rw [HW.out]; exact hb0⟩
  | false =>
  have HZ := lid hz
  rw [hz] at HZS
  have z0 := HZS.out
  clear hz
  by_cases h8 : 8 < np
  · have HV : Hid (commE o = 4) := lid (by unfold commE; rw [if_neg (by rw [HZ.out]; decide), if_pos (by rw [HN.out]; exact h8)])
    have d8 : decide ((8 : Int) < (np : Int)) = true := by simp; omega
    go_enter Tryz.func91, Tryz.ntmps91
    go_wp2_with fail
    go_ret
    exact ⟨ret_int' HV.out.symm, by rw [HW.out]; exact hb0⟩
  have HL8 : Hid (¬ 8 < o.pars.length) := lid (by rw [HN.out]; exact h8)
  have d8 : decide ((8 : Int) < (np : Int)) = false := by simp; omega
  have HCP : Hid (¬ parsGo [] o.pars = 0 → commE o = parsGo [] o.pars) := lid (fun h => by unfold commE; rw [if_neg (by rw [HZ.out]; decide), if_neg HL8.out, if_neg h])
  go_enter Tryz.func91, Tryz.ntmps91
  go_wp2_with fail
  rw [HW.out]
  clear HW
  go_loopw [3, 4, 16] (fun _ _ i wr => ∃ (k : Nat), k ≤ np ∧ i = .int .i64 k ∧ Hid (parsGo [] o.pars = parsGo (o.pars.take k) (o.pars.drop k)) ∧ Below W.heap.size W wr) (fun _ _ i _ => np - (intOf i).toNat)
  case atStart => exact ⟨0, Nat.zero_le _, rfl, lid rfl, Below.refl _ _⟩
  case round =>
    obtain ⟨k, hk, rfl, HG, hb⟩ := hrel
    have hwr := hb0.trans (hb.mono hb0.size)
    by_cases hlt : k < np
    · have hkl : k < o.pars.length := by rw [HN.out]; exact hlt
      obtain ⟨l0, c0, c1, c2, c3, c4, c5, c6, c7, c8⟩ := HO.out.below hb
      obtain ⟨b1, o1, rfl, hlb1, hd1⟩ := (HA.out.ps.below hb).resolve_left (by omega)
      obtain ⟨x0, x1⟩ := hd1 k hkl
      have HD := lid (List.drop_eq_getElem_cons hkl)
      have HT := lid (List.take_succ_eq_append_getElem hkl)
      have dk : decide ((k : Int) < (np : Int)) = true := by simp; omega
      have hkc : k ≤ cp := by omega
      clear hd1
      obtain ⟨d, hd⟩ : ∃ d, o.pars[k] = d := ⟨_, rfl⟩
      rw [hd] at x0 x1 HD HT
      clear hd
      have HZD := lid (zeroB_spell d)
      cases hzd : zeroB d with
      | true =>
        have HP : Hid (parsGo [] o.pars = 1) := lid (by rw [HG.out, HD.out]; exact pars_zero hzd)
        have HV : Hid (commE o = 1) := lid (by rw [HCP.out (by rw [HP.out]; decide), HP.out])
        rw [hzd] at HZD
        have z1 := HZD.out
        clear hzd
        go_wp2_with fail
        go_ret
        exact ⟨ret_int' HV.out.symm, hwr.trans ((ba _ _).mono hwr.size)⟩
      | false =>
        have HZD2 := lid hzd
        rw [hzd] at HZD
        have z1 := HZD.out
        clear hzd
        go_wp2_with fail
        obtain ⟨W2, hW2⟩ : ∃ W2, wr.alloc (Obj.cells #[.int .u64 d.1.toNat, .int .u64 d.2.toNat] 86) = W2 := ⟨_, rfl⟩
        have hb2 : Below wr.heap.size wr W2 := by rw [← hW2]; exact ba _ _
        obtain ⟨lD, y0, y1⟩ : DBox W2 wr.heap.size d := by rw [← hW2]; exact DBox.new wr d _
        have e5 := (bc hb2 l0 5).trans c5
        have l2 : w.heap.size < W2.heap.size := by have := hb2.size; omega
        have hw2 := hwr.trans (hb2.mono hwr.size)
        have CC := lid (fun w' (h : Below W2.heap.size W2 w') => Contains_any (o.pars.take k) d k cp (some ⟨b1, o1, none⟩) w' (by simp; omega) (by omega) ((((HA.out.ps.below hb).below hb2).below h).take k))
        rw [hW2]
        clear hW2 x0 x1 c0 c1 c2 c3 c4 c5 c6 c7 c8
        refine wp_region_seq (fun w' => ∃ s : Since W2.heap.size W2, w' = s.world) [(0, true), (1, true), (2, true), (3, true), (4, true), (5, false)] (by kernel_rfl) (by kernel_rfl) (by intro c d v a w h; first | (cases d <;> exact h) | cases h.1) (since (Below.refl _ _).drew) ?_
        repeat (first | (refine seq_skip (by rfl) (by rfl) ?_; simp only [Act.put, List.setIfInBounds_toArray, List.set_cons_succ, List.set_cons_zero]) | (refine seq_float (by rfl) (by rfl) (by rfl) ?_; intro K hK; go_big_quiet_op; go_big_quiet_on))
        refine seq_chain (by rfl) ?_
        intro K hK
        go_wp2_with fail
        (with_reducible refine (CC.out _ (Below.refl _ _).drew).mono ?_); rintro e w3 ⟨rfl, hb3⟩
        have h3 : Below W2.heap.size W2 w3 := (Below.refl _ _).drew.trans hb3
        have hw3 := hw2.trans (h3.mono hw2.size)
        cases hm : decide (d ∈ o.pars.take k) with
        | true =>
          have HP : Hid (parsGo [] o.pars = 7) := lid (by rw [HG.out, HD.out]; exact pars_twice HZD2.out hm)
          have HV : Hid (commE o = 7) := lid (by rw [HCP.out (by rw [HP.out]; decide), HP.out])
          clear hm
          go_wp2_with fail
          refine hK.out _ _ (since h3) ?_
          clear hK K
          repeat (first | (refine seq_skip (by rfl) (by rfl) ?_; simp only [Act.put, List.setIfInBounds_toArray, List.set_cons_succ, List.set_cons_zero]) | (refine seq_float (by rfl) (by rfl) (by rfl) ?_; intro K hK; go_big_quiet_op; go_big_quiet_on))
          refine seq_nil ?_
          go_wp2_with fail
          go_ret
          exact ⟨ret_int' HV.out.symm, hw3⟩
        | false =>
          have HP : Hid (parsGo [] o.pars = parsGo (o.pars.take (k + 1)) (o.pars.drop (k + 1))) := lid (by rw [HG.out, HD.out, pars_next HZD2.out hm, HT.out])
          clear hm
          go_wp2_with fail
          refine hK.out _ _ (since h3) ?_
          clear hK K
          repeat (first | (refine seq_skip (by rfl) (by rfl) ?_; simp only [Act.put, List.setIfInBounds_toArray, List.set_cons_succ, List.set_cons_zero]) | (refine seq_float (by rfl) (by rfl) (by rfl) ?_; intro K hK; go_big_quiet_op; go_big_quiet_on))
          refine seq_nil ?_
          go_wp2_with fail
          go_roundw
          case rel => exact ⟨k + 1, by omega, by go_num, HP, hb.trans ((hb2.trans (h3.mono hb2.size)).mono hb.size)⟩
          case measure => simp [intOf]; omega
    · obtain rfl : k = np := by omega
      have HP0 : Hid (parsGo [] o.pars = 0) := lid (by rw [HG.out, List.drop_eq_nil_of_le (by rw [HN.out]; exact Nat.le_refl _)]; rfl)
      have HOX := HO.out.below hb
      obtain ⟨l0, c0, c1, c2, c3, c4, c5, c6, c7, c8⟩ := HOX
      have HOX := HO.out.below hb
      go_wp2_with fail
      (with_reducible refine (valid_any o.auth _ HA.out.asz).mono ?_); rintro e wv ⟨rfl, rfl⟩
      cases hB : nameB o.auth with
      | false =>
        have HV : Hid (commE o = 6) := lid (by unfold commE; rw [if_neg (by rw [HZ.out]; decide), if_neg HL8.out, if_pos HP0.out, if_neg (by rw [hB]; decide)])
        clear hB
        go_wp2_with fail
        go_ret
        exact ⟨ret_int' HV.out.symm, hwr⟩
      | true =>
        have HC1 : Hid (commE o = if o.time < 0 ∨ 1099511627776 < o.time then 2 else if 200 < o.msg.size then 4 else 0) := lid (by unfold commE; rw [if_neg (by rw [HZ.out]; decide), if_neg HL8.out, if_pos HP0.out, if_pos hB])
        clear hB
        by_cases t0 : o.time < 0
        · have HV : Hid (commE o = 2) := lid (by rw [HC1.out, if_pos (.inl t0)])
          have d0 : decide (o.time < 0) = true := decide_eq_true t0
          go_wp2_with fail
          go_ret
          exact ⟨ret_int' HV.out.symm, hwr⟩
        have d0 : decide (o.time < 0) = false := decide_eq_false t0
        by_cases t1 : 1099511627776 < o.time
        · have HV : Hid (commE o = 2) := lid (by rw [HC1.out, if_pos (.inr t1)])
          have d1 : decide (1099511627776 < o.time) = true := decide_eq_true t1
          clear t1
          go_wp2_with fail
          go_ret
          exact ⟨ret_int' HV.out.symm, hwr⟩
        have d1 : decide (1099511627776 < o.time) = false := decide_eq_false t1
        have HC2 : Hid (commE o = if 200 < o.msg.size then 4 else 0) := lid (by rw [HC1.out, if_neg (by rintro (h | h); exact t0 h; exact t1 h)])
        clear t1 HC1
        by_cases t2 : 200 < o.msg.size
        · have HV : Hid (commE o = 4) := lid (by rw [HC2.out, if_pos t2])
          have d2 : decide ((200 : Int) < (o.msg.size : Int)) = true := by simp; omega
          go_wp2_with fail
          go_ret
          exact ⟨ret_int' HV.out.symm, hwr⟩
        · have HV : Hid (commE o = 0) := lid (by rw [HC2.out, if_neg t2])
          have d2 : decide ((200 : Int) < (o.msg.size : Int)) = false := by simp; omega
          go_wp2_with fail
          go_ret
          exact ⟨ret_int' HV.out.symm, hwr⟩

end Go.Proofs.YtefehgdckmajiaaGreatDoor
