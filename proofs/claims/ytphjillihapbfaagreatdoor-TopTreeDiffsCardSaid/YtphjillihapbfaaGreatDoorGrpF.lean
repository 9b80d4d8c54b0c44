/-
  ObjSpec Cells ObjEnts Mix DigBox ObjIdx.
-/
import Derived.Test.YtphjillihapbfaaGreatDoorObjName
import Derived.Test.YtphjillihapbfaaGreatDoorGrpB
import Derived.Test.YtphjillihapbfaaGreatDoorGrpE
namespace Go.Proofs.YtphjillihapbfaaGreatDoor
open Go.RowKit

/-- An entry: name, dir, digest. -/
abbrev Ent := ByteArray × Bool × Dg
structure Ob where
  kind : Int
  data : ByteArray
  ents : List Ent
  tree : Dg
  pars : List Dg
  auth : ByteArray
  time : Int
  msg : ByteArray
def ecells (l : List Ent) : List Value := l.flatMap fun e => [.string e.1, .bool e.2.1, .int .u64 e.2.2.1.toNat, .int .u64 e.2.2.2.toNat]
theorem ecells_length (l : List Ent) : (ecells l).length = l.length * 4 := by
  induction l with
  | nil => rfl
  | cons r l ih => simp [ecells] at ih ⊢; omega
theorem ecells_at {l : List Ent} {j : Nat} (h : j < l.length) : (ecells l)[j * 4 + 0]? = some (.string (l[j]).1) ∧ (ecells l)[j * 4 + 1]? = some (.bool (l[j]).2.1) ∧ (ecells l)[j * 4 + 2]? = some (.int .u64 (l[j]).2.2.1.toNat) ∧ (ecells l)[j * 4 + 3]? = some (.int .u64 (l[j]).2.2.2.toNat) := by
  induction l generalizing j with
  | nil => simp at h
  | cons d l ih =>
    cases j with
    | zero => simp [ecells]
    | succ j =>
      have := ih (j := j) (by simpa using h)
      rw [show (j + 1) * 4 + 0 = j * 4 + 0 + 4 by omega, show (j + 1) * 4 + 1 = j * 4 + 1 + 4 by omega, show (j + 1) * 4 + 2 = j * 4 + 2 + 4 by omega, show (j + 1) * 4 + 3 = j * 4 + 3 + 4 by omega]
      simpa [ecells] using this
/-- Is a name not behind another one? -/
def leB (a b : ByteArray) : Bool := Op.bytesLess a.toList b.toList || a.toList == b.toList
/-- Is a digest zero? -/
def zeroB (d : Dg) : Bool := decide (d = (0, 0))
/-- Why entries are not valid, apart from their number. -/
def entsGo : Option ByteArray → List Ent → Int
  | _, [] => 0
  | p, e :: l => if nameB e.1 = true then (if (match p with | some q => leB e.1 q | none => false) = true then 10 else if zeroB e.2.2 = true then 1 else entsGo (some e.1) l) else 6
def entsE (l : List Ent) : Int := if l.length ≤ 200 then entsGo none l else 4
theorem ents_name {p : Option ByteArray} {e : Ent} {l : List Ent} (h : nameB e.1 = false) : entsGo p (e :: l) = 6 := by simp [entsGo, h]
theorem ents_order {q : ByteArray} {e : Ent} {l : List Ent} (h : nameB e.1 = true) (ho : leB e.1 q = true) : entsGo (some q) (e :: l) = 10 := by simp [entsGo, h, ho]
theorem ents_zero {p : Option ByteArray} {e : Ent} {l : List Ent} (h : nameB e.1 = true) (ho : ∀ q, p = some q → leB e.1 q = false) (hz : zeroB e.2.2 = true) : entsGo p (e :: l) = 1 := by
  cases p with
  | none => simp [entsGo, h, hz]
  | some q => simp [entsGo, h, ho q rfl, hz]
theorem ents_next {p : Option ByteArray} {e : Ent} {l : List Ent} (h : nameB e.1 = true) (ho : ∀ q, p = some q → leB e.1 q = false) (hz : zeroB e.2.2 = false) : entsGo p (e :: l) = entsGo (some e.1) l := by
  cases p with
  | none => simp [entsGo, h, hz]
  | some q => simp [entsGo, h, ho q rfl, hz]
/-- The order of bytes is total. -/
theorem less_total : ∀ (a b : List UInt8), (!Op.bytesLess a b) = (Op.bytesLess b a || b == a)
  | [], [] => rfl
  | [], _ :: _ => rfl
  | _ :: _, [] => rfl
  | x :: a, y :: b => by
    have ih := less_total a b
    unfold Op.bytesLess
    by_cases h1 : x < y
    · have h2 : ¬ y < x := by intro h; exact absurd (UInt8.lt_trans h1 h) (UInt8.lt_irrefl x)
      have h3 : ¬ y = x := by intro h; subst h; exact UInt8.lt_irrefl _ h1
      simp [h1, h2, h3]
    · by_cases h2 : y < x
      · have h3 : ¬ x = y := by intro h; subst h; exact UInt8.lt_irrefl _ h2
        simp [h1, h2, h3]
      · have h3 : x = y := UInt8.le_antisymm (UInt8.not_lt.1 h2) (UInt8.not_lt.1 h1)
        subst h3
        have hx : ¬ x < x := UInt8.lt_irrefl x
        simp only [hx, decide_false, Bool.false_or, beq_self_eq_true, Bool.true_and]
        rw [ih]
        simp
theorem ge_le (a b : ByteArray) : (!Op.bytesLess a.toList b.toList) = leB b a := less_total _ _
end Go.Proofs.YtphjillihapbfaaGreatDoor

namespace Go.Proofs.YtphjillihapbfaaGreatDoor
open Go.RowKit
theorem cell_new_at {w : World} {n : Nat} (h : w.heap.size = n) (cs : Array Value) (t : TypeId) (o : Nat) : (w.alloc (.cells cs t)).cell? ⟨n, o, none⟩ = cs[o]? := by
  subst h
  exact cell_of_row _ _ _ cs t (0, 0) (heap_alloc_new w _)
theorem cell_old_at {w : World} {b : Nat} (h : b < w.heap.size) (ob : Obj) (o : Nat) : (w.alloc ob).cell? ⟨b, o, none⟩ = w.cell? ⟨b, o, none⟩ := bc (ba w ob) h o
end Go.Proofs.YtphjillihapbfaaGreatDoor

namespace Go.Proofs.YtphjillihapbfaaGreatDoor
open Go.RowKit

theorem ret_int' {a b : Int} (h : a = b) : Ending.returned (.int .i64 a) = .returned (.int .i64 b) := by rw [h]
theorem zeroB_spell (d : Dg) : (((d.1.toNat : Int) == 0) && ((d.2.toNat : Int) == 0)) = zeroB d := by
  unfold zeroB
  rw [Bool.eq_iff_iff]
  simp only [Bool.and_eq_true, beq_iff_eq, decide_eq_true_eq]
  constructor
  · rintro ⟨h1, h2⟩
    exact Prod.ext (UInt64.toNat_inj.1 (by simp; omega)) (UInt64.toNat_inj.1 (by simp; omega))
  · rintro rfl
    simp
set_option maxRecDepth 100000 in
set_option maxHeartbeats 8000000 in
theorem checkEntries_any (l : List Ent) (n cap : Nat) (ao : Option Addr) (w : World) (hn : l.length = n) (hs : Sl w 4 ao n (ecells l)) (hr : ∀ e ∈ l, e.1.size ≤ maxLen) (hm : n ≤ maxLen) :
    Calls Tryz.prog 95 #[.slice ao n cap] w fun e w' => e = .returned (.int .i64 (entsE l)) ∧ Below w.heap.size w w' := by
  have HN := lid hn
  have HS := lid hs
  have HR := lid hr
  have hm' : n ≤ 9223372036854775807 := hm
  clear hn hs hr hm
  by_cases h4 : 200 < n
  · have HC : Hid (entsE l = 4) := lid (by unfold entsE; rw [if_neg (by rw [HN.out]; omega)])
    have d4 : decide ((200 : Int) < (n : Int)) = true := by simp; omega
    go_enter Tryz.func95, Tryz.ntmps95
    go_wp2_with fail
    go_ret
    exact ⟨ret_int' HC.out.symm, Below.refl _ _⟩
  have HC : Hid (entsE l = entsGo none l) := lid (by unfold entsE; rw [if_pos (by rw [HN.out]; omega)])
  have d4 : decide ((200 : Int) < (n : Int)) = false := by simp; omega
  go_enter Tryz.func95, Tryz.ntmps95
  go_wp2_with fail
  go_loopw [3, 4, 10, 15, 20, 34] (fun _ _ i _ _ _ wr => ∃ (k : Nat) (p : Option ByteArray), k ≤ n ∧ i = .int .i64 k ∧ Hid (entsGo none l = entsGo p (l.drop k)) ∧ Hid (k = 0 ∧ p = none ∨ ∃ (j : Nat) (hj : j < l.length), k = j + 1 ∧ p = some (l[j]).1) ∧ Below w.heap.size w wr) (fun _ _ i _ _ _ _ => n - (intOf i).toNat)
  case atStart => exact ⟨0, none, Nat.zero_le _, rfl, lid rfl, lid (.inl ⟨rfl, rfl⟩), Below.refl _ _⟩
  case round =>
    obtain ⟨k, p, hk, rfl, HG, HP, hb⟩ := hrel
    by_cases hlt : k < n
    · have hkl : k < l.length := by rw [HN.out]; exact hlt
      obtain ⟨b1, o1, rfl, hlb, hcell⟩ := (HS.out.below hb).at_ hlt
      have x0 := hcell (k * 4 + 0) _ (ecells_at hkl).1
      have x1 := hcell (k * 4 + 1) _ (ecells_at hkl).2.1
      have x2 := hcell (k * 4 + 2) _ (ecells_at hkl).2.2.1
      have x3 := hcell (k * 4 + 3) _ (ecells_at hkl).2.2.2
      rw [← Nat.add_assoc] at x1 x2 x3
      rw [Nat.add_zero] at x0
      have HD := lid (List.drop_eq_getElem_cons hkl)
      have HRS := lid (HR.out _ (List.getElem_mem hkl))
      have HK0 : Hid (∀ j (hj : j < l.length), wr.cell? ⟨b1, o1 + j * 4, none⟩ = some (.string (l[j]).1)) := lid (fun j hj => by have := hcell (j * 4 + 0) _ (ecells_at hj).1; rwa [Nat.add_zero] at this)
      have dk : decide ((k : Int) < (n : Int)) = true := by simp; omega
      clear hcell
      obtain ⟨r, hrk⟩ : ∃ r, l[k] = r := ⟨_, rfl⟩
      rw [hrk] at x0 x1 x2 x3 HD HRS
      obtain ⟨a, dir, d⟩ := r
      simp only at x0 x1 x2 x3
      have HZS := lid (zeroB_spell d)
      have hr0 := congrArg Prod.fst hrk
      clear hrk
      go_wp2_with fail
      obtain ⟨W1, hW1⟩ : ∃ W1, wr.alloc (Obj.cells #[.string a, .bool dir, .int .u64 d.1.toNat, .int .u64 d.2.toNat] 83) = W1 := ⟨_, rfl⟩
      have hb1 : Below wr.heap.size wr W1 := by rw [← hW1]; exact ba _ _
      have y0 : W1.cell? ⟨wr.heap.size, 0, none⟩ = some (.string a) := by rw [← hW1]; exact cell_new_at rfl _ _ _
      have y2 : W1.cell? ⟨wr.heap.size, 2, none⟩ = some (.int .u64 d.1.toNat) := by rw [← hW1]; exact cell_new_at rfl _ _ _
      have y3 : W1.cell? ⟨wr.heap.size, 3, none⟩ = some (.int .u64 d.2.toNat) := by rw [← hW1]; exact cell_new_at rfl _ _ _
      have hlt1 : wr.heap.size < W1.heap.size := by rw [← hW1]; simp
      have hlb1 : b1 < W1.heap.size := by omega
      rw [hW1]
      have hw1 := hb.trans (hb1.mono hb.size)
      clear hW1 x0 x1 x2 x3
      (with_reducible refine (valid_any a _ HRS.out).mono ?_); rintro e w2 ⟨rfl, rfl⟩
      cases hB : nameB a with
      | false =>
        have HV := lid (ents_name (e := (a, dir, d)) (p := p) (l := l.drop (k + 1)) hB)
        clear hB
        go_wp2_with fail
        go_ret
        exact ⟨ret_int' (by rw [HC.out, HG.out, HD.out, HV.out]), hw1⟩
      | true =>
        have HB := lid hB
        clear hB
        rcases HP.out with ⟨rfl, rfl⟩ | ⟨j, hj, rfl, rfl⟩
        · have HO : Hid (∀ q, (none : Option ByteArray) = some q → leB a q = false) := lid (fun q h => by cases h)
          go_wp2_with fail
          refine wp_region_seq (fun w' => ∃ s : Since w2.heap.size w2, w' = s.world) [(0, true), (1, true), (2, true), (3, true), (4, true), (5, true), (6, true), (7, true), (8, true), (9, true), (10, true), (11, true), (12, true), (13, false)] (by kernel_rfl) (by kernel_rfl) (by intro c d v a w h; first | (cases d <;> exact h) | cases h.1) (since (Below.refl _ _).drew) ?_
          repeat (first | (refine seq_skip (by rfl) (by rfl) ?_; simp only [Act.put, List.setIfInBounds_toArray, List.set_cons_succ, List.set_cons_zero]) | (refine seq_float (by rfl) (by rfl) (by rfl) ?_; intro K hK; go_big_quiet_op; go_big_quiet_on))
          refine seq_chain (by rfl) ?_
          intro K hK
          go_wp2_with fail
          refine hK.out _ _ (since (Below.refl _ _).drew) ?_
          clear hK K
          repeat (first | (refine seq_skip (by rfl) (by rfl) ?_; simp only [Act.put, List.setIfInBounds_toArray, List.set_cons_succ, List.set_cons_zero]) | (refine seq_float (by rfl) (by rfl) (by rfl) ?_; intro K hK; go_big_quiet_op; go_big_quiet_on))
          refine seq_nil ?_
          cases hz : zeroB d with
          | true =>
            have HV := lid (ents_zero (e := (a, dir, d)) (p := none) (l := l.drop (0 + 1)) HB.out HO.out hz)
            rw [hz] at HZS
            have z0 := HZS.out
            clear hz
            go_wp2_with fail
            go_ret
            exact ⟨ret_int' (by rw [HC.out, HG.out, HD.out, HV.out]), hw1.drew⟩
          | false =>
            have HV := lid (ents_next (e := (a, dir, d)) (p := none) (l := l.drop (0 + 1)) HB.out HO.out hz)
            rw [hz] at HZS
            have z0 := HZS.out
            clear hz
            go_wp2_with fail
            go_roundw
            case rel => exact ⟨1, some a, by omega, by go_num, lid (by rw [HG.out, HD.out, HV.out]), lid (.inr ⟨0, hkl, rfl, by rw [hr0]⟩), hw1.drew⟩
            case measure => simp [intOf]; omega
        · have z := (bc hb1 hlb _).trans (HK0.out j hj)
          obtain ⟨pt, hpt⟩ : ∃ pt, (l[j]).1 = pt := ⟨_, rfl⟩
          rw [hpt] at z HG
          have hj9 : j ≤ 200 := by omega
          have hjn : (j : Int) < n := by omega
          have hjn1 : (j : Int) + 1 < n := by omega
          have e0 : ((j + 1 : Nat) : Int) = (j : Int) + 1 := by omega
          have hpos : decide ((0 : Int) < (j : Int) + 1) = true := decide_eq_true (by omega)
          have wj : IntKind.i64.wrap (j : Int) = j := IntWalk.i64_in _ (by omega)
          have hjl : decide (j < n) = true := by simp; omega
          clear hpt
          cases ho : leB a pt with
          | true =>
            have HV := lid (ents_order (e := (a, dir, d)) (q := pt) (l := l.drop (j + 1 + 1)) HB.out ho)
            have hd : (Op.bytesLess a.toList pt.toList || a.toList == pt.toList) = true := ho
            clear ho
            go_wp2_with fail
            refine wp_region_seq (fun w' => ∃ s : Since w2.heap.size w2, w' = s.world) [(0, true), (1, true), (2, true), (3, true), (4, true), (5, true), (6, true), (7, true), (8, true), (9, true), (10, true), (11, true), (12, true), (13, false)] (by kernel_rfl) (by kernel_rfl) (by intro c d v a w h; first | (cases d <;> exact h) | cases h.1) (since (Below.refl _ _).drew) ?_
            repeat (first | (refine seq_skip (by rfl) (by rfl) ?_; simp only [Act.put, List.setIfInBounds_toArray, List.set_cons_succ, List.set_cons_zero]) | (refine seq_float (by rfl) (by rfl) (by rfl) ?_; intro K hK; go_big_quiet_op; go_big_quiet_on))
            refine seq_chain (by rfl) ?_
            intro K hK
            go_wp2_with fail
            refine hK.out _ _ (since (Below.refl _ _).drew) ?_
            clear hK K
            repeat (first | (refine seq_skip (by rfl) (by rfl) ?_; simp only [Act.put, List.setIfInBounds_toArray, List.set_cons_succ, List.set_cons_zero]) | (refine seq_float (by rfl) (by rfl) (by rfl) ?_; intro K hK; go_big_quiet_op; go_big_quiet_on))
            refine seq_nil ?_
            go_wp2_with fail
            go_ret
            exact ⟨ret_int' (by rw [HC.out, HG.out, HD.out, HV.out]), hw1.drew⟩
          | false =>
            have HO : Hid (∀ q, some pt = some q → leB a q = false) := lid (fun q h => by cases h; exact ho)
            have hd : (Op.bytesLess a.toList pt.toList || a.toList == pt.toList) = false := ho
            clear ho
            go_wp2_with fail
            refine wp_region_seq (fun w' => ∃ s : Since w2.heap.size w2, w' = s.world) [(0, true), (1, true), (2, true), (3, true), (4, true), (5, true), (6, true), (7, true), (8, true), (9, true), (10, true), (11, true), (12, true), (13, false)] (by kernel_rfl) (by kernel_rfl) (by intro c d v a w h; first | (cases d <;> exact h) | cases h.1) (since (Below.refl _ _).drew) ?_
            repeat (first | (refine seq_skip (by rfl) (by rfl) ?_; simp only [Act.put, List.setIfInBounds_toArray, List.set_cons_succ, List.set_cons_zero]) | (refine seq_float (by rfl) (by rfl) (by rfl) ?_; intro K hK; go_big_quiet_op; go_big_quiet_on))
            refine seq_chain (by rfl) ?_
            intro K hK
            go_wp2_with fail
            refine hK.out _ _ (since (Below.refl _ _).drew) ?_
            clear hK K
            repeat (first | (refine seq_skip (by rfl) (by rfl) ?_; simp only [Act.put, List.setIfInBounds_toArray, List.set_cons_succ, List.set_cons_zero]) | (refine seq_float (by rfl) (by rfl) (by rfl) ?_; intro K hK; go_big_quiet_op; go_big_quiet_on))
            refine seq_nil ?_
            cases hz : zeroB d with
            | true =>
              have HV := lid (ents_zero (e := (a, dir, d)) (p := some pt) (l := l.drop (j + 1 + 1)) HB.out HO.out hz)
              rw [hz] at HZS
              have z0 := HZS.out
              clear hz
              go_wp2_with fail
              go_ret
              exact ⟨ret_int' (by rw [HC.out, HG.out, HD.out, HV.out]), hw1.drew⟩
            | false =>
              have HV := lid (ents_next (e := (a, dir, d)) (p := some pt) (l := l.drop (j + 1 + 1)) HB.out HO.out hz)
              rw [hz] at HZS
              have z0 := HZS.out
              clear hz
              go_wp2_with fail
              go_roundw
              case rel => exact ⟨j + 1 + 1, some a, by omega, by go_num, lid (by rw [HG.out, HD.out, HV.out]), lid (.inr ⟨j + 1, hkl, rfl, by rw [hr0]⟩), hw1.drew⟩
              case measure => simp [intOf]; omega
    · obtain rfl : k = n := by omega
      have HV : Hid (entsGo none l = 0) := lid (by rw [HG.out, List.drop_eq_nil_of_le (by rw [HN.out]; exact Nat.le_refl _)]; cases p <;> rfl)
      go_wp2_with fail
      go_ret
      exact ⟨ret_int' (by rw [HC.out, HV.out]), hb⟩

end Go.Proofs.YtphjillihapbfaaGreatDoor

namespace Go.Proofs.YtphjillihapbfaaGreatDoor
open Go.RowKit

def upd (s : Nat → Bool) (i : Nat) : Nat → Bool := fun k => if k = i then true else s k
@[simp] theorem upd_same (s : Nat → Bool) (i : Nat) : upd s i i = true := by simp [upd]
theorem upd_ne (s : Nat → Bool) {i k : Nat} (h : k ≠ i) : upd s i k = s k := by simp [upd, h]
/-- Slots of a frame set anew. -/
def putAll (a : Act) : List Nat → List Value → Act
  | k :: ks, v :: vs => putAll (a.put (some k) v) ks vs
  | _, _ => a

/-- Whatever comes up is one of cs, and what it needs has been. -/
def mixB (md : Region.Mode) (ops : Array Oper) (cs : List (Nat × List Nat)) (fin : Array Bool → Bool) : Nat → Array Bool → Bool
  | 0, listed => cs.all (fun c => listed.getD c.1 false) && fin listed
  | n + 1, listed => !(Region.ready md ops listed).isEmpty && (Region.ready md ops listed).all fun i => (cs.any fun c => c.1 == i && c.2.all fun d => listed.getD d false) && mixB md ops cs fin n (listed.setIfInBounds i true)

section
variable {P : Program} {ops : Array Oper} {Q : Exit → Act → World → Prop} {md : Region.Mode} {C : World → Prop}
theorem wpAnyH_mix {cs : List (Nat × List Nat)} {fin : Array Bool → Bool} {fuel0 : Nat} {I : (Nat → Bool) → Act → World → Prop}
    (hstep : ∀ c ∈ cs, ∀ s a w, s c.1 = false → (∀ d ∈ c.2, s d = true) → C w → I s a w → wpOp P ops Q c.1 (fun a' w' => C w' ∧ I (upd s c.1) a' w') a w)
    (hend : ∀ listed s a w, fin listed = true → (∀ c ∈ cs, s c.1 = true) → C w → I s a w → wpAnyH P md ops Q C fuel0 listed a w) :
    ∀ (n : Nat) (listed : Array Bool) (s : Nat → Bool) (a : Act) (w : World), (∀ k, s k = listed.getD k false) → mixB md ops cs fin n listed = true → C w → I s a w → wpAnyH P md ops Q C (n + fuel0) listed a w
  | 0, listed, s, a, w, hs, hB, hC, hI => by
    simp only [mixB, Bool.and_eq_true, List.all_eq_true] at hB
    rw [Nat.zero_add]
    exact hend listed s a w hB.2 (fun c hc => by rw [hs]; exact hB.1 c hc) hC hI
  | n + 1, listed, s, a, w, hs, hB, hC, hI => by
    simp only [mixB, Bool.and_eq_true, List.all_eq_true, List.any_eq_true, beq_iff_eq] at hB
    obtain ⟨hne, hall⟩ := hB
    rw [show n + 1 + fuel0 = n + fuel0 + 1 by omega]
    refine wpAnyH_all rfl (by intro e; rw [e] at hne; simp at hne) (fun i hi => ?_)
    obtain ⟨⟨c, hc, rfl, hd⟩, hB'⟩ := hall i hi
    have h0 : listed.getD c.1 true = false := (mem_ready.1 hi).1
    have hlt : c.1 < listed.size := by
      rcases Nat.lt_or_ge c.1 listed.size with h | h
      · exact h
      · rw [Array.getD_eq_getD_getElem?, Array.getElem?_eq_none h] at h0
        cases h0
    have h1 : listed.getD c.1 false = false := by
      rw [Array.getD_eq_getD_getElem?, Array.getElem?_eq_getElem hlt] at h0 ⊢
      exact h0
    refine wpOp_mono (fun a' w' hh => ⟨hh.1, wpAnyH_mix hstep hend n _ (upd s c.1) a' w' ?_ hB' hh.1 hh.2⟩) (hstep c hc s a w (by rw [hs]; exact h1) (fun d hdd => by rw [hs]; exact hd d hdd) hC hI)
    intro k
    by_cases e : k = c.1
    · subst e
      rw [upd_same, Array.getD_eq_getD_getElem?, Array.getElem?_setIfInBounds_self_of_lt hlt]
      rfl
    · rw [upd_ne s e, getD_set_ne false (Ne.symm e)]
      exact hs k

/-- What is to be shown where the mix begins. -/
def MixGo (P : Program) (ops : Array Oper) (C : World → Prop) (Q : Exit → Act → World → Prop) (cs : List (Nat × List Nat)) (post : List (Nat × Bool)) (a : Act) (w : World) : Prop :=
  ∃ I : (Nat → Bool) → Act → World → Prop, (∀ s, (∀ c ∈ cs, s c.1 = false) → I s a w) ∧
    (∀ c ∈ cs, ∀ s a w, s c.1 = false → (∀ d ∈ c.2, s d = true) → C w → I s a w → wpOp P ops Q c.1 (fun a' w' => C w' ∧ I (upd s c.1) a' w') a w) ∧
    (∀ s a w, (∀ c ∈ cs, s c.1 = true) → C w → I s a w → seqRun P ops C Q (fun a w => Q .normal a w) post a w)

/-- THE BEGINNING. -/
theorem wp_region_mix {id : Nat} {a : Act} {w : World} {l : List Oper} (C : World → Prop) (pre : List (Nat × Bool)) (cs : List (Nat × List Nat)) (post : List (Nat × Bool)) (hm : P.follows .mixedOrders = true)
    (hB : (Region.noSelect l.toArray && decide (pre.length + (cs.length + post.length) = l.length) && (match seqB .any l.toArray pre (Array.replicate l.length false) with
      | some listed => (cs.all fun c => !listed.getD c.1 false) && mixB .any l.toArray cs (fun l1 => match seqB .any l.toArray post l1 with | some l2 => (Region.ready .any l.toArray l2).isEmpty | none => false) cs.length listed
      | none => false)) = true)
    (hQ : ∀ c d v a w, Q (.panic c) (Act.put a d v) w → Q (.panic c) a w) (hC : C w.drew)
    (h : seqRun P l.toArray C Q (MixGo P l.toArray C Q cs post) pre a w.drew) : (Code.region id l.toArray true).wp P Q a w := by
  simp only [Bool.and_eq_true, decide_eq_true_eq] at hB
  obtain ⟨⟨hs, hl⟩, hB⟩ := hB
  split at hB
  · rename_i listed hsq
    simp only [Bool.and_eq_true, List.all_eq_true] at hB
    obtain ⟨hfresh, hmix⟩ := hB
    refine wp_region_held (S := C) hm ?_
    have := wpAnyH_of_seq (md := .any) (P := P) (fuel := cs.length + post.length) hs hQ pre _ listed a w.drew hC hsq (fun a w hCw hq => ?_) h
    · rw [hl] at this
      simpa using this
    · obtain ⟨I, h0, h1, h2⟩ := hq
      refine wpAnyH_mix h1 ?_ cs.length listed (fun k => listed.getD k false) a w (fun _ => rfl) hmix hCw (h0 _ (fun c hc => by have := hfresh c hc; revert this; cases listed.getD c.1 false <;> simp))
      intro l1 s a w hfin hall hCw hI
      split at hfin
      · rename_i l2 hl2
        have := wpAnyH_of_seq (md := .any) (P := P) (fuel := 0) hs hQ post _ l2 a w hCw hl2 (fun a w _ hq => ⟨by simpa using hfin, hq⟩) (h2 s a w hall hCw hI)
        simpa using this
      · cases hfin
  · cases hB

/-- One operation as a list of one. -/
theorem mix_op {i : Nat} {o : Oper} {l : List Oper} (hi : l[i]? = some o) {a : Act} {w : World} {G : Act → World → Prop} (h : ∀ K : Act → World → Prop, Hid (∀ a w, G a w → K a w) → wpList P l.toArray (Exit.then K Q) [o] a w) : wpOp P l.toArray Q i G a w := by
  have h1 := h G (fun _ _ hg => hg)
  have hi' : l.toArray[i]? = some o := by simpa using hi
  unfold wpOp
  simp only [hi']
  unfold wpList at h1
  split
  · rename_i hw
    rw [if_pos hw] at h1
    refine h1.imp ?_ (fun ⟨h2, b, v, h3⟩ => ⟨h2, b, v, h3⟩)
    intro h2
    unfold Oper.wp at *
    generalize (execOp a.eval o).run P w = r at *
    cases r with
    | ok n w' =>
      cases n <;> simp only [Oper.upon] at h2 ⊢ <;>
        first
          | exact h2
          | exact Calls.mono h2 (fun e w'' he => by cases e <;> exact he)
          | exact Rows.mono h2 (fun _ _ he => he)
    | halt x w' => cases x <;> simp only [Oper.upon] at h2 ⊢ <;> exact h2
  · rename_i hw
    rw [if_neg hw] at h1
    exact h1

/-- The operations of the mix, one by one, over a frame of which only some slots turn. -/
def MixSteps (P : Program) (l : List Oper) (C : World → Prop) (Q : Exit → Act → World → Prop) (a : Act) (slots : List Nat) (R : (Nat → Bool) → List Value → World → Prop) : List (Nat × List Nat) → Prop
  | [] => True
  | c :: cs => (∀ s vs w, vs.length = slots.length → s c.1 = false → (∀ d ∈ c.2, s d = true) → C w → R s vs w →
      wpOp P l.toArray Q c.1 (fun a' w' => C w' ∧ ∃ vs', vs'.length = slots.length ∧ a' = putAll a slots vs' ∧ R (upd s c.1) vs' w') (putAll a slots vs) w) ∧ MixSteps P l C Q a slots R cs
theorem mixSteps_mem {l : List Oper} {a : Act} {slots : List Nat} {R : (Nat → Bool) → List Value → World → Prop} : ∀ {cs : List (Nat × List Nat)}, MixSteps P l C Q a slots R cs → ∀ c ∈ cs, ∀ s vs w, vs.length = slots.length → s c.1 = false → (∀ d ∈ c.2, s d = true) → C w → R s vs w →
      wpOp P l.toArray Q c.1 (fun a' w' => C w' ∧ ∃ vs', vs'.length = slots.length ∧ a' = putAll a slots vs' ∧ R (upd s c.1) vs' w') (putAll a slots vs) w
  | [], _, _, hc => by cases hc
  | c0 :: cs, h, c, hc => by
    rcases List.mem_cons.1 hc with rfl | hc
    · exact h.1
    · exact mixSteps_mem h.2 c hc
theorem mix_go {l : List Oper} {cs : List (Nat × List Nat)} {post : List (Nat × Bool)} {a : Act} {w : World} (slots : List Nat) (vs0 : List Value) (R : (Nat → Bool) → List Value → World → Prop) (hl : vs0.length = slots.length) (h0 : a = putAll a slots vs0)
    (hi : ∀ s : Nat → Bool, (∀ c ∈ cs, s c.1 = false) → R s vs0 w) (hs : MixSteps P l C Q a slots R cs)
    (he : ∀ s vs w', vs.length = slots.length → (∀ c ∈ cs, s c.1 = true) → C w' → R s vs w' → seqRun P l.toArray C Q (fun a w => Q .normal a w) post (putAll a slots vs) w') : MixGo P l.toArray C Q cs post a w := by
  refine ⟨fun s a' w' => ∃ vs, vs.length = slots.length ∧ a' = putAll a slots vs ∧ R s vs w', fun s hs0 => ⟨vs0, hl, h0, hi s hs0⟩, ?_, ?_⟩
  · rintro c hc s a' w' h1 h2 hC ⟨vs, hvl, rfl, hR⟩
    exact mixSteps_mem hs c hc s vs w' hvl h1 h2 hC hR
  · rintro s a' w' hall hC ⟨vs, hvl, rfl, hR⟩
    exact he s vs w' hvl hall hC hR
end
theorem below_of_since {B : Nat} {W w' : World} (h : ∃ x : Since B W, w' = x.world) : Below B W w' := by
  obtain ⟨x, rfl⟩ := h
  exact x.2
end Go.Proofs.YtphjillihapbfaaGreatDoor

namespace Go.Proofs.YtphjillihapbfaaGreatDoor
open Go.RowKit

/-- A digest in a box. -/
def DBox (w : World) (k : Nat) (d : Dg) : Prop := k < w.heap.size ∧ w.cell? ⟨k, 0, none⟩ = some (.int .u64 d.1.toNat) ∧ w.cell? ⟨k, 1, none⟩ = some (.int .u64 d.2.toNat)
theorem DBox.below {w w' : World} {k B : Nat} {d : Dg} (h : DBox w k d) (hb : Below B w w') (hk : k < B) : DBox w' k d :=
  ⟨Nat.lt_of_lt_of_le h.1 hb.size, (bc hb hk 0).trans h.2.1, (bc hb hk 1).trans h.2.2⟩
theorem DBox.new (w : World) (d : Dg) (t : TypeId) : DBox (w.alloc (.cells #[.int .u64 d.1.toNat, .int .u64 d.2.toNat] t)) w.heap.size d := by
  refine ⟨by simp, ?_, ?_⟩ <;> rw [cell_of_row _ _ _ _ t _ (heap_alloc_new w _)] <;> rfl
/-- A box of two cells. -/
def Two (w : World) (k : Nat) : Prop := ∃ c0 c1 t, w.heap[k]? = some (.cells #[c0, c1] t (0, 0))
theorem Two.lt {w : World} {k : Nat} (h : Two w k) : k < w.heap.size := by
  obtain ⟨c0, c1, t, h⟩ := h
  exact (Array.getElem?_eq_some_iff.1 h).1
theorem Two.below {w w' : World} {k B : Nat} (h : Two w k) (hb : Below B w w') (hk : k < B) : Two w' k := by
  obtain ⟨c0, c1, t, h⟩ := h
  exact ⟨c0, c1, t, (hb.block k hk).trans h⟩
theorem Two.new (w : World) (c0 c1 : Value) (t : TypeId) : Two (w.alloc (.cells #[c0, c1] t)) w.heap.size := ⟨c0, c1, t, heap_alloc_new w _⟩
theorem Two.cells {w : World} {k : Nat} (h : Two w k) : ∃ c0 c1, w.cell? ⟨k, 0, none⟩ = some c0 ∧ w.cell? ⟨k, 1, none⟩ = some c1 ∧ w.frozen? ⟨k, 0, none⟩ = false ∧ w.frozen? ⟨k, 1, none⟩ = false := by
  obtain ⟨c0, c1, t, h⟩ := h
  exact ⟨c0, c1, by rw [cell_of_row w k 0 _ t _ h]; rfl, by rw [cell_of_row w k 1 _ t _ h]; rfl, frozen_of_row w k 0 _ t h, frozen_of_row w k 1 _ t h⟩
theorem Two.other {w : World} {k : Nat} (h : Two w k) (a : Addr) (x : Value) (hne : k ≠ a.block) : Two (w.setCell a x) k := by
  obtain ⟨c0, c1, t, h⟩ := h
  exact ⟨c0, c1, t, (Below.heap_setCell _ _ _ _ hne).trans h⟩
theorem Two.set {w : World} {k : Nat} (h : Two w k) (d : Dg) : DBox ((w.setCell ⟨k, 0, none⟩ (.int .u64 d.1.toNat)).setCell ⟨k, 1, none⟩ (.int .u64 d.2.toNat)) k d := by
  obtain ⟨c0, c1, t, h⟩ := h
  have h1 := heap_setCell_same w k 0 #[c0, c1] t (.int .u64 d.1.toNat) h
  have h2 := heap_setCell_same _ k 1 _ t (.int .u64 d.2.toNat) h1
  refine ⟨(Array.getElem?_eq_some_iff.1 h2).1, ?_, ?_⟩ <;> rw [cell_of_row _ k _ _ t _ h2] <;> rfl
theorem DBox.other {w : World} {k : Nat} {d : Dg} (h : DBox w k d) (a : Addr) (x : Value) (hne : k ≠ a.block) : DBox (w.setCell a x) k d := by
  refine ⟨by rw [World.size_setCell]; exact h.1, ?_, ?_⟩
  · exact (World.cell?_setCell_other _ _ _ _ (by intro e; exact hne (congrArg Addr.block e.symm))).trans h.2.1
  · exact (World.cell?_setCell_other _ _ _ _ (by intro e; exact hne (congrArg Addr.block e.symm))).trans h.2.2
end Go.Proofs.YtphjillihapbfaaGreatDoor

namespace Go.Proofs.YtphjillihapbfaaGreatDoor
open Go.RowKit

theorem beq_dg3 (a b : Dg) : (((a.1.toNat : Int) == (b.1.toNat : Int)) && ((a.2.toNat : Int) == (b.2.toNat : Int))) = decide (a = b) := by
  rw [Bool.eq_iff_iff]
  simp only [Bool.and_eq_true, beq_iff_eq, decide_eq_true_eq]
  constructor
  · rintro ⟨h1, h2⟩
    exact Prod.ext (UInt64.toNat_inj.1 (by omega)) (UInt64.toNat_inj.1 (by omega))
  · rintro rfl
    exact ⟨rfl, rfl⟩
/-- '==' of two digests, in a region. -/
theorem quiet_eq_dg3 {C : World → Prop} {K : Act → Prop} {a : Act} {o : Oper} (q r : Dg) (v : Bool) (x y : Operand) (h : o.op = .binOp .eql 31 x y 31)
    (hx : a.eval x = dv q) (hy : a.eval y = dv r) (hv : decide (q = r) = v) (hk : K (a.put o.dst (.bool v))) : o.quiet Tryz.prog a C K := by
  refine ⟨.bool v, fun w _ => ?_, hk⟩
  subst hv
  unfold Oper.quietAt execOp
  rw [h]
  simp only [hx, hy]
  simp [go_sem]
  exact beq_dg3 q r

set_option maxRecDepth 100000 in
set_option maxHeartbeats 4000000 in
theorem Index_any (l : List Dg) (d : Dg) (n cap : Nat) (ao : Option Addr) (w : World) (hn : l.length = n) (hm : n ≤ 1000000) (hs : DSl w ao l) :
    Calls Tryz.prog 131 #[.slice ao n cap, dv d] w fun e w' => (∃ r : Int, e = .returned (.int .i64 r) ∧ decide (0 ≤ r) = decide (d ∈ l)) ∧ Below w.heap.size w w' := by
  have HN := lid hn
  have hb0 := ba w (Obj.cells #[.int .u64 d.1.toNat, .int .u64 d.2.toNat] 31)
  have D0 := DBox.new w d 31
  obtain ⟨W, hW⟩ : ∃ W, w.alloc (Obj.cells #[.int .u64 d.1.toNat, .int .u64 d.2.toNat] 31) = W := ⟨_, rfl⟩
  rw [hW] at hb0 D0
  have HS := lid (hs.below hb0)
  have HW := lid hW
  obtain ⟨l0, c0, c1⟩ := D0
  have C0 := lid c0
  have C1 := lid c1
  clear hn hs hW c0 c1
  go_enter Tryz.func131, Tryz.ntmps131
  go_wp2_with fail
  rw [HW.out]
  clear HW
  go_loopw [5, 8] (fun _ i wr => ∃ (k : Nat), k ≤ n ∧ i = .int .i64 k ∧ Hid (d ∉ l.take k) ∧ Below W.heap.size W wr) (fun _ i _ => n - (intOf i).toNat)
  case atStart => exact ⟨0, Nat.zero_le _, rfl, lid (by simp), Below.refl _ _⟩
  case round =>
    obtain ⟨k, hk, rfl, HM, hb⟩ := hrel
    by_cases hlt : k < n
    · have hkl : k < l.length := by rw [HN.out]; exact hlt
      obtain ⟨b1, o1, rfl, hlb1, hd1⟩ := (HS.out.below hb).resolve_left (by omega)
      obtain ⟨x0, x1⟩ := hd1 k hkl
      have c0 := (bc hb l0 0).trans C0.out
      have c1 := (bc hb l0 1).trans C1.out
      have lr : w.heap.size < wr.heap.size := by have := hb.size; omega
      have HT := lid (List.take_succ_eq_append_getElem hkl)
      have hmem : Hid (l[k] ∈ l) := lid (List.getElem_mem hkl)
      have dk : decide ((k : Int) < (n : Int)) = true := by simp; omega
      clear hd1
      obtain ⟨q, hq⟩ : ∃ q, l[k] = q := ⟨_, rfl⟩
      rw [hq] at x0 x1 HT hmem
      clear hq
      by_cases hdq : d = q
      · have HQ := lid (decide_eq_true hdq)
        have HR : Hid (decide (d ∈ l) = true) := lid (decide_eq_true (by rw [hdq]; exact hmem.out))
        clear hdq
        go_wp2_with fail
        refine wp_region_seq (fun w' => ∃ s : Since wr.heap.size wr, w' = s.world) [(0, true), (1, true), (2, true), (3, true), (4, true), (5, true)] (by kernel_rfl) (by kernel_rfl) (by intro c d v a w h; first | (cases d <;> exact h) | cases h.1) (since (Below.refl _ _).drew) ?_
        iterate 5 (first | (refine seq_skip (by rfl) (by rfl) ?_; simp only [Act.put, List.setIfInBounds_toArray, List.set_cons_succ, List.set_cons_zero]) | (refine seq_float (by rfl) (by rfl) (by rfl) ?_; intro K hK; go_big_quiet_op; go_big_quiet_on))
        refine seq_float (by rfl) (by rfl) (by rfl) ?_; intro K hK
        refine quiet_eq_dg3 d q true _ _ rfl rfl rfl HQ.out ?_
        simp only [Act.put, List.setIfInBounds_toArray, List.set_cons_succ, List.set_cons_zero]
        go_big_quiet_on
        refine seq_nil ?_
        go_wp2_with fail
        go_ret
        exact ⟨⟨k, rfl, by rw [HR.out]; simp⟩, hb0.trans ((hb.mono hb0.size).drew)⟩
      · have HQ := lid (decide_eq_false hdq)
        have HT2 : Hid (d ∉ l.take (k + 1)) := lid (by rw [HT.out, List.mem_append]; rintro (h | h); exact HM.out h; exact hdq (List.mem_singleton.1 h))
        clear hdq
        go_wp2_with fail
        refine wp_region_seq (fun w' => ∃ s : Since wr.heap.size wr, w' = s.world) [(0, true), (1, true), (2, true), (3, true), (4, true), (5, true)] (by kernel_rfl) (by kernel_rfl) (by intro c d v a w h; first | (cases d <;> exact h) | cases h.1) (since (Below.refl _ _).drew) ?_
        iterate 5 (first | (refine seq_skip (by rfl) (by rfl) ?_; simp only [Act.put, List.setIfInBounds_toArray, List.set_cons_succ, List.set_cons_zero]) | (refine seq_float (by rfl) (by rfl) (by rfl) ?_; intro K hK; go_big_quiet_op; go_big_quiet_on))
        refine seq_float (by rfl) (by rfl) (by rfl) ?_; intro K hK
        refine quiet_eq_dg3 d q false _ _ rfl rfl rfl HQ.out ?_
        simp only [Act.put, List.setIfInBounds_toArray, List.set_cons_succ, List.set_cons_zero]
        go_big_quiet_on
        refine seq_nil ?_
        go_wp2_with fail
        go_roundw
        case rel => exact ⟨k + 1, by omega, by go_num, HT2, hb.drew⟩
        case measure => simp [intOf]; omega
    · obtain rfl : k = n := by omega
      have HR : Hid (decide (d ∈ l) = false) := lid (decide_eq_false (by have := HM.out; rwa [List.take_of_length_le (by rw [HN.out]; exact Nat.le_refl _)] at this))
      go_wp2_with fail
      go_ret
      exact ⟨⟨-1, rfl, by rw [HR.out]; decide⟩, hb0.trans (hb.mono hb0.size)⟩

set_option maxRecDepth 100000 in
theorem Contains_any (l : List Dg) (d : Dg) (n cap : Nat) (ao : Option Addr) (w : World) (hn : l.length = n) (hm : n ≤ 1000000) (hs : DSl w ao l) :
    Calls Tryz.prog 119 #[.slice ao n cap, dv d] w fun e w' => e = .returned (.bool (decide (d ∈ l))) ∧ Below w.heap.size w w' := by
  have hb0 := ba w (Obj.cells #[.int .u64 d.1.toNat, .int .u64 d.2.toNat] 31)
  have CI := lid (Index_any l d n cap ao _ hn hm (hs.below hb0))
  clear hs
  go_enter Tryz.func119, Tryz.ntmps119
  go_wp2_with fail
  (with_reducible refine (CI.out).mono ?_); rintro e w1 ⟨⟨r, rfl, hr⟩, hb1⟩
  have HR := lid hr
  clear hr
  go_wp2_with fail
  go_ret
  exact ⟨ret_bool' HR.out, hb0.trans (hb1.mono hb0.size)⟩
end Go.Proofs.YtphjillihapbfaaGreatDoor
