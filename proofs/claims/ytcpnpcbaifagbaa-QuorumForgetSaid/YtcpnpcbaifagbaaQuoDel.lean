/-
  Votes: slices.IndexFunc, slices.DeleteFunc.
-/
import Derived.Test.YtcpnpcbaifagbaaQuoRef3
namespace Go.Proofs.Ytcpnpcbaifagbaa
open Go.RowKit
theorem zero_vt : ∀ w, (zeroValue 27).run Try.prog w = .ok (.agg #[.string ⟨#[]⟩, .string ⟨#[]⟩]) w := Try.zeroValue27
/-- The first place, -1 where there is none. -/
def idxP (P : Vt → Bool) (l : List Vt) : Int := if l.any P = true then (l.findIdx P : Int) else -1
theorem idxP_at {P : Vt → Bool} {l : List Vt} {k : Nat} (hk : k < l.length) (hp : P l[k] = true) (hn : (l.take k).any P = false) : idxP P l = k := by
  have ha : l.any P = true := List.any_eq_true.2 ⟨l[k], List.getElem_mem hk, hp⟩
  have hf : l.findIdx P = k := by
    rw [List.findIdx_eq hk]
    refine ⟨hp, fun j hj => ?_⟩
    have := List.any_eq_false.1 hn (l[j]) (by
      rw [List.mem_take_iff_getElem]
      exact ⟨j, by omega, rfl⟩)
    simpa using this
  unfold idxP
  rw [if_pos ha, hf]
theorem idxP_none {P : Vt → Bool} {l : List Vt} (h : l.any P = false) : idxP P l = -1 := by unfold idxP; rw [if_neg (by rw [h]; decide)]
theorem any_snoc {P : Vt → Bool} {l : List Vt} {k : Nat} (hk : k < l.length) (hn : (l.take k).any P = false) (hp : P l[k] = false) : (l.take (k + 1)).any P = false := any_take_succ hk hn hp
theorem idxP_some {P : Vt → Bool} {l : List Vt} (h : l.any P = true) : ∃ k, ∃ (hk : k < l.length), idxP P l = (k : Int) ∧ (l.take k).any P = false ∧ P l[k] = true := by
  have hk : l.findIdx P < l.length := List.findIdx_lt_length_of_exists (by simpa using h)
  refine ⟨l.findIdx P, hk, by unfold idxP; rw [if_pos h], ?_, List.findIdx_getElem⟩
  rw [List.any_eq_false]
  intro y hy
  rw [List.mem_take_iff_getElem] at hy
  obtain ⟨i, hi, rfl⟩ := hy
  have := List.not_of_lt_findIdx (show i < l.findIdx P by omega)
  simpa using this
/-- What the function value answers, in every later world. -/
def Asks (g : FuncId) (cs : Array Value) (P : Vt → Bool) (w : World) : Prop :=
  ∀ (x : Vt) (w' : World), Below w.heap.size w w' → Calls Try.prog g (#[Value.agg (vtc x)] ++ cs) w' fun e w'' => e = .returned (.bool (P x)) ∧ Below w'.heap.size w' w''
/-- A box of a vote. -/
def XBox (w : World) (b : Nat) (x : Vt) : Prop := b < w.heap.size ∧ w.cell? ⟨b, 0, none⟩ = some (.string x.1) ∧ w.cell? ⟨b, 1, none⟩ = some (.string x.2)
theorem XBox.below {w w' : World} {b : Nat} {x : Vt} (h : XBox w b x) (hb : Below w.heap.size w w') : XBox w' b x := ⟨Nat.lt_of_lt_of_le h.1 hb.size, (bc hb h.1 0).trans h.2.1, (bc hb h.1 1).trans h.2.2⟩
theorem XBox.new (w : World) (x : Vt) (t : TypeId) : XBox (w.alloc (.cells (vtc x) t)) w.heap.size x := ⟨by simp, cell_new_at rfl _ _ _, cell_new_at rfl _ _ _⟩

set_option maxRecDepth 100000 in
set_option maxHeartbeats 4000000 in
theorem IndexFunc_forget (l : List Vt) (n cap : Nat) (ao : Option Addr) (c1 : Nat) (P : Vt → Bool) (w : World) (hn : l.length = n) (hm : n ≤ 1000000) (hs : Sl w 2 ao n (vcells l)) (hc : Asks 54 #[.pointer (some ⟨c1, 0, none⟩)] P w) :
    Calls Try.prog 64 #[.slice ao n cap, .func (.func 54) #[] #[.pointer (some ⟨c1, 0, none⟩)]] w fun e w' => e = .returned (.int .i64 (idxP P l)) ∧ Below w.heap.size w w' := by
  have HN := lid hn
  have HS := lid hs
  have HC := lid hc
  clear hn hs hc
  go_enter Try.func64, Try.ntmps64
  go_wp2_with fail
  go_loopw [5, 8] (fun _ i wr => ∃ k : Nat, k ≤ n ∧ i = .int .i64 k ∧ Hid ((l.take k).any P = false) ∧ Below w.heap.size w wr) (fun _ i _ => n - (intOf i).toNat)
  case atStart => exact ⟨0, Nat.zero_le _, rfl, lid rfl, Below.refl _ _⟩
  case round =>
    obtain ⟨k, hk, rfl, HT, hb⟩ := hrel
    by_cases hlt : k < n
    · have hkl : k < l.length := by rw [HN.out]; exact hlt
      obtain ⟨b1, o1, rfl, hlb, hcell⟩ := (HS.out.below hb).at_ hlt
      have x0 := hcell (k * 2 + 0) _ (vcells_at hkl).1
      have x1 := hcell (k * 2 + 1) _ (vcells_at hkl).2
      rw [← Nat.add_assoc] at x1
      rw [Nat.add_zero] at x0
      have dk : decide ((k : Int) < (n : Int)) = true := by simp; omega
      have HA := lid (fun h => idxP_at (P := P) hkl h HT.out)
      have HB := lid (fun h => any_snoc (P := P) hkl HT.out h)
      obtain ⟨x, hx⟩ : ∃ x, l[k] = x := ⟨_, rfl⟩
      rw [hx] at x0 x1 HA HB
      have CX : Hid (Calls Try.prog 54 #[.agg (vtc x), .pointer (some ⟨c1, 0, none⟩)] wr fun e w'' => e = .returned (.bool (P x)) ∧ Below wr.heap.size wr w'') := lid (HC.out x wr hb)
      clear hcell hx
      go_wp2_with fail
      (with_reducible refine (CX.out).mono ?_); rintro e w2 ⟨rfl, hb2⟩
      have hw2 := hb.trans (hb2.mono hb.size)
      cases hp : P x with
      | true =>
        have HV := lid (HA.out hp)
        clear hp
        go_wp2_with fail
        go_ret
        exact ⟨ret_i64 HV.out.symm, hw2⟩
      | false =>
        have HV := lid (HB.out hp)
        clear hp
        go_wp2_with fail
        go_roundw
        case rel => exact ⟨k + 1, by omega, by go_num, HV, hw2⟩
        case measure => simp [intOf]; omega
    · obtain rfl : k = n := by omega
      have HV := lid (idxP_none (P := P) (l := l) (by have := HT.out; rwa [List.take_of_length_le (by rw [HN.out]; exact Nat.le_refl _)] at this))
      go_wp2_with fail
      go_ret
      exact ⟨ret_i64 HV.out.symm, hb⟩
set_option maxRecDepth 100000 in
set_option maxHeartbeats 8000000 in
theorem DeleteFunc_forget (l : List Vt) (v : Value) (n : Nat) (c1 : Nat) (P : Vt → Bool) (base : Nat) (w : World) (hn : l.length = n) (hm : n ≤ 1000000) (hs : w.ownsRow base 27 2 v n (vcells l)) (hbase : base ≤ w.heap.size) (hc : ∀ w', Below base w w' → Asks 54 #[.pointer (some ⟨c1, 0, none⟩)] P w') :
    Calls Try.prog 53 #[v, .func (.func 54) #[] #[.pointer (some ⟨c1, 0, none⟩)]] w fun e w' => ∃ v', e = .returned v' ∧ w'.ownsRow base 27 2 v' (l.filter fun x => !P x).length (vcells (l.filter fun x => !P x)) ∧ Below base w w' := by
  obtain ⟨ao, cap, rfl⟩ := own_slice hs
  have CI := lid (IndexFunc_forget l n cap ao c1 P w hn hm (own_sl hs) (hc w (Below.refl _ _)))
  cases hany : l.any P with
  | false =>
    have HI := lid (idxP_none hany)
    have HF : Hid (l.filter (fun x => !P x) = l) := lid (List.filter_eq_self.2 (fun y hy => by have := List.any_eq_false.1 hany y hy; simpa using this))
    rw [HI.out] at CI
    have HS := lid hs
    have HN := lid hn
    clear hs hn hc hany
    go_enter Try.func53, Try.ntmps53
    go_wp2_with fail
    (with_reducible refine (CI.out).mono ?_); rintro e w2 ⟨rfl, hb2⟩
    go_wp2_with fail
    go_ret
    refine ⟨_, rfl, ?_, hb2.mono hbase⟩
    rw [HF.out, HN.out]
    exact ownsRow_below HS.out hb2
  | true =>
    obtain ⟨k0, hk0, e0, hno, hyes⟩ := idxP_some hany
    rw [e0] at CI
    rcases hs.2 with ⟨hv, h0⟩ | ⟨g, cap', cur, hv, hg, hcur, hncap, hmax, hsz, htk⟩
    · subst h0
      rw [List.eq_nil_of_length_eq_zero hn] at hk0
      simp at hk0
    cases hv
    have hglt := row_lt hcur
    have HI : Hid (DelInv vte 2 l P k0 (k0 + 1) cur) := lid (DelInv.start vte_length hk0 hno hyes (by rw [hsz, hn]; exact Nat.mul_le_mul_right _ hncap) (by rw [hn]; exact htk))
    have hk0n : k0 < n := by omega
    have HN := lid hn
    have HC := lid hc
    have HR := lid hcur
    have HZ := lid hsz
    have hcap' : n ≤ cap := hncap
    have hmx : cap ≤ 9223372036854775807 := hmax
    clear hs hn hc hany e0 hno hyes hk0 hcur hsz htk hmax
    go_enter Try.func53, Try.ntmps53
    go_wp2_with fail
    (with_reducible refine (CI.out).mono ?_); rintro e w2 ⟨rfl, hb2⟩
    have hbw2 : Below base w w2 := hb2.mono hbase
    have HR2 : Hid (w2.heap[g]? = some (.cells cur 27 (0, 0))) := lid ((hb2.block g hglt).trans HR.out)
    have hg2 : g < w2.heap.size := row_lt HR2.out
    clear hb2 HR CI
    have e1 : ((k0 : Int) == -1) = false := beq_eq_false_iff_ne.2 (by omega)
    go_wp2_with fail
    go_loopw [5, 6, 7] (fun i j _ wr => ∃ (a b : Nat) (cur : Array Value), i = .int .i64 a ∧ j = .int .i64 b ∧ b ≤ n ∧ a < b ∧ Hid (DelInv vte 2 l P a b cur) ∧ Hid (wr.heap[g]? = some (.cells cur 27 (0, 0))) ∧ Hid (cur.size = cap * 2) ∧ Below base w wr) (fun _ j _ _ => n - (intOf j).toNat)
    case atStart => exact ⟨k0, k0 + 1, cur, rfl, by go_num, by omega, by omega, HI, HR2, HZ, hbw2⟩
    case round =>
      clear HI HR2 HZ hbw2 hg2 e1 hglt
      obtain ⟨a, b, cur, rfl, rfl, hbn, hab, HI, HR, HZ, hb⟩ := hrel
      by_cases hlt : b < n
      · have hbl : b < l.length := by rw [HN.out]; exact hlt
        have x0 := (row_cell HR.out (b * 2 + 0)).trans (HI.out.cells vte_length hbl (t := 0) (by omega))
        have x1 := (row_cell HR.out (b * 2 + 1)).trans (HI.out.cells vte_length hbl (t := 1) (by omega))
        rw [Nat.add_zero] at x0
        have HSK := lid (fun h => HI.out.skip hbl h)
        have HKP := lid (fun h => HI.out.keep vte_length hbl h)
        obtain ⟨f1, f2⟩ := HI.out.fits hbl
        have hrm := HI.out.room
        obtain ⟨x, hx⟩ : ∃ x, l[b] = x := ⟨_, rfl⟩
        rw [hx] at x0 x1 HSK HKP
        obtain ⟨o0, q0⟩ : ∃ o, cur[a * 2]? = some o := ⟨_, Array.getElem?_eq_getElem (by omega)⟩
        obtain ⟨o1, q1⟩ : ∃ o, cur[a * 2 + 1]? = some o := ⟨_, Array.getElem?_eq_getElem (by omega)⟩
        have db : decide ((b : Int) < (n : Int)) = true := by simp; omega
        have hgl := row_lt HR.out
        obtain ⟨w1, hw1⟩ : ∃ y, wr.alloc (.cells (vtc x) 27) = y := ⟨_, rfl⟩
        have hb1 : Below wr.heap.size wr w1 := by rw [← hw1]; exact ba _ _
        have HX1 := lid (show XBox w1 wr.heap.size x by rw [← hw1]; exact XBox.new _ _ _)
        have hbw1 : Below base w w1 := hb.trans (hb1.mono (by have := hb.size; omega))
        have HR1 : Hid (w1.heap[g]? = some (.cells cur 27 (0, 0))) := lid ((hb1.block g hgl).trans HR.out)
        have HW1 := lid hw1
        have CX : Hid (Calls Try.prog 54 #[.agg (vtc x), .pointer (some ⟨c1, 0, none⟩)] w1 fun e w'' => e = .returned (.bool (P x)) ∧ Below w1.heap.size w1 w'') := lid (HC.out w1 hbw1 x w1 (Below.refl _ _))
        clear hw1 hx
        go_wp2_with fail
        rw [HW1.out]
        clear HW1
        obtain ⟨m0, y0, y1⟩ := HX1.out
        go_wp2_with fail
        (with_reducible refine (CX.out).mono ?_); rintro e w3 ⟨rfl, hb3⟩
        have hbw3 : Below base w w3 := hbw1.trans (hb3.mono (by have := hbw1.size; omega))
        have HR3 : Hid (w3.heap[g]? = some (.cells cur 27 (0, 0))) := lid ((hb3.block g (Nat.lt_of_lt_of_le hgl hb1.size)).trans HR1.out)
        have HX3 := lid (HX1.out.below hb3)
        clear HX1 HR1 CX hb3 hbw1 m0 y0 y1
        cases hp : P x with
        | true =>
          have HV := lid (HSK.out hp)
          clear hp HSK HKP
          go_wp2_with fail
          go_roundw
          case rel => exact ⟨a, b + 1, cur, rfl, by go_num, by omega, by omega, HV, HR3, HZ, hbw3⟩
          case measure => simp [intOf]; omega
        | false =>
          have HV := lid (HKP.out hp)
          clear hp HSK HKP
          have p0 := (row_cell HR3.out (a * 2)).trans q0
          have p1 := (row_cell HR3.out (a * 2 + 1)).trans q1
          have z0 := row_fz HR3.out (a * 2)
          have z1 := row_fz HR3.out (a * 2 + 1)
          obtain ⟨m0, y0, y1⟩ := HX3.out
          have han : decide (a < n) = true := by simp; omega
          have hrow : Hid ((w3.setCells g (a * 2) (vte x)).heap[g]? = some (.cells (layAt cur (a * 2) (vte x)) 27 (0, 0))) := lid (row_setCells (vte x) (a * 2) w3 cur HR3.out)
          have hbw4 : Hid (Below base w (w3.setCells g (a * 2) (vte x))) := lid (below_cells hg _ _ _ hbw3)
          clear q0 q1
          go_wp2_with fail
          go_roundw
          case rel => exact ⟨a + 1, b + 1, layAt cur (a * 2) (vte x), by go_num, by go_num, by omega, by omega, HV, hrow, lid (by rw [layAt_size]; exact HZ.out), hbw4.out⟩
          case measure => simp [intOf]; omega
      · obtain rfl : b = n := by omega
        have db : decide ((b : Int) < (b : Int)) = false := by simp
        have HI' : DelInv vte 2 l P a l.length cur := by rw [HN.out]; exact HI.out
        have hrm := HI.out.room
        rw [HN.out] at hrm
        have hab2 : a * 2 + (b - a) * 2 = b * 2 := by omega
        have HDN := lid (HI'.done (Builtin.zeroCells (Value.agg #[.string ⟨#[]⟩, .string ⟨#[]⟩]).cells (b - a)).toList (by rw [zeroCells_length]; show a * 2 + (b - a) * 2 ≤ _; omega))
        have hcl : ∀ ty c, (Builtin.clear_ #[36] ty #[.slice (some ⟨g, a * 2, none⟩) (b - a) c]).run Try.prog wr = .ok (.tuple #[]) (wr.setCells g (a * 2) (Builtin.zeroCells (Value.agg #[.string ⟨#[]⟩, .string ⟨#[]⟩]).cells (b - a)).toList) :=
          fun ty c => run_clear_cells wr _ _ ty _ Try.underlying36 zero_vt (by intro k hk; have : k < 2 := hk; match k, this with | 0, _ => rfl | 1, _ => rfl) g (a * 2) (b - a) c (by omega)
            (fun t ht => by rw [row_cell HR.out, Array.getElem?_eq_getElem (show a * 2 + t < cur.size by have : t < (b - a) * 2 := ht; omega)]; rfl) (fun t _ => row_fz HR.out _)
        clear HI'
        have hrow : Hid ((wr.setCells g (a * 2) (Builtin.zeroCells (Value.agg #[.string ⟨#[]⟩, .string ⟨#[]⟩]).cells (b - a)).toList).heap[g]? = _) := lid (row_setCells _ (a * 2) wr cur HR.out)
        go_wp2_with fail
        go_ret
        refine ⟨_, rfl, ?_, below_cells hg _ _ _ hb⟩
        rw [HDN.out.1]
        have ef : (vcells (l.filter fun x => !P x)).length = a * 2 := by rw [vcells_length, HDN.out.1]
        exact ⟨ef, .inr ⟨g, cap, _, rfl, hg, hrow.out, by omega, hmx, by rw [layAt_size]; exact HZ.out, HDN.out.2⟩⟩
set_option maxRecDepth 100000 in
set_option maxHeartbeats 1000000 in
theorem forget_asks (c1 : Nat) (wk : ByteArray) (w : World) (h : w.heap[c1]? = some (.cells #[.string wk] 9 (0, 0))) : Asks 54 #[.pointer (some ⟨c1, 0, none⟩)] (fun v => decide (v.1 = wk)) w := by
  intro x w' hb
  have hc := (bc hb (row_lt h) 0).trans (row_cell h 0)
  have hlt : c1 < w'.heap.size := Nat.lt_of_lt_of_le (row_lt h) hb.size
  have HV := lid (str_beq x.1 wk)
  show Calls Try.prog 54 #[.agg (vtc x), .pointer (some ⟨c1, 0, none⟩)] w' _
  clear h hb
  go_enter Try.func54, Try.ntmps54
  go_wp2_with fail
  go_ret
  exact ⟨ret_bool (by rw [← HV.out]), ba _ _⟩
end Go.Proofs.Ytcpnpcbaifagbaa
