/-
  Strings: slices.Clone, slices.IndexFunc, slices.DeleteFunc.
-/
import Derived.Test.YtcpnpcbaifagbaaQuoDel
import Derived.Test.YtcpnpcbaifagbaaQuoFine
namespace Go.Proofs.Ytcpnpcbaifagbaa
open Go.RowKit
theorem zero_strg : ∀ w, (zeroValue 9).run Try.prog w = .ok (.string ⟨#[]⟩) w := fun w => by kernel_rfl
abbrev ste (s : ByteArray) : List Value := [.string s]
theorem ste_length (s : ByteArray) : (ste s).length = 1 := rfl
theorem svals_flat (l : List ByteArray) : l.flatMap ste = svals l := by
  unfold svals
  induction l with
  | nil => rfl
  | cons a l ih => rw [List.flatMap_cons, ih]; rfl
theorem svals_one (l : List ByteArray) : ∀ u ∈ svals l, u.oneCell' = true := by
  intro u hu
  obtain ⟨s, _, rfl⟩ := List.mem_map.1 hu
  rfl
set_option maxRecDepth 100000 in
set_option maxHeartbeats 4000000 in
theorem Clone_str (l : List ByteArray) (n cap : Nat) (ao : Option Addr) (w : World) (hl : l.length = n) (hs : Sl w 1 ao n (svals l)) (hz : ao = none → cap = 0) (hn : n ≤ 1000000) :
    Calls Try.prog 33 #[.slice ao n cap] w fun e w' => ∃ v', e = .returned v' ∧ w'.ownsRow w.heap.size 9 1 v' n (svals l) ∧ Below w.heap.size w w' := by
  cases ao with
  | none =>
    obtain rfl := hz rfl
    obtain rfl : n = 0 := by
      rcases hs.2 with h0 | ⟨b, o, e', _⟩
      · exact h0
      · cases e'
    obtain rfl : l = [] := List.eq_nil_of_length_eq_zero hl
    clear hs hz hn hl
    go_enter Try.func33, Try.ntmps33
    go_wp2_with fail
    rw [run_eql_slice_nil' _ _ _ _ _ _ _ _ Try.underlying43]
    go_wp2_with fail
    go_ret
    exact ⟨_, rfl, World.ownsRow_nil _ _ _ _, Below.refl _ _⟩
  | some a =>
    have HA := lid hs
    clear hs hz
    go_enter Try.func33, Try.ntmps33
    go_wp2_with fail
    rw [run_eql_slice_nil' _ _ _ _ _ _ _ _ Try.underlying43]
    go_wp2_with (at_builtin; go_must (refine wpList_append_sl rfl _ _ 43 rfl w.heap.size 9 (.string ⟨#[]⟩) 1 16 info_str Try.underlying43 rfl (by decide) _ 0 [] (World.ownsRow_lit w #[] 0 (Nat.le_refl _) (by simp [maxLen]) rfl) rfl (some a) n cap (svals l) rfl (HA.out.below (ba _ _)) (by intro h; cases h) (svals_one l) (by simp [maxLen]; omega) (by omega) (by simp) ?_))
    intro v5 w5 hown5 hb5
    go_wp2_with fail
    go_ret
    refine ⟨_, rfl, ?_, (ba _ _).trans hb5⟩
    simpa using hown5

/-- The first place, -1 where there is none. -/
def idxPS (P : ByteArray → Bool) (l : List ByteArray) : Int := if l.any P = true then (l.findIdx P : Int) else -1
theorem idxPS_at {P : ByteArray → Bool} {l : List ByteArray} {k : Nat} (hk : k < l.length) (hp : P l[k] = true) (hn : (l.take k).any P = false) : idxPS P l = k := by
  have ha : l.any P = true := List.any_eq_true.2 ⟨l[k], List.getElem_mem hk, hp⟩
  have hf : l.findIdx P = k := by
    rw [List.findIdx_eq hk]
    refine ⟨hp, fun j hj => ?_⟩
    have := List.any_eq_false.1 hn (l[j]) (by
      rw [List.mem_take_iff_getElem]
      exact ⟨j, by omega, rfl⟩)
    simpa using this
  unfold idxPS
  rw [if_pos ha, hf]
theorem idxPS_none {P : ByteArray → Bool} {l : List ByteArray} (h : l.any P = false) : idxPS P l = -1 := by unfold idxPS; rw [if_neg (by rw [h]; decide)]
theorem any_snocS {P : ByteArray → Bool} {l : List ByteArray} {k : Nat} (hk : k < l.length) (hn : (l.take k).any P = false) (hp : P l[k] = false) : (l.take (k + 1)).any P = false := any_take_succ hk hn hp
theorem idxPS_some {P : ByteArray → Bool} {l : List ByteArray} (h : l.any P = true) : ∃ k, ∃ (hk : k < l.length), idxPS P l = (k : Int) ∧ (l.take k).any P = false ∧ P l[k] = true := by
  have hk : l.findIdx P < l.length := List.findIdx_lt_length_of_exists (by simpa using h)
  refine ⟨l.findIdx P, hk, by unfold idxPS; rw [if_pos h], ?_, List.findIdx_getElem⟩
  rw [List.any_eq_false]
  intro y hy
  rw [List.mem_take_iff_getElem] at hy
  obtain ⟨i, hi, rfl⟩ := hy
  have := List.not_of_lt_findIdx (show i < l.findIdx P by omega)
  simpa using this
/-- What the function value answers, in every later world. -/
def AsksS (g : FuncId) (cs : Array Value) (P : ByteArray → Bool) (w : World) : Prop :=
  ∀ (x : ByteArray) (w' : World), Below w.heap.size w w' → Calls Try.prog g (#[Value.string x] ++ cs) w' fun e w'' => e = .returned (.bool (P x)) ∧ Below w'.heap.size w' w''
set_option maxRecDepth 100000 in
set_option maxHeartbeats 4000000 in
theorem IndexFuncS (l : List ByteArray) (n cap : Nat) (ao : Option Addr) (c1 : Nat) (P : ByteArray → Bool) (w : World) (hn : l.length = n) (hm : n ≤ 1000000) (hs : Sl w 1 ao n (svals l)) (hc : AsksS 34 #[.pointer (some ⟨c1, 0, none⟩)] P w) :
    Calls Try.prog 55 #[.slice ao n cap, .func (.func 34) #[] #[.pointer (some ⟨c1, 0, none⟩)]] w fun e w' => e = .returned (.int .i64 (idxPS P l)) ∧ Below w.heap.size w w' := by
  have HN := lid hn
  have HS := lid hs
  have HC := lid hc
  clear hn hs hc
  go_enter Try.func55, Try.ntmps55
  go_wp2_with fail
  go_loopw [5, 8] (fun _ i wr => ∃ k : Nat, k ≤ n ∧ i = .int .i64 k ∧ Hid ((l.take k).any P = false) ∧ Below w.heap.size w wr) (fun _ i _ => n - (intOf i).toNat)
  case atStart => exact ⟨0, Nat.zero_le _, rfl, lid rfl, Below.refl _ _⟩
  case round =>
    obtain ⟨k, hk, rfl, HT, hb⟩ := hrel
    by_cases hlt : k < n
    · have hkl : k < l.length := by rw [HN.out]; exact hlt
      obtain ⟨b1, o1, rfl, hlb, hcell⟩ := (HS.out.below hb).at_ hlt
      have x0 := hcell k _ (svals_at hkl)
      have dk : decide ((k : Int) < (n : Int)) = true := by simp; omega
      have HA := lid (fun h => idxPS_at (P := P) hkl h HT.out)
      have HB := lid (fun h => any_snocS (P := P) hkl HT.out h)
      obtain ⟨x, hx⟩ : ∃ x, l[k] = x := ⟨_, rfl⟩
      rw [hx] at x0 HA HB
      have CX : Hid (Calls Try.prog 34 #[.string x, .pointer (some ⟨c1, 0, none⟩)] wr fun e w'' => e = .returned (.bool (P x)) ∧ Below wr.heap.size wr w'') := lid (HC.out x wr hb)
      clear hcell hx
      go_wp2_with fail
      (with_reducible refine (CX.out).mono ?_); rintro e w2 ⟨rfl, hb2⟩
      have hw2 := hb.trans (hb2.mono hb.size)
      cases hp : P x with
      | true =>
        have HV := lid (HA.out hp)
        clear hp
        go_wp2_with fail
        go_ret
        exact ⟨ret_i64 HV.out.symm, hw2⟩
      | false =>
        have HV := lid (HB.out hp)
        clear hp
        go_wp2_with fail
        go_roundw
        case rel => exact ⟨k + 1, by omega, by go_num, HV, hw2⟩
        case measure => simp [intOf]; omega
    · obtain rfl : k = n := by omega
      have HV := lid (idxPS_none (P := P) (l := l) (by have := HT.out; rwa [List.take_of_length_le (by rw [HN.out]; exact Nat.le_refl _)] at this))
      go_wp2_with fail
      go_ret
      exact ⟨ret_i64 HV.out.symm, hb⟩
set_option maxRecDepth 100000 in
set_option maxHeartbeats 8000000 in
theorem DeleteFuncS (l : List ByteArray) (v : Value) (n : Nat) (c1 : Nat) (P : ByteArray → Bool) (base : Nat) (w : World) (hn : l.length = n) (hm : n ≤ 1000000) (hs : w.ownsRow base 9 1 v n (svals l)) (hbase : base ≤ w.heap.size) (hc : ∀ w', Below base w w' → AsksS 34 #[.pointer (some ⟨c1, 0, none⟩)] P w') :
    Calls Try.prog 32 #[v, .func (.func 34) #[] #[.pointer (some ⟨c1, 0, none⟩)]] w fun e w' => ∃ v', e = .returned v' ∧ w'.ownsRow base 9 1 v' (l.filter fun x => !P x).length (svals (l.filter fun x => !P x)) ∧ Below base w w' := by
  obtain ⟨ao, cap, rfl⟩ := own_slice hs
  have CI := lid (IndexFuncS l n cap ao c1 P w hn hm (own_sl hs) (hc w (Below.refl _ _)))
  cases hany : l.any P with
  | false =>
    have HI := lid (idxPS_none hany)
    have HF : Hid (l.filter (fun x => !P x) = l) := lid (List.filter_eq_self.2 (fun y hy => by have := List.any_eq_false.1 hany y hy; simpa using this))
    rw [HI.out] at CI
    have HS := lid hs
    have HN := lid hn
    clear hs hn hc hany
    go_enter Try.func32, Try.ntmps32
    go_wp2_with fail
    (with_reducible refine (CI.out).mono ?_); rintro e w2 ⟨rfl, hb2⟩
    go_wp2_with fail
    go_ret
    refine ⟨_, rfl, ?_, hb2.mono hbase⟩
    rw [HF.out, HN.out]
    exact ownsRow_below HS.out hb2
  | true =>
    obtain ⟨k0, hk0, e0, hno, hyes⟩ := idxPS_some hany
    rw [e0] at CI
    rcases hs.2 with ⟨hv, h0⟩ | ⟨g, cap', cur, hv, hg, hcur, hncap, hmax, hsz, htk⟩
    · subst h0
      rw [List.eq_nil_of_length_eq_zero hn] at hk0
      simp at hk0
    cases hv
    have hglt := row_lt hcur
    have HI : Hid (DelInv ste 1 l P k0 (k0 + 1) cur) := lid (DelInv.start ste_length hk0 hno hyes (by rw [hsz, hn]; exact Nat.mul_le_mul_right 1 hncap) (by rw [hn, svals_flat]; exact htk))
    have hk0n : k0 < n := by omega
    have HN := lid hn
    have HC := lid hc
    have HR := lid hcur
    have HZ : Hid (cur.size = cap) := lid (by rw [hsz, Nat.mul_one])
    have hcap' : n ≤ cap := hncap
    have hmx : cap ≤ 9223372036854775807 := hmax
    clear hs hn hc hany e0 hno hyes hk0 hcur hsz htk hmax
    go_enter Try.func32, Try.ntmps32
    go_wp2_with fail
    (with_reducible refine (CI.out).mono ?_); rintro e w2 ⟨rfl, hb2⟩
    have hbw2 : Below base w w2 := hb2.mono hbase
    have HR2 : Hid (w2.heap[g]? = some (.cells cur 9 (0, 0))) := lid ((hb2.block g hglt).trans HR.out)
    have hg2 : g < w2.heap.size := row_lt HR2.out
    clear hb2 HR CI
    have e1 : ((k0 : Int) == -1) = false := beq_eq_false_iff_ne.2 (by omega)
    go_wp2_with fail
    go_loopw [5, 6, 7] (fun i j _ wr => ∃ (a b : Nat) (cur : Array Value), i = .int .i64 a ∧ j = .int .i64 b ∧ b ≤ n ∧ a < b ∧ Hid (DelInv ste 1 l P a b cur) ∧ Hid (wr.heap[g]? = some (.cells cur 9 (0, 0))) ∧ Hid (cur.size = cap) ∧ Below base w wr) (fun _ j _ _ => n - (intOf j).toNat)
    case atStart => exact ⟨k0, k0 + 1, cur, rfl, by go_num, by omega, by omega, HI, HR2, HZ, hbw2⟩
    case round =>
      clear HI HR2 HZ hbw2 hg2 e1 hglt
      obtain ⟨a, b, cur, rfl, rfl, hbn, hab, HI, HR, HZ, hb⟩ := hrel
      by_cases hlt : b < n
      · have hbl : b < l.length := by rw [HN.out]; exact hlt
        have x0 := (row_cell HR.out (b * 1 + 0)).trans (HI.out.cells ste_length hbl (t := 0) (by omega))
        rw [Nat.add_zero, Nat.mul_one] at x0
        have HSK := lid (fun h => HI.out.skip hbl h)
        have HKP := lid (fun h => HI.out.keep ste_length hbl h)
        obtain ⟨f1, f2⟩ := HI.out.fits hbl
        have hrm := HI.out.room
        obtain ⟨x, hx⟩ : ∃ x, l[b] = x := ⟨_, rfl⟩
        rw [hx] at x0 HSK HKP
        have x0 : wr.cell? ⟨g, b, none⟩ = some (.string x) := x0
        obtain ⟨o0, q0⟩ : ∃ o, cur[a]? = some o := ⟨_, Array.getElem?_eq_getElem (by omega)⟩
        have db : decide ((b : Int) < (n : Int)) = true := by simp; omega
        have hgl := row_lt HR.out
        have CX : Hid (Calls Try.prog 34 #[.string x, .pointer (some ⟨c1, 0, none⟩)] wr fun e w'' => e = .returned (.bool (P x)) ∧ Below wr.heap.size wr w'') := lid (HC.out wr hb x wr (Below.refl _ _))
        clear hx
        go_wp2_with fail
        (with_reducible refine (CX.out).mono ?_); rintro e w3 ⟨rfl, hb3⟩
        have hbw3 : Below base w w3 := hb.trans (hb3.mono (by have := hb.size; omega))
        have HR3 : Hid (w3.heap[g]? = some (.cells cur 9 (0, 0))) := lid ((hb3.block g hgl).trans HR.out)
        clear CX hb3
        cases hp : P x with
        | true =>
          have HV := lid (HSK.out hp)
          clear hp HSK HKP
          go_wp2_with fail
          go_roundw
          case rel => exact ⟨a, b + 1, cur, rfl, by go_num, by omega, by omega, HV, HR3, HZ, hbw3⟩
          case measure => simp [intOf]; omega
        | false =>
          have HV := lid (HKP.out hp)
          clear hp HSK HKP
          have p0 := (row_cell HR3.out a).trans q0
          have z0 := row_fz HR3.out a
          have han : decide (a < n) = true := by simp; omega
          have hrow : Hid ((w3.setCells g a (ste x)).heap[g]? = some (.cells (layAt cur a (ste x)) 9 (0, 0))) := lid (row_setCells (ste x) a w3 cur HR3.out)
          have hbw4 : Hid (Below base w (w3.setCells g a (ste x))) := lid (below_cells hg _ _ _ hbw3)
          rw [Nat.mul_one] at HV
          clear q0
          go_wp2_with fail
          go_roundw
          case rel => exact ⟨a + 1, b + 1, layAt cur a (ste x), by go_num, by go_num, by omega, by omega, HV, hrow, lid (by rw [layAt_size]; exact HZ.out), hbw4.out⟩
          case measure => simp [intOf]; omega
      · obtain rfl : b = n := by omega
        have db : decide ((b : Int) < (b : Int)) = false := by simp
        have HI' : DelInv ste 1 l P a l.length cur := by rw [HN.out]; exact HI.out
        have hrm := HI.out.room
        rw [HN.out] at hrm
        have hab2 : a + (b - a) = b := by omega
        have HDN := lid (HI'.done (Builtin.zeroCells (Value.string ⟨#[]⟩).cells (b - a)).toList (by rw [zeroCells_length]; have : (Value.string ⟨#[]⟩).cells.size = 1 := rfl; rw [this]; omega))
        have hcl : ∀ ty c, (Builtin.clear_ #[43] ty #[.slice (some ⟨g, a, none⟩) (b - a) c]).run Try.prog wr = .ok (.tuple #[]) (wr.setCells g a (Builtin.zeroCells (Value.string ⟨#[]⟩).cells (b - a)).toList) :=
          fun ty c => run_clear_cells wr _ _ ty _ Try.underlying43 zero_strg (by intro k hk; have : k < 1 := hk; match k, this with | 0, _ => rfl) g a (b - a) c (by omega)
            (fun t ht => by rw [row_cell HR.out, Array.getElem?_eq_getElem (show a + t < cur.size by have : t < (b - a) * 1 := ht; omega)]; rfl) (fun t _ => row_fz HR.out _)
        clear HI'
        have hrow : Hid ((wr.setCells g a (Builtin.zeroCells (Value.string ⟨#[]⟩).cells (b - a)).toList).heap[g]? = _) := lid (row_setCells _ a wr cur HR.out)
        go_wp2_with fail
        go_ret
        refine ⟨_, rfl, ?_, below_cells hg _ _ _ hb⟩
        rw [HDN.out.1]
        have ef : (svals (l.filter fun x => !P x)).length = a * 1 := by rw [svals_length, HDN.out.1, Nat.mul_one]
        have H2 := HDN.out.2
        rw [svals_flat, Nat.mul_one] at H2
        exact ⟨ef, .inr ⟨g, cap, _, rfl, hg, hrow.out, by omega, hmx, by rw [layAt_size, Nat.mul_one]; exact HZ.out, by rw [Nat.mul_one]; exact H2⟩⟩
set_option maxRecDepth 100000 in
set_option maxHeartbeats 1000000 in
theorem forgetS_asks (c1 : Nat) (a : Ask) (w : World) (h : w.heap[c1]? = some (.cells (askc a) 51 (0, 0))) : AsksS 34 #[.pointer (some ⟨c1, 0, none⟩)] (fun v => decide (v = a.wk)) w := by
  intro x w' hb
  have hc := (bc hb (row_lt h) 4).trans (row_cell h 4)
  have hlt : c1 < w'.heap.size := Nat.lt_of_lt_of_le (row_lt h) hb.size
  have HV := lid (str_beq x a.wk)
  show Calls Try.prog 34 #[.string x, .pointer (some ⟨c1, 0, none⟩)] w' _
  clear h hb
  go_enter Try.func34, Try.ntmps34
  go_wp2_with fail
  go_ret
  exact ⟨ret_bool (by rw [← HV.out]), Below.refl _ _⟩
end Go.Proofs.Ytcpnpcbaifagbaa
