/-
  Ballots: the order of keys and of strings; slices.BinarySearchFunc over ballots and over votes.
-/
import Derived.Test.YtcpnpcbaifagbaaQuoIns
import Derived.Test.YtcpnpcbaifagbaaStrCompare
namespace Go.Proofs.Ytcpnpcbaifagbaa
open Go.RowKit
open Go.Lib (compareBytes)

/-- x, or y where x is 0. -/
def or2 (x y : Int) : Int := if x = 0 then y else x
def cmpI (x y : Int) : Int := if x < y then -1 else if y < x then 1 else 0
def cmpD (a b : Dg) : Int := or2 (cmpI a.1.toNat b.1.toNat) (cmpI a.2.toNat b.2.toNat)
theorem cmpD_lt (a b : Dg) : decide (cmpD a b < 0) = ltD a b := by
  rw [Bool.eq_iff_iff, ltD_iff, decide_eq_true_eq]
  unfold cmpD or2 cmpI
  split <;> split at * <;> (try split at *) <;> (try split) <;> (try split) <;> omega
theorem cmpD_eq (a b : Dg) : (cmpD a b == 0) = decide (a = b) := by
  rw [Bool.eq_iff_iff, beq_iff_eq, decide_eq_true_eq]
  constructor
  · intro h
    refine dg_ext ?_ ?_ <;>
    · unfold cmpD or2 cmpI at h
      split at h <;> split at * <;> (try split at *) <;> (try split at h) <;> (try split at h) <;> omega
  · rintro rfl
    simp [cmpD, or2, cmpI]
theorem cmpD_le (a b : Dg) : decide (cmpD a b ≤ 0) = !ltD b a := by
  rw [Bool.eq_iff_iff, decide_eq_true_eq, Bool.not_eq_true']
  have h1 := cmpD_lt a b
  have h2 := cmpD_eq a b
  rcases ltD_total a b with h | h | h
  · rw [h] at h1
    have := of_decide_eq_true h1
    exact ⟨fun _ => ltD_asymm h, fun _ => by omega⟩
  · subst h
    rw [decide_eq_true rfl, beq_iff_eq] at h2
    exact ⟨fun _ => ltD_irrefl a, fun _ => by omega⟩
  · rw [h]
    rw [ltD_asymm h] at h1
    have h3 := of_decide_eq_false h1
    have h4 : cmpD a b ≠ 0 := by
      intro e
      rw [e] at h2
      have e2 : a = b := of_decide_eq_true h2.symm
      exact ltD_ne h e2.symm
    exact ⟨fun _ => by omega, fun h => by cases h⟩
theorem cmpS_lt : ∀ (a b : List UInt8), decide (compareBytes a b < 0) = Op.bytesLess a b
  | [], [] => rfl
  | [], _ :: _ => rfl
  | _ :: _, [] => rfl
  | x :: a, y :: b => by
    have ih := cmpS_lt a b
    unfold compareBytes Op.bytesLess
    by_cases h1 : x < y
    · simp [h1]
    · by_cases h2 : y < x
      · have h3 : ¬ x = y := by rintro rfl; exact UInt8.lt_irrefl _ h2
        simp [h1, h2, h3]
      · have h3 : x = y := UInt8.le_antisymm (UInt8.not_lt.1 h2) (UInt8.not_lt.1 h1)
        subst h3
        simp only [UInt8.lt_irrefl, if_false, decide_false, Bool.false_or, beq_self_eq_true, Bool.true_and]
        exact ih
theorem cmpS_eq : ∀ (a b : List UInt8), (compareBytes a b == 0) = decide (a = b)
  | [], [] => rfl
  | [], _ :: _ => by simp [compareBytes]
  | _ :: _, [] => by simp [compareBytes]
  | x :: a, y :: b => by
    have ih := cmpS_eq a b
    unfold compareBytes
    by_cases h1 : x < y
    · have h3 : ¬ x = y := by rintro rfl; exact UInt8.lt_irrefl _ h1
      simp [h1, h3]
    · by_cases h2 : y < x
      · have h3 : ¬ x = y := by rintro rfl; exact UInt8.lt_irrefl _ h2
        simp [h1, h2, h3]
      · have h3 : x = y := UInt8.le_antisymm (UInt8.not_lt.1 h2) (UInt8.not_lt.1 h1)
        subst h3
        simp only [UInt8.lt_irrefl, if_false]
        rw [ih]
        simp
def cmpB (a b : ByteArray) : Int := compareBytes a.data.toList b.data.toList
theorem cmpB_lt (a b : ByteArray) : decide (cmpB a b < 0) = ltB a b := by
  unfold cmpB ltB
  rw [cmpS_lt, ByteArray.toList_eq, ByteArray.toList_eq]
theorem cmpB_eq (a b : ByteArray) : (cmpB a b == 0) = decide (a = b) := by
  unfold cmpB
  rw [cmpS_eq, Bool.eq_iff_iff, decide_eq_true_eq, decide_eq_true_eq]
  constructor
  · intro h
    apply ba_ext
    rw [ByteArray.toList_eq, ByteArray.toList_eq, h]
  · rintro rfl
    rfl

set_option maxHeartbeats 400000 in
theorem isNaN_any (x : Int) (w : World) : Calls Try.prog 68 #[.int .u64 x] w fun e w' => e = .returned (.bool false) ∧ w = w' := by
  have h : (!(x == x)) = false := by simp
  go_enter Try.func68, Try.ntmps68
  go_wp2
  go_ret
  exact ⟨ret_bool (by simp), rfl⟩
set_option maxHeartbeats 400000 in
theorem cmpU64_any (x y : Int) (w : World) : Calls Try.prog 63 #[.int .u64 x, .int .u64 y] w fun e w' => e = .returned (.int .i64 (cmpI x y)) ∧ w = w' := by
  rcases (show x < y ∨ y < x ∨ x = y by omega) with h | h | h
  · have HC : Hid (cmpI x y = -1) := by show _ = _; unfold cmpI; rw [if_pos h]
    go_enter Try.func63, Try.ntmps63
    go_wp2_with fail
    (with_reducible refine (isNaN_any x _).mono ?_); rintro e w1 ⟨rfl, rfl⟩
    go_wp2_with fail
    (with_reducible refine (isNaN_any y _).mono ?_); rintro e w1 ⟨rfl, rfl⟩
    go_wp2_with fail
    go_ret
    exact ⟨ret_i64 HC.out.symm, rfl⟩
  · have HC : Hid (cmpI x y = 1) := by show _ = _; unfold cmpI; rw [if_neg (by omega), if_pos h]
    go_enter Try.func63, Try.ntmps63
    go_wp2_with fail
    (with_reducible refine (isNaN_any x _).mono ?_); rintro e w1 ⟨rfl, rfl⟩
    go_wp2_with fail
    (with_reducible refine (isNaN_any y _).mono ?_); rintro e w1 ⟨rfl, rfl⟩
    go_wp2_with fail
    go_ret
    exact ⟨ret_i64 HC.out.symm, rfl⟩
  · have HC : Hid (cmpI x y = 0) := by show _ = _; unfold cmpI; rw [if_neg (by omega), if_neg (by omega)]
    subst h
    go_enter Try.func63, Try.ntmps63
    go_wp2_with fail
    (with_reducible refine (isNaN_any x _).mono ?_); rintro e w1 ⟨rfl, rfl⟩
    go_wp2_with fail
    (with_reducible refine (isNaN_any x _).mono ?_); rintro e w1 ⟨rfl, rfl⟩
    go_wp2_with fail
    go_ret
    exact ⟨ret_i64 HC.out.symm, rfl⟩

theorem ba2 (w : World) (o p : Obj) : Below w.heap.size w ((w.alloc o).alloc p) := (ba _ _).alloc (by simp) _
set_option maxHeartbeats 1000000 in
theorem compareKeys_any (a b : Dg) (w : World) : Calls Try.prog 47 #[dv a, dv b] w fun e w' => e = .returned (.int .i64 (cmpD a b)) ∧ Below w.heap.size w w' := by
  have HV : Hid (cmpD a b = or2 (cmpI a.1.toNat b.1.toNat) (cmpI a.2.toNat b.2.toNat)) := lid rfl
  by_cases hc : cmpI (a.1.toNat : Int) b.1.toNat = 0
  · have HO : Hid (cmpD a b = cmpI a.2.toNat b.2.toNat) := lid (by rw [HV.out]; unfold or2; rw [if_pos hc])
    have d1 : (cmpI (a.1.toNat : Int) b.1.toNat == 0) = true := by simpa using hc
    have d2 : (cmpI (a.1.toNat : Int) b.1.toNat != 0) = false := by simpa using hc
    clear hc HV
    go_enter Try.func47, Try.ntmps47
    go_wp2_with fail
    (with_reducible refine (cmpU64_any (a.1.toNat : Int) (b.1.toNat : Int) _).mono ?_); rintro e w1 ⟨rfl, rfl⟩
    go_wp2_with fail
    (with_reducible refine (cmpU64_any (a.2.toNat : Int) (b.2.toNat : Int) _).mono ?_); rintro e w1 ⟨rfl, rfl⟩
    go_wp2_with fail
    go_ret
    exact ⟨ret_i64 HO.out.symm, ba2 _ _ _⟩
  · have HO : Hid (cmpD a b = cmpI a.1.toNat b.1.toNat) := lid (by rw [HV.out]; unfold or2; rw [if_neg hc])
    have d1 : (cmpI (a.1.toNat : Int) b.1.toNat == 0) = false := by simpa using hc
    have d2 : (cmpI (a.1.toNat : Int) b.1.toNat != 0) = true := by simpa using hc
    clear hc HV
    go_enter Try.func47, Try.ntmps47
    go_wp2_with fail
    (with_reducible refine (cmpU64_any (a.1.toNat : Int) (b.1.toNat : Int) _).mono ?_); rintro e w1 ⟨rfl, rfl⟩
    go_wp2_with fail
    go_ret
    exact ⟨ret_i64 HO.out.symm, ba2 _ _ _⟩

set_option maxHeartbeats 1000000 in
theorem find1_any (r : Rw) (k : Dg) (w : World) : Calls Try.prog 57 #[.agg (rwc r), dv k] w fun e w' => e = .returned (.int .i64 (cmpD r.key k)) ∧ Below w.heap.size w w' := by
  go_enter Try.func57, Try.ntmps57
  go_wp2_with fail
  (with_reducible refine (compareKeys_any r.key k _).mono ?_); rintro e w1 ⟨rfl, hb1⟩
  go_wp2_with fail
  go_ret
  exact ⟨rfl, (ba2 _ _ _).trans (hb1.mono (by simp; omega))⟩

set_option maxHeartbeats 1000000 in
theorem vote1_any (v : Vt) (k : ByteArray) (w : World) : Calls Try.prog 40 #[.agg (vtc v), .string k] w fun e w' => e = .returned (.int .i64 (cmpB v.1 k)) ∧ Below w.heap.size w w' := by
  go_enter Try.func40, Try.ntmps40
  go_wp2_with fail
  (with_reducible refine (StrCompare_any v.1 k _).mono ?_); rintro e w1 ⟨rfl, rfl⟩
  go_wp2_with fail
  go_ret
  exact ⟨rfl, ba _ _⟩

/-! Where a predicate that holds of a beginning ends. -/
theorem takeWhile_len {α : Type} {P : α → Bool} {l : List α} {p : Nat} (hp : p ≤ l.length) (h1 : ∀ j (h : j < l.length), j < p → P l[j] = true) (h2 : ∀ j (h : j < l.length), p ≤ j → P l[j] = false) : (l.takeWhile P).length = p := by
  induction l generalizing p with
  | nil => simp at hp; simp [hp]
  | cons a l ih =>
    cases p with
    | zero =>
      have := h2 0 (by simp) (by omega)
      simp at this
      simp [this]
    | succ p =>
      have := h1 0 (by simp) (by omega)
      simp at this
      rw [List.takeWhile_cons, if_pos this, List.length_cons, ih (by simpa using hp) (fun j h hj => h1 (j + 1) (by simpa using h) (by omega)) (fun j h hj => h2 (j + 1) (by simpa using h) (by omega))]
/-- Ballots in the order of their keys. -/
def SrtR (l : List Rw) : Prop := ∀ i j (hi : i < l.length) (hj : j < l.length), i < j → ltD l[i].key l[j].key = true
def SrtV (l : List Vt) : Prop := ∀ i j (hi : i < l.length) (hj : j < l.length), i < j → ltB l[i].1 l[j].1 = true
def posR (l : List Rw) (k : Dg) : Nat := (l.takeWhile fun r => ltD r.key k).length
def hitR (l : List Rw) (k : Dg) : Bool := l.any fun r => decide (r.key = k)
def posV (l : List Vt) (k : ByteArray) : Nat := (l.takeWhile fun r => ltB r.1 k).length
structure LoHi {α : Type} (P : α → Bool) (l : List α) (a b : Nat) : Prop where
  lo : ∀ j (h : j < l.length), j < a → P l[j] = true
  hi : ∀ j (h : j < l.length), b ≤ j → P l[j] = false
theorem LoHi.start {α : Type} {P : α → Bool} {l : List α} {n : Nat} (h : l.length = n) : LoHi P l 0 n := ⟨fun j _ hj => by omega, fun j h hj => by omega⟩
theorem LoHi.end_ {α : Type} {P : α → Bool} {l : List α} {a : Nat} (h : LoHi P l a a) (ha : a ≤ l.length) : (l.takeWhile P).length = a := takeWhile_len ha h.lo h.hi
theorem LoHi.upR {l : List Rw} {k : Dg} {a b h : Nat} (H : LoHi (fun r => ltD r.key k) l a b) (hs : SrtR l) (hh : h < l.length) (hl : ltD l[h].key k = true) : LoHi (fun r => ltD r.key k) l (h + 1) b :=
  ⟨fun j hj hlt => by
    rcases Nat.lt_or_ge j h with h1 | h1
    · exact ltD_trans (hs j h hj hh h1) hl
    · obtain rfl : j = h := by omega
      exact hl, H.hi⟩
theorem LoHi.downR {l : List Rw} {k : Dg} {a b h : Nat} (H : LoHi (fun r => ltD r.key k) l a b) (hs : SrtR l) (hh : h < l.length) (hl : ltD l[h].key k = false) : LoHi (fun r => ltD r.key k) l a h :=
  ⟨H.lo, fun j hj hlt => by
    rcases Nat.lt_or_ge h j with h1 | h1
    · cases hc : ltD l[j].key k with
      | false => rfl
      | true =>
        have := ltD_trans (hs h j hh hj h1) hc
        rw [hl] at this
        cases this
    · obtain rfl : j = h := by omega
      exact hl⟩
theorem LoHi.upV {l : List Vt} {k : ByteArray} {a b h : Nat} (H : LoHi (fun r => ltB r.1 k) l a b) (hs : SrtV l) (hh : h < l.length) (hl : ltB l[h].1 k = true) : LoHi (fun r => ltB r.1 k) l (h + 1) b :=
  ⟨fun j hj hlt => by
    rcases Nat.lt_or_ge j h with h1 | h1
    · exact ltB_trans (hs j h hj hh h1) hl
    · obtain rfl : j = h := by omega
      exact hl, H.hi⟩
theorem LoHi.downV {l : List Vt} {k : ByteArray} {a b h : Nat} (H : LoHi (fun r => ltB r.1 k) l a b) (hs : SrtV l) (hh : h < l.length) (hl : ltB l[h].1 k = false) : LoHi (fun r => ltB r.1 k) l a h :=
  ⟨H.lo, fun j hj hlt => by
    rcases Nat.lt_or_ge h j with h1 | h1
    · cases hc : ltB l[j].1 k with
      | false => rfl
      | true =>
        have := ltB_trans (hs h j hh hj h1) hc
        rw [hl] at this
        cases this
    · obtain rfl : j = h := by omega
      exact hl⟩
/-- At the end: is the key there? -/
theorem hitR_end {l : List Rw} {k : Dg} {a : Nat} (H : LoHi (fun r => ltD r.key k) l a a) (hs : SrtR l) : hitR l k = (if h : a < l.length then decide (l[a].key = k) else false) := by
  unfold hitR
  rw [Bool.eq_iff_iff, List.any_eq_true]
  constructor
  · rintro ⟨r, hr, e⟩
    obtain ⟨j, hj, rfl⟩ := List.mem_iff_getElem.1 hr
    have e := of_decide_eq_true e
    have h1 : ¬ j < a := fun h => by
      have := H.lo j hj h
      simp only [e] at this
      rw [ltD_irrefl] at this
      cases this
    have ha : a < l.length := by omega
    rw [dif_pos ha]
    rcases Nat.lt_or_ge a j with h2 | h2
    · have h3 := hs a j ha hj h2
      have h4 := H.hi a ha (by omega)
      rw [e] at h3
      rw [h3] at h4
      cases h4
    · obtain rfl : j = a := by omega
      exact decide_eq_true e
  · split
    · rename_i ha
      intro e
      exact ⟨l[a], List.getElem_mem ha, e⟩
    · intro e; cases e
theorem hitV_end {l : List Vt} {k : ByteArray} {a : Nat} (H : LoHi (fun r => ltB r.1 k) l a a) (hs : SrtV l) : hasV l k = (if h : a < l.length then decide (l[a].1 = k) else false) := by
  unfold hasV
  rw [Bool.eq_iff_iff, List.any_eq_true]
  constructor
  · rintro ⟨r, hr, e⟩
    obtain ⟨j, hj, rfl⟩ := List.mem_iff_getElem.1 hr
    have e := of_decide_eq_true e
    have h1 : ¬ j < a := fun h => by
      have := H.lo j hj h
      simp only [e] at this
      rw [ltB_irrefl] at this
      cases this
    have ha : a < l.length := by omega
    rw [dif_pos ha]
    rcases Nat.lt_or_ge a j with h2 | h2
    · have h3 := hs a j ha hj h2
      have h4 := H.hi a ha (by omega)
      rw [e] at h3
      rw [h3] at h4
      cases h4
    · obtain rfl : j = a := by omega
      exact decide_eq_true e
  · split
    · rename_i ha
      intro e
      exact ⟨l[a], List.getElem_mem ha, e⟩
    · intro e; cases e

set_option maxRecDepth 100000 in
set_option maxHeartbeats 8000000 in
theorem BSearch_votes (l : List Vt) (n cap : Nat) (ao : Option Addr) (k : ByteArray) (w : World) (hn : l.length = n) (hm : n ≤ 1000000) (hs : Sl w 2 ao n (vcells l)) (hsort : SrtV l) :
    Calls Try.prog 39 #[.slice ao n cap, .string k, .func (.func 40) #[] #[]] w fun e w' => e = .returned (.tuple #[.int .i64 (posV l k), .bool (hasV l k)]) ∧ posV l k ≤ n ∧ Below w.heap.size w w' := by
  have HN := lid hn
  have HS := lid hs
  have HO := lid hsort
  clear hn hs hsort
  go_enter Try.func39, Try.ntmps39
  go_wp2_with fail
  go_loopw [9, 10, 11] (fun i j _ wr => ∃ a b : Nat, i = .int .i64 a ∧ j = .int .i64 b ∧ a ≤ b ∧ b ≤ n ∧ Hid (LoHi (fun r => ltB r.1 k) l a b) ∧ Below w.heap.size w wr) (fun i j _ _ => (intOf j).toNat - (intOf i).toNat)
  case atStart => exact ⟨0, n, rfl, rfl, Nat.zero_le _, Nat.le_refl _, lid (LoHi.start HN.out), Below.refl _ _⟩
  case round =>
    obtain ⟨a, b, rfl, rfl, hab, hbn, HL, hb⟩ := hrel
    by_cases hlt : a < b
    · obtain ⟨h, hh⟩ : ∃ h, (a + b) / 2 = h := ⟨_, rfl⟩
      have h1 : a ≤ h := by omega
      have h2 : h < b := by omega
      have hhl : h < l.length := by rw [HN.out]; omega
      have hhn : h < n := by omega
      have db : decide (a < b) = true := by simpa using hlt
      have hq : ((a : Int) + (b : Int)) / 2 = (h : Int) := by omega
      obtain ⟨b1, o1, rfl, hlb, hcell⟩ := (HS.out.below hb).at_ hhn
      have x0 := hcell (h * 2 + 0) _ (vcells_at hhl).1
      have x1 := hcell (h * 2 + 1) _ (vcells_at hhl).2
      rw [← Nat.add_assoc] at x1
      rw [Nat.add_zero] at x0
      have HU := lid (fun e => HL.out.upV HO.out hhl e)
      have HD := lid (fun e => HL.out.downV HO.out hhl e)
      obtain ⟨x, hx⟩ : ∃ x, l[h] = x := ⟨_, rfl⟩
      rw [hx] at x0 x1 HU HD
      have HC := lid (cmpB_lt x.1 k)
      obtain ⟨c, hcc⟩ : ∃ c, cmpB x.1 k = c := ⟨_, rfl⟩
      have CX := lid (vote1_any x k wr)
      rw [hcc] at CX HC
      clear hcell hx hh hcc hhl
      go_wp2_with fail
      (with_reducible refine (CX.out).mono ?_); rintro e w2 ⟨rfl, hb2⟩
      have hw2 := hb.trans (hb2.mono hb.size)
      clear CX x0 x1
      cases hp : ltB x.1 k with
      | true =>
        have HV := lid (HU.out hp)
        have dc := HC.out
        rw [hp] at dc
        clear hp HU HD
        go_wp2_with fail
        go_roundw
        case rel => exact ⟨h + 1, b, by go_num, rfl, by omega, hbn, HV, hw2⟩
        case measure => simp [intOf]; omega
      | false =>
        have HV := lid (HD.out hp)
        have dc := HC.out
        rw [hp] at dc
        clear hp HU HD
        go_wp2_with fail
        go_roundw
        case rel => exact ⟨a, h, rfl, by go_num, h1, by omega, HV, hw2⟩
        case measure => simp [intOf]; omega
    · obtain rfl : a = b := by omega
      have HP := lid (HL.out.end_ (by rw [HN.out]; exact hbn))
      have HH := lid (hitV_end HL.out HO.out)
      have db : decide (a < a) = false := by simp
      by_cases han : a < n
      · have hal : a < l.length := by rw [HN.out]; exact han
        obtain ⟨b1, o1, rfl, hlb, hcell⟩ := (HS.out.below hb).at_ han
        have x0 := hcell (a * 2 + 0) _ (vcells_at hal).1
        have x1 := hcell (a * 2 + 1) _ (vcells_at hal).2
        rw [← Nat.add_assoc] at x1
        rw [Nat.add_zero] at x0
        have HH2 : Hid (hasV l k = decide (l[a].1 = k)) := lid (by rw [HH.out, dif_pos hal])
        obtain ⟨x, hx⟩ : ∃ x, l[a] = x := ⟨_, rfl⟩
        rw [hx] at x0 x1 HH2
        have HC := lid (cmpB_eq x.1 k)
        obtain ⟨c, hcc⟩ : ∃ c, cmpB x.1 k = c := ⟨_, rfl⟩
        have CX := lid (vote1_any x k wr)
        rw [hcc] at CX HC
        have dn : decide (a < n) = true := by simpa using han
        clear hcell hx hcc HH hal
        go_wp2_with fail
        (with_reducible refine (CX.out).mono ?_); rintro e w2 ⟨rfl, hb2⟩
        have hw2 := hb.trans (hb2.mono hb.size)
        go_wp2_with fail
        go_ret2
        refine ⟨?_, by unfold posV; rw [HP.out]; omega, hw2⟩
        unfold posV
        rw [HP.out, HH2.out, HC.out]
        rfl
      · obtain rfl : a = n := by omega
        have HH2 : Hid (hasV l k = false) := lid (by rw [HH.out, dif_neg (by rw [HN.out]; omega)])
        clear HH
        go_wp2_with fail
        go_ret2
        refine ⟨?_, by unfold posV; rw [HP.out]; omega, hb⟩
        unfold posV
        rw [HP.out, HH2.out]
        rfl
/-! Ballots by their keys. -/
theorem posR_hit {l : List Rw} {k : Dg} (hs : SrtR l) (hh : hitR l k = true) : ∃ hp : posR l k < l.length, (l[posR l k]).key = k := by
  unfold hitR at hh
  rw [List.any_eq_true] at hh
  obtain ⟨r, hr, e⟩ := hh
  have e := of_decide_eq_true e
  obtain ⟨j, hj, rfl⟩ := List.mem_iff_getElem.1 hr
  have hp : posR l k = j := takeWhile_len (by omega) (fun i hi hij => by have := hs i j hi hj hij; rwa [e] at this) (fun i hi hij => by
    rcases Nat.lt_or_ge j i with h1 | h1
    · have := hs j i hj hi h1
      rw [e] at this
      exact ltD_asymm this
    · obtain rfl : j = i := by omega
      rw [e]
      exact ltD_irrefl k)
  subst hp
  exact ⟨hj, e⟩
theorem about_none {l : List Rw} {k : Dg} (hh : hitR l k = false) : aboutB (l.map Rw.bal) k = [] := by
  unfold aboutB
  rw [List.find?_eq_none.2]
  intro b hb
  obtain ⟨r, hr, rfl⟩ := List.mem_map.1 hb
  have := List.any_eq_false.1 hh r hr
  exact this
theorem about_some {l : List Rw} {k : Dg} {j : Nat} (hs : SrtR l) (hj : j < l.length) (e : (l[j]).key = k) : aboutB (l.map Rw.bal) k = (l[j]).vs := by
  unfold aboutB
  have : (l.map Rw.bal).find? (fun b => decide (b.1 = k)) = some (l[j]).bal := by
    rw [List.find?_eq_some_iff_getElem]
    refine ⟨decide_eq_true e, j, by simpa using hj, by simp, fun i hi => ?_⟩
    have hil : i < l.length := by omega
    have := ltD_ne (hs i j hil hj hi)
    rw [e] at this
    simpa [Rw.bal] using this
  rw [this]
  rfl

set_option maxRecDepth 100000 in
set_option maxHeartbeats 8000000 in
theorem BSearch_ballots (l : List Rw) (n cap : Nat) (ao : Option Addr) (k : Dg) (w : World) (hn : l.length = n) (hm : n ≤ 1000000) (hs : Sl w 3 ao n (rcells l)) (hsort : SrtR l) :
    Calls Try.prog 56 #[.slice ao n cap, dv k, .func (.func 57) #[] #[]] w fun e w' => e = .returned (.tuple #[.int .i64 (posR l k), .bool (hitR l k)]) ∧ posR l k ≤ n ∧ Below w.heap.size w w' := by
  have HN := lid hn
  have HS := lid hs
  have HO := lid hsort
  clear hn hs hsort
  have HB : Hid ((w.alloc (.cells #[.int .u64 k.1.toNat, .int .u64 k.2.toNat] 25)).heap[w.heap.size]? = some (.cells #[.int .u64 k.1.toNat, .int .u64 k.2.toNat] 25 (0, 0))) := lid (heap_alloc_new _ _)
  unfold dv
  go_enter Try.func56, Try.ntmps56
  go_wp2_with fail
  go_loopw [9, 10, 11] (fun i j _ wr => ∃ a b : Nat, i = .int .i64 a ∧ j = .int .i64 b ∧ a ≤ b ∧ b ≤ n ∧ Hid (LoHi (fun r => ltD r.key k) l a b) ∧ Hid (wr.heap[w.heap.size]? = some (.cells #[.int .u64 k.1.toNat, .int .u64 k.2.toNat] 25 (0, 0))) ∧ Below w.heap.size w wr) (fun i j _ _ => (intOf j).toNat - (intOf i).toNat)
  case atStart => exact ⟨0, n, rfl, rfl, Nat.zero_le _, Nat.le_refl _, lid (LoHi.start HN.out), HB, ba _ _⟩
  case round =>
    clear HB
    obtain ⟨a, b, rfl, rfl, hab, hbn, HL, HB, hb⟩ := hrel
    by_cases hlt : a < b
    · obtain ⟨h, hh⟩ : ∃ h, (a + b) / 2 = h := ⟨_, rfl⟩
      have h1 : a ≤ h := by omega
      have h2 : h < b := by omega
      have hl : h < l.length := by rw [HN.out]; omega
      have hhn : h < n := by omega
      have db : decide (a < b) = true := by simpa using hlt
      have e1 : IntKind.i64.wrap ((a : Int) + (b : Int)) = (a : Int) + (b : Int) := by rw [IntKind.wrap_i64]; omega
      have hq : ((a : Int) + (b : Int)) / 2 = (h : Int) := by omega
      obtain ⟨b1, o1, rfl, hlb, hcell⟩ := (HS.out.below hb).at_ hhn
      have x0 := hcell (h * 3 + 0) _ (rcells_at hl).1
      have x1 := hcell (h * 3 + 1) _ (rcells_at hl).2.1
      have x2 := hcell (h * 3 + 2) _ (rcells_at hl).2.2
      rw [← Nat.add_assoc] at x1 x2
      rw [Nat.add_zero] at x0
      have HU := lid (fun e => HL.out.upR HO.out hl e)
      have HD := lid (fun e => HL.out.downR HO.out hl e)
      obtain ⟨x, hx⟩ : ∃ x, l[h] = x := ⟨_, rfl⟩
      rw [hx] at x0 x1 x2 HU HD
      have HC := lid (cmpD_lt x.key k)
      obtain ⟨c, hcc⟩ : ∃ c, cmpD x.key k = c := ⟨_, rfl⟩
      have CX := lid (find1_any x k wr.drew)
      rw [hcc] at CX HC
      clear hcell hx hh hcc hl
      cases hp : ltD x.key k with
      | true =>
        have HV := lid (HU.out hp)
        have dc := HC.out
        rw [hp] at dc
        clear hp HU HD
        go_wp2_with fail
        have p0 := row_cell HB.out 0
        have p1 := row_cell HB.out 1
        have lB := row_lt HB.out
        refine wp_region_seq (fun w' => ∃ s : Since wr.heap.size wr, w' = s.world) [(0, true), (1, true), (2, true), (3, true), (4, true), (5, true), (6, false), (7, true)] (by kernel_rfl) (by kernel_rfl) (by intro c d v a w h; cases d <;> exact h) (since (Below.refl _ _).drew) ?_
        repeat (first | (refine seq_skip (by rfl) (by rfl) ?_; simp only [Act.put, List.setIfInBounds_toArray, List.set_cons_succ, List.set_cons_zero]) | (refine seq_float (by rfl) (by rfl) (by rfl) ?_; intro K hK; go_big_quiet_op; go_big_quiet_on))
        refine seq_chain (by rfl) ?_
        intro K hK
        go_wp2_with fail
        (with_reducible refine (CX.out).mono ?_); rintro e w2 ⟨rfl, hb2⟩
        have hb3 : Below wr.heap.size wr w2 := (Below.refl _ _).drew.trans hb2
        go_wp2_with fail
        refine hK.out _ _ (since hb3) ?_
        clear hK K
        repeat (first | (refine seq_skip (by rfl) (by rfl) ?_; simp only [Act.put, List.setIfInBounds_toArray, List.set_cons_succ, List.set_cons_zero]) | (refine seq_float (by rfl) (by rfl) (by rfl) ?_; intro K hK; go_big_quiet_op; go_big_quiet_on))
        refine seq_nil ?_
        have HB2 := lid ((hb3.block _ lB).trans HB.out)
        have hw2 := hb.trans (hb3.mono hb.size)
        clear CX x0 x1 x2 p0 p1 HB lB
        go_wp2_with fail
        go_roundw
        case rel => exact ⟨h + 1, b, by go_num, rfl, by omega, hbn, HV, HB2, hw2⟩
        case measure => simp [intOf]; omega
      | false =>
        have HV := lid (HD.out hp)
        have dc := HC.out
        rw [hp] at dc
        clear hp HU HD
        go_wp2_with fail
        have p0 := row_cell HB.out 0
        have p1 := row_cell HB.out 1
        have lB := row_lt HB.out
        refine wp_region_seq (fun w' => ∃ s : Since wr.heap.size wr, w' = s.world) [(0, true), (1, true), (2, true), (3, true), (4, true), (5, true), (6, false), (7, true)] (by kernel_rfl) (by kernel_rfl) (by intro c d v a w h; cases d <;> exact h) (since (Below.refl _ _).drew) ?_
        repeat (first | (refine seq_skip (by rfl) (by rfl) ?_; simp only [Act.put, List.setIfInBounds_toArray, List.set_cons_succ, List.set_cons_zero]) | (refine seq_float (by rfl) (by rfl) (by rfl) ?_; intro K hK; go_big_quiet_op; go_big_quiet_on))
        refine seq_chain (by rfl) ?_
        intro K hK
        go_wp2_with fail
        (with_reducible refine (CX.out).mono ?_); rintro e w2 ⟨rfl, hb2⟩
        have hb3 : Below wr.heap.size wr w2 := (Below.refl _ _).drew.trans hb2
        go_wp2_with fail
        refine hK.out _ _ (since hb3) ?_
        clear hK K
        repeat (first | (refine seq_skip (by rfl) (by rfl) ?_; simp only [Act.put, List.setIfInBounds_toArray, List.set_cons_succ, List.set_cons_zero]) | (refine seq_float (by rfl) (by rfl) (by rfl) ?_; intro K hK; go_big_quiet_op; go_big_quiet_on))
        refine seq_nil ?_
        have HB2 := lid ((hb3.block _ lB).trans HB.out)
        have hw2 := hb.trans (hb3.mono hb.size)
        clear CX x0 x1 x2 p0 p1 HB lB
        go_wp2_with fail
        go_roundw
        case rel => exact ⟨a, h, rfl, by go_num, h1, by omega, HV, HB2, hw2⟩
        case measure => simp [intOf]; omega
    · obtain rfl : a = b := by omega
      have HP := lid (HL.out.end_ (by rw [HN.out]; exact hbn))
      have HH := lid (hitR_end HL.out HO.out)
      have db : decide (a < a) = false := by simp
      by_cases han : a < n
      · have al : a < l.length := by rw [HN.out]; exact han
        obtain ⟨b1, o1, rfl, hlb, hcell⟩ := (HS.out.below hb).at_ han
        have x0 := hcell (a * 3 + 0) _ (rcells_at al).1
        have x1 := hcell (a * 3 + 1) _ (rcells_at al).2.1
        have x2 := hcell (a * 3 + 2) _ (rcells_at al).2.2
        rw [← Nat.add_assoc] at x1 x2
        rw [Nat.add_zero] at x0
        have HH2 : Hid (hitR l k = decide (l[a].key = k)) := lid (by rw [HH.out, dif_pos al])
        obtain ⟨x, hx⟩ : ∃ x, l[a] = x := ⟨_, rfl⟩
        rw [hx] at x0 x1 x2 HH2
        have HC := lid (cmpD_eq x.key k)
        obtain ⟨c, hcc⟩ : ∃ c, cmpD x.key k = c := ⟨_, rfl⟩
        have CX := lid (find1_any x k wr.drew)
        rw [hcc] at CX HC
        have dn : decide (a < n) = true := by simpa using han
        clear hcell hx hcc HH al
        go_wp2_with fail
        have p0 := row_cell HB.out 0
        have p1 := row_cell HB.out 1
        have lB := row_lt HB.out
        refine wp_region_seq (fun w' => ∃ s : Since wr.heap.size wr, w' = s.world) [(0, true), (1, true), (2, true), (3, true), (4, true), (5, true), (6, true), (7, true), (8, true), (9, true), (10, true), (11, false), (12, true), (13, true), (14, false), (15, false)] (by kernel_rfl) (by kernel_rfl) (by intro c d v a w h; cases d <;> exact h) (since (Below.refl _ _).drew) ?_
        repeat (first | (refine seq_skip (by rfl) (by rfl) ?_; simp only [Act.put, List.setIfInBounds_toArray, List.set_cons_succ, List.set_cons_zero]) | (refine seq_float (by rfl) (by rfl) (by rfl) ?_; intro K hK; go_big_quiet_op; go_big_quiet_on))
        refine seq_chain (by rfl) ?_
        intro K hK
        go_wp2_with fail
        (with_reducible refine (CX.out).mono ?_); rintro e w2 ⟨rfl, hb2⟩
        have hb3 : Below wr.heap.size wr w2 := (Below.refl _ _).drew.trans hb2
        go_wp2_with fail
        refine hK.out _ _ (since hb3) ?_
        clear hK K
        repeat (first | (refine seq_skip (by rfl) (by rfl) ?_; simp only [Act.put, List.setIfInBounds_toArray, List.set_cons_succ, List.set_cons_zero]) | (refine seq_float (by rfl) (by rfl) (by rfl) ?_; intro K hK; go_big_quiet_op; go_big_quiet_on))
        refine seq_chain (by rfl) ?_
        intro K hK
        go_wp2_with fail
        refine hK.out _ _ (since hb3) ?_
        clear hK K
        repeat (first | (refine seq_skip (by rfl) (by rfl) ?_; simp only [Act.put, List.setIfInBounds_toArray, List.set_cons_succ, List.set_cons_zero]) | (refine seq_float (by rfl) (by rfl) (by rfl) ?_; intro K hK; go_big_quiet_op; go_big_quiet_on))
        refine seq_chain (by rfl) ?_
        intro K hK
        go_wp2_with fail
        refine hK.out _ _ (since hb3) ?_
        clear hK K
        repeat (first | (refine seq_skip (by rfl) (by rfl) ?_; simp only [Act.put, List.setIfInBounds_toArray, List.set_cons_succ, List.set_cons_zero]) | (refine seq_float (by rfl) (by rfl) (by rfl) ?_; intro K hK; go_big_quiet_op; go_big_quiet_on))
        refine seq_nil ?_
        have hw2 := hb.trans (hb3.mono hb.size)
        go_wp2_with fail
        go_ret2
        refine ⟨?_, by unfold posR; rw [HP.out]; omega, hw2⟩
        unfold posR
        rw [HP.out, HH2.out, HC.out]
        rfl
      · obtain rfl : a = n := by omega
        have HH2 : Hid (hitR l k = false) := lid (by rw [HH.out, dif_neg (by rw [HN.out]; omega)])
        clear HH
        go_wp2_with fail
        refine wp_region_seq (fun w' => ∃ s : Since wr.heap.size wr, w' = s.world) [(0, true), (1, true), (2, true), (3, true), (4, true), (5, true), (6, true), (7, true), (8, true), (9, true), (10, true), (11, true), (12, true), (13, true), (14, false), (15, false)] (by kernel_rfl) (by kernel_rfl) (by intro c d v a w h; cases d <;> exact h) (since (Below.refl _ _).drew) ?_
        repeat (first | (refine seq_skip (by rfl) (by rfl) ?_; simp only [Act.put, List.setIfInBounds_toArray, List.set_cons_succ, List.set_cons_zero]) | (refine seq_float (by rfl) (by rfl) (by rfl) ?_; intro K hK; go_big_quiet_op; go_big_quiet_on))
        refine seq_chain (by rfl) ?_
        intro K hK
        go_wp2_with fail
        refine hK.out _ _ (since (Below.refl _ _).drew) ?_
        clear hK K
        repeat (first | (refine seq_skip (by rfl) (by rfl) ?_; simp only [Act.put, List.setIfInBounds_toArray, List.set_cons_succ, List.set_cons_zero]) | (refine seq_float (by rfl) (by rfl) (by rfl) ?_; intro K hK; go_big_quiet_op; go_big_quiet_on))
        refine seq_chain (by rfl) ?_
        intro K hK
        go_wp2_with fail
        refine hK.out _ _ (since (Below.refl _ _).drew) ?_
        clear hK K
        repeat (first | (refine seq_skip (by rfl) (by rfl) ?_; simp only [Act.put, List.setIfInBounds_toArray, List.set_cons_succ, List.set_cons_zero]) | (refine seq_float (by rfl) (by rfl) (by rfl) ?_; intro K hK; go_big_quiet_op; go_big_quiet_on))
        refine seq_nil ?_
        go_wp2_with fail
        go_ret2
        refine ⟨?_, by unfold posR; rw [HP.out]; omega, hb.drew⟩
        unfold posR
        rw [HP.out, HH2.out]
        rfl

set_option maxHeartbeats 1000000 in
theorem find_any (l : List Rw) (n cap : Nat) (ao : Option Addr) (k : Dg) (w : World) (hm : n ≤ 1000000) (h : BA w ao n cap l) (hsort : SrtR l) :
    Calls Try.prog 36 #[.slice ao n cap, dv k] w fun e w' => e = .returned (.tuple #[.int .i64 (posR l k), .bool (hitR l k)]) ∧ posR l k ≤ n ∧ Below w.heap.size w w' := by
  have HC := lid (BSearch_ballots l n cap ao k (w.alloc (.cells #[.int .u64 k.1.toNat, .int .u64 k.2.toNat] 25)) h.len hm (h.sl.below (ba _ _)) hsort)
  clear h hsort
  go_enter Try.func36, Try.ntmps36
  go_wp2_with fail
  (with_reducible refine (HC.out).mono ?_); rintro e w1 ⟨rfl, hp, hb1⟩
  go_wp2_with fail
  go_ret2
  exact ⟨rfl, hp, (ba _ _).trans (hb1.mono (by simp))⟩
set_option maxHeartbeats 1000000 in
theorem votesAbout_any (l : List Rw) (n cap : Nat) (ao : Option Addr) (k : Dg) (w : World) (hm : n ≤ 1000000) (h : BA w ao n cap l) (hsort : SrtR l) :
    Calls Try.prog 49 #[.slice ao n cap, dv k] w fun e w' => ∃ (l' : List Vt) (ao' : Option Addr) (n' cap' : Nat), e = .returned (.slice ao' n' cap') ∧ l' = aboutB (l.map Rw.bal) k ∧ VA w' ao' n' cap' l' ∧ Below w.heap.size w w' := by
  have HC := lid (find_any l n cap ao k (w.alloc (.cells #[.int .u64 k.1.toNat, .int .u64 k.2.toNat] 25)) hm (h.below (ba _ _)) hsort)
  cases hh : hitR l k with
  | false =>
    have HE := lid (about_none hh)
    rw [hh] at HC
    clear h hsort hh
    go_enter Try.func49, Try.ntmps49
    go_wp2_with fail
    (with_reducible refine (HC.out).mono ?_); rintro e w1 ⟨rfl, hp, hb1⟩
    clear hp
    go_wp2_with fail
    go_ret
    exact ⟨[], none, 0, 0, rfl, HE.out.symm, VA.nil, (ba _ _).trans (hb1.mono (by simp))⟩
  | true =>
    obtain ⟨hp, hk⟩ := posR_hit hsort hh
    have HE := lid (about_some hsort hp hk)
    rw [hh] at HC
    have hpn : posR l k < n := by rw [← h.len]; exact hp
    obtain ⟨b1, o1, rfl, hlb, hcell⟩ := h.sl.at_ hpn
    have x2 := hcell _ _ (rcells_at hp).2.2
    rw [← Nat.add_assoc] at x2
    have HV := lid (h.ok _ (List.getElem_mem hp))
    obtain ⟨x, hx⟩ : ∃ x, l[posR l k] = x := ⟨_, rfl⟩
    rw [hx] at x2 HE HV
    obtain ⟨q, hq⟩ : ∃ q, posR l k = q := ⟨_, rfl⟩
    rw [hq] at x2 HC hpn
    clear h hsort hh hcell hx hp hk hq
    go_enter Try.func49, Try.ntmps49
    go_wp2_with fail
    (with_reducible refine (HC.out).mono ?_); rintro e w1 ⟨rfl, hp, hb1⟩
    have hb2 := (ba w (.cells #[.int .u64 k.1.toNat, .int .u64 k.2.toNat] 25)).trans (hb1.mono (by simp))
    have y2 := (bc hb2 hlb (o1 + q * 3 + 2)).trans x2
    clear x2 hb1
    go_wp2_with fail
    go_ret
    exact ⟨x.vs, x.ao, x.vs.length, x.cap, rfl, HE.out.symm, HV.out.below hb2, hb2⟩
end Go.Proofs.Ytcpnpcbaifagbaa
