/-
  Leases: Check, has, with and what they stand on.
-/
import Derived.Test.YtghkldodceamcaaLeaSpec
import Derived.Test.YtghkldodceamcaaObjTop
import Derived.Test.YtghkldodceamcaaSl
import Derived.Test.YtghkldodceamcaaRegion
import Derived.Test.YtghkldodceamcaaObjIdx
import Derived.Test.YtghkldodceamcaaCells
import Derived.Laws.OwnMore
import Derived.Laws.AppendOwnNone
import Derived.Test.YtghkldodceamcaaKit
import Derived.Test.YtghkldodceamcaaObjWr
import Derived.Test.YtghkldodceamcaaRegionL
import Derived.ArgAppend
namespace Go.Proofs.Ytghkldodceamcaa
open Go.RowKit

theorem nameE : ByteArray.size ⟨#[]⟩ ≤ maxLen := by decide
/-- A tree with one entry. -/
def obN (s : ByteArray) : Ob := ⟨2, ⟨#[]⟩, [(s, false, (1, 1))], (0, 0), [], ⟨#[]⟩, 0, ⟨#[]⟩⟩
theorem obN_check (s : ByteArray) : (checkO (obN s) == 0) = nameB s := by
  have e : checkO (obN s) = entsE [(s, false, (1, 1))] := rfl
  rw [e]
  unfold entsE
  rw [if_pos (by simp)]
  cases h : nameB s with
  | true =>
    rw [ents_next (p := none) h (fun q hq => by cases hq) (show zeroB (1, 1) = false by decide)]
    rfl
  | false => rw [ents_name h]; rfl

set_option maxRecDepth 100000 in
set_option maxHeartbeats 4000000 in
theorem isName_any (s : ByteArray) (w : World) (hs : s.size ≤ maxLen) :
    Calls Try.prog 27 #[.string s] w fun e w' => e = .returned (.bool (nameB s)) ∧ Below w.heap.size w w' := by
  obtain ⟨w1, hw1⟩ : ∃ x, w.alloc (.cells #[.string s, .bool false, .int .u64 1, .int .u64 1] 74) = x := ⟨_, rfl⟩
  obtain ⟨w2, hw2⟩ : ∃ x, w1.alloc (.cells #[.string s, .bool false, .int .u64 1, .int .u64 1] 74) = x := ⟨_, rfl⟩
  have z1 : w1.heap.size = w.heap.size + 1 := by rw [← hw1]; simp
  have hb : Below w.heap.size w w2 := by rw [← hw2, ← hw1]; exact ((Below.refl _ _).alloc (Nat.le_refl _) _).alloc (by simp) _
  have E2 : w2.heap[w.heap.size + 1]? = some (.cells #[.string s, .bool false, .int .u64 1, .int .u64 1] 74 (0, 0)) := by rw [← hw2, ← z1]; exact heap_alloc_new _ _
  have HA : ObjA w2 (some ⟨w.heap.size + 1, 0, none⟩) 1 none 0 (obN s) := by
    refine ⟨rfl, ⟨rfl, .inr ⟨w.heap.size + 1, 0, rfl, (Array.getElem?_eq_some_iff.1 E2).1, ?_⟩⟩, by simp [maxLen], ?_, rfl, .inl rfl, by simp [maxLen], nameE, nameE, nameE⟩
    · intro j u hu
      rw [Lib.cell_of_heap E2, Nat.zero_add]
      have e : ecells (obN s).ents = [.string s, .bool false, .int .u64 1, .int .u64 1] := rfl
      rw [e] at hu
      simpa using hu
    · intro e he
      have : e = (s, false, (1, 1)) := by simpa [obN] using he
      rw [this]
      exact hs
  have CC : Hid (Calls Try.prog 43 #[.agg #[.int .i64 2, .string ⟨#[]⟩, .slice (some ⟨w.heap.size + 1, 0, none⟩) 1 1, .int .u64 0, .int .u64 0, .slice none 0 0, .string ⟨#[]⟩, .int .i64 0, .string ⟨#[]⟩]] w2 fun e w' => e = .returned (.int .i64 (checkO (obN s))) ∧ Below w2.heap.size w2 w') := lid (objCheck_any (obN s) (some ⟨w.heap.size + 1, 0, none⟩) none 1 1 0 0 w2 HA (Nat.le_refl _) (show ByteArray.size ⟨#[]⟩ ≤ 60000 by decide))
  have HN := lid (obN_check s)
  have HW1 := lid hw1
  have HW2 := lid hw2
  have Hb := lid hb
  clear hw1 hw2 z1 hb E2 HA
  go_enter Try.func27, Try.ntmps27
  go_wp2_with fail
  rw [HW1.out, HW2.out]
  (with_reducible refine (CC.out).mono ?_); rintro e w3 ⟨rfl, hb3⟩
  have hn := HN.out
  go_wp2_with fail
  go_ret
  exact ⟨rfl, Hb.out.trans (hb3.mono Hb.out.size)⟩
end Go.Proofs.Ytghkldodceamcaa

namespace Go.Proofs.Ytghkldodceamcaa
open Go.RowKit

abbrev lzc (x : Lz) : Array Value := #[.int .u64 x.1.1.toNat, .int .u64 x.1.2.toNat, .string x.2.1, .int .i64 x.2.2.1, .int .i64 x.2.2.2]
/-- The first place, -1 where there is none. -/
def idxP (P : Lz → Bool) (l : List Lz) : Int := if l.any P = true then (l.findIdx P : Int) else -1
theorem idxP_at {P : Lz → Bool} {l : List Lz} {k : Nat} (hk : k < l.length) (hp : P l[k] = true) (hn : (l.take k).any P = false) : idxP P l = k := by
  have ha : l.any P = true := List.any_eq_true.2 ⟨l[k], List.getElem_mem hk, hp⟩
  have hf : l.findIdx P = k := by
    rw [List.findIdx_eq hk]
    refine ⟨hp, fun j hj => ?_⟩
    have := List.any_eq_false.1 hn (l[j]) (by
      rw [List.mem_take_iff_getElem]
      exact ⟨j, by omega, rfl⟩)
    simpa using this
  unfold idxP
  rw [if_pos ha, hf]
theorem idxP_none {P : Lz → Bool} {l : List Lz} (h : l.any P = false) : idxP P l = -1 := by unfold idxP; rw [if_neg (by rw [h]; decide)]
theorem idxP_ge (P : Lz → Bool) (l : List Lz) : decide (0 ≤ idxP P l) = l.any P := by
  unfold idxP
  split
  · rename_i h; rw [h]; simp
  · rename_i h; simp only [Bool.not_eq_true] at h; rw [h]; decide
theorem any_snoc {P : Lz → Bool} {l : List Lz} {k : Nat} (hk : k < l.length) (hn : (l.take k).any P = false) (hp : P l[k] = false) : (l.take (k + 1)).any P = false := by
  rw [List.take_succ_eq_append_getElem hk, List.any_append, hn]
  simp [hp]
/-- What the function value answers, in every later world. -/
def Asks (g : FuncId) (cs : Array Value) (P : Lz → Bool) (w : World) : Prop :=
  ∀ (x : Lz) (w' : World), Below w.heap.size w w' → Calls Try.prog g (#[Value.agg (lzc x)] ++ cs) w' fun e w'' => e = .returned (.bool (P x)) ∧ Below w'.heap.size w' w''

set_option maxRecDepth 100000 in
set_option maxHeartbeats 4000000 in
theorem IndexFunc_has (l : List Lz) (n cap : Nat) (ao : Option Addr) (c1 c2 : Nat) (P : Lz → Bool) (w : World) (hn : l.length = n) (hm : n ≤ 1000000) (hs : Sl w 5 ao n (lzcells l)) (hc : Asks 45 #[.pointer (some ⟨c1, 0, none⟩), .pointer (some ⟨c2, 0, none⟩)] P w) :
    Calls Try.prog 53 #[.slice ao n cap, .func (.func 45) #[] #[.pointer (some ⟨c1, 0, none⟩), .pointer (some ⟨c2, 0, none⟩)]] w fun e w' => e = .returned (.int .i64 (idxP P l)) ∧ Below w.heap.size w w' := by
  have HN := lid hn
  have HS := lid hs
  have HC := lid hc
  clear hn hs hc
  go_enter Try.func53, Try.ntmps53
  go_wp2_with fail
  go_loopw [5, 8] (fun _ i wr => ∃ k : Nat, k ≤ n ∧ i = .int .i64 k ∧ Hid ((l.take k).any P = false) ∧ Below w.heap.size w wr) (fun _ i _ => n - (intOf i).toNat)
  case atStart => exact ⟨0, Nat.zero_le _, rfl, lid rfl, Below.refl _ _⟩
  case round =>
    obtain ⟨k, hk, rfl, HT, hb⟩ := hrel
    by_cases hlt : k < n
    · have hkl : k < l.length := by rw [HN.out]; exact hlt
      obtain ⟨b1, o1, rfl, hlb, hcell⟩ := (HS.out.below hb).at_ hlt
      have x0 := hcell (k * 5 + 0) _ (lzcells_at hkl).1
      have x1 := hcell (k * 5 + 1) _ (lzcells_at hkl).2.1
      have x2 := hcell (k * 5 + 2) _ (lzcells_at hkl).2.2.1
      have x3 := hcell (k * 5 + 3) _ (lzcells_at hkl).2.2.2.1
      have x4 := hcell (k * 5 + 4) _ (lzcells_at hkl).2.2.2.2
      rw [← Nat.add_assoc] at x1 x2 x3 x4
      rw [Nat.add_zero] at x0
      have dk : decide ((k : Int) < (n : Int)) = true := by simp; omega
      have HA := lid (fun h => idxP_at (P := P) hkl h HT.out)
      have HB := lid (fun h => any_snoc (P := P) hkl HT.out h)
      obtain ⟨x, hx⟩ : ∃ x, l[k] = x := ⟨_, rfl⟩
      rw [hx] at x0 x1 x2 x3 x4 HA HB
      have CX : Hid (Calls Try.prog 45 #[.agg (lzc x), .pointer (some ⟨c1, 0, none⟩), .pointer (some ⟨c2, 0, none⟩)] wr fun e w'' => e = .returned (.bool (P x)) ∧ Below wr.heap.size wr w'') := lid (HC.out x wr hb)
      clear hcell hx
      go_wp2_with fail
      (with_reducible refine (CX.out).mono ?_); rintro e w2 ⟨rfl, hb2⟩
      have hw2 := hb.trans (hb2.mono hb.size)
      cases hp : P x with
      | true =>
        have HV := lid (HA.out hp)
        clear hp
        go_wp2_with fail
        go_ret
        exact ⟨ret_i64 HV.out.symm, hw2⟩
      | false =>
        have HV := lid (HB.out hp)
        clear hp
        go_wp2_with fail
        go_roundw
        case rel => exact ⟨k + 1, by omega, by go_num, HV, hw2⟩
        case measure => simp [intOf]; omega
    · obtain rfl : k = n := by omega
      have HV := lid (idxP_none (P := P) (l := l) (by have := HT.out; rwa [List.take_of_length_le (by rw [HN.out]; exact Nat.le_refl _)] at this))
      go_wp2_with fail
      go_ret
      exact ⟨ret_i64 HV.out.symm, hb⟩
set_option maxRecDepth 100000 in
set_option maxHeartbeats 4000000 in
theorem IndexFunc_renew (l : List Lz) (n cap : Nat) (ao : Option Addr) (c1 : Nat) (P : Lz → Bool) (w : World) (hn : l.length = n) (hm : n ≤ 1000000) (hs : Sl w 5 ao n (lzcells l)) (hc : Asks 40 #[.pointer (some ⟨c1, 0, none⟩)] P w) :
    Calls Try.prog 53 #[.slice ao n cap, .func (.func 40) #[] #[.pointer (some ⟨c1, 0, none⟩)]] w fun e w' => e = .returned (.int .i64 (idxP P l)) ∧ Below w.heap.size w w' := by
  have HN := lid hn
  have HS := lid hs
  have HC := lid hc
  clear hn hs hc
  go_enter Try.func53, Try.ntmps53
  go_wp2_with fail
  go_loopw [5, 8] (fun _ i wr => ∃ k : Nat, k ≤ n ∧ i = .int .i64 k ∧ Hid ((l.take k).any P = false) ∧ Below w.heap.size w wr) (fun _ i _ => n - (intOf i).toNat)
  case atStart => exact ⟨0, Nat.zero_le _, rfl, lid rfl, Below.refl _ _⟩
  case round =>
    obtain ⟨k, hk, rfl, HT, hb⟩ := hrel
    by_cases hlt : k < n
    · have hkl : k < l.length := by rw [HN.out]; exact hlt
      obtain ⟨b1, o1, rfl, hlb, hcell⟩ := (HS.out.below hb).at_ hlt
      have x0 := hcell (k * 5 + 0) _ (lzcells_at hkl).1
      have x1 := hcell (k * 5 + 1) _ (lzcells_at hkl).2.1
      have x2 := hcell (k * 5 + 2) _ (lzcells_at hkl).2.2.1
      have x3 := hcell (k * 5 + 3) _ (lzcells_at hkl).2.2.2.1
      have x4 := hcell (k * 5 + 4) _ (lzcells_at hkl).2.2.2.2
      rw [← Nat.add_assoc] at x1 x2 x3 x4
      rw [Nat.add_zero] at x0
      have dk : decide ((k : Int) < (n : Int)) = true := by simp; omega
      have HA := lid (fun h => idxP_at (P := P) hkl h HT.out)
      have HB := lid (fun h => any_snoc (P := P) hkl HT.out h)
      obtain ⟨x, hx⟩ : ∃ x, l[k] = x := ⟨_, rfl⟩
      rw [hx] at x0 x1 x2 x3 x4 HA HB
      have CX : Hid (Calls Try.prog 40 #[.agg (lzc x), .pointer (some ⟨c1, 0, none⟩)] wr fun e w'' => e = .returned (.bool (P x)) ∧ Below wr.heap.size wr w'') := lid (HC.out x wr hb)
      clear hcell hx
      go_wp2_with fail
      (with_reducible refine (CX.out).mono ?_); rintro e w2 ⟨rfl, hb2⟩
      have hw2 := hb.trans (hb2.mono hb.size)
      cases hp : P x with
      | true =>
        have HV := lid (HA.out hp)
        clear hp
        go_wp2_with fail
        go_ret
        exact ⟨ret_i64 HV.out.symm, hw2⟩
      | false =>
        have HV := lid (HB.out hp)
        clear hp
        go_wp2_with fail
        go_roundw
        case rel => exact ⟨k + 1, by omega, by go_num, HV, hw2⟩
        case measure => simp [intOf]; omega
    · obtain rfl : k = n := by omega
      have HV := lid (idxP_none (P := P) (l := l) (by have := HT.out; rwa [List.take_of_length_le (by rw [HN.out]; exact Nat.le_refl _)] at this))
      go_wp2_with fail
      go_ret
      exact ⟨ret_i64 HV.out.symm, hb⟩
set_option maxRecDepth 100000 in
set_option maxHeartbeats 4000000 in
theorem IndexFunc_release (l : List Lz) (n cap : Nat) (ao : Option Addr) (c1 : Nat) (P : Lz → Bool) (w : World) (hn : l.length = n) (hm : n ≤ 1000000) (hs : Sl w 5 ao n (lzcells l)) (hc : Asks 42 #[.pointer (some ⟨c1, 0, none⟩)] P w) :
    Calls Try.prog 53 #[.slice ao n cap, .func (.func 42) #[] #[.pointer (some ⟨c1, 0, none⟩)]] w fun e w' => e = .returned (.int .i64 (idxP P l)) ∧ Below w.heap.size w w' := by
  have HN := lid hn
  have HS := lid hs
  have HC := lid hc
  clear hn hs hc
  go_enter Try.func53, Try.ntmps53
  go_wp2_with fail
  go_loopw [5, 8] (fun _ i wr => ∃ k : Nat, k ≤ n ∧ i = .int .i64 k ∧ Hid ((l.take k).any P = false) ∧ Below w.heap.size w wr) (fun _ i _ => n - (intOf i).toNat)
  case atStart => exact ⟨0, Nat.zero_le _, rfl, lid rfl, Below.refl _ _⟩
  case round =>
    obtain ⟨k, hk, rfl, HT, hb⟩ := hrel
    by_cases hlt : k < n
    · have hkl : k < l.length := by rw [HN.out]; exact hlt
      obtain ⟨b1, o1, rfl, hlb, hcell⟩ := (HS.out.below hb).at_ hlt
      have x0 := hcell (k * 5 + 0) _ (lzcells_at hkl).1
      have x1 := hcell (k * 5 + 1) _ (lzcells_at hkl).2.1
      have x2 := hcell (k * 5 + 2) _ (lzcells_at hkl).2.2.1
      have x3 := hcell (k * 5 + 3) _ (lzcells_at hkl).2.2.2.1
      have x4 := hcell (k * 5 + 4) _ (lzcells_at hkl).2.2.2.2
      rw [← Nat.add_assoc] at x1 x2 x3 x4
      rw [Nat.add_zero] at x0
      have dk : decide ((k : Int) < (n : Int)) = true := by simp; omega
      have HA := lid (fun h => idxP_at (P := P) hkl h HT.out)
      have HB := lid (fun h => any_snoc (P := P) hkl HT.out h)
      obtain ⟨x, hx⟩ : ∃ x, l[k] = x := ⟨_, rfl⟩
      rw [hx] at x0 x1 x2 x3 x4 HA HB
      have CX : Hid (Calls Try.prog 42 #[.agg (lzc x), .pointer (some ⟨c1, 0, none⟩)] wr fun e w'' => e = .returned (.bool (P x)) ∧ Below wr.heap.size wr w'') := lid (HC.out x wr hb)
      clear hcell hx
      go_wp2_with fail
      (with_reducible refine (CX.out).mono ?_); rintro e w2 ⟨rfl, hb2⟩
      have hw2 := hb.trans (hb2.mono hb.size)
      cases hp : P x with
      | true =>
        have HV := lid (HA.out hp)
        clear hp
        go_wp2_with fail
        go_ret
        exact ⟨ret_i64 HV.out.symm, hw2⟩
      | false =>
        have HV := lid (HB.out hp)
        clear hp
        go_wp2_with fail
        go_roundw
        case rel => exact ⟨k + 1, by omega, by go_num, HV, hw2⟩
        case measure => simp [intOf]; omega
    · obtain rfl : k = n := by omega
      have HV := lid (idxP_none (P := P) (l := l) (by have := HT.out; rwa [List.take_of_length_le (by rw [HN.out]; exact Nat.le_refl _)] at this))
      go_wp2_with fail
      go_ret
      exact ⟨ret_i64 HV.out.symm, hb⟩
set_option maxRecDepth 100000 in
set_option maxHeartbeats 4000000 in
theorem IndexFunc_adv (l : List Lz) (n cap : Nat) (ao : Option Addr) (c1 : Nat) (P : Lz → Bool) (w : World) (hn : l.length = n) (hm : n ≤ 1000000) (hs : Sl w 5 ao n (lzcells l)) (hc : Asks 39 #[.pointer (some ⟨c1, 0, none⟩)] P w) :
    Calls Try.prog 53 #[.slice ao n cap, .func (.func 39) #[] #[.pointer (some ⟨c1, 0, none⟩)]] w fun e w' => e = .returned (.int .i64 (idxP P l)) ∧ Below w.heap.size w w' := by
  have HN := lid hn
  have HS := lid hs
  have HC := lid hc
  clear hn hs hc
  go_enter Try.func53, Try.ntmps53
  go_wp2_with fail
  go_loopw [5, 8] (fun _ i wr => ∃ k : Nat, k ≤ n ∧ i = .int .i64 k ∧ Hid ((l.take k).any P = false) ∧ Below w.heap.size w wr) (fun _ i _ => n - (intOf i).toNat)
  case atStart => exact ⟨0, Nat.zero_le _, rfl, lid rfl, Below.refl _ _⟩
  case round =>
    obtain ⟨k, hk, rfl, HT, hb⟩ := hrel
    by_cases hlt : k < n
    · have hkl : k < l.length := by rw [HN.out]; exact hlt
      obtain ⟨b1, o1, rfl, hlb, hcell⟩ := (HS.out.below hb).at_ hlt
      have x0 := hcell (k * 5 + 0) _ (lzcells_at hkl).1
      have x1 := hcell (k * 5 + 1) _ (lzcells_at hkl).2.1
      have x2 := hcell (k * 5 + 2) _ (lzcells_at hkl).2.2.1
      have x3 := hcell (k * 5 + 3) _ (lzcells_at hkl).2.2.2.1
      have x4 := hcell (k * 5 + 4) _ (lzcells_at hkl).2.2.2.2
      rw [← Nat.add_assoc] at x1 x2 x3 x4
      rw [Nat.add_zero] at x0
      have dk : decide ((k : Int) < (n : Int)) = true := by simp; omega
      have HA := lid (fun h => idxP_at (P := P) hkl h HT.out)
      have HB := lid (fun h => any_snoc (P := P) hkl HT.out h)
      obtain ⟨x, hx⟩ : ∃ x, l[k] = x := ⟨_, rfl⟩
      rw [hx] at x0 x1 x2 x3 x4 HA HB
      have CX : Hid (Calls Try.prog 39 #[.agg (lzc x), .pointer (some ⟨c1, 0, none⟩)] wr fun e w'' => e = .returned (.bool (P x)) ∧ Below wr.heap.size wr w'') := lid (HC.out x wr hb)
      clear hcell hx
      go_wp2_with fail
      (with_reducible refine (CX.out).mono ?_); rintro e w2 ⟨rfl, hb2⟩
      have hw2 := hb.trans (hb2.mono hb.size)
      cases hp : P x with
      | true =>
        have HV := lid (HA.out hp)
        clear hp
        go_wp2_with fail
        go_ret
        exact ⟨ret_i64 HV.out.symm, hw2⟩
      | false =>
        have HV := lid (HB.out hp)
        clear hp
        go_wp2_with fail
        go_roundw
        case rel => exact ⟨k + 1, by omega, by go_num, HV, hw2⟩
        case measure => simp [intOf]; omega
    · obtain rfl : k = n := by omega
      have HV := lid (idxP_none (P := P) (l := l) (by have := HT.out; rwa [List.take_of_length_le (by rw [HN.out]; exact Nat.le_refl _)] at this))
      go_wp2_with fail
      go_ret
      exact ⟨ret_i64 HV.out.symm, hb⟩
set_option maxRecDepth 100000 in
theorem ContainsFunc_has (l : List Lz) (n cap : Nat) (ao : Option Addr) (c1 c2 : Nat) (P : Lz → Bool) (w : World) (hn : l.length = n) (hm : n ≤ 1000000) (hs : Sl w 5 ao n (lzcells l)) (hc : Asks 45 #[.pointer (some ⟨c1, 0, none⟩), .pointer (some ⟨c2, 0, none⟩)] P w) :
    Calls Try.prog 44 #[.slice ao n cap, .func (.func 45) #[] #[.pointer (some ⟨c1, 0, none⟩), .pointer (some ⟨c2, 0, none⟩)]] w fun e w' => e = .returned (.bool (l.any P)) ∧ Below w.heap.size w w' := by
  have CC := lid (IndexFunc_has l n cap ao c1 c2 P w hn hm hs hc)
  have HG := lid (idxP_ge P l)
  clear hn hs hc
  go_enter Try.func44, Try.ntmps44
  go_wp2_with fail
  (with_reducible refine (CC.out).mono ?_); rintro e w2 ⟨rfl, hb2⟩
  have hg := HG.out
  go_wp2_with fail
  go_ret
  exact ⟨rfl, hb2⟩
end Go.Proofs.Ytghkldodceamcaa

namespace Go.Proofs.Ytghkldodceamcaa
open Go.RowKit

set_option maxRecDepth 100000 in
set_option maxHeartbeats 4000000 in
theorem has_asks (c1 c2 : Nat) (job : Dg) (wk : ByteArray) (w : World) (h0 : c1 < w.heap.size) (h1 : w.cell? ⟨c1, 0, none⟩ = some (.int .u64 job.1.toNat)) (h2 : w.cell? ⟨c1, 1, none⟩ = some (.int .u64 job.2.toNat)) (h3 : c2 < w.heap.size) (h4 : w.cell? ⟨c2, 0, none⟩ = some (.string wk)) :
    Asks 45 #[.pointer (some ⟨c1, 0, none⟩), .pointer (some ⟨c2, 0, none⟩)] (fun x => decide (x.1 = job) && decide (x.2.1 = wk)) w := by
  intro x w' hb
  show Calls Try.prog 45 #[.agg (lzc x), .pointer (some ⟨c1, 0, none⟩), .pointer (some ⟨c2, 0, none⟩)] w' _
  have hl1 := Nat.lt_of_lt_of_le h0 hb.size
  have hl2 := Nat.lt_of_lt_of_le h3 hb.size
  have k1 := (bc hb h0 0).trans h1
  have k2 := (bc hb h0 1).trans h2
  have k3 := (bc hb h3 0).trans h4
  have H1 := lid (beq_dg3 x.1 job)
  have H2 := lid (str_beq x.2.1 wk)
  clear h0 h1 h2 h3 h4 hb
  obtain ⟨d, a, u, e⟩ := x
  simp only at H1 H2
  have e1 := H1.out
  have e2 := H2.out
  cases hd : decide (d = job) with
  | true =>
    rw [hd] at e1
    cases ha : decide (a = wk) with
    | true =>
      rw [ha] at e2
      go_enter Try.func45, Try.ntmps45
      go_wp2_with fail
      go_ret
      exact ⟨ret_bool (by simp [hd, ha]), ba _ _⟩
    | false =>
      rw [ha] at e2
      go_enter Try.func45, Try.ntmps45
      go_wp2_with fail
      go_ret
      exact ⟨ret_bool (by simp [ha]), ba _ _⟩
  | false =>
    rw [hd] at e1
    go_enter Try.func45, Try.ntmps45
    go_wp2_with fail
    go_ret
    exact ⟨ret_bool (by simp [hd]), ba _ _⟩
set_option maxRecDepth 100000 in
set_option maxHeartbeats 4000000 in
theorem has_any (l : List Lz) (n cap : Nat) (ao : Option Addr) (job : Dg) (wk : ByteArray) (w : World) (hn : l.length = n) (hm : n ≤ 1000000) (hs : Sl w 5 ao n (lzcells l)) :
    Calls Try.prog 29 #[.slice ao n cap, dv job, .string wk] w fun e w' => e = .returned (.bool (hasB l job wk)) ∧ Below w.heap.size w w' := by
  obtain ⟨w1, hw1⟩ : ∃ x, w.alloc (.cells #[.int .u64 job.1.toNat, .int .u64 job.2.toNat] 27) = x := ⟨_, rfl⟩
  obtain ⟨w2, hw2⟩ : ∃ x, w1.alloc (.cells #[.string wk] 9) = x := ⟨_, rfl⟩
  have z1 : w1.heap.size = w.heap.size + 1 := by rw [← hw1]; simp
  have z2 : w2.heap.size = w.heap.size + 2 := by rw [← hw2, World.size_alloc, z1]
  have hb : Below w.heap.size w w2 := by rw [← hw2, ← hw1]; exact ((Below.refl _ _).alloc (Nat.le_refl _) _).alloc (by simp) _
  have E1 : w2.heap[w.heap.size]? = some (.cells #[.int .u64 job.1.toNat, .int .u64 job.2.toNat] 27 (0, 0)) := by rw [← hw2, ← hw1]; exact (Below.heap_alloc _ _ _ (by simp)).trans (heap_alloc_new _ _)
  have E2 : w2.heap[w.heap.size + 1]? = some (.cells #[.string wk] 9 (0, 0)) := by rw [← hw2, ← z1]; exact heap_alloc_new _ _
  have HA := has_asks w.heap.size (w.heap.size + 1) job wk w2 (by omega) (by rw [Lib.cell_of_heap E1]; rfl) (by rw [Lib.cell_of_heap E1]; rfl) (by omega) (by rw [Lib.cell_of_heap E2]; rfl)
  have CC := lid (ContainsFunc_has l n cap ao w.heap.size (w.heap.size + 1) _ w2 hn hm (hs.below hb) HA)
  have HV : Hid (hasB l job wk = l.any fun x => decide (x.1 = job) && decide (x.2.1 = wk)) := lid rfl
  rw [← HV.out] at CC
  have HW1 := lid hw1
  have HW2 := lid hw2
  have Hb := lid hb
  clear hw1 hw2 hn hm hs E1 E2 HA hb z1 z2 HV
  go_enter Try.func29, Try.ntmps29
  go_wp2_with fail
  rw [HW1.out, HW2.out]
  (with_reducible refine (CC.out).mono ?_); rintro e w3 ⟨rfl, hb3⟩
  go_wp2_with fail
  go_ret
  exact ⟨rfl, Hb.out.trans (hb3.mono Hb.out.size)⟩
end Go.Proofs.Ytghkldodceamcaa

namespace Go.Proofs.Ytghkldodceamcaa
open Go.RowKit

abbrev tcells (t : Ls) (ao : Option Addr) (n cap : Nat) : Array Value := #[.int .i64 t.clock, .int .i64 t.epoch, .slice ao n cap]
/-- Leases in memory. -/
structure LsA (w : World) (ao : Option Addr) (n : Nat) (t : Ls) : Prop where
  len : t.l.length = n
  sl : Sl w 5 ao n (lzcells t.l)
  max : n ≤ maxLen
  sz : ∀ x ∈ t.l, x.2.1.size ≤ maxLen
theorem LsA.below {w w' : World} {ao : Option Addr} {n : Nat} {t : Ls} (h : LsA w ao n t) (hb : Below w.heap.size w w') : LsA w' ao n t := ⟨h.len, h.sl.below hb, h.max, h.sz⟩
/-- A box of leases. -/
def LBox (w : World) (k : Nat) (t : Ls) (ao : Option Addr) (n cap : Nat) : Prop :=
  k < w.heap.size ∧ w.cell? ⟨k, 0, none⟩ = some (.int .i64 t.clock) ∧ w.cell? ⟨k, 1, none⟩ = some (.int .i64 t.epoch) ∧ w.cell? ⟨k, 2, none⟩ = some (.slice ao n cap)
theorem LBox.new (w : World) (t : Ls) (ao : Option Addr) (n cap : Nat) (ty : TypeId) : LBox (w.alloc (.cells (tcells t ao n cap) ty)) w.heap.size t ao n cap := by
  refine ⟨by simp, ?_, ?_, ?_⟩ <;> (rw [cell_new_at rfl]; rfl)
theorem LBox.below {w w' : World} {k : Nat} {t : Ls} {ao : Option Addr} {n cap : Nat} (h : LBox w k t ao n cap) (hb : Below w.heap.size w w') : LBox w' k t ao n cap := by
  obtain ⟨h0, h1, h2, h3⟩ := h
  exact ⟨Nat.lt_of_lt_of_le h0 hb.size, (bc hb h0 _).trans h1, (bc hb h0 _).trans h2, (bc hb h0 _).trans h3⟩
/-- A box of a lease. -/
def XBox (w : World) (k : Nat) (x : Lz) : Prop :=
  k < w.heap.size ∧ w.cell? ⟨k, 0, none⟩ = some (.int .u64 x.1.1.toNat) ∧ w.cell? ⟨k, 1, none⟩ = some (.int .u64 x.1.2.toNat) ∧ w.cell? ⟨k, 2, none⟩ = some (.string x.2.1) ∧ w.cell? ⟨k, 3, none⟩ = some (.int .i64 x.2.2.1) ∧ w.cell? ⟨k, 4, none⟩ = some (.int .i64 x.2.2.2)
theorem XBox.new (w : World) (x : Lz) (ty : TypeId) : XBox (w.alloc (.cells (lzc x) ty)) w.heap.size x := by
  refine ⟨by simp, ?_, ?_, ?_, ?_, ?_⟩ <;> (rw [cell_new_at rfl]; rfl)
theorem XBox.below {w w' : World} {k : Nat} {x : Lz} (h : XBox w k x) (hb : Below w.heap.size w w') : XBox w' k x := by
  obtain ⟨h0, h1, h2, h3, h4, h5⟩ := h
  exact ⟨Nat.lt_of_lt_of_le h0 hb.size, (bc hb h0 _).trans h1, (bc hb h0 _).trans h2, (bc hb h0 _).trans h3, (bc hb h0 _).trans h4, (bc hb h0 _).trans h5⟩
theorem lastE_take {l : List Lz} {k : Nat} (h : k < l.length) : lastE (l.take (k + 1)) = (l[k]).2.2.2 := by
  induction l generalizing k with
  | nil => simp at h
  | cons a l ih =>
    cases k with
    | zero => simp [lastE]
    | succ k =>
      cases l with
      | nil => simp at h
      | cons b l =>
        have := ih (k := k) (by simpa using h)
        simpa [lastE] using this
theorem lzcells_take (l : List Lz) : ∀ k, (lzcells l).take (k * 5) = lzcells (l.take k) := by
  induction l with
  | nil => intro k; simp [lzcells]
  | cons a l ih =>
    intro k
    cases k with
    | zero => simp [lzcells]
    | succ k =>
      have := ih k
      rw [show (k + 1) * 5 = k * 5 + 5 by omega]
      simpa [lzcells] using this
theorem go_name {c e : Int} {pre l : List Lz} {x : Lz} (h : nameB x.2.1 = false) : lzGo c e pre (x :: l) = 6 := by simp [lzGo, h]
theorem go_bad {c e : Int} {pre l : List Lz} {x : Lz} (h : nameB x.2.1 = true) (hb : badB c e x = true) : lzGo c e pre (x :: l) = 2 := by simp [lzGo, h, hb]
theorem go_order {c e : Int} {pre l : List Lz} {x : Lz} (h : nameB x.2.1 = true) (hb : badB c e x = false) (ho : pre ≠ [] ∧ x.2.2.2 ≤ lastE pre) : lzGo c e pre (x :: l) = 10 := by unfold lzGo; rw [if_neg (by rw [h]; decide), if_neg (by rw [hb]; decide), if_pos ho]
theorem go_twice {c e : Int} {pre l : List Lz} {x : Lz} (h : nameB x.2.1 = true) (hb : badB c e x = false) (ho : ¬ (pre ≠ [] ∧ x.2.2.2 ≤ lastE pre)) (hh : hasB pre x.1 x.2.1 = true) : lzGo c e pre (x :: l) = 7 := by unfold lzGo; rw [if_neg (by rw [h]; decide), if_neg (by rw [hb]; decide), if_neg ho, if_pos hh]
theorem go_next {c e : Int} {pre l : List Lz} {x : Lz} (h : nameB x.2.1 = true) (hb : badB c e x = false) (ho : ¬ (pre ≠ [] ∧ x.2.2.2 ≤ lastE pre)) (hh : hasB pre x.1 x.2.1 = false) : lzGo c e pre (x :: l) = lzGo c e (pre ++ [x]) l := by rw [lzGo, if_neg (by rw [h]; decide), if_neg (by rw [hb]; decide), if_neg ho, if_neg (by rw [hh]; decide)]

set_option maxRecDepth 100000 in
set_option maxHeartbeats 16000000 in
theorem leaCheck_any (t : Ls) (ao : Option Addr) (n cap : Nat) (w : World) (h : LsA w ao n t) (hc : n ≤ cap) :
    Calls Try.prog 14 #[.agg (tcells t ao n cap)] w fun e w' => e = .returned (.int .i64 (checkLs t)) ∧ Below w.heap.size w w' := by
  have hb0 := ba w (Obj.cells (tcells t ao n cap) 24)
  have HB0 := LBox.new w t ao n cap 24
  obtain ⟨W, hW⟩ : ∃ W, w.alloc (Obj.cells (tcells t ao n cap) 24) = W := ⟨_, rfl⟩
  rw [hW] at hb0 HB0
  have HW := lid hW
  have HX := lid HB0
  have HA := lid (h.below hb0)
  have HN := lid h.len
  have hn' : n ≤ 9223372036854775807 := h.max
  have Hb := lid hb0
  obtain ⟨l0, c0, c1, c2⟩ := HX.out
  rw [← HW.out] at c0 c1 c2
  obtain ⟨clock, epoch, l⟩ := t
  clear hW HB0 h hb0
  simp only at c0 c1 c2
  by_cases a1 : clock < 0
  case pos =>
    have u1 : decide (clock < 0) = true := by simpa using a1
    have HV : Hid (checkLs ⟨clock, epoch, l⟩ = 2) := lid (by unfold checkLs; rw [if_pos (by simp [rangeB]; omega)])
    go_enter Try.func14, Try.ntmps14
    go_wp2_with fail
    rw [HW.out]
    go_ret
    exact ⟨ret_i64 HV.out.symm, Hb.out⟩
  have u1 : decide (clock < 0) = false := by simpa using a1
  by_cases a2 : 1099511627776 < clock
  case pos =>
    have u2 : decide (1099511627776 < clock) = true := by simpa using a2
    have HV : Hid (checkLs ⟨clock, epoch, l⟩ = 2) := lid (by unfold checkLs; rw [if_pos (by simp [rangeB]; omega)])
    go_enter Try.func14, Try.ntmps14
    go_wp2_with fail
    rw [HW.out]
    go_ret
    exact ⟨ret_i64 HV.out.symm, Hb.out⟩
  have u2 : decide (1099511627776 < clock) = false := by simpa using a2
  by_cases a3 : epoch < 0
  case pos =>
    have u3 : decide (epoch < 0) = true := by simpa using a3
    have HV : Hid (checkLs ⟨clock, epoch, l⟩ = 2) := lid (by unfold checkLs; rw [if_pos (by simp [rangeB]; omega)])
    go_enter Try.func14, Try.ntmps14
    go_wp2_with fail
    rw [HW.out]
    go_ret
    exact ⟨ret_i64 HV.out.symm, Hb.out⟩
  have u3 : decide (epoch < 0) = false := by simpa using a3
  by_cases a4 : 1099511627776 < epoch
  case pos =>
    have u4 : decide (1099511627776 < epoch) = true := by simpa using a4
    have HV : Hid (checkLs ⟨clock, epoch, l⟩ = 2) := lid (by unfold checkLs; rw [if_pos (by simp [rangeB]; omega)])
    go_enter Try.func14, Try.ntmps14
    go_wp2_with fail
    rw [HW.out]
    go_ret
    exact ⟨ret_i64 HV.out.symm, Hb.out⟩
  have u4 : decide (1099511627776 < epoch) = false := by simpa using a4
  have HR : Hid (rangeB clock = true ∧ rangeB epoch = true) := lid (by simp [rangeB]; omega)
  clear a1 a2 a3 a4
  by_cases h256 : 256 < n
  case pos =>
    have HV : Hid (checkLs ⟨clock, epoch, l⟩ = 4) := lid (by
      have e : l.length = n := HN.out
      unfold checkLs
      rw [if_neg (by rw [HR.out.1, HR.out.2]; simp), if_pos (by simp only; omega)])
    have u5 : decide ((256 : Int) < (n : Int)) = true := by simp; omega
    go_enter Try.func14, Try.ntmps14
    go_wp2_with fail
    rw [HW.out]
    go_ret
    exact ⟨ret_i64 HV.out.symm, Hb.out⟩
  have HC : Hid (checkLs ⟨clock, epoch, l⟩ = lzGo clock epoch [] l) := lid (by
    have e : l.length = n := HN.out
    unfold checkLs
    rw [if_neg (by rw [HR.out.1, HR.out.2]; simp), if_neg (by simp only; omega)])
  have u5 : decide ((256 : Int) < (n : Int)) = false := by simp; omega
  go_enter Try.func14, Try.ntmps14
  go_wp2_with fail
  rw [HW.out]
  clear HW c0 c1 c2 HR
  go_loopw [3, 4, 30, 35, 40, 63, 78] (fun _ _ i _ _ _ _ wr => ∃ k : Nat, k ≤ n ∧ i = .int .i64 k ∧ Hid (lzGo clock epoch [] l = lzGo clock epoch (l.take k) (l.drop k)) ∧ Below W.heap.size W wr) (fun _ _ i _ _ _ _ _ => n - (intOf i).toNat)
  case atStart => exact ⟨0, Nat.zero_le _, rfl, lid rfl, Below.refl _ _⟩
  case round =>
    obtain ⟨k, hk, rfl, HG, hb⟩ := hrel
    by_cases hlt : k < n
    · have hkl : k < l.length := by have : l.length = n := HN.out; omega
      obtain ⟨b1, o1, rfl, hlb, hcell⟩ := (HA.out.sl.below hb).at_ hlt
      have x0 := hcell (k * 5 + 0) _ (lzcells_at hkl).1
      have x1 := hcell (k * 5 + 1) _ (lzcells_at hkl).2.1
      have x2 := hcell (k * 5 + 2) _ (lzcells_at hkl).2.2.1
      have x3 := hcell (k * 5 + 3) _ (lzcells_at hkl).2.2.2.1
      have x4 := hcell (k * 5 + 4) _ (lzcells_at hkl).2.2.2.2
      have HPV : Hid (∀ j (hj : j < l.length), wr.cell? ⟨b1, o1 + j * 5 + 4, none⟩ = some (.int .i64 (l[j]).2.2.2)) := lid (fun j hj => by have := hcell (j * 5 + 4) _ (lzcells_at hj).2.2.2.2; rwa [← Nat.add_assoc] at this)
      rw [← Nat.add_assoc] at x1 x2 x3 x4
      rw [Nat.add_zero] at x0
      have dk : decide ((k : Int) < (n : Int)) = true := by simp; omega
      have HD := lid (List.drop_eq_getElem_cons hkl)
      have HT := lid (List.take_succ_eq_append_getElem hkl)
      have HS := lid (HA.out.sz _ (List.getElem_mem hkl))
      have HTK : Hid (Sl wr 5 (some ⟨b1, o1, none⟩) k (lzcells (l.take k))) := lid (by
        have := (HA.out.sl.below hb).take hk
        rwa [show (lzcells l).take (k * 5) = lzcells (l.take k) from lzcells_take l k] at this)
      obtain ⟨x, hx⟩ : ∃ x, l[k] = x := ⟨_, rfl⟩
      rw [hx] at x0 x1 x2 x3 x4 HD HS HT
      have HLE : Hid (k = 0 ∨ ∃ j, k = j + 1 ∧ ∃ (hj : j < l.length), lastE (l.take k) = (l[j]).2.2.2) := lid (by
        cases k with
        | zero => exact .inl rfl
        | succ j => exact .inr ⟨j, rfl, by omega, lastE_take (by omega)⟩)
      have HPN : Hid (l.take k = [] ↔ k = 0) := lid ⟨fun h => by rcases List.take_eq_nil_iff.1 h with h | h; exact h; rw [h] at hkl; simp at hkl, fun h => by rw [h]; rfl⟩
      clear hcell hx
      obtain ⟨w1, hw1⟩ : ∃ y, wr.alloc (.cells (lzc x) 31) = y := ⟨_, rfl⟩
      have hb1 : Below wr.heap.size wr w1 := by rw [← hw1]; exact ba _ _
      have HX1 := lid (show XBox w1 wr.heap.size x by rw [← hw1]; exact XBox.new _ _ _)
      have HW1 := lid hw1
      have hw01 : Below W.heap.size W w1 := hb.trans (hb1.mono hb.size)
      have y2 := HX1.out.2.2.2.1
      have yl := HX1.out.1
      rw [← HW1.out] at y2 yl
      have hlb1 : b1 < w1.heap.size := Nat.lt_of_lt_of_le hlb hb1.size
      obtain ⟨l0', c0, c1, c2⟩ := HX.out.below hb
      clear hw1
      go_wp2_with fail
      rw [HW1.out]
      clear HW1 y2 yl c0 c1 c2 l0' x0 x1 x2 x3 x4
      (with_reducible refine (isName_any x.2.1 w1 HS.out).mono ?_); rintro e w2 ⟨rfl, hb2⟩
      have hw2 : Below W.heap.size W w2 := hw01.trans (hb2.mono hw01.size)
      have HX2 := lid (HX1.out.below hb2)
      have HPV2 : Hid (∀ j (hj : j < l.length), w2.cell? ⟨b1, o1 + j * 5 + 4, none⟩ = some (.int .i64 (l[j]).2.2.2)) := lid (fun j hj => ((bc hb2 hlb1 _).trans (bc hb1 hlb _)).trans (HPV.out j hj))
      have HT2 := lid ((HTK.out.below hb1).below hb2)
      have hlb2 : b1 < w2.heap.size := Nat.lt_of_lt_of_le hlb1 hb2.size
      clear HPV HTK HX1 hb1 hb2 hw01
      cases hnm : nameB x.2.1 with
      | false =>
        have HV := lid (go_name (c := clock) (e := epoch) (pre := l.take k) (l := l.drop (k + 1)) hnm)
        clear hnm
        go_wp2_with fail
        go_ret
        exact ⟨ret_i64 (by rw [HC.out, HG.out, HD.out, HV.out]), Hb.out.trans (hw2.mono Hb.out.size)⟩
      | true =>
      have HNM := lid hnm
      clear hnm
      obtain ⟨m0, y0, y1, y2, y3, y4⟩ := HX2.out
      obtain ⟨l0', c0, c1, c2⟩ := HX.out.below hw2
      by_cases e1 : x.2.2.1 ≤ clock
      case pos =>
        have HV := lid (go_bad (c := clock) (e := epoch) (pre := l.take k) (l := l.drop (k + 1)) HNM.out (by unfold badB; simp; omega))
        have de1 : decide (x.2.2.1 ≤ clock) = true := by simpa using e1
        clear e1
        go_wp2_with fail
        go_ret
        exact ⟨ret_i64 (by rw [HC.out, HG.out, HD.out, HV.out]), Hb.out.trans (hw2.mono Hb.out.size)⟩
      have de1 : decide (x.2.2.1 ≤ clock) = false := by simpa using e1
      by_cases e2 : 1099511627776 < x.2.2.1
      case pos =>
        have HV := lid (go_bad (c := clock) (e := epoch) (pre := l.take k) (l := l.drop (k + 1)) HNM.out (by unfold badB; simp; omega))
        have de2 : decide (1099511627776 < x.2.2.1) = true := by simpa using e2
        clear e2
        go_wp2_with fail
        go_ret
        exact ⟨ret_i64 (by rw [HC.out, HG.out, HD.out, HV.out]), Hb.out.trans (hw2.mono Hb.out.size)⟩
      have de2 : decide (1099511627776 < x.2.2.1) = false := by simpa using e2
      by_cases e3 : x.2.2.2 < 1
      case pos =>
        have HV := lid (go_bad (c := clock) (e := epoch) (pre := l.take k) (l := l.drop (k + 1)) HNM.out (by unfold badB; simp; omega))
        have de3 : decide (x.2.2.2 < 1) = true := by simpa using e3
        clear e3
        go_wp2_with fail
        go_ret
        exact ⟨ret_i64 (by rw [HC.out, HG.out, HD.out, HV.out]), Hb.out.trans (hw2.mono Hb.out.size)⟩
      have de3 : decide (x.2.2.2 < 1) = false := by simpa using e3
      by_cases e4 : epoch < x.2.2.2
      case pos =>
        have HV := lid (go_bad (c := clock) (e := epoch) (pre := l.take k) (l := l.drop (k + 1)) HNM.out (by unfold badB; simp; omega))
        have de4 : decide (epoch < x.2.2.2) = true := by simpa using e4
        clear e4
        go_wp2_with fail
        go_ret
        exact ⟨ret_i64 (by rw [HC.out, HG.out, HD.out, HV.out]), Hb.out.trans (hw2.mono Hb.out.size)⟩
      have de4 : decide (epoch < x.2.2.2) = false := by simpa using e4
      have HBB : Hid (badB clock epoch x = false) := lid (by unfold badB; simp; omega)
      clear e1 e2 e3 e4
      rcases HLE.out with rfl | ⟨j, rfl, hj, HL⟩
      · have HOR : Hid (¬ (l.take 0 ≠ [] ∧ x.2.2.2 ≤ lastE (l.take 0))) := lid (fun h => h.1 rfl)
        go_wp2_with fail
        refine wp_region_seq (fun w' => ∃ s : Since w2.heap.size w2, w' = s.world) [(0, true), (1, true), (2, true), (3, true), (4, true), (5, true), (6, true), (7, true), (8, true), (9, true), (10, true), (11, true), (12, true), (13, true), (14, false)] (by kernel_rfl) (by kernel_rfl) (by intro c d v a w h; cases d <;> exact h) (since (Below.refl _ _).drew) ?_
        repeat (first | (refine seq_skip (by rfl) (by rfl) ?_; simp only [Act.put, List.setIfInBounds_toArray, List.set_cons_succ, List.set_cons_zero]) | (refine seq_float (by rfl) (by rfl) (by rfl) ?_; intro K hK; go_big_quiet_op; go_big_quiet_on))
        refine seq_chain (by rfl) ?_
        intro K hK
        go_wp2_with fail
        refine hK.out _ _ (since (Below.refl _ _).drew) ?_
        clear hK K
        repeat (first | (refine seq_skip (by rfl) (by rfl) ?_; simp only [Act.put, List.setIfInBounds_toArray, List.set_cons_succ, List.set_cons_zero]) | (refine seq_float (by rfl) (by rfl) (by rfl) ?_; intro K hK; go_big_quiet_op; go_big_quiet_on))
        refine seq_nil ?_
        go_wp2_with fail
        have CH := lid (has_any (l.take (0)) (0) cap (some ⟨b1, o1, none⟩) x.1 x.2.1 w2.drew.drew (by rw [List.length_take]; omega) (by omega) HT2.out.drew.drew)
        obtain ⟨hv, hh⟩ : ∃ v, hasB (l.take (0)) x.1 x.2.1 = v := ⟨_, rfl⟩
        rw [hh] at CH
        refine wp_region_seq (fun w' => ∃ s : Since w2.heap.size w2.drew, w' = s.world) [(0, true), (1, true), (2, true), (3, true), (4, true), (5, true), (6, true), (7, true), (8, false), (9, false)] (by kernel_rfl) (by kernel_rfl) (by intro c d v a w h; cases d <;> exact h) (since (Below.refl _ _).drew) ?_
        repeat (first | (refine seq_skip (by rfl) (by rfl) ?_; simp only [Act.put, List.setIfInBounds_toArray, List.set_cons_succ, List.set_cons_zero]) | (refine seq_float (by rfl) (by rfl) (by rfl) ?_; intro K hK; go_big_quiet_op; go_big_quiet_on))
        refine seq_chain (by rfl) ?_
        intro K hK
        go_wp2_with fail
        (with_reducible refine (CH.out).mono ?_); rintro e w3 ⟨rfl, hb3⟩
        have hs3 : Below w2.heap.size w2.drew w3 := (Below.refl _ _).drew.trans hb3
        have hw3 : Below W.heap.size W w3 := (hw2.drew.drew).trans (hb3.mono hw2.size)
        clear CH hb3
        go_wp2_with fail
        refine hK.out _ _ (since hs3) ?_
        clear hK K
        repeat (first | (refine seq_skip (by rfl) (by rfl) ?_; simp only [Act.put, List.setIfInBounds_toArray, List.set_cons_succ, List.set_cons_zero]) | (refine seq_float (by rfl) (by rfl) (by rfl) ?_; intro K hK; go_big_quiet_op; go_big_quiet_on))
        refine seq_chain (by rfl) ?_
        intro K hK
        go_wp2_with fail
        refine hK.out _ _ (since hs3) ?_
        clear hK K
        repeat (first | (refine seq_skip (by rfl) (by rfl) ?_; simp only [Act.put, List.setIfInBounds_toArray, List.set_cons_succ, List.set_cons_zero]) | (refine seq_float (by rfl) (by rfl) (by rfl) ?_; intro K hK; go_big_quiet_op; go_big_quiet_on))
        refine seq_nil ?_
        cases hv with
        | true =>
          have HV := lid (go_twice (c := clock) (e := epoch) (pre := l.take (0)) (l := l.drop (0 + 1)) HNM.out HBB.out HOR.out hh)
          clear hh
          go_wp2_with fail
          go_ret
          exact ⟨ret_i64 (by rw [HC.out, HG.out, HD.out, HV.out]), Hb.out.trans (hw3.mono Hb.out.size)⟩
        | false =>
          have HV := lid (go_next (c := clock) (e := epoch) (pre := l.take (0)) (l := l.drop (0 + 1)) HNM.out HBB.out HOR.out hh)
          clear hh
          go_wp2_with fail
          go_roundw
          case rel => exact ⟨0 + 1, by omega, by go_num, lid (by rw [HG.out, HD.out, HV.out, HT.out]), hw3⟩
          case measure => simp [intOf]; omega
      · have pv := HPV2.out j hj
        obtain ⟨pe, hpe⟩ : ∃ y, (l[j]).2.2.2 = y := ⟨_, rfl⟩
        rw [hpe] at pv HL
        have HLL := lid HL
        clear hpe HL
        have hjn : (j : Int) < n := by omega
        have hjn1 : (j : Int) + 1 < n := by omega
        have e0 : ((j + 1 : Nat) : Int) = (j : Int) + 1 := by omega
        have hpos : decide ((0 : Int) < (j : Int) + 1) = true := decide_eq_true (by omega)
        have wj : IntKind.i64.wrap (j : Int) = j := IntWalk.i64_in _ (by omega)
        have hjl : decide (j < n) = true := by simp; omega
        by_cases ho : x.2.2.2 ≤ pe
        · have HV := lid (go_order (c := clock) (e := epoch) (pre := l.take (j + 1)) (l := l.drop (j + 1 + 1)) HNM.out HBB.out ⟨fun h => by have := HPN.out.1 h; omega, by rw [HLL.out]; exact ho⟩)
          have hd : decide (x.2.2.2 ≤ pe) = true := by simpa using ho
          clear ho
          go_wp2_with fail
          refine wp_region_seq (fun w' => ∃ s : Since w2.heap.size w2, w' = s.world) [(0, true), (1, true), (2, true), (3, true), (4, true), (5, true), (6, true), (7, true), (8, true), (9, true), (10, true), (11, true), (12, true), (13, true), (14, false)] (by kernel_rfl) (by kernel_rfl) (by intro c d v a w h; cases d <;> exact h) (since (Below.refl _ _).drew) ?_
          repeat (first | (refine seq_skip (by rfl) (by rfl) ?_; simp only [Act.put, List.setIfInBounds_toArray, List.set_cons_succ, List.set_cons_zero]) | (refine seq_float (by rfl) (by rfl) (by rfl) ?_; intro K hK; go_big_quiet_op; go_big_quiet_on))
          refine seq_chain (by rfl) ?_
          intro K hK
          go_wp2_with fail
          refine hK.out _ _ (since (Below.refl _ _).drew) ?_
          clear hK K
          repeat (first | (refine seq_skip (by rfl) (by rfl) ?_; simp only [Act.put, List.setIfInBounds_toArray, List.set_cons_succ, List.set_cons_zero]) | (refine seq_float (by rfl) (by rfl) (by rfl) ?_; intro K hK; go_big_quiet_op; go_big_quiet_on))
          refine seq_nil ?_
          go_wp2_with fail
          go_ret
          exact ⟨ret_i64 (by rw [HC.out, HG.out, HD.out, HV.out]), Hb.out.trans ((hw2.drew).mono Hb.out.size)⟩
        · have HOR : Hid (¬ (l.take (j + 1) ≠ [] ∧ x.2.2.2 ≤ lastE (l.take (j + 1)))) := lid (fun h => ho (by have := h.2; rwa [HLL.out] at this))
          have hd : decide (x.2.2.2 ≤ pe) = false := by simpa using ho
          clear ho
          go_wp2_with fail
          refine wp_region_seq (fun w' => ∃ s : Since w2.heap.size w2, w' = s.world) [(0, true), (1, true), (2, true), (3, true), (4, true), (5, true), (6, true), (7, true), (8, true), (9, true), (10, true), (11, true), (12, true), (13, true), (14, false)] (by kernel_rfl) (by kernel_rfl) (by intro c d v a w h; cases d <;> exact h) (since (Below.refl _ _).drew) ?_
          repeat (first | (refine seq_skip (by rfl) (by rfl) ?_; simp only [Act.put, List.setIfInBounds_toArray, List.set_cons_succ, List.set_cons_zero]) | (refine seq_float (by rfl) (by rfl) (by rfl) ?_; intro K hK; go_big_quiet_op; go_big_quiet_on))
          refine seq_chain (by rfl) ?_
          intro K hK
          go_wp2_with fail
          refine hK.out _ _ (since (Below.refl _ _).drew) ?_
          clear hK K
          repeat (first | (refine seq_skip (by rfl) (by rfl) ?_; simp only [Act.put, List.setIfInBounds_toArray, List.set_cons_succ, List.set_cons_zero]) | (refine seq_float (by rfl) (by rfl) (by rfl) ?_; intro K hK; go_big_quiet_op; go_big_quiet_on))
          refine seq_nil ?_
          go_wp2_with fail
          clear pv hd
          have CH := lid (has_any (l.take (j + 1)) (j + 1) cap (some ⟨b1, o1, none⟩) x.1 x.2.1 w2.drew.drew (by rw [List.length_take]; omega) (by omega) HT2.out.drew.drew)
          obtain ⟨hv, hh⟩ : ∃ v, hasB (l.take (j + 1)) x.1 x.2.1 = v := ⟨_, rfl⟩
          rw [hh] at CH
          refine wp_region_seq (fun w' => ∃ s : Since w2.heap.size w2.drew, w' = s.world) [(0, true), (1, true), (2, true), (3, true), (4, true), (5, true), (6, true), (7, true), (8, false), (9, false)] (by kernel_rfl) (by kernel_rfl) (by intro c d v a w h; cases d <;> exact h) (since (Below.refl _ _).drew) ?_
          repeat (first | (refine seq_skip (by rfl) (by rfl) ?_; simp only [Act.put, List.setIfInBounds_toArray, List.set_cons_succ, List.set_cons_zero]) | (refine seq_float (by rfl) (by rfl) (by rfl) ?_; intro K hK; go_big_quiet_op; go_big_quiet_on))
          refine seq_chain (by rfl) ?_
          intro K hK
          go_wp2_with fail
          (with_reducible refine (CH.out).mono ?_); rintro e w3 ⟨rfl, hb3⟩
          have hs3 : Below w2.heap.size w2.drew w3 := (Below.refl _ _).drew.trans hb3
          have hw3 : Below W.heap.size W w3 := (hw2.drew.drew).trans (hb3.mono hw2.size)
          clear CH hb3
          go_wp2_with fail
          refine hK.out _ _ (since hs3) ?_
          clear hK K
          repeat (first | (refine seq_skip (by rfl) (by rfl) ?_; simp only [Act.put, List.setIfInBounds_toArray, List.set_cons_succ, List.set_cons_zero]) | (refine seq_float (by rfl) (by rfl) (by rfl) ?_; intro K hK; go_big_quiet_op; go_big_quiet_on))
          refine seq_chain (by rfl) ?_
          intro K hK
          go_wp2_with fail
          refine hK.out _ _ (since hs3) ?_
          clear hK K
          repeat (first | (refine seq_skip (by rfl) (by rfl) ?_; simp only [Act.put, List.setIfInBounds_toArray, List.set_cons_succ, List.set_cons_zero]) | (refine seq_float (by rfl) (by rfl) (by rfl) ?_; intro K hK; go_big_quiet_op; go_big_quiet_on))
          refine seq_nil ?_
          cases hv with
          | true =>
            have HV := lid (go_twice (c := clock) (e := epoch) (pre := l.take (j + 1)) (l := l.drop (j + 1 + 1)) HNM.out HBB.out HOR.out hh)
            clear hh
            go_wp2_with fail
            go_ret
            exact ⟨ret_i64 (by rw [HC.out, HG.out, HD.out, HV.out]), Hb.out.trans (hw3.mono Hb.out.size)⟩
          | false =>
            have HV := lid (go_next (c := clock) (e := epoch) (pre := l.take (j + 1)) (l := l.drop (j + 1 + 1)) HNM.out HBB.out HOR.out hh)
            clear hh
            go_wp2_with fail
            go_roundw
            case rel => exact ⟨j + 1 + 1, by omega, by go_num, lid (by rw [HG.out, HD.out, HV.out, HT.out]), hw3⟩
            case measure => simp [intOf]; omega
    · obtain rfl : k = n := by omega
      have HV : Hid (checkLs ⟨clock, epoch, l⟩ = 0) := lid (by
        have e : l.length = k := HN.out
        rw [HC.out, HG.out, List.drop_eq_nil_of_le (by omega)]; rfl)
      go_wp2_with fail
      go_ret
      exact ⟨ret_i64 HV.out.symm, Hb.out.trans (hb.mono Hb.out.size)⟩
end Go.Proofs.Ytghkldodceamcaa

namespace Go.Proofs.Ytghkldodceamcaa
open Go.RowKit

theorem u64_eq' (a b : UInt64) : ((a.toNat : Int) = (b.toNat : Int)) = (a = b) := by
  apply propext
  rw [← UInt64.toNat_inj]
  omega
/-- The walk's spelling of == of two leases. -/
theorem lz_beq (x y : Lz) : ((((x.1.1.toNat : Int) == (y.1.1.toNat : Int)) && ((x.1.2.toNat : Int) == (y.1.2.toNat : Int))) && ((x.2.1.toList == y.2.1.toList) && ((x.2.2.1 == y.2.2.1) && (x.2.2.2 == y.2.2.2)))) = decide (x = y) := by
  obtain ⟨⟨a1, a2⟩, b, c, d⟩ := x
  obtain ⟨⟨e1, e2⟩, f, g, h⟩ := y
  rw [Bool.eq_iff_iff]
  simp only [str_beq, Bool.and_eq_true, beq_iff_eq, decide_eq_true_eq, u64_eq', Prod.mk.injEq]
set_option maxRecDepth 100000 in
theorem quiet_eq_lz {C : World → Prop} {K : Act → Prop} {a : Act} {o : Oper} (r q : Lz) (v : Bool) (x y : Operand) (h : o.op = .binOp .eql 31 x y 31)
    (hx : a.eval x = .agg (lzc r)) (hy : a.eval y = .agg (lzc q)) (hv : decide (r = q) = v) (hk : K (a.put o.dst (.bool v))) : o.quiet Try.prog a C K := by
  refine ⟨.bool v, fun w _ => ?_, hk⟩
  subst hv
  unfold Oper.quietAt execOp
  rw [h]
  simp only [hx, hy]
  rw [← lz_beq]
  simp [go_sem]
  by_cases h1 : (r.1.1.toNat : Int) = q.1.1.toNat <;> by_cases h2 : (r.1.2.toNat : Int) = q.1.2.toNat <;> by_cases h3 : r.2.1.toList = q.2.1.toList <;> by_cases h4 : r.2.2.1 = q.2.2.1 <;> by_cases h5 : r.2.2.2 = q.2.2.2 <;> simp [h1, h2, h3, h4, h5]
set_option maxRecDepth 100000 in
theorem quiet_neq_lz {C : World → Prop} {K : Act → Prop} {a : Act} {o : Oper} (r q : Lz) (v : Bool) (x y : Operand) (h : o.op = .binOp .neq 31 x y 31)
    (hx : a.eval x = .agg (lzc r)) (hy : a.eval y = .agg (lzc q)) (hv : (!decide (r = q)) = v) (hk : K (a.put o.dst (.bool v))) : o.quiet Try.prog a C K := by
  refine ⟨.bool v, fun w _ => ?_, hk⟩
  subst hv
  unfold Oper.quietAt execOp
  rw [h]
  simp only [hx, hy]
  rw [← lz_beq]
  simp [go_sem]
  by_cases h1 : (r.1.1.toNat : Int) = q.1.1.toNat <;> by_cases h2 : (r.1.2.toNat : Int) = q.1.2.toNat <;> by_cases h3 : r.2.1.toList = q.2.1.toList <;> by_cases h4 : r.2.2.1 = q.2.2.1 <;> by_cases h5 : r.2.2.2 = q.2.2.2 <;> simp [h1, h2, h3, h4, h5]
set_option maxRecDepth 100000 in
set_option maxHeartbeats 4000000 in
theorem renew_asks (c1 : Nat) (y : Lz) (w : World) (h : XBox w c1 y) :
    Asks 40 #[.pointer (some ⟨c1, 0, none⟩)] (fun x => decide (x = y)) w := by
  intro x w' hb
  show Calls Try.prog 40 #[.agg (lzc x), .pointer (some ⟨c1, 0, none⟩)] w' _
  obtain ⟨h0, h1, h2, h3, h4, h5⟩ := h.below hb
  have HQ := lid (lz_beq x y)
  clear h hb
  go_enter Try.func40, Try.ntmps40
  go_wp2_with fail
  all_goals (go_ret; exact ⟨ret_bool (by rw [← HQ.out]; simp_all), ba _ _⟩)
set_option maxRecDepth 100000 in
set_option maxHeartbeats 4000000 in
theorem release_asks (c1 : Nat) (y : Lz) (w : World) (h : XBox w c1 y) :
    Asks 42 #[.pointer (some ⟨c1, 0, none⟩)] (fun x => decide (x = y)) w := by
  intro x w' hb
  show Calls Try.prog 42 #[.agg (lzc x), .pointer (some ⟨c1, 0, none⟩)] w' _
  obtain ⟨h0, h1, h2, h3, h4, h5⟩ := h.below hb
  have HQ := lid (lz_beq x y)
  clear h hb
  go_enter Try.func42, Try.ntmps42
  go_wp2_with fail
  all_goals (go_ret; exact ⟨ret_bool (by rw [← HQ.out]; simp_all), ba _ _⟩)
set_option maxRecDepth 100000 in
set_option maxHeartbeats 4000000 in
theorem adv_asks (c1 : Nat) (c : Int) (w : World) (h0 : c1 < w.heap.size) (h : w.cell? ⟨c1, 0, none⟩ = some (.int .i64 c)) :
    Asks 39 #[.pointer (some ⟨c1, 0, none⟩)] (fun x => decide (x.2.2.1 ≤ c)) w := by
  intro x w' hb
  show Calls Try.prog 39 #[.agg (lzc x), .pointer (some ⟨c1, 0, none⟩)] w' _
  have h1 := (bc hb h0 0).trans h
  have hl := Nat.lt_of_lt_of_le h0 hb.size
  clear h hb
  go_enter Try.func39, Try.ntmps39
  go_wp2_with fail
  go_ret
  exact ⟨rfl, ba _ _⟩
theorem memB_take {l : List Lz} {k : Nat} {x : Lz} (h : k < l.length) : memB (l.take (k + 1)) x = (memB (l.take k) x || decide (l[k] = x)) := by
  unfold memB
  rw [List.take_succ_eq_append_getElem h, List.any_append]
  simp
theorem memB_of {l : List Lz} {k : Nat} {x : Lz} (h : k < l.length) (e : l[k] = x) : memB l x = true := List.any_eq_true.2 ⟨l[k], List.getElem_mem h, by simpa using e⟩
set_option maxRecDepth 100000 in
set_option maxHeartbeats 4000000 in
theorem lzIndex_any (l : List Lz) (n cap : Nat) (ao : Option Addr) (x : Lz) (w : World) (hn : l.length = n) (hm : n ≤ 1000000) (hs : Sl w 5 ao n (lzcells l)) :
    Calls Try.prog 48 #[.slice ao n cap, .agg (lzc x)] w fun e w' => (∃ k : Int, e = .returned (.int .i64 k) ∧ decide (0 ≤ k) = memB l x) ∧ Below w.heap.size w w' := by
  have hb0 := ba w (Obj.cells (lzc x) 31)
  have HX0 := XBox.new w x 31
  obtain ⟨W, hW⟩ : ∃ W, w.alloc (Obj.cells (lzc x) 31) = W := ⟨_, rfl⟩
  rw [hW] at hb0 HX0
  have HW := lid hW
  have HX := lid HX0
  have HN := lid hn
  have HS := lid (hs.below hb0)
  have Hb := lid hb0
  clear hn hs hW HX0 hb0
  go_enter Try.func48, Try.ntmps48
  go_wp2_with fail
  rw [HW.out]
  clear HW
  go_loopw [5, 8] (fun _ i wr => ∃ k : Nat, k ≤ n ∧ i = .int .i64 k ∧ Hid (memB (l.take k) x = false) ∧ Below W.heap.size W wr) (fun _ i _ => n - (intOf i).toNat)
  case atStart => exact ⟨0, Nat.zero_le _, rfl, lid rfl, Below.refl _ _⟩
  case round =>
    obtain ⟨k, hk, rfl, HT, hb⟩ := hrel
    by_cases hlt : k < n
    · have hkl : k < l.length := by rw [HN.out]; exact hlt
      obtain ⟨b1, o1, rfl, hlb, hcell⟩ := (HS.out.below hb).at_ hlt
      have x0 := hcell (k * 5 + 0) _ (lzcells_at hkl).1
      have x1 := hcell (k * 5 + 1) _ (lzcells_at hkl).2.1
      have x2 := hcell (k * 5 + 2) _ (lzcells_at hkl).2.2.1
      have x3 := hcell (k * 5 + 3) _ (lzcells_at hkl).2.2.2.1
      have x4 := hcell (k * 5 + 4) _ (lzcells_at hkl).2.2.2.2
      rw [← Nat.add_assoc] at x1 x2 x3 x4
      rw [Nat.add_zero] at x0
      have dk : decide ((k : Int) < (n : Int)) = true := by simp; omega
      have HMT := lid (memB_take (x := x) hkl)
      have HMO := lid (fun e => memB_of (x := x) hkl e)
      obtain ⟨y, hy⟩ : ∃ y, l[k] = y := ⟨_, rfl⟩
      rw [hy] at x0 x1 x2 x3 x4 HMT HMO
      obtain ⟨m0, y0, y1, y2, y3, y4⟩ := HX.out.below hb
      clear hcell hy
      by_cases hyx : y = x
      · have HQ : Hid (decide (x = y) = true) := lid (decide_eq_true hyx.symm)
        have HR := lid (HMO.out hyx)
        clear hyx
        go_wp2_with fail
        refine wp_region_seq (fun w' => ∃ s : Since wr.heap.size wr, w' = s.world) [(0, true), (1, true), (2, true), (3, true), (4, true), (5, true)] (by kernel_rfl) (by kernel_rfl) (by intro c d v a w h; cases d <;> exact h) (since (Below.refl _ _).drew) ?_
        iterate 5 (first | (refine seq_skip (by rfl) (by rfl) ?_; simp only [Act.put, List.setIfInBounds_toArray, List.set_cons_succ, List.set_cons_zero]) | (refine seq_float (by rfl) (by rfl) (by rfl) ?_; intro K hK; go_big_quiet_op; go_big_quiet_on))
        refine seq_float (by rfl) (by rfl) (by rfl) ?_; intro K hK
        refine quiet_eq_lz x y true _ _ rfl rfl rfl HQ.out ?_
        simp only [Act.put, List.setIfInBounds_toArray, List.set_cons_succ, List.set_cons_zero]
        go_big_quiet_on
        refine seq_nil ?_
        go_wp2_with fail
        go_ret
        exact ⟨⟨k, rfl, by rw [HR.out]; simp⟩, Hb.out.trans ((hb.drew).mono Hb.out.size)⟩
      · have HQ : Hid (decide (x = y) = false) := lid (decide_eq_false (fun e => hyx e.symm))
        have HR : Hid (memB (l.take (k + 1)) x = false) := lid (by rw [HMT.out, HT.out, decide_eq_false hyx]; rfl)
        clear hyx
        go_wp2_with fail
        refine wp_region_seq (fun w' => ∃ s : Since wr.heap.size wr, w' = s.world) [(0, true), (1, true), (2, true), (3, true), (4, true), (5, true)] (by kernel_rfl) (by kernel_rfl) (by intro c d v a w h; cases d <;> exact h) (since (Below.refl _ _).drew) ?_
        iterate 5 (first | (refine seq_skip (by rfl) (by rfl) ?_; simp only [Act.put, List.setIfInBounds_toArray, List.set_cons_succ, List.set_cons_zero]) | (refine seq_float (by rfl) (by rfl) (by rfl) ?_; intro K hK; go_big_quiet_op; go_big_quiet_on))
        refine seq_float (by rfl) (by rfl) (by rfl) ?_; intro K hK
        refine quiet_eq_lz x y false _ _ rfl rfl rfl HQ.out ?_
        simp only [Act.put, List.setIfInBounds_toArray, List.set_cons_succ, List.set_cons_zero]
        go_big_quiet_on
        refine seq_nil ?_
        go_wp2_with fail
        go_roundw
        case rel => exact ⟨k + 1, by omega, by go_num, HR, hb.drew⟩
        case measure => simp [intOf]; omega
    · obtain rfl : k = n := by omega
      have HR : Hid (memB l x = false) := lid (by have := HT.out; rwa [List.take_of_length_le (by rw [HN.out]; exact Nat.le_refl _)] at this)
      go_wp2_with fail
      go_ret
      exact ⟨⟨-1, rfl, by rw [HR.out]; decide⟩, Hb.out.trans (hb.mono Hb.out.size)⟩
set_option maxRecDepth 100000 in
set_option maxHeartbeats 4000000 in
theorem lzContains_any (l : List Lz) (n cap : Nat) (ao : Option Addr) (x : Lz) (w : World) (hn : l.length = n) (hm : n ≤ 1000000) (hs : Sl w 5 ao n (lzcells l)) :
    Calls Try.prog 35 #[.slice ao n cap, .agg (lzc x)] w fun e w' => e = .returned (.bool (memB l x)) ∧ Below w.heap.size w w' := by
  have hb0 := ba w (Obj.cells (lzc x) 31)
  have HX0 := XBox.new w x 31
  obtain ⟨W, hW⟩ : ∃ W, w.alloc (Obj.cells (lzc x) 31) = W := ⟨_, rfl⟩
  rw [hW] at hb0 HX0
  have HW := lid hW
  obtain ⟨m0, y0, y1, y2, y3, y4⟩ := HX0
  have CC := lid (lzIndex_any l n cap ao x W hn hm (hs.below hb0))
  have Hb := lid hb0
  rw [← HW.out] at y0 y1 y2 y3 y4
  clear hn hs hW hb0
  go_enter Try.func35, Try.ntmps35
  go_wp2_with fail
  rw [HW.out]
  (with_reducible refine (CC.out).mono ?_); rintro e w1 ⟨⟨k, rfl, hk⟩, hb1⟩
  go_wp2_with fail
  go_ret
  exact ⟨rfl, Hb.out.trans (hb1.mono Hb.out.size)⟩
end Go.Proofs.Ytghkldodceamcaa

namespace Go.Proofs.Ytghkldodceamcaa
open Go.RowKit

set_option maxRecDepth 100000 in
theorem ranged_any (n : Int) (w : World) : Calls Try.prog 34 #[.int .i64 n] w fun e w' => e = .returned (.bool (rangeB n)) ∧ w' = w := by
  by_cases h : 0 ≤ n
  · have u1 : decide (0 ≤ n) = true := by simpa using h
    have HV : Hid (rangeB n = decide (n ≤ 1099511627776)) := lid (by unfold rangeB; rw [Bool.eq_iff_iff]; simp; omega)
    clear h
    go_enter Try.func34, Try.ntmps34
    go_wp2_with fail
    go_ret
    exact ⟨ret_bool HV.out.symm, rfl⟩
  · have u1 : decide (0 ≤ n) = false := by simpa using h
    have HV : Hid (rangeB n = false) := lid (by unfold rangeB; simp; omega)
    clear h
    go_enter Try.func34, Try.ntmps34
    go_wp2_with fail
    go_ret
    exact ⟨ret_bool HV.out.symm, rfl⟩
theorem hasB_take {l : List Lz} {k : Nat} (h : k < l.length) (job : Dg) (wk : ByteArray) : hasB (l.take (k + 1)) job wk = (hasB (l.take k) job wk || (decide ((l[k]).1 = job) && decide ((l[k]).2.1 = wk))) := by
  unfold hasB
  rw [List.take_succ_eq_append_getElem h, List.any_append]
  simp
theorem hasB_more {l : List Lz} {j k : Nat} (h : j ≤ k) {job : Dg} {wk : ByteArray} (hh : hasB (l.take j) job wk = true) : hasB (l.take k) job wk = true := by
  unfold hasB at *
  rw [List.any_eq_true] at *
  obtain ⟨x, hx, hp⟩ := hh
  exact ⟨x, List.take_subset_take_left l h hx, hp⟩

set_option maxRecDepth 100000 in
set_option maxHeartbeats 16000000 in
theorem refLeaCheck_any (t : Ls) (ao : Option Addr) (n cap : Nat) (w : World) (h : LsA w ao n t) :
    Calls Try.prog 15 #[.agg (tcells t ao n cap)] w fun e w' => e = .returned (.int .i64 (checkLs t)) ∧ Below w.heap.size w w' := by
  have hb0 := ba w (Obj.cells (tcells t ao n cap) 24)
  have HB0 := LBox.new w t ao n cap 24
  obtain ⟨W, hW⟩ : ∃ W, w.alloc (Obj.cells (tcells t ao n cap) 24) = W := ⟨_, rfl⟩
  rw [hW] at hb0 HB0
  have HW := lid hW
  have HX := lid HB0
  have HA := lid (h.below hb0)
  have HN := lid h.len
  have hn' : n ≤ 9223372036854775807 := h.max
  have Hb := lid hb0
  obtain ⟨l0, c0, c1, c2⟩ := HX.out
  obtain ⟨clock, epoch, l⟩ := t
  clear hW HB0 h hb0
  simp only at c0 c1 c2
  have HC0 : Hid (rangeB clock = false ∨ rangeB epoch = false → checkLs ⟨clock, epoch, l⟩ = 2) := lid (fun h => by unfold checkLs; rw [if_pos h])
  rw [← HW.out] at c0 c1 c2
  go_enter Try.func15, Try.ntmps15
  go_wp2_with fail
  rw [HW.out]
  clear HW c0 c1 c2
  obtain ⟨l0', c0, c1, c2⟩ := HX.out
  (with_reducible refine (ranged_any clock _).mono ?_); rintro e w1 ⟨rfl, rfl⟩
  cases hr1 : rangeB clock with
  | false =>
    have HV := lid (HC0.out (.inl hr1))
    clear hr1
    go_wp2_with fail
    go_ret
    exact ⟨ret_i64 HV.out.symm, Hb.out⟩
  | true =>
  have HR1 := lid hr1
  clear hr1
  go_wp2_with fail
  (with_reducible refine (ranged_any epoch _).mono ?_); rintro e w2 ⟨rfl, rfl⟩
  cases hr2 : rangeB epoch with
  | false =>
    have HV := lid (HC0.out (.inr hr2))
    clear hr2
    go_wp2_with fail
    go_ret
    exact ⟨ret_i64 HV.out.symm, Hb.out⟩
  | true =>
  have HR2 := lid hr2
  clear hr2 HC0
  obtain ⟨W, rfl⟩ : ∃ y, y = w2 := ⟨_, rfl⟩
  by_cases h256 : 256 < n
  case pos =>
    have HV : Hid (checkLs ⟨clock, epoch, l⟩ = 4) := lid (by
      have e : l.length = n := HN.out
      unfold checkLs
      rw [if_neg (by rw [HR1.out, HR2.out]; simp), if_pos (by simp only; omega)])
    have u5 : decide ((256 : Int) < (n : Int)) = true := by simp; omega
    go_wp2_with fail
    go_ret
    exact ⟨ret_i64 HV.out.symm, Hb.out⟩
  have HC : Hid (checkLs ⟨clock, epoch, l⟩ = lzGo clock epoch [] l) := lid (by
    have e : l.length = n := HN.out
    unfold checkLs
    rw [if_neg (by rw [HR1.out, HR2.out]; simp), if_neg (by simp only; omega)])
  have u5 : decide ((256 : Int) < (n : Int)) = false := by simp; omega
  clear HR1 HR2
  go_wp2_with fail
  clear l0' c0 c1 c2
  go_loopw [3, 5] (fun i _ wr => ∃ k : Nat, k ≤ n ∧ i = .int .i64 k ∧ Hid (lzGo clock epoch [] l = lzGo clock epoch (l.take k) (l.drop k)) ∧ Below W.heap.size W wr) (fun i _ _ => n - (intOf i).toNat)
  case atStart => exact ⟨0, Nat.zero_le _, rfl, lid rfl, Below.refl _ _⟩
  case round =>
    obtain ⟨k, hk, rfl, HG, hb⟩ := hrel
    obtain ⟨l0', c0, c1, c2⟩ := HX.out.below hb
    by_cases hlt : k < n
    · have hkl : k < l.length := by have : l.length = n := HN.out; omega
      obtain ⟨b1, o1, rfl, hlb, hcell⟩ := (HA.out.sl.below hb).at_ hlt
      have x0 := hcell (k * 5 + 0) _ (lzcells_at hkl).1
      have x1 := hcell (k * 5 + 1) _ (lzcells_at hkl).2.1
      have x2 := hcell (k * 5 + 2) _ (lzcells_at hkl).2.2.1
      have x3 := hcell (k * 5 + 3) _ (lzcells_at hkl).2.2.2.1
      have x4 := hcell (k * 5 + 4) _ (lzcells_at hkl).2.2.2.2
      have HPC : Hid (∀ j (hj : j < l.length), wr.cell? ⟨b1, o1 + j * 5, none⟩ = some (.int .u64 (l[j]).1.1.toNat) ∧ wr.cell? ⟨b1, o1 + j * 5 + 1, none⟩ = some (.int .u64 (l[j]).1.2.toNat) ∧ wr.cell? ⟨b1, o1 + j * 5 + 2, none⟩ = some (.string (l[j]).2.1) ∧ wr.cell? ⟨b1, o1 + j * 5 + 4, none⟩ = some (.int .i64 (l[j]).2.2.2)) := lid (fun j hj => by
        have z0 := hcell (j * 5 + 0) _ (lzcells_at hj).1
        have z1 := hcell (j * 5 + 1) _ (lzcells_at hj).2.1
        have z2 := hcell (j * 5 + 2) _ (lzcells_at hj).2.2.1
        have z4 := hcell (j * 5 + 4) _ (lzcells_at hj).2.2.2.2
        rw [← Nat.add_assoc] at z1 z2 z4
        rw [Nat.add_zero] at z0
        exact ⟨z0, z1, z2, z4⟩)
      rw [← Nat.add_assoc] at x1 x2 x3 x4
      rw [Nat.add_zero] at x0
      have dk : decide ((k : Int) < (n : Int)) = true := by simp; omega
      have HD := lid (List.drop_eq_getElem_cons hkl)
      have HT := lid (List.take_succ_eq_append_getElem hkl)
      have HS := lid (HA.out.sz _ (List.getElem_mem hkl))
      obtain ⟨x, hx⟩ : ∃ x, l[k] = x := ⟨_, rfl⟩
      rw [hx] at x0 x1 x2 x3 x4 HD HS HT
      have HLE : Hid (k = 0 ∨ ∃ j, k = j + 1 ∧ ∃ (hj : j < l.length), lastE (l.take k) = (l[j]).2.2.2) := lid (by
        cases k with
        | zero => exact .inl rfl
        | succ j => exact .inr ⟨j, rfl, by omega, lastE_take (by omega)⟩)
      have HPN : Hid (l.take k = [] ↔ k = 0) := lid ⟨fun h => by rcases List.take_eq_nil_iff.1 h with h | h; exact h; rw [h] at hkl; simp at hkl, fun h => by rw [h]; rfl⟩
      clear hcell hx
      obtain ⟨w1, hw1⟩ : ∃ y, wr.alloc (.cells (lzc x) 31) = y := ⟨_, rfl⟩
      have hb1 : Below wr.heap.size wr w1 := by rw [← hw1]; exact ba _ _
      have HX1 := lid (show XBox w1 wr.heap.size x by rw [← hw1]; exact XBox.new _ _ _)
      have HW1 := lid hw1
      have hw01 : Below W.heap.size W w1 := hb.trans (hb1.mono hb.size)
      have y2 := HX1.out.2.2.2.1
      have yl := HX1.out.1
      rw [← HW1.out] at y2 yl
      have hlb1 : b1 < w1.heap.size := Nat.lt_of_lt_of_le hlb hb1.size
      clear hw1
      go_wp2_with fail
      rw [HW1.out]
      clear HW1 y2 yl c0 c1 c2 l0' x0 x1 x2 x3 x4
      (with_reducible refine (refValidName_any x.2.1 w1 HS.out).mono ?_); rintro e w2 ⟨rfl, rfl⟩
      have hlb2 := hlb1
      have hw2 := hw01
      have HPV2 : Hid (∀ j (hj : j < l.length), w2.cell? ⟨b1, o1 + j * 5, none⟩ = some (.int .u64 (l[j]).1.1.toNat) ∧ w2.cell? ⟨b1, o1 + j * 5 + 1, none⟩ = some (.int .u64 (l[j]).1.2.toNat) ∧ w2.cell? ⟨b1, o1 + j * 5 + 2, none⟩ = some (.string (l[j]).2.1) ∧ w2.cell? ⟨b1, o1 + j * 5 + 4, none⟩ = some (.int .i64 (l[j]).2.2.2)) := lid (fun j hj => by
        obtain ⟨z0, z1, z2, z4⟩ := HPC.out j hj
        exact ⟨(bc hb1 hlb _).trans z0, (bc hb1 hlb _).trans z1, (bc hb1 hlb _).trans z2, (bc hb1 hlb _).trans z4⟩)
      have HX2 := HX1
      clear HPC hb1 hw01 HX1 hlb1
      cases hnm : nameB x.2.1 with
      | false =>
        have HV := lid (go_name (c := clock) (e := epoch) (pre := l.take k) (l := l.drop (k + 1)) hnm)
        clear hnm
        go_wp2_with fail
        go_ret
        exact ⟨ret_i64 (by rw [HC.out, HG.out, HD.out, HV.out]), Hb.out.trans (hw2.mono Hb.out.size)⟩
      | true =>
      have HNM := lid hnm
      clear hnm
      obtain ⟨m0, y0, y1, y2, y3, y4⟩ := HX2.out
      obtain ⟨l0', c0, c1, c2⟩ := HX.out.below hw2
      by_cases e1 : x.2.2.1 ≤ clock
      case pos =>
        have HV := lid (go_bad (c := clock) (e := epoch) (pre := l.take k) (l := l.drop (k + 1)) HNM.out (by unfold badB; simp; omega))
        have de1 : decide (x.2.2.1 ≤ clock) = true := by simpa using e1
        clear e1
        go_wp2_with fail
        go_ret
        exact ⟨ret_i64 (by rw [HC.out, HG.out, HD.out, HV.out]), Hb.out.trans (hw2.mono Hb.out.size)⟩
      have de1 : decide (x.2.2.1 ≤ clock) = false := by simpa using e1
      by_cases e2 : 1099511627776 < x.2.2.1
      case pos =>
        have HV := lid (go_bad (c := clock) (e := epoch) (pre := l.take k) (l := l.drop (k + 1)) HNM.out (by unfold badB; simp; omega))
        have de2 : decide (1099511627776 < x.2.2.1) = true := by simpa using e2
        clear e2
        go_wp2_with fail
        go_ret
        exact ⟨ret_i64 (by rw [HC.out, HG.out, HD.out, HV.out]), Hb.out.trans (hw2.mono Hb.out.size)⟩
      have de2 : decide (1099511627776 < x.2.2.1) = false := by simpa using e2
      by_cases e3 : x.2.2.2 < 1
      case pos =>
        have HV := lid (go_bad (c := clock) (e := epoch) (pre := l.take k) (l := l.drop (k + 1)) HNM.out (by unfold badB; simp; omega))
        have de3 : decide (x.2.2.2 < 1) = true := by simpa using e3
        clear e3
        go_wp2_with fail
        go_ret
        exact ⟨ret_i64 (by rw [HC.out, HG.out, HD.out, HV.out]), Hb.out.trans (hw2.mono Hb.out.size)⟩
      have de3 : decide (x.2.2.2 < 1) = false := by simpa using e3
      by_cases e4 : epoch < x.2.2.2
      case pos =>
        have HV := lid (go_bad (c := clock) (e := epoch) (pre := l.take k) (l := l.drop (k + 1)) HNM.out (by unfold badB; simp; omega))
        have de4 : decide (epoch < x.2.2.2) = true := by simpa using e4
        clear e4
        go_wp2_with fail
        go_ret
        exact ⟨ret_i64 (by rw [HC.out, HG.out, HD.out, HV.out]), Hb.out.trans (hw2.mono Hb.out.size)⟩
      have de4 : decide (epoch < x.2.2.2) = false := by simpa using e4
      have HBB : Hid (badB clock epoch x = false) := lid (by unfold badB; simp; omega)
      clear e1 e2 e3 e4
      rcases HLE.out with rfl | ⟨j, rfl, hj, HL⟩
      · have HOR : Hid (¬ (l.take 0 ≠ [] ∧ x.2.2.2 ≤ lastE (l.take 0))) := lid (fun h => h.1 rfl)
        go_wp2_with fail
        refine wp_region_seq (fun w' => ∃ s : Since w2.heap.size w2, w' = s.world) [(0, true), (1, true), (2, true), (3, true), (4, true), (5, true), (6, true), (7, true), (8, true), (9, true), (10, true), (11, true), (12, true), (13, true)] (by kernel_rfl) (by kernel_rfl) (by intro c d v a w h; cases d <;> exact h) (since (Below.refl _ _).drew) ?_
        repeat (first | (refine seq_skip (by rfl) (by rfl) ?_; simp only [Act.put, List.setIfInBounds_toArray, List.set_cons_succ, List.set_cons_zero]) | (refine seq_float (by rfl) (by rfl) (by rfl) ?_; intro K hK; go_big_quiet_op; go_big_quiet_on))
        refine seq_nil ?_
        go_wp2_with fail
        obtain ⟨V, hV⟩ : ∃ V, V = w2.drew := ⟨_, rfl⟩
        have HVW : Hid (∀ v, Below w2.heap.size w2.drew v → Below W.heap.size W v) := lid (fun v h => hw2.drew.trans (h.mono hw2.size))
        go_loopw [5] (fun i v => ∃ j2 : Nat, j2 ≤ 0 ∧ i = .int .i64 j2 ∧ Hid (hasB (l.take j2) x.1 x.2.1 = false) ∧ Below w2.heap.size w2.drew v) (fun i _ => (0) - (intOf i).toNat)
        case atStart => exact ⟨0, Nat.zero_le _, rfl, lid rfl, (Below.refl _ _)⟩
        case round =>
          clear c0 c1 c2 l0' m0 y0 y1 y2 y3 y4
          obtain ⟨j2, hj2, rfl, HF, hv⟩ := hrel
          obtain ⟨v, rfl⟩ : ∃ y, y = wr := ⟨_, rfl⟩
          have hv2 : Below w2.heap.size w2 v := (Below.refl _ _).drew.trans hv
          obtain ⟨m0, y0, y1, y2, y3, y4⟩ := HX2.out.below hv2
          obtain ⟨l0', c0, c1, c2⟩ := HX.out.below (HVW.out v hv)
          have hlbv : b1 < v.heap.size := Nat.lt_of_lt_of_le hlb2 hv2.size
          by_cases hj3 : j2 < 0
          · exact absurd hj3 (Nat.not_lt_zero _)
          · obtain rfl : j2 = 0 := by omega
            have HV := lid (go_next (c := clock) (e := epoch) (pre := l.take (0)) (l := l.drop (0 + 1)) HNM.out HBB.out HOR.out HF.out)
            go_wp2_with fail
            go_roundw
            case rel => exact ⟨0 + 1, by omega, by go_num, lid (by rw [HG.out, HD.out, HV.out, HT.out]), HVW.out v hv⟩
            case measure => simp [intOf]; omega
      · have pv := (HPV2.out j hj).2.2.2
        obtain ⟨pe, hpe⟩ : ∃ y, (l[j]).2.2.2 = y := ⟨_, rfl⟩
        rw [hpe] at pv HL
        have HLL := lid HL
        clear hpe HL
        have hjn : (j : Int) < n := by omega
        have hjn1 : (j : Int) + 1 < n := by omega
        have e0 : ((j + 1 : Nat) : Int) = (j : Int) + 1 := by omega
        have hpos : decide ((0 : Int) < (j : Int) + 1) = true := decide_eq_true (by omega)
        have wj : IntKind.i64.wrap (j : Int) = j := IntWalk.i64_in _ (by omega)
        have hjl : decide (j < n) = true := by simp; omega
        by_cases ho : x.2.2.2 ≤ pe
        · have HV := lid (go_order (c := clock) (e := epoch) (pre := l.take (j + 1)) (l := l.drop (j + 1 + 1)) HNM.out HBB.out ⟨fun h => by have := HPN.out.1 h; omega, by rw [HLL.out]; exact ho⟩)
          have hd : decide (x.2.2.2 ≤ pe) = true := by simpa using ho
          clear ho
          go_wp2_with fail
          refine wp_region_seq (fun w' => ∃ s : Since w2.heap.size w2, w' = s.world) [(0, true), (1, true), (2, true), (3, true), (4, true), (5, true), (6, true), (7, true), (8, true), (9, true), (10, true), (11, true), (12, true), (13, true)] (by kernel_rfl) (by kernel_rfl) (by intro c d v a w h; cases d <;> exact h) (since (Below.refl _ _).drew) ?_
          repeat (first | (refine seq_skip (by rfl) (by rfl) ?_; simp only [Act.put, List.setIfInBounds_toArray, List.set_cons_succ, List.set_cons_zero]) | (refine seq_float (by rfl) (by rfl) (by rfl) ?_; intro K hK; go_big_quiet_op; go_big_quiet_on))
          refine seq_nil ?_
          go_wp2_with fail
          go_ret
          exact ⟨ret_i64 (by rw [HC.out, HG.out, HD.out, HV.out]), Hb.out.trans ((hw2.drew).mono Hb.out.size)⟩
        · have HOR : Hid (¬ (l.take (j + 1) ≠ [] ∧ x.2.2.2 ≤ lastE (l.take (j + 1)))) := lid (fun h => ho (by have := h.2; rwa [HLL.out] at this))
          have hd : decide (x.2.2.2 ≤ pe) = false := by simpa using ho
          clear ho
          go_wp2_with fail
          refine wp_region_seq (fun w' => ∃ s : Since w2.heap.size w2, w' = s.world) [(0, true), (1, true), (2, true), (3, true), (4, true), (5, true), (6, true), (7, true), (8, true), (9, true), (10, true), (11, true), (12, true), (13, true)] (by kernel_rfl) (by kernel_rfl) (by intro c d v a w h; cases d <;> exact h) (since (Below.refl _ _).drew) ?_
          repeat (first | (refine seq_skip (by rfl) (by rfl) ?_; simp only [Act.put, List.setIfInBounds_toArray, List.set_cons_succ, List.set_cons_zero]) | (refine seq_float (by rfl) (by rfl) (by rfl) ?_; intro K hK; go_big_quiet_op; go_big_quiet_on))
          refine seq_nil ?_
          go_wp2_with fail
          clear pv hd
          obtain ⟨V, hV⟩ : ∃ V, V = w2.drew := ⟨_, rfl⟩
          have HVW : Hid (∀ v, Below w2.heap.size w2.drew v → Below W.heap.size W v) := lid (fun v h => hw2.drew.trans (h.mono hw2.size))
          go_loopw [5] (fun i v => ∃ j2 : Nat, j2 ≤ j + 1 ∧ i = .int .i64 j2 ∧ Hid (hasB (l.take j2) x.1 x.2.1 = false) ∧ Below w2.heap.size w2.drew v) (fun i _ => (j + 1) - (intOf i).toNat)
          case atStart => exact ⟨0, Nat.zero_le _, rfl, lid rfl, (Below.refl _ _)⟩
          case round =>
            clear c0 c1 c2 l0' m0 y0 y1 y2 y3 y4
            obtain ⟨j2, hj2, rfl, HF, hv⟩ := hrel
            obtain ⟨v, rfl⟩ : ∃ y, y = wr := ⟨_, rfl⟩
            have hv2 : Below w2.heap.size w2 v := (Below.refl _ _).drew.trans hv
            obtain ⟨m0, y0, y1, y2, y3, y4⟩ := HX2.out.below hv2
            obtain ⟨l0', c0, c1, c2⟩ := HX.out.below (HVW.out v hv)
            have hlbv : b1 < v.heap.size := Nat.lt_of_lt_of_le hlb2 hv2.size
            by_cases hj3 : j2 < j + 1
            · have hjl : j2 < l.length := by omega
              obtain ⟨z0, z1, z2, z4⟩ := HPV2.out j2 hjl
              replace z0 := (bc hv2 hlb2 _).trans z0
              replace z1 := (bc hv2 hlb2 _).trans z1
              replace z2 := (bc hv2 hlb2 _).trans z2
              clear z4
              have HTK := lid (hasB_take hjl x.1 x.2.1)
              have HMO := lid (fun h => hasB_more (l := l) (j := j2 + 1) (k := j + 1) hj3 (job := x.1) (wk := x.2.1) h)
              obtain ⟨r, hr⟩ : ∃ y, l[j2] = y := ⟨_, rfl⟩
              rw [hr] at z0 z1 z2 HTK
              clear hr
              have hj3' : (j2 : Int) < n := by omega
              by_cases hd : r.1 = x.1
              · have HQ : Hid (decide (r.1 = x.1) = true) := lid (decide_eq_true hd)
                by_cases ha : r.2.1 = x.2.1
                · have u1 := str_eq ha
                  have HV := lid (go_twice (c := clock) (e := epoch) (pre := l.take (j + 1)) (l := l.drop (j + 1 + 1)) HNM.out HBB.out HOR.out (HMO.out (by rw [HTK.out]; simp [hd, ha])))
                  clear hd ha
                  go_wp2_with fail
                  refine wp_region_seq (fun w' => ∃ s : Since v.heap.size v, w' = s.world) [(0, true), (1, true), (2, true), (3, true), (4, true), (5, true), (6, true), (7, true), (8, true), (9, true), (10, true), (11, true), (12, true), (13, true), (14, true), (15, true), (16, true), (17, true), (18, true), (19, true)] (by kernel_rfl) (by kernel_rfl) (by intro c d v a w h; cases d <;> exact h) (since (Below.refl _ _).drew) ?_
                  iterate 8 (first | (refine seq_skip (by rfl) (by rfl) ?_; simp only [Act.put, List.setIfInBounds_toArray, List.set_cons_succ, List.set_cons_zero]) | (refine seq_float (by rfl) (by rfl) (by rfl) ?_; intro K hK; go_big_quiet_op; go_big_quiet_on))
                  refine seq_float (by rfl) (by rfl) (by rfl) ?_; intro K hK
                  refine quiet_eq_dg3 r.1 x.1 true _ _ rfl rfl rfl HQ.out ?_
                  simp only [Act.put, List.setIfInBounds_toArray, List.set_cons_succ, List.set_cons_zero]
                  go_big_quiet_on
                  repeat (first | (refine seq_skip (by rfl) (by rfl) ?_; simp only [Act.put, List.setIfInBounds_toArray, List.set_cons_succ, List.set_cons_zero]) | (refine seq_float (by rfl) (by rfl) (by rfl) ?_; intro K hK; go_big_quiet_op; go_big_quiet_on))
                  refine seq_nil ?_
                  go_wp2_with fail
                  go_ret
                  exact ⟨ret_i64 (by rw [HC.out, HG.out, HD.out, HV.out]), Hb.out.trans ((HVW.out v hv).drew.mono Hb.out.size)⟩
                · have u1 := str_ne ha
                  have HNX : Hid (hasB (l.take (j2 + 1)) x.1 x.2.1 = false) := lid (by rw [HTK.out, HF.out]; simp [ha])
                  clear hd ha
                  go_wp2_with fail
                  refine wp_region_seq (fun w' => ∃ s : Since v.heap.size v, w' = s.world) [(0, true), (1, true), (2, true), (3, true), (4, true), (5, true), (6, true), (7, true), (8, true), (9, true), (10, true), (11, true), (12, true), (13, true), (14, true), (15, true), (16, true), (17, true), (18, true), (19, true)] (by kernel_rfl) (by kernel_rfl) (by intro c d v a w h; cases d <;> exact h) (since (Below.refl _ _).drew) ?_
                  iterate 8 (first | (refine seq_skip (by rfl) (by rfl) ?_; simp only [Act.put, List.setIfInBounds_toArray, List.set_cons_succ, List.set_cons_zero]) | (refine seq_float (by rfl) (by rfl) (by rfl) ?_; intro K hK; go_big_quiet_op; go_big_quiet_on))
                  refine seq_float (by rfl) (by rfl) (by rfl) ?_; intro K hK
                  refine quiet_eq_dg3 r.1 x.1 true _ _ rfl rfl rfl HQ.out ?_
                  simp only [Act.put, List.setIfInBounds_toArray, List.set_cons_succ, List.set_cons_zero]
                  go_big_quiet_on
                  repeat (first | (refine seq_skip (by rfl) (by rfl) ?_; simp only [Act.put, List.setIfInBounds_toArray, List.set_cons_succ, List.set_cons_zero]) | (refine seq_float (by rfl) (by rfl) (by rfl) ?_; intro K hK; go_big_quiet_op; go_big_quiet_on))
                  refine seq_nil ?_
                  go_wp2_with fail
                  go_roundw
                  case rel => exact ⟨j2 + 1, by omega, by go_num, HNX, hv.drew⟩
                  case measure => simp [intOf]; omega
              · have HQ : Hid (decide (r.1 = x.1) = false) := lid (decide_eq_false hd)
                have HNX : Hid (hasB (l.take (j2 + 1)) x.1 x.2.1 = false) := lid (by rw [HTK.out, HF.out]; simp [hd])
                clear hd
                go_wp2_with fail
                refine wp_region_seq (fun w' => ∃ s : Since v.heap.size v, w' = s.world) [(0, true), (1, true), (2, true), (3, true), (4, true), (5, true), (6, true), (7, true), (8, true), (9, true), (10, true), (11, true), (12, true), (13, true), (14, true), (15, true), (16, true), (17, true), (18, true), (19, true)] (by kernel_rfl) (by kernel_rfl) (by intro c d v a w h; cases d <;> exact h) (since (Below.refl _ _).drew) ?_
                iterate 8 (first | (refine seq_skip (by rfl) (by rfl) ?_; simp only [Act.put, List.setIfInBounds_toArray, List.set_cons_succ, List.set_cons_zero]) | (refine seq_float (by rfl) (by rfl) (by rfl) ?_; intro K hK; go_big_quiet_op; go_big_quiet_on))
                refine seq_float (by rfl) (by rfl) (by rfl) ?_; intro K hK
                refine quiet_eq_dg3 r.1 x.1 false _ _ rfl rfl rfl HQ.out ?_
                simp only [Act.put, List.setIfInBounds_toArray, List.set_cons_succ, List.set_cons_zero]
                go_big_quiet_on
                repeat (first | (refine seq_skip (by rfl) (by rfl) ?_; simp only [Act.put, List.setIfInBounds_toArray, List.set_cons_succ, List.set_cons_zero]) | (refine seq_float (by rfl) (by rfl) (by rfl) ?_; intro K hK; go_big_quiet_op; go_big_quiet_on))
                refine seq_nil ?_
                go_wp2_with fail
                go_roundw
                case rel => exact ⟨j2 + 1, by omega, by go_num, HNX, hv.drew⟩
                case measure => simp [intOf]; omega
            · obtain rfl : j2 = j + 1 := by omega
              have HV := lid (go_next (c := clock) (e := epoch) (pre := l.take (j + 1)) (l := l.drop (j + 1 + 1)) HNM.out HBB.out HOR.out HF.out)
              go_wp2_with fail
              go_roundw
              case rel => exact ⟨j + 1 + 1, by omega, by go_num, lid (by rw [HG.out, HD.out, HV.out, HT.out]), HVW.out v hv⟩
              case measure => simp [intOf]; omega
    · obtain rfl : k = n := by omega
      have dk : decide ((k : Int) < (k : Int)) = false := by simp
      have HV : Hid (checkLs ⟨clock, epoch, l⟩ = 0) := lid (by
        have e : l.length = k := HN.out
        rw [HC.out, HG.out, List.drop_eq_nil_of_le (by omega)]; rfl)
      go_wp2_with fail
      go_ret
      exact ⟨ret_i64 HV.out.symm, Hb.out.trans (hb.mono Hb.out.size)⟩
end Go.Proofs.Ytghkldodceamcaa

namespace Go.Proofs.Ytghkldodceamcaa
open Go.RowKit

/-- 'append(out, xs..)', xs what a slice value reads as. -/
theorem wpList_append_slg {P : Program} {ops : Array Oper} {rest : List Oper} {o : Oper} {a : Act} {Q : Exit → Act → World → Prop} {w : World} (hgd : o.guard = none) (s x : Operand) (t : TypeId)
    (ho : o.op = .call { callee := .builtin .append, args := #[s, x], argTypes := #[t, t] })
    (base : Nat) (e : TypeId) (z : Value) (size bytes : Nat) (hinfo : (P.info? e).map (fun i => (i.zero, i.size, i.bytes)) = some (some z, size, bytes)) (ht : P.underlying t = some (.slice e)) (hzs : z.cells.size = size) (hsz : 0 < size)
    (v : Value) (n : Nat) (xs : List Value) (hown : w.ownsRow base e size v n xs) (hs : a.eval s = v)
    (ao : Option Addr) (m c : Nat) (us : List Value) (hx : a.eval x = .slice ao m c) (hsl : Sl w size ao m us) (hz : ao = none → c = 0) (h1 : ∀ u ∈ us, u.oneCell' = true)
    (h63 : n + m ≤ maxLen) (hbytes : (n + m) * bytes ≤ 140737488355328) (hbase : base ≤ w.heap.size)
    (h : ∀ v' w', w'.ownsRow base e size v' (n + m) (xs ++ us) → Below base w w' → w.grownBy w' v.ownBlock → wpList P ops Q rest (a.put o.dst v') w') : wpList P ops Q (o :: rest) a w := by
  obtain ⟨i, hi, hz0, hz1, hz2⟩ := info_parts hinfo
  cases ao with
  | none =>
    obtain rfl := hz rfl
    obtain rfl : m = 0 := by
      rcases hsl.2 with h0 | ⟨b, o, e', _⟩
      · exact h0
      · cases e'
    obtain rfl : us = [] := List.eq_nil_of_length_eq_zero (by rw [hsl.1]; simp)
    refine wpList_append_own_none hgd s x t ho base e i size ht hi v n xs hs hown hx ?_
    exact h v w (by simpa using hown) (Below.refl _ _) ⟨rfl, rfl, rfl, Nat.le_refl _, fun _ _ _ => rfl⟩
  | some ad =>
    refine wpList_append_own _ hgd s x t ho base e i z size bytes ht hi hz0 hz1 hz2 hzs hsz v n xs hs hown ad m c us hx hsl.1 ?_ h1 h63 hbytes hbase ?_
    · intro j u hu
      rcases hsl.2 with h0 | ⟨b, o', e', hlt, hc⟩
      · have := hsl.1
        rw [h0, Nat.zero_mul] at this
        rw [List.eq_nil_of_length_eq_zero this] at hu
        simp at hu
      · cases e'
        rw [Addr.add_lit]
        exact hc j u hu
    · intro v' w' hown' hg hn
      exact h v' w' hown' ((Below.refl _ _).grown hg hbase (fun k hk => ownsRow_row hown k hk)) hg

theorem wpList_append_sl {P : Program} {ops : Array Oper} {rest : List Oper} {o : Oper} {a : Act} {Q : Exit → Act → World → Prop} {w : World} (hgd : o.guard = none) (s x : Operand) (t : TypeId)
    (ho : o.op = .call { callee := .builtin .append, args := #[s, x], argTypes := #[t, t] })
    (base : Nat) (e : TypeId) (z : Value) (size bytes : Nat) (hinfo : (P.info? e).map (fun i => (i.zero, i.size, i.bytes)) = some (some z, size, bytes)) (ht : P.underlying t = some (.slice e)) (hzs : z.cells.size = size) (hsz : 0 < size)
    (v : Value) (n : Nat) (xs : List Value) (hown : w.ownsRow base e size v n xs) (hs : a.eval s = v)
    (ao : Option Addr) (m c : Nat) (us : List Value) (hx : a.eval x = .slice ao m c) (hsl : Sl w size ao m us) (hz : ao = none → c = 0) (h1 : ∀ u ∈ us, u.oneCell' = true)
    (h63 : n + m ≤ maxLen) (hbytes : (n + m) * bytes ≤ 140737488355328) (hbase : base ≤ w.heap.size)
    (h : ∀ v' w', w'.ownsRow base e size v' (n + m) (xs ++ us) → Below base w w' → wpList P ops Q rest (a.put o.dst v') w') : wpList P ops Q (o :: rest) a w := by
  exact wpList_append_slg hgd s x t ho base e z size bytes hinfo ht hzs hsz v n xs hown hs ao m c us hx hsl hz h1 h63 hbytes hbase fun v' w' p q _ => h v' w' p q
end Go.Proofs.Ytghkldodceamcaa

namespace Go.Proofs.Ytghkldodceamcaa
open Go.RowKit

set_option maxRecDepth 100000 in
theorem inRange_any' (t : Ls) (ao : Option Addr) (n cap : Nat) (k : Int) (w : World) (hc : 0 ≤ t.clock) (hm : t.clock ≤ 1099511627776) :
    Calls Try.prog 28 #[.agg (tcells t ao n cap), .int .i64 k] w fun e w' => e = .returned (.bool (fitB t.clock k)) ∧ Below w.heap.size w w' := by
  by_cases h : 1 ≤ k
  · have u1 : decide (1 ≤ k) = true := by simpa using h
    have HV : Hid (fitB t.clock k = decide (k ≤ 1099511627776 - t.clock)) := lid (by unfold fitB; rw [Bool.eq_iff_iff]; simp; omega)
    clear h
    go_enter Try.func28, Try.ntmps28
    go_wp2_with fail
    go_ret
    exact ⟨ret_bool HV.out.symm, ba _ _⟩
  · have u1 : decide (1 ≤ k) = false := by simpa using h
    have HV : Hid (fitB t.clock k = false) := lid (by unfold fitB; simp; omega)
    clear h
    go_enter Try.func28, Try.ntmps28
    go_wp2_with fail
    go_ret
    exact ⟨ret_bool HV.out.symm, ba _ _⟩
set_option maxRecDepth 100000 in
theorem fits_any (t : Ls) (ao : Option Addr) (n cap : Nat) (k : Int) (w : World) (hc : 0 ≤ t.clock) (hm : t.clock ≤ 1099511627776) :
    Calls Try.prog 32 #[.agg (tcells t ao n cap), .int .i64 k] w fun e w' => e = .returned (.bool (fitB t.clock k)) ∧ Below w.heap.size w w' := by
  by_cases h : 1 ≤ k
  · have u1 : decide (1 ≤ k) = true := by simpa using h
    have HV : Hid (fitB t.clock k = decide (k ≤ 1099511627776 - t.clock)) := lid (by unfold fitB; rw [Bool.eq_iff_iff]; simp; omega)
    clear h
    go_enter Try.func32, Try.ntmps32
    go_wp2_with fail
    go_ret
    exact ⟨ret_bool HV.out.symm, ba _ _⟩
  · have u1 : decide (1 ≤ k) = false := by simpa using h
    have HV : Hid (fitB t.clock k = false) := lid (by unfold fitB; simp; omega)
    clear h
    go_enter Try.func32, Try.ntmps32
    go_wp2_with fail
    go_ret
    exact ⟨ret_bool HV.out.symm, ba _ _⟩
theorem info_lz : (Try.prog.info? 31).map (fun i => (i.zero, i.size, i.bytes)) = some (some (.agg #[.int .u64 0, .int .u64 0, .string ⟨#[]⟩, .int .i64 0, .int .i64 0]), 5, 48) := by kernel_rfl
theorem lzcells_one (l : List Lz) : ∀ u ∈ lzcells l, u.oneCell' = true := by
  intro u hu
  simp only [lzcells, List.mem_flatMap] at hu
  obtain ⟨x, _, hx⟩ := hu
  simp only [List.mem_cons, List.not_mem_nil, or_false] at hx
  rcases hx with rfl | rfl | rfl | rfl | rfl <;> rfl
theorem run_eql_slice_nil' {P : Program} (w : World) (t e : TypeId) (a : Option Addr) (n c n' c' : Nat) (h : P.underlying t = some (.slice e)) :
    (binOp .eql t (.slice a n c) (.slice none n' c')).run P w = .ok (.bool a.isNone) w := by
  simp only [binOp]
  simp [Op.equal, Op.maxDepth, Lib.run_equalIn_slice_nil w 9999 t e a n c n' c' h]
set_option maxRecDepth 100000 in
set_option maxHeartbeats 4000000 in
theorem lzClone_any (l : List Lz) (n cap : Nat) (ao : Option Addr) (w : World) (hl : l.length = n) (hs : Sl w 5 ao n (lzcells l)) (hz : ao = none → cap = 0) (hn : n ≤ 10000) :
    Calls Try.prog 47 #[.slice ao n cap] w fun e w' => ∃ v', e = .returned v' ∧ w'.ownsRow w.heap.size 31 5 v' n (lzcells l) ∧ Below w.heap.size w w' := by
  cases ao with
  | none =>
    obtain rfl := hz rfl
    obtain rfl : n = 0 := by
      rcases hs.2 with h0 | ⟨b, o, e', _⟩
      · exact h0
      · cases e'
    obtain rfl : l = [] := List.eq_nil_of_length_eq_zero hl
    clear hs hz hn hl
    go_enter Try.func47, Try.ntmps47
    go_wp2_with fail
    rw [run_eql_slice_nil' _ _ _ _ _ _ _ _ Try.underlying22]
    go_wp2_with fail
    go_ret
    exact ⟨_, rfl, World.ownsRow_nil _ _ _ _, Below.refl _ _⟩
  | some a =>
    have HA := lid hs
    clear hs hz
    go_enter Try.func47, Try.ntmps47
    go_wp2_with fail
    rw [run_eql_slice_nil' _ _ _ _ _ _ _ _ Try.underlying22]
    go_wp2_with (at_builtin; go_must (refine wpList_append_sl rfl _ _ 22 rfl w.heap.size 31 (.agg #[.int .u64 0, .int .u64 0, .string ⟨#[]⟩, .int .i64 0, .int .i64 0]) 5 48 info_lz Try.underlying22 rfl (by decide) _ 0 [] (World.ownsRow_lit w #[] 0 (Nat.le_refl _) (by simp [maxLen]) rfl) rfl (some a) n cap (lzcells l) rfl (HA.out.below (ba _ _)) (by intro h; cases h) (lzcells_one l) (by simp [maxLen]; omega) (by omega) (by simp) ?_))
    intro v5 w5 hown5 hb5
    go_wp2_with fail
    go_ret
    refine ⟨_, rfl, ?_, (ba _ _).trans hb5⟩
    simpa using hown5
end Go.Proofs.Ytghkldodceamcaa

namespace Go.Proofs.Ytghkldodceamcaa
open Go.RowKit

set_option maxRecDepth 100000 in
set_option maxHeartbeats 4000000 in
theorem SameLeases_any (l m : List Lz) (n cn k ck : Nat) (al am : Option Addr) (w : World) (hl : l.length = n) (hm : m.length = k) (sl : Sl w 5 al n (lzcells l)) (sm : Sl w 5 am k (lzcells m)) (n1 : n ≤ 1000000) (n2 : k ≤ 1000000) :
    Calls Try.prog 24 #[.slice al n cn, .slice am k ck] w fun e w' => e = .returned (.bool (decide (l = m))) ∧ Below w.heap.size w w' := by
  have HL := lid hl
  have HM := lid hm
  have SL := lid sl
  have SM := lid sm
  clear hl hm sl sm
  by_cases he : n = k
  case neg =>
    have HV : Hid (decide (l = m) = false) := lid (decide_eq_false (fun e => he (by rw [← HL.out, ← HM.out, e])))
    have u1 : ((n : Int) != (k : Int)) = true := by simp; omega
    have u2 : (n != k) = true := by simpa using he
    go_enter Try.func24, Try.ntmps24
    go_wp2_with fail
    go_ret
    exact ⟨ret_bool HV.out.symm, Below.refl _ _⟩
  subst he
  go_enter Try.func24, Try.ntmps24
  go_wp2_with fail
  go_loopw [5] (fun i wr => ∃ j : Nat, j ≤ n ∧ i = .int .i64 j ∧ Hid (l.take j = m.take j) ∧ Below w.heap.size w wr) (fun i _ => n - (intOf i).toNat)
  case atStart => exact ⟨0, Nat.zero_le _, rfl, lid rfl, Below.refl _ _⟩
  case round =>
    obtain ⟨j, hj, rfl, HT, hb⟩ := hrel
    by_cases hlt : j < n
    · have hjl : j < l.length := by rw [HL.out]; exact hlt
      have hjm : j < m.length := by rw [HM.out]; exact hlt
      obtain ⟨b1, o1, rfl, hlb, hcell⟩ := (SL.out.below hb).at_ hlt
      obtain ⟨b2, o2, rfl, hlb2, hcell2⟩ := (SM.out.below hb).at_ hlt
      have x0 := hcell (j * 5 + 0) _ (lzcells_at hjl).1
      have x1 := hcell (j * 5 + 1) _ (lzcells_at hjl).2.1
      have x2 := hcell (j * 5 + 2) _ (lzcells_at hjl).2.2.1
      have x3 := hcell (j * 5 + 3) _ (lzcells_at hjl).2.2.2.1
      have x4 := hcell (j * 5 + 4) _ (lzcells_at hjl).2.2.2.2
      have y0 := hcell2 (j * 5 + 0) _ (lzcells_at hjm).1
      have y1 := hcell2 (j * 5 + 1) _ (lzcells_at hjm).2.1
      have y2 := hcell2 (j * 5 + 2) _ (lzcells_at hjm).2.2.1
      have y3 := hcell2 (j * 5 + 3) _ (lzcells_at hjm).2.2.2.1
      have y4 := hcell2 (j * 5 + 4) _ (lzcells_at hjm).2.2.2.2
      rw [← Nat.add_assoc] at x1 x2 x3 x4 y1 y2 y3 y4
      rw [Nat.add_zero] at x0 y0
      have dk : decide ((j : Int) < (n : Int)) = true := by simp; omega
      have HT1 := lid (List.take_succ_eq_append_getElem hjl)
      have HT2 := lid (List.take_succ_eq_append_getElem hjm)
      have HG : Hid (∀ (he : l = m), l[j] = m[j]) := lid (fun he => by subst he; rfl)
      obtain ⟨r, hr⟩ : ∃ r, l[j] = r := ⟨_, rfl⟩
      obtain ⟨s, hs⟩ : ∃ s, m[j] = s := ⟨_, rfl⟩
      rw [hr] at x0 x1 x2 x3 x4 HT1 HG
      rw [hs] at y0 y1 y2 y3 y4 HT2 HG
      clear hr hs hcell hcell2
      by_cases hrs : r = s
      · have HQ : Hid ((!decide (r = s)) = false) := lid (by simp [hrs])
        have HRS := lid hrs
        clear hrs
        go_wp2_with fail
        refine wp_region_seq (fun w' => ∃ s : Since wr.heap.size wr, w' = s.world) [(0, true), (1, true), (2, true), (3, true), (4, true), (5, true), (6, true), (7, true), (8, true)] (by kernel_rfl) (by kernel_rfl) (by intro c d v a w h; cases d <;> exact h) (since (Below.refl _ _).drew) ?_
        iterate 8 (first | (refine seq_skip (by rfl) (by rfl) ?_; simp only [Act.put, List.setIfInBounds_toArray, List.set_cons_succ, List.set_cons_zero]) | (refine seq_float (by rfl) (by rfl) (by rfl) ?_; intro K hK; go_big_quiet_op; go_big_quiet_on))
        refine seq_float (by rfl) (by rfl) (by rfl) ?_; intro K hK
        refine quiet_neq_lz r s false _ _ rfl rfl rfl HQ.out ?_
        simp only [Act.put, List.setIfInBounds_toArray, List.set_cons_succ, List.set_cons_zero]
        go_big_quiet_on
        refine seq_nil ?_
        go_wp2_with fail
        go_roundw
        case rel => exact ⟨j + 1, by omega, by go_num, lid (by rw [HT1.out, HT2.out, HT.out, HRS.out]), hb.drew⟩
        case measure => simp [intOf]; omega
      · have HQ : Hid ((!decide (r = s)) = true) := lid (by simp [hrs])
        have HV : Hid (decide (l = m) = false) := lid (decide_eq_false (fun e => hrs (HG.out e)))
        clear hrs
        go_wp2_with fail
        refine wp_region_seq (fun w' => ∃ s : Since wr.heap.size wr, w' = s.world) [(0, true), (1, true), (2, true), (3, true), (4, true), (5, true), (6, true), (7, true), (8, true)] (by kernel_rfl) (by kernel_rfl) (by intro c d v a w h; cases d <;> exact h) (since (Below.refl _ _).drew) ?_
        iterate 8 (first | (refine seq_skip (by rfl) (by rfl) ?_; simp only [Act.put, List.setIfInBounds_toArray, List.set_cons_succ, List.set_cons_zero]) | (refine seq_float (by rfl) (by rfl) (by rfl) ?_; intro K hK; go_big_quiet_op; go_big_quiet_on))
        refine seq_float (by rfl) (by rfl) (by rfl) ?_; intro K hK
        refine quiet_neq_lz r s true _ _ rfl rfl rfl HQ.out ?_
        simp only [Act.put, List.setIfInBounds_toArray, List.set_cons_succ, List.set_cons_zero]
        go_big_quiet_on
        refine seq_nil ?_
        go_wp2_with fail
        go_ret
        exact ⟨ret_bool HV.out.symm, hb.drew⟩
    · obtain rfl : j = n := by omega
      have HV : Hid (decide (l = m) = true) := lid (decide_eq_true (by
        have := HT.out
        rwa [List.take_of_length_le (by rw [HL.out]; exact Nat.le_refl _), List.take_of_length_le (by rw [HM.out]; exact Nat.le_refl _)] at this))
      go_wp2_with fail
      go_ret
      exact ⟨ret_bool HV.out.symm, hb⟩
end Go.Proofs.Ytghkldodceamcaa

namespace Go.Proofs.Ytghkldodceamcaa
open Go.RowKit

theorem lessL_take {l : List Lz} {k : Nat} (h : k < l.length) (x : Lz) : lessL (l.take (k + 1)) x = lessL (l.take k) x ++ (if l[k] = x then [] else [l[k]]) := by
  unfold lessL
  rw [List.take_succ_eq_append_getElem h, List.filter_append]
  by_cases e : l[k] = x <;> simp [e]
theorem lessL_le (l : List Lz) (x : Lz) : (lessL l x).length ≤ l.length := List.length_filter_le _ _
theorem lessL_mem (l : List Lz) (x : Lz) : decide ((lessL l x).length < l.length) = memB l x := by
  unfold lessL memB
  rw [Bool.eq_iff_iff]
  simp only [decide_eq_true_eq, List.any_eq_true]
  constructor
  · intro h
    rcases Classical.em (∃ y ∈ l, y = x) with he | he
    · exact he
    · exfalso
      have : l.filter (fun y => !decide (y = x)) = l := List.filter_eq_self.2 (fun y hy => by simpa using fun e => he ⟨y, hy, e⟩)
      rw [this] at h
      omega
  · rintro ⟨y, hy, rfl⟩
    rcases Nat.lt_or_ge (l.filter fun z => !decide (z = y)).length l.length with h | h
    · exact h
    · exfalso
      have e : l.filter (fun z => !decide (z = y)) = l := (List.filter_sublist).eq_of_length (Nat.le_antisymm (List.length_filter_le _ _) h)
      have := List.filter_eq_self.1 e y hy
      simp at this

set_option maxRecDepth 100000 in
set_option maxHeartbeats 4000000 in
theorem Without_any (l : List Lz) (n cap : Nat) (ao : Option Addr) (x : Lz) (w : World) (hl : l.length = n) (hm : n ≤ 1000000) (hs : Sl w 5 ao n (lzcells l)) :
    Calls Try.prog 41 #[.slice ao n cap, .agg (lzc x)] w fun e w' => ∃ v', e = .returned (.tuple #[v', .bool (memB l x)]) ∧ w'.ownsRow w.heap.size 31 5 v' (lessL l x).length (lzcells (lessL l x)) ∧ Below w.heap.size w w' := by
  obtain ⟨w1, hw1⟩ : ∃ y, w.alloc (.cells (lzc x) 31) = y := ⟨_, rfl⟩
  obtain ⟨w2, hw2⟩ : ∃ y, w1.alloc (.cells #[] 31) = y := ⟨_, rfl⟩
  have z1 : w1.heap.size = w.heap.size + 1 := by rw [← hw1]; simp
  have hb : Below w.heap.size w w2 := by rw [← hw2, ← hw1]; exact ((Below.refl _ _).alloc (Nat.le_refl _) _).alloc (by simp) _
  have HX := lid ((XBox.new w x 31).below (ba _ (.cells #[] 31)))
  rw [hw1, hw2] at HX
  have HO : Hid (w2.ownsRow (w.heap.size + 1) 31 5 (.slice (some ⟨w.heap.size + 1, 0, none⟩) 0 0) 0 []) := lid (by rw [← hw2]; exact ownsRow_empty z1 (Nat.le_refl _))
  have z2 : w2.heap.size = w.heap.size + 2 := by rw [← hw2, World.size_alloc, z1]
  have HL := lid hl
  have HS := lid hs
  have Hb := lid hb
  have HW1 := lid hw1
  have HW2 := lid hw2
  have HD := lid (lessL_mem l x)
  have HLE := lid (lessL_le l x)
  clear hw1 hw2 hl hs z1 hb
  go_enter Try.func41, Try.ntmps41
  go_wp2_with fail
  rw [HW1.out, HW2.out]
  clear HW1 HW2
  go_loopw [6, 7] (fun v i wr => ∃ (k q : Nat), k ≤ n ∧ i = .int .i64 k ∧ Hid ((lessL (l.take k) x).length = q) ∧ q ≤ k ∧ Hid (wr.ownsRow (w.heap.size + 1) 31 5 v q (lzcells (lessL (l.take k) x))) ∧ Below (w.heap.size + 1) w2 wr ∧ w.heap.size + 2 ≤ wr.heap.size) (fun _ i _ => n - (intOf i).toNat)
  case atStart => exact ⟨0, 0, Nat.zero_le _, rfl, lid rfl, Nat.le_refl _, HO, Below.refl _ _, by omega⟩
  case round =>
    clear HO
    obtain ⟨k, q, hk, rfl, HQ, hq, HO, hv, hz⟩ := hrel
    have hw : Below w.heap.size w wr := Hb.out.trans (hv.mono (Nat.le_succ _))
    obtain ⟨X0, X1, X2, X3, X4, X5⟩ := HX.out
    have y0 := (bc hv (Nat.lt_succ_self _) 0).trans X1
    have y1 := (bc hv (Nat.lt_succ_self _) 1).trans X2
    have y2 := (bc hv (Nat.lt_succ_self _) 2).trans X3
    have y3 := (bc hv (Nat.lt_succ_self _) 3).trans X4
    have y4 := (bc hv (Nat.lt_succ_self _) 4).trans X5
    have yl : w.heap.size < wr.heap.size := by omega
    clear X0 X1 X2 X3 X4 X5
    by_cases hlt : k < n
    · have hkl : k < l.length := by rw [HL.out]; exact hlt
      obtain ⟨b1, o1, rfl, hlb, hcell⟩ := (HS.out.below hw).at_ hlt
      have x0 := hcell (k * 5 + 0) _ (lzcells_at hkl).1
      have x1 := hcell (k * 5 + 1) _ (lzcells_at hkl).2.1
      have x2 := hcell (k * 5 + 2) _ (lzcells_at hkl).2.2.1
      have x3 := hcell (k * 5 + 3) _ (lzcells_at hkl).2.2.2.1
      have x4 := hcell (k * 5 + 4) _ (lzcells_at hkl).2.2.2.2
      rw [← Nat.add_assoc] at x1 x2 x3 x4
      rw [Nat.add_zero] at x0
      have dk : decide ((k : Int) < (n : Int)) = true := by simp; omega
      have HT := lid (lessL_take hkl x)
      obtain ⟨r, hr⟩ : ∃ r, l[k] = r := ⟨_, rfl⟩
      rw [hr] at x0 x1 x2 x3 x4 HT
      clear hr hcell
      by_cases hrx : r = x
      · have HQQ : Hid ((!decide (r = x)) = false) := lid (by simp [hrx])
        have HN : Hid (lessL (l.take (k + 1)) x = lessL (l.take k) x) := lid (by rw [HT.out, if_pos hrx, List.append_nil])
        clear hrx
        go_wp2_with fail
        refine wp_region_seq (fun w' => ∃ s : Since wr.heap.size wr, w' = s.world) [(0, true), (1, true), (2, true), (3, true), (4, true), (5, true)] (by kernel_rfl) (by kernel_rfl) (by intro c d v a w h; cases d <;> exact h) (since (Below.refl _ _).drew) ?_
        iterate 5 (first | (refine seq_skip (by rfl) (by rfl) ?_; simp only [Act.put, List.setIfInBounds_toArray, List.set_cons_succ, List.set_cons_zero]) | (refine seq_float (by rfl) (by rfl) (by rfl) ?_; intro K hK; go_big_quiet_op; go_big_quiet_on))
        refine seq_float (by rfl) (by rfl) (by rfl) ?_; intro K hK
        refine quiet_neq_lz r x false _ _ rfl rfl rfl HQQ.out ?_
        simp only [Act.put, List.setIfInBounds_toArray, List.set_cons_succ, List.set_cons_zero]
        go_big_quiet_on
        refine seq_nil ?_
        go_wp2_with fail
        go_roundw
        case rel => exact ⟨k + 1, q, by omega, by go_num, lid (by rw [HN.out]; exact HQ.out), by omega, lid (by rw [HN.out]; exact HO.out.drew), hv.drew, hz⟩
        case measure => simp [intOf]; omega
      · have HQQ : Hid ((!decide (r = x)) = true) := lid (by simp [hrx])
        have HN : Hid (lessL (l.take (k + 1)) x = lessL (l.take k) x ++ [r]) := lid (by rw [HT.out, if_neg hrx])
        clear hrx
        have hbase : w.heap.size + 1 ≤ wr.drew.heap.size := by show _ ≤ wr.heap.size; omega
        go_wp2_with fail
        refine wp_region_seq (fun w' => ∃ s : Since wr.heap.size wr, w' = s.world) [(0, true), (1, true), (2, true), (3, true), (4, true), (5, true)] (by kernel_rfl) (by kernel_rfl) (by intro c d v a w h; cases d <;> exact h) (since (Below.refl _ _).drew) ?_
        iterate 5 (first | (refine seq_skip (by rfl) (by rfl) ?_; simp only [Act.put, List.setIfInBounds_toArray, List.set_cons_succ, List.set_cons_zero]) | (refine seq_float (by rfl) (by rfl) (by rfl) ?_; intro K hK; go_big_quiet_op; go_big_quiet_on))
        refine seq_float (by rfl) (by rfl) (by rfl) ?_; intro K hK
        refine quiet_neq_lz r x true _ _ rfl rfl rfl HQQ.out ?_
        simp only [Act.put, List.setIfInBounds_toArray, List.set_cons_succ, List.set_cons_zero]
        go_big_quiet_on
        refine seq_nil ?_
        go_wp2_with (at_builtin; go_must (refine wpList_append_new (lzc r) rfl _ _ 22 rfl (w.heap.size + 1) 31 (.agg #[.int .u64 0, .int .u64 0, .string ⟨#[]⟩, .int .i64 0, .int .i64 0]) 5 48 info_lz Try.underlying22 rfl (by decide) _ q _ HO.out.drew rfl rfl rfl (by simp [Value.oneCell']) (by unfold maxLen; omega) (by omega) hbase ?_))
        intro v' w5 hown' hb5 _
        have HO5 : Hid (w5.ownsRow (w.heap.size + 1) 31 5 v' (q + 1) (lzcells (lessL (l.take (k + 1)) x))) := lid (by rw [HN.out, lzcells_snoc]; exact hown')
        have z5 := hb5.size
        obtain ⟨ao', cap', rfl⟩ := own_slice hown'
        clear hown'
        go_wp2_with fail
        go_roundw
        case rel => exact ⟨k + 1, q + 1, by omega, by go_num, lid (by rw [HN.out, List.length_append, HQ.out]; rfl), by omega, HO5, hv.drew.trans hb5, Nat.le_trans hz z5⟩
        case measure => simp [intOf]; omega
    · obtain rfl : k = n := by omega
      have HT : Hid (l.take k = l) := lid (List.take_of_length_le (by rw [HL.out]; exact Nat.le_refl _))
      rw [HT.out] at HQ HO
      have HV := HD.out
      rw [HQ.out, HL.out] at HV
      obtain ⟨ao', cap', rfl⟩ := own_slice HO.out
      have u1 : decide (q < k) = memB l x := HV
      clear HV
      go_wp2_with fail
      go_ret2
      exact ⟨_, rfl, ownsRow_base (by rw [HQ.out]; exact HO.out) (Nat.le_succ _), hw⟩
end Go.Proofs.Ytghkldodceamcaa

namespace Go.Proofs.Ytghkldodceamcaa
open Go.RowKit

/-- A tree of orders; a leaf's row ends with the last operation. -/
inductive OTL where
  | leaf (ord : List (Nat × Bool))
  | seq (ord : List (Nat × Bool)) (t : OTL)
  | two (i j : Nat) (ti tj : OTL)
def OTL.len : OTL → Nat
  | .leaf ord => ord.length
  | .seq ord t => ord.length + t.len
  | .two _ _ t _ => 1 + t.len

section
variable (P : Program) (ops : Array Oper) (C : World → Prop) (L : Nat) (Q : Exit → Act → World → Prop) (md : Region.Mode)
def otlRun : OTL → Act → World → Prop
  | .leaf ord, a, w => seqRunL P ops C L Q (fun a w => Q .normal a w) ord a w
  | .seq ord t, a, w => seqRunL P ops C L Q (otlRun t) ord a w
  | .two i j ti tj, a, w => seqRunL P ops C L Q (otlRun ti) [(i, false)] a w ∧ seqRunL P ops C L Q (otlRun tj) [(j, false)] a w
def otlB : OTL → Array Bool → Bool
  | .leaf ord, listed => match seqBL md ops L ord listed with | some l => (Region.ready md ops l).isEmpty | none => false
  | .seq ord t, listed => (ord.all fun p => !Nat.beq p.1 L) && match seqBL md ops L ord listed with | some l => otlB t l | none => false
  | .two i j ti tj, listed => !Nat.beq i L && !Nat.beq j L && decide (Region.ready md ops listed = [i, j]) && decide (ti.len = tj.len) && otlB ti (listed.setIfInBounds i true) && otlB tj (listed.setIfInBounds j true)
end

section
variable {P : Program} {ops : Array Oper} {Q : Exit → Act → World → Prop} {md : Region.Mode} {C : World → Prop} {L : Nat}
theorem ne_of_beq {i : Nat} (h : (!Nat.beq i L) = true) : i ≠ L := fun e => by subst e; simp at h
theorem wpAnyL_seq_go (hlast : lastB md ops L = true) (hs : Region.noSelect ops = true) (hQ : ∀ c d v a w, Q (.panic c) (Act.put a d v) w → Q (.panic c) a w) {E : Act → World → Prop} (fuel : Nat) : ∀ (ord : List (Nat × Bool)) (listed listed' : Array Bool) (a : Act) (w : World), C w →
    (ord.all fun p => !Nat.beq p.1 L) = true → seqBL md ops L ord listed = some listed' → (∀ a w, C w → E a w → wpAnyL P md ops Q C L fuel listed' a w) → seqRunL P ops C L Q E ord a w → wpAnyL P md ops Q C L (ord.length + fuel) listed a w
  | [], listed, listed', a, w, hC, _, hB, hE, h => by
    cases hB
    rw [List.length_nil, Nat.zero_add]
    exact hE _ _ hC h
  | (i, true) :: rest, listed, listed', a, w, hC, hA, hB, hE, h => by
    simp only [seqBL] at hB
    rw [List.all_cons, Bool.and_eq_true] at hA
    split at hB
    · rename_i hc
      rw [Bool.and_eq_true] at hc
      obtain ⟨hiL, o, ho, v, hy, hh⟩ := h
      rw [List.length_cons, show rest.length + 1 + fuel = rest.length + fuel + 1 by omega]
      exact wpAnyL_first hlast ho hiL (Region.noSelect_spec hs) (fun c a w hq => hQ c _ _ a w hq) _ listed a w (Region.free_spec ho hc.2) (by simpa using hc.1) hy hC (wpAnyL_seq_go hlast hs hQ fuel rest _ listed' _ w hC hA.2 hB hE hh)
    · cases hB
  | (i, false) :: rest, listed, listed', a, w, hC, hA, hB, hE, h => by
    simp only [seqBL] at hB
    rw [List.all_cons, Bool.and_eq_true] at hA
    split at hB
    · rename_i hc
      rw [List.length_cons, show rest.length + 1 + fuel = rest.length + fuel + 1 by omega]
      refine ⟨fun e => (by rw [e] at hc; cases hc.1), ?_⟩
      rw [hc.1]
      intro j hj
      obtain rfl : j = i := by simpa using hj
      exact wpOp_mono (fun a' w' hh => ⟨hh.1, wpAnyL_seq_go hlast hs hQ fuel rest _ listed' a' w' (hh.1 (ne_of_beq hA.1)) hA.2 hB hE hh.2⟩) h
    · cases hB
theorem wpAnyL_of_otl (hlast : lastB md ops L = true) (hs : Region.noSelect ops = true) (hQ : ∀ c d v a w, Q (.panic c) (Act.put a d v) w → Q (.panic c) a w) : ∀ (t : OTL) (listed : Array Bool) (a : Act) (w : World), C w →
    otlB ops L md t listed = true → otlRun P ops C L Q t a w → wpAnyL P md ops Q C L t.len listed a w
  | .leaf ord, listed, a, w, hC, hB, h => by
    simp only [otlB] at hB
    split at hB
    · rename_i l hl
      exact wpAnyL_of_seq hlast hs hQ ord listed l a w (fun _ => hC) hl (by simpa using hB) (fun _ _ h => h) h
    · cases hB
  | .seq ord t, listed, a, w, hC, hB, h => by
    simp only [otlB, Bool.and_eq_true] at hB
    obtain ⟨hA, hB⟩ := hB
    split at hB
    · rename_i l hl
      exact wpAnyL_seq_go hlast hs hQ t.len ord listed l a w hC hA hl (fun a w hC' hE => wpAnyL_of_otl hlast hs hQ t l a w hC' hB hE) h
    · cases hB
  | .two i j ti tj, listed, a, w, hC, hB, h => by
    simp only [otlB, Bool.and_eq_true, decide_eq_true_eq] at hB
    obtain ⟨⟨⟨⟨⟨hiL, hjL⟩, hr⟩, hlen⟩, hi⟩, hj⟩ := hB
    rw [show (OTL.two i j ti tj).len = ti.len + 1 from Nat.add_comm ..]
    refine ⟨fun e => (by rw [e] at hr; cases hr), ?_⟩
    rw [hr]
    intro m hm
    have hm' : m = i ∨ m = j := by simpa using hm
    rcases hm' with rfl | rfl
    · exact wpOp_mono (fun a' w' hh => ⟨hh.1, wpAnyL_of_otl hlast hs hQ ti _ a' w' (hh.1 (ne_of_beq hiL)) hi hh.2⟩) h.1
    · rw [hlen]
      exact wpOp_mono (fun a' w' hh => ⟨hh.1, wpAnyL_of_otl hlast hs hQ tj _ a' w' (hh.1 (ne_of_beq hjL)) hj hh.2⟩) h.2
/-- THE BEGINNING. -/
theorem wp_region_otl {id : Nat} {a : Act} {w : World} {l : List Oper} (L : Nat) (C : World → Prop) (t : OTL) (hm : P.follows .mixedOrders = true)
    (hB : (lastB .any l.toArray L && (Region.noSelect l.toArray && decide (t.len = l.length) && otlB l.toArray L .any t (Array.replicate l.length false))) = true)
    (hQ : ∀ c d v a w, Q (.panic c) (Act.put a d v) w → Q (.panic c) a w) (hC : C w.drew)
    (h : otlRun P l.toArray C L Q t a w.drew) : (Code.region id l.toArray true).wp P Q a w := by
  simp only [Bool.and_eq_true, decide_eq_true_eq] at hB
  obtain ⟨hl1, ⟨hs, hl⟩, hB⟩ := hB
  refine wp_region_any hm (wpAny_of_L (S := C) (L := L) _ _ _ _ ?_)
  have := wpAnyL_of_otl (md := .any) (P := P) hl1 hs hQ t _ a w.drew hC hB h
  rw [hl] at this
  simpa using this
theorem otl_seq {ord : List (Nat × Bool)} {t : OTL} {a : Act} {w : World} (h : seqRunL P ops C L Q (otlRun P ops C L Q t) ord a w) : otlRun P ops C L Q (.seq ord t) a w := h
theorem otl_leaf {ord : List (Nat × Bool)} {a : Act} {w : World} (h : seqRunL P ops C L Q (fun a w => Q .normal a w) ord a w) : otlRun P ops C L Q (.leaf ord) a w := h
theorem otl_two {i j : Nat} {ti tj : OTL} {a : Act} {w : World} (hi : seqRunL P ops C L Q (otlRun P ops C L Q ti) [(i, false)] a w) (hj : seqRunL P ops C L Q (otlRun P ops C L Q tj) [(j, false)] a w) : otlRun P ops C L Q (.two i j ti tj) a w := ⟨hi, hj⟩
end
end Go.Proofs.Ytghkldodceamcaa

namespace Go.Proofs.Ytghkldodceamcaa
open Go.RowKit

set_option maxRecDepth 100000 in
theorem lzClip_any (n cap : Nat) (ao : Option Addr) (w : World) (hn : n ≤ cap) (hm : n ≤ 1000000) (hc : cap ≤ maxLen) (hs : ao = none → n = 0) :
    Calls Try.prog 46 #[.slice ao n cap] w fun e w' => e = .returned (.slice ao n n) ∧ w' = w := by
  have hc' : cap ≤ 9223372036854775807 := hc
  cases ao with
  | none =>
    obtain rfl := hs rfl
    clear hs
    go_enter Try.func46, Try.ntmps46
    go_wp2_with fail
    go_ret
    exact ⟨rfl, rfl⟩
  | some a =>
    clear hs
    go_enter Try.func46, Try.ntmps46
    go_wp2_with fail
    go_ret
    exact ⟨rfl, rfl⟩
end Go.Proofs.Ytghkldodceamcaa

namespace Go.Proofs.Ytghkldodceamcaa
open Go.RowKit

/-- The blocks below number B are as in W, all but blocks X and X + 1. -/
def KeptY (B X : Nat) (W w' : World) : Prop := ∀ k, k < B → k ≠ X → k ≠ X + 1 → w'.heap[k]? = W.heap[k]?
theorem KeptY.refl (B X : Nat) (W : World) : KeptY B X W W := fun _ _ _ _ => rfl
theorem KeptY.drew {B X : Nat} {W w' : World} (h : KeptY B X W w') : KeptY B X W w'.drew := h
theorem KeptY.below {B X : Nat} {W w1 w2 : World} (h : KeptY B X W w1) (hb : Below B w1 w2) : KeptY B X W w2 := fun k hk hx hy => (hb.block k hk).trans (h k hk hx hy)
theorem KeptY.setCell {B X : Nat} {W w' : World} (h : KeptY B X W w') {p : Addr} (hp : p.block = X ∨ p.block = X + 1) (u : Value) : KeptY B X W (w'.setCell p u) := fun k hk hx hy =>
  (Below.heap_setCell _ _ _ _ (by omega)).trans (h k hk hx hy)
def SinceY (B X : Nat) (W : World) : Type := { w' : World // KeptY B X W w' }
instance {B X : Nat} {W : World} : Nonempty (SinceY B X W) := ⟨⟨W, KeptY.refl _ _ _⟩⟩
def SinceY.world {B X : Nat} {W : World} (x : SinceY B X W) : World := x.1
theorem SinceY.cell {B X : Nat} {W : World} {b o : Nat} (h : b < B) (hx : b ≠ X) (hy : b ≠ X + 1) {v : Option Value} (hv : W.cell? ⟨b, o, none⟩ = v) : ∀ x : SinceY B X W, x.world.cell? ⟨b, o, none⟩ = v := fun x => by
  rw [← hv]
  exact World.cell?_of_block (w := W) (a := ⟨b, o, none⟩) (x.2 b h hx hy)
theorem sincey {B X : Nat} {W w' : World} (h : KeptY B X W w') : ∃ x : SinceY B X W, w' = x.world := ⟨⟨w', h⟩, rfl⟩
/-- A block's cells. -/
theorem row_cell {w : World} {k : Nat} {cs : Array Value} {ty : TypeId} (h : w.heap[k]? = some (.cells cs ty (0, 0))) (j : Nat) : w.cell? ⟨k, j, none⟩ = cs[j]? := cell_of_row _ _ _ cs ty (0, 0) h
theorem row_fz {w : World} {k : Nat} {cs : Array Value} {ty : TypeId} (h : w.heap[k]? = some (.cells cs ty (0, 0))) (j : Nat) : w.frozen? ⟨k, j, none⟩ = false := by simp [World.frozen?, h]
theorem row_set {w : World} {k : Nat} {cs : Array Value} {ty : TypeId} (h : w.heap[k]? = some (.cells cs ty (0, 0))) (j : Nat) (v : Value) : (w.setCell ⟨k, j, none⟩ v).heap[k]? = some (.cells (cs.setIfInBounds j v) ty (0, 0)) := heap_setCell_same w k j cs ty v h
theorem row_other {w : World} {k b j : Nat} {v : Value} {x : Option Obj} (h : w.heap[k]? = x) (hk : k ≠ b) : (w.setCell ⟨b, j, none⟩ v).heap[k]? = x := (Below.heap_setCell _ _ _ _ hk).trans h
theorem row_lt {w : World} {k : Nat} {x : Obj} (h : w.heap[k]? = some x) : k < w.heap.size := (Array.getElem?_eq_some_iff.1 h).1
end Go.Proofs.Ytghkldodceamcaa

namespace Go.Proofs.Ytghkldodceamcaa
open Go.RowKit

abbrev tz : Array Value := #[.int .i64 0, .int .i64 0, .slice none 0 0]
abbrev lzz : Array Value := #[.int .u64 0, .int .u64 0, .string ⟨#[]⟩, .int .i64 0, .int .i64 0]
/-- Three cells of leases in block k. -/
def Tb (k : Nat) (c e s : Value) (w : World) : Prop := w.heap[k]? = some (.cells #[c, e, s] 24 (0, 0))
/-- Five cells of a lease in block k. -/
def Xb (k : Nat) (a b c d e : Value) (w : World) : Prop := w.heap[k]? = some (.cells #[a, b, c, d, e] 31 (0, 0))

theorem own_cap {w : World} {base : Nat} {e : TypeId} {size : Nat} {ao : Option Addr} {cap n : Nat} {xs : List Value} (h : w.ownsRow base e size (.slice ao n cap) n xs) : n ≤ cap ∧ cap ≤ maxLen ∧ (ao = none → n = 0) := by
  rcases h.2 with ⟨hv, h0⟩ | ⟨g, c, cur, hv, hg, hc, hn, hm, _⟩
  · cases hv; exact ⟨by omega, by simp [maxLen], fun _ => rfl⟩
  · cases hv; exact ⟨hn, hm, fun h => by cases h⟩
theorem own_sl {w : World} {base : Nat} {e : TypeId} {size : Nat} {ao : Option Addr} {cap n : Nat} {xs : List Value} (h : w.ownsRow base e size (.slice ao n cap) n xs) : Sl w size ao n xs := by
  obtain ⟨ao', cap', hv, _, _, hs⟩ := Sl.of_own h
  cases hv; exact hs
/-- 'append' onto a slice without room. -/
theorem wpList_append_full {P : Program} {ops : Array Oper} {rest : List Oper} {o : Oper} {a : Act} {Q : Exit → Act → World → Prop} {w : World} (hgd : o.guard = none) (s x : Operand) (t : TypeId)
    (ho : o.op = .call { callee := .builtin .append, args := #[s, x], argTypes := #[t, t] })
    (e : TypeId) (z : Value) (size bytes : Nat) (hinfo : (P.info? e).map (fun i => (i.zero, i.size, i.bytes)) = some (some z, size, bytes)) (ht : P.underlying t = some (.slice e)) (hzs : z.cells.size = size) (hsz : 0 < size)
    (ao : Option Addr) (n : Nat) (xs : List Value) (hs : a.eval s = .slice ao n n) (hnone : ao = none → n = 0) (hsl : Sl w size ao n xs)
    (k m : Nat) (us : Array Value) (ty : TypeId) (hx : a.eval x = .slice (some ⟨k, 0, none⟩) m m) (hk : w.heap[k]? = some (.cells us ty (0, 0))) (hus : us.size = m * size) (h1 : ∀ u ∈ us.toList, u.oneCell' = true) (hm : 0 < m)
    (h63 : n + m ≤ maxLen) (hbytes : (n + m) * bytes ≤ 140737488355328)
    (h : ∀ v' w', w'.ownsRow w.heap.size e size v' (n + m) (xs ++ us.toList) → Below w.heap.size w w' → wpList P ops Q rest (a.put o.dst v') w') : wpList P ops Q (o :: rest) a w := by
  obtain ⟨i, hi, hz0, hz1, hz2⟩ := info_parts hinfo
  refine wpList_append_grows w hgd s x t ho e i z size bytes ht hi hz0 hz1 hz2 hzs hsz ao n n xs hs (fun h => ⟨hnone h, hnone h⟩) hsl.1 ?_ ⟨k, 0, none⟩ m m us.toList hx (by simpa using hus) ?_ h1 (by omega) h63 hbytes ?_
  · intro b hb j u hu
    rcases hsl.2 with h0 | ⟨b', o', e', hlt, hc⟩
    · have := hsl.1
      rw [h0, Nat.zero_mul] at this
      rw [List.eq_nil_of_length_eq_zero this] at hu
      simp at hu
    · cases hb.symm.trans e'
      rw [Addr.add_lit]
      exact hc j u hu
  · intro j u hu
    rw [Addr.add_lit, Nat.zero_add, Lib.cell_of_heap hk]
    simpa using hu
  · intro v' w' hown' hg
    exact h v' w' hown' ((Below.refl _ _).grown hg (Nat.le_refl _) (fun k hk => by cases hk))
theorem own_set {w : World} {base b j : Nat} {e : TypeId} {size : Nat} {v u : Value} {n : Nat} {xs : List Value} (h : w.ownsRow base e size v n xs) (hb : b < base) : (w.setCell ⟨b, j, none⟩ u).ownsRow base e size v n xs := by
  refine ⟨h.1, h.2.imp id ?_⟩
  rintro ⟨g, cap, cur, hv, hg, hc, r⟩
  exact ⟨g, cap, cur, hv, hg, row_other hc (by omega), r⟩
abbrev putc (t : Ls) (job : Dg) (wk : ByteArray) (m : Int) : Array Value := #[.int .u64 job.1.toNat, .int .u64 job.2.toNat, .string wk, .int .i64 (t.clock + m), .int .i64 (t.epoch + 1)]

set_option maxRecDepth 100000 in
set_option maxHeartbeats 8000000 in
theorem with_any (t : Ls) (ao : Option Addr) (n cap : Nat) (job : Dg) (wk : ByteArray) (m : Int) (w : World) (h : LsA w ao n t) (hz : ao = none → cap = 0) (hn : n ≤ 10000) (hc : 0 ≤ t.clock) (he : 0 ≤ t.epoch) (he2 : t.epoch < 1099511627776) (hm : 1 ≤ m) (hm2 : m ≤ 1099511627776 - t.clock) :
    Calls Try.prog 30 #[.agg (tcells t ao n cap), dv job, .string wk, .int .i64 m] w fun e w' => ∃ v', e = .returned (.tuple #[.agg #[.int .i64 t.clock, .int .i64 (t.epoch + 1), v'], .agg (lzc (withX t job wk m))]) ∧ w'.ownsRow w.heap.size 31 5 v' (n + 1) (lzcells (withL t t.l job wk m).l) ∧ Below w.heap.size w w' := by
  obtain ⟨W, hW⟩ : ∃ y, ((((w.alloc (.cells #[.int .i64 t.clock, .int .i64 (t.epoch + 1), .slice ao n cap] 24)).alloc (.cells #[.int .u64 job.1.toNat, .int .u64 job.2.toNat] 27)).alloc (.cells tz 24)).alloc (.cells lzz 31)).alloc (.cells #[.int .u64 job.1.toNat, .int .u64 job.2.toNat, .string wk, .int .i64 (t.clock + m), .int .i64 (t.epoch + 1)] 31) = y := ⟨_, rfl⟩
  have hbW : Below w.heap.size w W := by
    rw [← hW]
    exact (((((Below.refl _ _).alloc (Nat.le_refl _) _).alloc (by simp) _).alloc (by simp; omega) _).alloc (by simp; omega) _).alloc (by simp; omega) _
  have zW : W.heap.size = w.heap.size + 1 + 1 + 1 + 1 + 1 := by rw [← hW]; simp only [World.size_alloc]
  have HT : Hid (Tb w.heap.size (.int .i64 t.clock) (.int .i64 (t.epoch + 1)) (.slice ao n cap) W) := lid (by
    rw [← hW]; unfold Tb
    iterate 4 rw [Below.heap_alloc _ _ _ (by simp only [World.size_alloc]; omega)]
    exact heap_alloc_new _ _)
  have HP : Hid (W.heap[w.heap.size + 1 + 1]? = some (.cells tz 24 (0, 0))) := lid (by
    rw [← hW]
    iterate 2 rw [Below.heap_alloc _ _ _ (by simp only [World.size_alloc]; omega)]
    have := heap_alloc_new ((w.alloc (.cells #[.int .i64 t.clock, .int .i64 (t.epoch + 1), .slice ao n cap] 24)).alloc (.cells #[.int .u64 job.1.toNat, .int .u64 job.2.toNat] 27)) (.cells tz 24)
    simp only [World.size_alloc] at this
    exact this)
  have HQ : Hid (W.heap[w.heap.size + 1 + 1 + 1]? = some (.cells lzz 31 (0, 0))) := lid (by
    rw [← hW]
    iterate 1 rw [Below.heap_alloc _ _ _ (by simp only [World.size_alloc]; omega)]
    have := heap_alloc_new (((w.alloc (.cells #[.int .i64 t.clock, .int .i64 (t.epoch + 1), .slice ao n cap] 24)).alloc (.cells #[.int .u64 job.1.toNat, .int .u64 job.2.toNat] 27)).alloc (.cells tz 24)) (.cells lzz 31)
    simp only [World.size_alloc] at this
    exact this)
  have HX : Hid (Xb (w.heap.size + 1 + 1 + 1 + 1) (.int .u64 job.1.toNat) (.int .u64 job.2.toNat) (.string wk) (.int .i64 (t.clock + m)) (.int .i64 (t.epoch + 1)) W) := lid (by
    rw [← hW]; unfold Xb
    have := heap_alloc_new ((((w.alloc (.cells #[.int .i64 t.clock, .int .i64 (t.epoch + 1), .slice ao n cap] 24)).alloc (.cells #[.int .u64 job.1.toNat, .int .u64 job.2.toNat] 27)).alloc (.cells tz 24)).alloc (.cells lzz 31)) (.cells #[.int .u64 job.1.toNat, .int .u64 job.2.toNat, .string wk, .int .i64 (t.clock + m), .int .i64 (t.epoch + 1)] 31)
    simp only [World.size_alloc] at this
    exact this)
  have HW := lid hW
  have HA := lid (h.below hbW)
  have Hb := lid hbW
  have HZ := lid hz
  clear h hz hW hbW
  go_enter Try.func30, Try.ntmps30
  go_wp2_with fail
  rw [HW.out]
  have c2 : W.cell? ⟨w.heap.size, 2, none⟩ = some (.slice ao n cap) := by rw [Lib.cell_of_heap HT.out]; rfl
  have x0 : W.cell? ⟨w.heap.size + 1 + 1 + 1 + 1, 0, none⟩ = some (.int .u64 job.1.toNat) := by rw [Lib.cell_of_heap HX.out]; rfl
  have x1 : W.cell? ⟨w.heap.size + 1 + 1 + 1 + 1, 1, none⟩ = some (.int .u64 job.2.toNat) := by rw [Lib.cell_of_heap HX.out]; rfl
  have x2 : W.cell? ⟨w.heap.size + 1 + 1 + 1 + 1, 2, none⟩ = some (.string wk) := by rw [Lib.cell_of_heap HX.out]; rfl
  have x3 : W.cell? ⟨w.heap.size + 1 + 1 + 1 + 1, 3, none⟩ = some (.int .i64 (t.clock + m)) := by rw [Lib.cell_of_heap HX.out]; rfl
  have x4 : W.cell? ⟨w.heap.size + 1 + 1 + 1 + 1, 4, none⟩ = some (.int .i64 (t.epoch + 1)) := by rw [Lib.cell_of_heap HX.out]; rfl
  have l0 : w.heap.size < W.heap.size := by omega
  have l4 : w.heap.size + 1 + 1 + 1 + 1 < W.heap.size := by omega
  have CL := lid (fun w1 (hb : Below W.heap.size W w1) => lzClone_any t.l n cap ao w1 HA.out.len (HA.out.below hb).sl HZ.out hn)
  clear HW
  replace zW := lid zW
  have hbd : Below W.heap.size W W.drew := (Below.refl _ _).drew
  refine wp_region_otl 8 (fun w' => ∃ s : Since W.heap.size W, w' = s.world) (.seq [(0, true), (1, true), (4, true)] (.two 2 5 (.two 3 5 (.leaf [(5, false), (6, false), (7, true), (8, false)]) (.leaf [(3, false), (6, false), (7, true), (8, false)])) (.leaf [(2, false), (3, false), (6, false), (7, true), (8, false)]))) (by kernel_rfl) (by kernel_rfl) (by intro c d v a w h; cases d <;> exact h) (since (Below.refl _ _).drew) (otl_seq ?_)
  iterate 3 (refine seqL_float (by rfl) (by rfl) (by rfl) (by rfl) ?_; intro K hK; go_big_quiet_op; go_big_quiet_on)
  refine seqL_nil (otl_two ?_ ?_)
  · refine seqL_chain (by rfl) ?_
    intro K hK
    go_wp2_with fail
    (with_reducible refine (CL.out _ (hbd)).mono ?_); rintro e w1 ⟨v1, rfl, hown, hb1⟩
    have hbWw1 : Below W.heap.size W w1 := (hbd).trans (hb1.mono (hbd).size)
    have HO1 : Hid (w1.ownsRow W.heap.size 31 5 v1 n (lzcells t.l)) := lid (ownsRow_base hown (hbd).size)
    obtain ⟨ao1, cap1, rfl⟩ := own_slice hown
    clear hown hb1
    go_wp2_with fail
    refine hK.out _ _ (since hbWw1) ?_
    clear hK K
    refine seqL_nil (otl_two ?_ ?_)
    · refine seqL_chain (by rfl) ?_
      intro K hK
      go_wp2_with fail
      have OC := lid (own_cap HO1.out)
      (with_reducible refine (lzClip_any n cap1 ao1 _ OC.out.1 (by omega) OC.out.2.1 OC.out.2.2).mono ?_); rintro e wc ⟨rfl, hwc⟩
      replace hwc := hwc.symm
      subst hwc
      go_wp2_with fail
      refine hK.out _ _ (since hbWw1) ?_
      clear hK K
      refine seqL_nil (otl_leaf ?_)
      refine seqL_chain (by rfl) ?_
      intro K hK
      go_wp2_with fail
      obtain ⟨wx, hwx⟩ : ∃ y, w1.alloc (.cells (putc t job wk m) 31) = y := ⟨_, rfl⟩
      have hbx : Below W.heap.size W wx := by rw [← hwx]; exact hbWw1.alloc hbWw1.size _
      have HLIT : Hid (wx.heap[w1.heap.size]? = some (.cells (putc t job wk m) 31 (0, 0))) := lid (by rw [← hwx]; exact heap_alloc_new _ _)
      have HWX := lid hwx
      clear hwx
      have HSL : Hid (Sl wx 5 ao1 n (lzcells t.l)) := lid (by rw [← HWX.out]; exact (own_sl HO1.out).alloc _)
      go_wp2_with fail
      rw [HWX.out]
      refine hK.out _ _ (since hbx) ?_
      clear hK K
      refine seqL_chain (by rfl) ?_
      intro K hK
      go_wp2_with (at_builtin; go_must (refine wpList_append_full rfl _ _ 22 rfl 31 (.agg #[.int .u64 0, .int .u64 0, .string ⟨#[]⟩, .int .i64 0, .int .i64 0]) 5 48 info_lz Try.underlying22 rfl (by decide) ao1 n (lzcells t.l) rfl OC.out.2.2 HSL.out w1.heap.size 1 (putc t job wk m) 31 rfl HLIT.out rfl (by simp [Value.oneCell']) (by omega) (by simp only [maxLen]; omega) (by omega) ?_))
      intro v5 w5 hown5 hb5
      have hb5W : Below W.heap.size W w5 := hbx.trans (hb5.mono hbx.size)
      have HO5 : Hid (w5.ownsRow W.heap.size 31 5 v5 (n + 1) (lzcells (withL t t.l job wk m).l)) := lid (by
        have e : lzcells (withL t t.l job wk m).l = lzcells t.l ++ (putc t job wk m).toList := by unfold withL; rw [lzcells_snoc]
        rw [e]; exact ownsRow_base hown5 hbx.size)
      obtain ⟨ao5, cap5, rfl⟩ := own_slice hown5
      clear hown5 hb5 HSL HLIT OC HO1
      go_wp2_with fail
      refine hK.out _ _ (since hb5W) ?_
      clear hK K
      repeat (first | (refine seqL_skip (by rfl) (by rfl) (by rfl) ?_; simp only [Act.put, List.setIfInBounds_toArray, List.set_cons_succ, List.set_cons_zero]) | (refine seqL_float (by rfl) (by rfl) (by rfl) (by rfl) ?_; intro K hK; go_big_quiet_op; go_big_quiet_on))
      have c2 := (bc hb5W l0 2).trans c2
      have z2 : w5.frozen? ⟨w.heap.size, 2, none⟩ = false := by
        have := (hb5W.block w.heap.size l0).trans HT.out
        simp [World.frozen?, this]
      refine seqL_last (by rfl) (by rfl) ?_
      intro K hK
      go_wp2_with fail
      refine hK.out _ _ ?_
      clear hK K
      go_wp2_with fail
      have HT5 := (hb5W.block w.heap.size l0).trans HT.out
      have HX5 := (hb5W.block (w.heap.size + 1 + 1 + 1 + 1) l4).trans HX.out
      have HP5 := (hb5W.block (w.heap.size + 1 + 1) (by have := zW.out; omega)).trans HP.out
      have HQ5 := (hb5W.block (w.heap.size + 1 + 1 + 1) (by have := zW.out; omega)).trans HQ.out
      clear c2 z2
      obtain ⟨W6, hW6⟩ : ∃ y, w5.setCell ⟨w.heap.size, 2, none⟩ (.slice ao5 (n + 1) cap5) = y := ⟨_, rfl⟩
      rw [hW6]
      have HT6 : W6.heap[w.heap.size]? = some (.cells #[.int .i64 t.clock, .int .i64 (t.epoch + 1), .slice ao5 (n + 1) cap5] 24 (0, 0)) := by rw [← hW6]; exact row_set HT5 _ _
      have HX6 : W6.heap[w.heap.size + 1 + 1 + 1 + 1]? = some (.cells (putc t job wk m) 31 (0, 0)) := by rw [← hW6]; exact row_other HX5 (by omega)
      have HP6 : W6.heap[w.heap.size + 1 + 1]? = some (.cells tz 24 (0, 0)) := by rw [← hW6]; exact row_other HP5 (by omega)
      have HQ6 : W6.heap[w.heap.size + 1 + 1 + 1]? = some (.cells lzz 31 (0, 0)) := by rw [← hW6]; exact row_other HQ5 (by omega)
      have HO6 : Hid (W6.ownsRow W.heap.size 31 5 (.slice ao5 (n + 1) cap5) (n + 1) (lzcells (withL t t.l job wk m).l)) := lid (by rw [← hW6]; exact own_set HO5.out l0)
      have hb6 : Below w.heap.size w W6 := by
        have hz := zW.out
        rw [← hW6]; exact (Hb.out.trans (hb5W.mono (by omega))).setCell (p := ⟨w.heap.size, 2, none⟩) (Nat.le_refl _) _
      have lW6 := row_lt HX6
      clear HT5 HX5 HP5 HQ5 hW6 HO5 hb5W
      have a0 := SinceY.cell (B := W6.heap.size) (X := w.heap.size + 1 + 1) (by omega) (by omega) (by omega) (row_cell HT6 0)
      have a1 := SinceY.cell (B := W6.heap.size) (X := w.heap.size + 1 + 1) (by omega) (by omega) (by omega) (row_cell HT6 1)
      have a2 := SinceY.cell (B := W6.heap.size) (X := w.heap.size + 1 + 1) (by omega) (by omega) (by omega) (row_cell HT6 2)
      have b0 := SinceY.cell (B := W6.heap.size) (X := w.heap.size + 1 + 1) lW6 (by omega) (by omega) (row_cell HX6 0)
      have b1 := SinceY.cell (B := W6.heap.size) (X := w.heap.size + 1 + 1) lW6 (by omega) (by omega) (row_cell HX6 1)
      have b2 := SinceY.cell (B := W6.heap.size) (X := w.heap.size + 1 + 1) lW6 (by omega) (by omega) (row_cell HX6 2)
      have b3 := SinceY.cell (B := W6.heap.size) (X := w.heap.size + 1 + 1) lW6 (by omega) (by omega) (row_cell HX6 3)
      have b4 := SinceY.cell (B := W6.heap.size) (X := w.heap.size + 1 + 1) lW6 (by omega) (by omega) (row_cell HX6 4)
      refine wp_region_seq (fun w' => ∃ s : SinceY W6.heap.size (w.heap.size + 1 + 1) W6, w' = s.world) [(0, true), (1, true), (2, false), (3, false)] (by kernel_rfl) (by kernel_rfl) (by intro c d v a w h; cases d <;> exact h) (sincey (KeptY.refl _ _ _).drew) ?_
      repeat (first | (refine seq_skip (by rfl) (by rfl) ?_; simp only [Act.put, List.setIfInBounds_toArray, List.set_cons_succ, List.set_cons_zero]) | (refine seq_float (by rfl) (by rfl) (by rfl) ?_; intro K hK; go_big_quiet_op; go_big_quiet_on))
      clear a0 a1 a2 b0 b1 b2 b3 b4
      have p0 := row_cell HP6 0
      have p1 := row_cell HP6 1
      have p2 := row_cell HP6 2
      have y0 := row_fz HP6 0
      have y1 := row_fz HP6 1
      have y2 := row_fz HP6 2
      refine seq_chain (by rfl) ?_
      intro K hK
      go_wp2_with fail
      clear p0 p1 p2 y0 y1 y2
      obtain ⟨W7, hW7⟩ : ∃ y, ((W6.setCell ⟨w.heap.size + 1 + 1, 0, none⟩ (.int .i64 t.clock)).setCell ⟨w.heap.size + 1 + 1, 1, none⟩ (.int .i64 (t.epoch + 1))).setCell ⟨w.heap.size + 1 + 1, 2, none⟩ (.slice ao5 (n + 1) cap5) = y := ⟨_, rfl⟩
      rw [hW7]
      have HP7 : W7.heap[w.heap.size + 1 + 1]? = some (.cells #[.int .i64 t.clock, .int .i64 (t.epoch + 1), .slice ao5 (n + 1) cap5] 24 (0, 0)) := by rw [← hW7]; exact row_set (row_set (row_set HP6 0 _) 1 _) 2 _
      have HQ7 : W7.heap[w.heap.size + 1 + 1 + 1]? = some (.cells lzz 31 (0, 0)) := by rw [← hW7]; exact row_other (row_other (row_other HQ6 (by omega)) (by omega)) (by omega)
      have HO7 : Hid (W7.ownsRow W.heap.size 31 5 (.slice ao5 (n + 1) cap5) (n + 1) (lzcells (withL t t.l job wk m).l)) := lid (by
        have hz := zW.out
        rw [← hW7]; exact own_set (own_set (own_set HO6.out (by omega)) (by omega)) (by omega))
      have hb7 : Below w.heap.size w W7 := by
        rw [← hW7]; exact ((hb6.setCell (p := ⟨w.heap.size + 1 + 1, 0, none⟩) (by simp only; omega) _).setCell (p := ⟨w.heap.size + 1 + 1, 1, none⟩) (by simp only; omega) _).setCell (p := ⟨w.heap.size + 1 + 1, 2, none⟩) (by simp only; omega) _
      have hk7 : KeptY W6.heap.size (w.heap.size + 1 + 1) W6 W7.drew := by
        rw [← hW7]; exact ((((KeptY.refl W6.heap.size (w.heap.size + 1 + 1) W6).setCell (p := ⟨w.heap.size + 1 + 1, 0, none⟩) (.inl rfl) _).setCell (p := ⟨w.heap.size + 1 + 1, 1, none⟩) (.inl rfl) _).setCell (p := ⟨w.heap.size + 1 + 1, 2, none⟩) (.inl rfl) _).drew
      clear hW7 HO6 HP6 HQ6 hb6 HT6 HX6
      refine hK.out _ _ (sincey hk7) ?_
      clear hK K
      repeat (first | (refine seq_skip (by rfl) (by rfl) ?_; simp only [Act.put, List.setIfInBounds_toArray, List.set_cons_succ, List.set_cons_zero]) | (refine seq_float (by rfl) (by rfl) (by rfl) ?_; intro K hK; go_big_quiet_op; go_big_quiet_on))
      have p0 := row_cell HQ7 0
      have p1 := row_cell HQ7 1
      have p2 := row_cell HQ7 2
      have p3 := row_cell HQ7 3
      have p4 := row_cell HQ7 4
      have y0 := row_fz HQ7 0
      have y1 := row_fz HQ7 1
      have y2 := row_fz HQ7 2
      have y3 := row_fz HQ7 3
      have y4 := row_fz HQ7 4
      refine seq_chain (by rfl) ?_
      intro K hK
      go_wp2_with fail
      clear p0 p1 p2 p3 p4 y0 y1 y2 y3 y4
      obtain ⟨W8, hW8⟩ : ∃ y, ((((W7.setCell ⟨w.heap.size + 1 + 1 + 1, 0, none⟩ (.int .u64 job.1.toNat)).setCell ⟨w.heap.size + 1 + 1 + 1, 1, none⟩ (.int .u64 job.2.toNat)).setCell ⟨w.heap.size + 1 + 1 + 1, 2, none⟩ (.string wk)).setCell ⟨w.heap.size + 1 + 1 + 1, 3, none⟩ (.int .i64 (t.clock + m))).setCell ⟨w.heap.size + 1 + 1 + 1, 4, none⟩ (.int .i64 (t.epoch + 1)) = y := ⟨_, rfl⟩
      rw [hW8]
      have HP8 : W8.heap[w.heap.size + 1 + 1]? = some (.cells #[.int .i64 t.clock, .int .i64 (t.epoch + 1), .slice ao5 (n + 1) cap5] 24 (0, 0)) := by
        rw [← hW8]
        iterate 5 refine row_other ?_ (by omega)
        exact HP7
      have HQ8 : W8.heap[w.heap.size + 1 + 1 + 1]? = some (.cells (putc t job wk m) 31 (0, 0)) := by rw [← hW8]; exact row_set (row_set (row_set (row_set (row_set HQ7 0 _) 1 _) 2 _) 3 _) 4 _
      have HO8 : Hid (W8.ownsRow W.heap.size 31 5 (.slice ao5 (n + 1) cap5) (n + 1) (lzcells (withL t t.l job wk m).l)) := lid (by
        have hz := zW.out
        rw [← hW8]
        iterate 5 refine own_set ?_ (by omega)
        exact HO7.out)
      have hb8 : Below w.heap.size w W8 := by
        rw [← hW8]; exact ((((hb7.setCell (p := ⟨w.heap.size + 1 + 1 + 1, 0, none⟩) (by simp only; omega) _).setCell (p := ⟨w.heap.size + 1 + 1 + 1, 1, none⟩) (by simp only; omega) _).setCell (p := ⟨w.heap.size + 1 + 1 + 1, 2, none⟩) (by simp only; omega) _).setCell (p := ⟨w.heap.size + 1 + 1 + 1, 3, none⟩) (by simp only; omega) _).setCell (p := ⟨w.heap.size + 1 + 1 + 1, 4, none⟩) (by simp only; omega) _
      have hk8 : KeptY W6.heap.size (w.heap.size + 1 + 1) W6 W8.drew := by
        rw [← hW8]
        exact (((((hk7.setCell (p := ⟨w.heap.size + 1 + 1 + 1, 0, none⟩) (.inr rfl) _).setCell (p := ⟨w.heap.size + 1 + 1 + 1, 1, none⟩) (.inr rfl) _).setCell (p := ⟨w.heap.size + 1 + 1 + 1, 2, none⟩) (.inr rfl) _).setCell (p := ⟨w.heap.size + 1 + 1 + 1, 3, none⟩) (.inr rfl) _).setCell (p := ⟨w.heap.size + 1 + 1 + 1, 4, none⟩) (.inr rfl) _).drew
      clear hW8 HO7 HP7 HQ7 hb7 hk7
      refine hK.out _ _ (sincey hk8) ?_
      clear hK K hk8
      refine seq_nil ?_
      have p0 := row_cell HP8 0
      have p1 := row_cell HP8 1
      have p2 := row_cell HP8 2
      have q0 := row_cell HQ8 0
      have q1 := row_cell HQ8 1
      have q2 := row_cell HQ8 2
      have q3 := row_cell HQ8 3
      have q4 := row_cell HQ8 4
      go_wp2_with fail
      exact bodyPost_ret (v := .tuple #[.agg #[.int .i64 t.clock, .int .i64 (t.epoch + 1), .slice ao5 (n + 1) cap5], .agg (lzc (withX t job wk m))]) (by simp [results, Try.results30, go_sem, p0, p1, p2, q0, q1, q2, q3, q4, withX]) rfl ⟨_, rfl, ownsRow_base (show W8.drew.ownsRow _ _ _ _ _ _ from HO8.out) (by have := zW.out; omega), hb8.drew⟩
    · refine seqL_chain (by rfl) ?_
      intro K hK
      go_wp2_with fail
      obtain ⟨wx, hwx⟩ : ∃ y, w1.alloc (.cells (putc t job wk m) 31) = y := ⟨_, rfl⟩
      have hbx : Below W.heap.size W wx := by rw [← hwx]; exact hbWw1.alloc hbWw1.size _
      have HLIT : Hid (wx.heap[w1.heap.size]? = some (.cells (putc t job wk m) 31 (0, 0))) := lid (by rw [← hwx]; exact heap_alloc_new _ _)
      have HWX := lid hwx
      clear hwx
      have HSL : Hid (Sl wx 5 ao1 n (lzcells t.l)) := lid (by rw [← HWX.out]; exact (own_sl HO1.out).alloc _)
      go_wp2_with fail
      rw [HWX.out]
      refine hK.out _ _ (since hbx) ?_
      clear hK K
      refine seqL_nil (otl_leaf ?_)
      refine seqL_chain (by rfl) ?_
      intro K hK
      go_wp2_with fail
      have OC := lid (own_cap HO1.out)
      (with_reducible refine (lzClip_any n cap1 ao1 _ OC.out.1 (by omega) OC.out.2.1 OC.out.2.2).mono ?_); rintro e wc ⟨rfl, hwc⟩
      replace hwc := hwc.symm
      subst hwc
      go_wp2_with fail
      refine hK.out _ _ (since hbx) ?_
      clear hK K
      refine seqL_chain (by rfl) ?_
      intro K hK
      go_wp2_with (at_builtin; go_must (refine wpList_append_full rfl _ _ 22 rfl 31 (.agg #[.int .u64 0, .int .u64 0, .string ⟨#[]⟩, .int .i64 0, .int .i64 0]) 5 48 info_lz Try.underlying22 rfl (by decide) ao1 n (lzcells t.l) rfl OC.out.2.2 HSL.out w1.heap.size 1 (putc t job wk m) 31 rfl HLIT.out rfl (by simp [Value.oneCell']) (by omega) (by simp only [maxLen]; omega) (by omega) ?_))
      intro v5 w5 hown5 hb5
      have hb5W : Below W.heap.size W w5 := hbx.trans (hb5.mono hbx.size)
      have HO5 : Hid (w5.ownsRow W.heap.size 31 5 v5 (n + 1) (lzcells (withL t t.l job wk m).l)) := lid (by
        have e : lzcells (withL t t.l job wk m).l = lzcells t.l ++ (putc t job wk m).toList := by unfold withL; rw [lzcells_snoc]
        rw [e]; exact ownsRow_base hown5 hbx.size)
      obtain ⟨ao5, cap5, rfl⟩ := own_slice hown5
      clear hown5 hb5 HSL HLIT OC HO1
      go_wp2_with fail
      refine hK.out _ _ (since hb5W) ?_
      clear hK K
      repeat (first | (refine seqL_skip (by rfl) (by rfl) (by rfl) ?_; simp only [Act.put, List.setIfInBounds_toArray, List.set_cons_succ, List.set_cons_zero]) | (refine seqL_float (by rfl) (by rfl) (by rfl) (by rfl) ?_; intro K hK; go_big_quiet_op; go_big_quiet_on))
      have c2 := (bc hb5W l0 2).trans c2
      have z2 : w5.frozen? ⟨w.heap.size, 2, none⟩ = false := by
        have := (hb5W.block w.heap.size l0).trans HT.out
        simp [World.frozen?, this]
      refine seqL_last (by rfl) (by rfl) ?_
      intro K hK
      go_wp2_with fail
      refine hK.out _ _ ?_
      clear hK K
      go_wp2_with fail
      have HT5 := (hb5W.block w.heap.size l0).trans HT.out
      have HX5 := (hb5W.block (w.heap.size + 1 + 1 + 1 + 1) l4).trans HX.out
      have HP5 := (hb5W.block (w.heap.size + 1 + 1) (by have := zW.out; omega)).trans HP.out
      have HQ5 := (hb5W.block (w.heap.size + 1 + 1 + 1) (by have := zW.out; omega)).trans HQ.out
      clear c2 z2
      obtain ⟨W6, hW6⟩ : ∃ y, w5.setCell ⟨w.heap.size, 2, none⟩ (.slice ao5 (n + 1) cap5) = y := ⟨_, rfl⟩
      rw [hW6]
      have HT6 : W6.heap[w.heap.size]? = some (.cells #[.int .i64 t.clock, .int .i64 (t.epoch + 1), .slice ao5 (n + 1) cap5] 24 (0, 0)) := by rw [← hW6]; exact row_set HT5 _ _
      have HX6 : W6.heap[w.heap.size + 1 + 1 + 1 + 1]? = some (.cells (putc t job wk m) 31 (0, 0)) := by rw [← hW6]; exact row_other HX5 (by omega)
      have HP6 : W6.heap[w.heap.size + 1 + 1]? = some (.cells tz 24 (0, 0)) := by rw [← hW6]; exact row_other HP5 (by omega)
      have HQ6 : W6.heap[w.heap.size + 1 + 1 + 1]? = some (.cells lzz 31 (0, 0)) := by rw [← hW6]; exact row_other HQ5 (by omega)
      have HO6 : Hid (W6.ownsRow W.heap.size 31 5 (.slice ao5 (n + 1) cap5) (n + 1) (lzcells (withL t t.l job wk m).l)) := lid (by rw [← hW6]; exact own_set HO5.out l0)
      have hb6 : Below w.heap.size w W6 := by
        have hz := zW.out
        rw [← hW6]; exact (Hb.out.trans (hb5W.mono (by omega))).setCell (p := ⟨w.heap.size, 2, none⟩) (Nat.le_refl _) _
      have lW6 := row_lt HX6
      clear HT5 HX5 HP5 HQ5 hW6 HO5 hb5W
      have a0 := SinceY.cell (B := W6.heap.size) (X := w.heap.size + 1 + 1) (by omega) (by omega) (by omega) (row_cell HT6 0)
      have a1 := SinceY.cell (B := W6.heap.size) (X := w.heap.size + 1 + 1) (by omega) (by omega) (by omega) (row_cell HT6 1)
      have a2 := SinceY.cell (B := W6.heap.size) (X := w.heap.size + 1 + 1) (by omega) (by omega) (by omega) (row_cell HT6 2)
      have b0 := SinceY.cell (B := W6.heap.size) (X := w.heap.size + 1 + 1) lW6 (by omega) (by omega) (row_cell HX6 0)
      have b1 := SinceY.cell (B := W6.heap.size) (X := w.heap.size + 1 + 1) lW6 (by omega) (by omega) (row_cell HX6 1)
      have b2 := SinceY.cell (B := W6.heap.size) (X := w.heap.size + 1 + 1) lW6 (by omega) (by omega) (row_cell HX6 2)
      have b3 := SinceY.cell (B := W6.heap.size) (X := w.heap.size + 1 + 1) lW6 (by omega) (by omega) (row_cell HX6 3)
      have b4 := SinceY.cell (B := W6.heap.size) (X := w.heap.size + 1 + 1) lW6 (by omega) (by omega) (row_cell HX6 4)
      refine wp_region_seq (fun w' => ∃ s : SinceY W6.heap.size (w.heap.size + 1 + 1) W6, w' = s.world) [(0, true), (1, true), (2, false), (3, false)] (by kernel_rfl) (by kernel_rfl) (by intro c d v a w h; cases d <;> exact h) (sincey (KeptY.refl _ _ _).drew) ?_
      repeat (first | (refine seq_skip (by rfl) (by rfl) ?_; simp only [Act.put, List.setIfInBounds_toArray, List.set_cons_succ, List.set_cons_zero]) | (refine seq_float (by rfl) (by rfl) (by rfl) ?_; intro K hK; go_big_quiet_op; go_big_quiet_on))
      clear a0 a1 a2 b0 b1 b2 b3 b4
      have p0 := row_cell HP6 0
      have p1 := row_cell HP6 1
      have p2 := row_cell HP6 2
      have y0 := row_fz HP6 0
      have y1 := row_fz HP6 1
      have y2 := row_fz HP6 2
      refine seq_chain (by rfl) ?_
      intro K hK
      go_wp2_with fail
      clear p0 p1 p2 y0 y1 y2
      obtain ⟨W7, hW7⟩ : ∃ y, ((W6.setCell ⟨w.heap.size + 1 + 1, 0, none⟩ (.int .i64 t.clock)).setCell ⟨w.heap.size + 1 + 1, 1, none⟩ (.int .i64 (t.epoch + 1))).setCell ⟨w.heap.size + 1 + 1, 2, none⟩ (.slice ao5 (n + 1) cap5) = y := ⟨_, rfl⟩
      rw [hW7]
      have HP7 : W7.heap[w.heap.size + 1 + 1]? = some (.cells #[.int .i64 t.clock, .int .i64 (t.epoch + 1), .slice ao5 (n + 1) cap5] 24 (0, 0)) := by rw [← hW7]; exact row_set (row_set (row_set HP6 0 _) 1 _) 2 _
      have HQ7 : W7.heap[w.heap.size + 1 + 1 + 1]? = some (.cells lzz 31 (0, 0)) := by rw [← hW7]; exact row_other (row_other (row_other HQ6 (by omega)) (by omega)) (by omega)
      have HO7 : Hid (W7.ownsRow W.heap.size 31 5 (.slice ao5 (n + 1) cap5) (n + 1) (lzcells (withL t t.l job wk m).l)) := lid (by
        have hz := zW.out
        rw [← hW7]; exact own_set (own_set (own_set HO6.out (by omega)) (by omega)) (by omega))
      have hb7 : Below w.heap.size w W7 := by
        rw [← hW7]; exact ((hb6.setCell (p := ⟨w.heap.size + 1 + 1, 0, none⟩) (by simp only; omega) _).setCell (p := ⟨w.heap.size + 1 + 1, 1, none⟩) (by simp only; omega) _).setCell (p := ⟨w.heap.size + 1 + 1, 2, none⟩) (by simp only; omega) _
      have hk7 : KeptY W6.heap.size (w.heap.size + 1 + 1) W6 W7.drew := by
        rw [← hW7]; exact ((((KeptY.refl W6.heap.size (w.heap.size + 1 + 1) W6).setCell (p := ⟨w.heap.size + 1 + 1, 0, none⟩) (.inl rfl) _).setCell (p := ⟨w.heap.size + 1 + 1, 1, none⟩) (.inl rfl) _).setCell (p := ⟨w.heap.size + 1 + 1, 2, none⟩) (.inl rfl) _).drew
      clear hW7 HO6 HP6 HQ6 hb6 HT6 HX6
      refine hK.out _ _ (sincey hk7) ?_
      clear hK K
      repeat (first | (refine seq_skip (by rfl) (by rfl) ?_; simp only [Act.put, List.setIfInBounds_toArray, List.set_cons_succ, List.set_cons_zero]) | (refine seq_float (by rfl) (by rfl) (by rfl) ?_; intro K hK; go_big_quiet_op; go_big_quiet_on))
      have p0 := row_cell HQ7 0
      have p1 := row_cell HQ7 1
      have p2 := row_cell HQ7 2
      have p3 := row_cell HQ7 3
      have p4 := row_cell HQ7 4
      have y0 := row_fz HQ7 0
      have y1 := row_fz HQ7 1
      have y2 := row_fz HQ7 2
      have y3 := row_fz HQ7 3
      have y4 := row_fz HQ7 4
      refine seq_chain (by rfl) ?_
      intro K hK
      go_wp2_with fail
      clear p0 p1 p2 p3 p4 y0 y1 y2 y3 y4
      obtain ⟨W8, hW8⟩ : ∃ y, ((((W7.setCell ⟨w.heap.size + 1 + 1 + 1, 0, none⟩ (.int .u64 job.1.toNat)).setCell ⟨w.heap.size + 1 + 1 + 1, 1, none⟩ (.int .u64 job.2.toNat)).setCell ⟨w.heap.size + 1 + 1 + 1, 2, none⟩ (.string wk)).setCell ⟨w.heap.size + 1 + 1 + 1, 3, none⟩ (.int .i64 (t.clock + m))).setCell ⟨w.heap.size + 1 + 1 + 1, 4, none⟩ (.int .i64 (t.epoch + 1)) = y := ⟨_, rfl⟩
      rw [hW8]
      have HP8 : W8.heap[w.heap.size + 1 + 1]? = some (.cells #[.int .i64 t.clock, .int .i64 (t.epoch + 1), .slice ao5 (n + 1) cap5] 24 (0, 0)) := by
        rw [← hW8]
        iterate 5 refine row_other ?_ (by omega)
        exact HP7
      have HQ8 : W8.heap[w.heap.size + 1 + 1 + 1]? = some (.cells (putc t job wk m) 31 (0, 0)) := by rw [← hW8]; exact row_set (row_set (row_set (row_set (row_set HQ7 0 _) 1 _) 2 _) 3 _) 4 _
      have HO8 : Hid (W8.ownsRow W.heap.size 31 5 (.slice ao5 (n + 1) cap5) (n + 1) (lzcells (withL t t.l job wk m).l)) := lid (by
        have hz := zW.out
        rw [← hW8]
        iterate 5 refine own_set ?_ (by omega)
        exact HO7.out)
      have hb8 : Below w.heap.size w W8 := by
        rw [← hW8]; exact ((((hb7.setCell (p := ⟨w.heap.size + 1 + 1 + 1, 0, none⟩) (by simp only; omega) _).setCell (p := ⟨w.heap.size + 1 + 1 + 1, 1, none⟩) (by simp only; omega) _).setCell (p := ⟨w.heap.size + 1 + 1 + 1, 2, none⟩) (by simp only; omega) _).setCell (p := ⟨w.heap.size + 1 + 1 + 1, 3, none⟩) (by simp only; omega) _).setCell (p := ⟨w.heap.size + 1 + 1 + 1, 4, none⟩) (by simp only; omega) _
      have hk8 : KeptY W6.heap.size (w.heap.size + 1 + 1) W6 W8.drew := by
        rw [← hW8]
        exact (((((hk7.setCell (p := ⟨w.heap.size + 1 + 1 + 1, 0, none⟩) (.inr rfl) _).setCell (p := ⟨w.heap.size + 1 + 1 + 1, 1, none⟩) (.inr rfl) _).setCell (p := ⟨w.heap.size + 1 + 1 + 1, 2, none⟩) (.inr rfl) _).setCell (p := ⟨w.heap.size + 1 + 1 + 1, 3, none⟩) (.inr rfl) _).setCell (p := ⟨w.heap.size + 1 + 1 + 1, 4, none⟩) (.inr rfl) _).drew
      clear hW8 HO7 HP7 HQ7 hb7 hk7
      refine hK.out _ _ (sincey hk8) ?_
      clear hK K hk8
      refine seq_nil ?_
      have p0 := row_cell HP8 0
      have p1 := row_cell HP8 1
      have p2 := row_cell HP8 2
      have q0 := row_cell HQ8 0
      have q1 := row_cell HQ8 1
      have q2 := row_cell HQ8 2
      have q3 := row_cell HQ8 3
      have q4 := row_cell HQ8 4
      go_wp2_with fail
      exact bodyPost_ret (v := .tuple #[.agg #[.int .i64 t.clock, .int .i64 (t.epoch + 1), .slice ao5 (n + 1) cap5], .agg (lzc (withX t job wk m))]) (by simp [results, Try.results30, go_sem, p0, p1, p2, q0, q1, q2, q3, q4, withX]) rfl ⟨_, rfl, ownsRow_base (show W8.drew.ownsRow _ _ _ _ _ _ from HO8.out) (by have := zW.out; omega), hb8.drew⟩
  · refine seqL_chain (by rfl) ?_
    intro K hK
    go_wp2_with fail
    obtain ⟨w0, hwx⟩ : ∃ y, W.alloc (.cells (putc t job wk m) 31) = y := ⟨_, rfl⟩
    have hbx : Below W.heap.size W w0 := by rw [← hwx]; exact (Below.refl W.heap.size W).alloc (Below.refl W.heap.size W).size _
    have HLIT : Hid (w0.heap[W.heap.size]? = some (.cells (putc t job wk m) 31 (0, 0))) := lid (by rw [← hwx]; exact heap_alloc_new _ _)
    have HWX := lid hwx
    clear hwx
    go_wp2_with fail
    rw [HWX.out]
    refine hK.out _ _ (since hbx.drew) ?_
    clear hK K
    refine seqL_nil (otl_leaf ?_)
    refine seqL_chain (by rfl) ?_
    intro K hK
    go_wp2_with fail
    have zw0 : w0.heap.size = W.heap.size + 1 := by rw [← HWX.out]; simp
    (with_reducible refine (CL.out _ hbx.drew).mono ?_); rintro e wx ⟨v1, rfl, hown, hb1⟩
    have hbx : Below W.heap.size W wx := hbx.drew.trans (hb1.mono hbx.size)
    have HLIT := lid ((hb1.block W.heap.size (by show W.heap.size < w0.heap.size; rw [zw0]; exact Nat.lt_succ_self _)).trans HLIT.out)
    have HO1 : Hid (wx.ownsRow W.heap.size 31 5 v1 n (lzcells t.l)) := lid (ownsRow_base hown (by show W.heap.size ≤ w0.heap.size; omega))
    obtain ⟨ao1, cap1, rfl⟩ := own_slice hown
    have HSL := lid (own_sl HO1.out)
    clear hown hb1
    go_wp2_with fail
    refine hK.out _ _ (since hbx) ?_
    clear hK K
    refine seqL_chain (by rfl) ?_
    intro K hK
    go_wp2_with fail
    have OC := lid (own_cap HO1.out)
    (with_reducible refine (lzClip_any n cap1 ao1 _ OC.out.1 (by omega) OC.out.2.1 OC.out.2.2).mono ?_); rintro e wc ⟨rfl, hwc⟩
    replace hwc := hwc.symm
    subst hwc
    go_wp2_with fail
    refine hK.out _ _ (since hbx) ?_
    clear hK K
    refine seqL_chain (by rfl) ?_
    intro K hK
    go_wp2_with (at_builtin; go_must (refine wpList_append_full rfl _ _ 22 rfl 31 (.agg #[.int .u64 0, .int .u64 0, .string ⟨#[]⟩, .int .i64 0, .int .i64 0]) 5 48 info_lz Try.underlying22 rfl (by decide) ao1 n (lzcells t.l) rfl OC.out.2.2 HSL.out W.heap.size 1 (putc t job wk m) 31 rfl HLIT.out rfl (by simp [Value.oneCell']) (by omega) (by simp only [maxLen]; omega) (by omega) ?_))
    intro v5 w5 hown5 hb5
    have hb5W : Below W.heap.size W w5 := hbx.trans (hb5.mono hbx.size)
    have HO5 : Hid (w5.ownsRow W.heap.size 31 5 v5 (n + 1) (lzcells (withL t t.l job wk m).l)) := lid (by
      have e : lzcells (withL t t.l job wk m).l = lzcells t.l ++ (putc t job wk m).toList := by unfold withL; rw [lzcells_snoc]
      rw [e]; exact ownsRow_base hown5 hbx.size)
    obtain ⟨ao5, cap5, rfl⟩ := own_slice hown5
    clear hown5 hb5 HSL HLIT OC HO1
    go_wp2_with fail
    refine hK.out _ _ (since hb5W) ?_
    clear hK K
    repeat (first | (refine seqL_skip (by rfl) (by rfl) (by rfl) ?_; simp only [Act.put, List.setIfInBounds_toArray, List.set_cons_succ, List.set_cons_zero]) | (refine seqL_float (by rfl) (by rfl) (by rfl) (by rfl) ?_; intro K hK; go_big_quiet_op; go_big_quiet_on))
    have c2 := (bc hb5W l0 2).trans c2
    have z2 : w5.frozen? ⟨w.heap.size, 2, none⟩ = false := by
      have := (hb5W.block w.heap.size l0).trans HT.out
      simp [World.frozen?, this]
    refine seqL_last (by rfl) (by rfl) ?_
    intro K hK
    go_wp2_with fail
    refine hK.out _ _ ?_
    clear hK K
    go_wp2_with fail
    have HT5 := (hb5W.block w.heap.size l0).trans HT.out
    have HX5 := (hb5W.block (w.heap.size + 1 + 1 + 1 + 1) l4).trans HX.out
    have HP5 := (hb5W.block (w.heap.size + 1 + 1) (by have := zW.out; omega)).trans HP.out
    have HQ5 := (hb5W.block (w.heap.size + 1 + 1 + 1) (by have := zW.out; omega)).trans HQ.out
    clear c2 z2
    obtain ⟨W6, hW6⟩ : ∃ y, w5.setCell ⟨w.heap.size, 2, none⟩ (.slice ao5 (n + 1) cap5) = y := ⟨_, rfl⟩
    rw [hW6]
    have HT6 : W6.heap[w.heap.size]? = some (.cells #[.int .i64 t.clock, .int .i64 (t.epoch + 1), .slice ao5 (n + 1) cap5] 24 (0, 0)) := by rw [← hW6]; exact row_set HT5 _ _
    have HX6 : W6.heap[w.heap.size + 1 + 1 + 1 + 1]? = some (.cells (putc t job wk m) 31 (0, 0)) := by rw [← hW6]; exact row_other HX5 (by omega)
    have HP6 : W6.heap[w.heap.size + 1 + 1]? = some (.cells tz 24 (0, 0)) := by rw [← hW6]; exact row_other HP5 (by omega)
    have HQ6 : W6.heap[w.heap.size + 1 + 1 + 1]? = some (.cells lzz 31 (0, 0)) := by rw [← hW6]; exact row_other HQ5 (by omega)
    have HO6 : Hid (W6.ownsRow W.heap.size 31 5 (.slice ao5 (n + 1) cap5) (n + 1) (lzcells (withL t t.l job wk m).l)) := lid (by rw [← hW6]; exact own_set HO5.out l0)
    have hb6 : Below w.heap.size w W6 := by
      have hz := zW.out
      rw [← hW6]; exact (Hb.out.trans (hb5W.mono (by omega))).setCell (p := ⟨w.heap.size, 2, none⟩) (Nat.le_refl _) _
    have lW6 := row_lt HX6
    clear HT5 HX5 HP5 HQ5 hW6 HO5 hb5W
    have a0 := SinceY.cell (B := W6.heap.size) (X := w.heap.size + 1 + 1) (by omega) (by omega) (by omega) (row_cell HT6 0)
    have a1 := SinceY.cell (B := W6.heap.size) (X := w.heap.size + 1 + 1) (by omega) (by omega) (by omega) (row_cell HT6 1)
    have a2 := SinceY.cell (B := W6.heap.size) (X := w.heap.size + 1 + 1) (by omega) (by omega) (by omega) (row_cell HT6 2)
    have b0 := SinceY.cell (B := W6.heap.size) (X := w.heap.size + 1 + 1) lW6 (by omega) (by omega) (row_cell HX6 0)
    have b1 := SinceY.cell (B := W6.heap.size) (X := w.heap.size + 1 + 1) lW6 (by omega) (by omega) (row_cell HX6 1)
    have b2 := SinceY.cell (B := W6.heap.size) (X := w.heap.size + 1 + 1) lW6 (by omega) (by omega) (row_cell HX6 2)
    have b3 := SinceY.cell (B := W6.heap.size) (X := w.heap.size + 1 + 1) lW6 (by omega) (by omega) (row_cell HX6 3)
    have b4 := SinceY.cell (B := W6.heap.size) (X := w.heap.size + 1 + 1) lW6 (by omega) (by omega) (row_cell HX6 4)
    refine wp_region_seq (fun w' => ∃ s : SinceY W6.heap.size (w.heap.size + 1 + 1) W6, w' = s.world) [(0, true), (1, true), (2, false), (3, false)] (by kernel_rfl) (by kernel_rfl) (by intro c d v a w h; cases d <;> exact h) (sincey (KeptY.refl _ _ _).drew) ?_
    repeat (first | (refine seq_skip (by rfl) (by rfl) ?_; simp only [Act.put, List.setIfInBounds_toArray, List.set_cons_succ, List.set_cons_zero]) | (refine seq_float (by rfl) (by rfl) (by rfl) ?_; intro K hK; go_big_quiet_op; go_big_quiet_on))
    clear a0 a1 a2 b0 b1 b2 b3 b4
    have p0 := row_cell HP6 0
    have p1 := row_cell HP6 1
    have p2 := row_cell HP6 2
    have y0 := row_fz HP6 0
    have y1 := row_fz HP6 1
    have y2 := row_fz HP6 2
    refine seq_chain (by rfl) ?_
    intro K hK
    go_wp2_with fail
    clear p0 p1 p2 y0 y1 y2
    obtain ⟨W7, hW7⟩ : ∃ y, ((W6.setCell ⟨w.heap.size + 1 + 1, 0, none⟩ (.int .i64 t.clock)).setCell ⟨w.heap.size + 1 + 1, 1, none⟩ (.int .i64 (t.epoch + 1))).setCell ⟨w.heap.size + 1 + 1, 2, none⟩ (.slice ao5 (n + 1) cap5) = y := ⟨_, rfl⟩
    rw [hW7]
    have HP7 : W7.heap[w.heap.size + 1 + 1]? = some (.cells #[.int .i64 t.clock, .int .i64 (t.epoch + 1), .slice ao5 (n + 1) cap5] 24 (0, 0)) := by rw [← hW7]; exact row_set (row_set (row_set HP6 0 _) 1 _) 2 _
    have HQ7 : W7.heap[w.heap.size + 1 + 1 + 1]? = some (.cells lzz 31 (0, 0)) := by rw [← hW7]; exact row_other (row_other (row_other HQ6 (by omega)) (by omega)) (by omega)
    have HO7 : Hid (W7.ownsRow W.heap.size 31 5 (.slice ao5 (n + 1) cap5) (n + 1) (lzcells (withL t t.l job wk m).l)) := lid (by
      have hz := zW.out
      rw [← hW7]; exact own_set (own_set (own_set HO6.out (by omega)) (by omega)) (by omega))
    have hb7 : Below w.heap.size w W7 := by
      rw [← hW7]; exact ((hb6.setCell (p := ⟨w.heap.size + 1 + 1, 0, none⟩) (by simp only; omega) _).setCell (p := ⟨w.heap.size + 1 + 1, 1, none⟩) (by simp only; omega) _).setCell (p := ⟨w.heap.size + 1 + 1, 2, none⟩) (by simp only; omega) _
    have hk7 : KeptY W6.heap.size (w.heap.size + 1 + 1) W6 W7.drew := by
      rw [← hW7]; exact ((((KeptY.refl W6.heap.size (w.heap.size + 1 + 1) W6).setCell (p := ⟨w.heap.size + 1 + 1, 0, none⟩) (.inl rfl) _).setCell (p := ⟨w.heap.size + 1 + 1, 1, none⟩) (.inl rfl) _).setCell (p := ⟨w.heap.size + 1 + 1, 2, none⟩) (.inl rfl) _).drew
    clear hW7 HO6 HP6 HQ6 hb6 HT6 HX6
    refine hK.out _ _ (sincey hk7) ?_
    clear hK K
    repeat (first | (refine seq_skip (by rfl) (by rfl) ?_; simp only [Act.put, List.setIfInBounds_toArray, List.set_cons_succ, List.set_cons_zero]) | (refine seq_float (by rfl) (by rfl) (by rfl) ?_; intro K hK; go_big_quiet_op; go_big_quiet_on))
    have p0 := row_cell HQ7 0
    have p1 := row_cell HQ7 1
    have p2 := row_cell HQ7 2
    have p3 := row_cell HQ7 3
    have p4 := row_cell HQ7 4
    have y0 := row_fz HQ7 0
    have y1 := row_fz HQ7 1
    have y2 := row_fz HQ7 2
    have y3 := row_fz HQ7 3
    have y4 := row_fz HQ7 4
    refine seq_chain (by rfl) ?_
    intro K hK
    go_wp2_with fail
    clear p0 p1 p2 p3 p4 y0 y1 y2 y3 y4
    obtain ⟨W8, hW8⟩ : ∃ y, ((((W7.setCell ⟨w.heap.size + 1 + 1 + 1, 0, none⟩ (.int .u64 job.1.toNat)).setCell ⟨w.heap.size + 1 + 1 + 1, 1, none⟩ (.int .u64 job.2.toNat)).setCell ⟨w.heap.size + 1 + 1 + 1, 2, none⟩ (.string wk)).setCell ⟨w.heap.size + 1 + 1 + 1, 3, none⟩ (.int .i64 (t.clock + m))).setCell ⟨w.heap.size + 1 + 1 + 1, 4, none⟩ (.int .i64 (t.epoch + 1)) = y := ⟨_, rfl⟩
    rw [hW8]
    have HP8 : W8.heap[w.heap.size + 1 + 1]? = some (.cells #[.int .i64 t.clock, .int .i64 (t.epoch + 1), .slice ao5 (n + 1) cap5] 24 (0, 0)) := by
      rw [← hW8]
      iterate 5 refine row_other ?_ (by omega)
      exact HP7
    have HQ8 : W8.heap[w.heap.size + 1 + 1 + 1]? = some (.cells (putc t job wk m) 31 (0, 0)) := by rw [← hW8]; exact row_set (row_set (row_set (row_set (row_set HQ7 0 _) 1 _) 2 _) 3 _) 4 _
    have HO8 : Hid (W8.ownsRow W.heap.size 31 5 (.slice ao5 (n + 1) cap5) (n + 1) (lzcells (withL t t.l job wk m).l)) := lid (by
      have hz := zW.out
      rw [← hW8]
      iterate 5 refine own_set ?_ (by omega)
      exact HO7.out)
    have hb8 : Below w.heap.size w W8 := by
      rw [← hW8]; exact ((((hb7.setCell (p := ⟨w.heap.size + 1 + 1 + 1, 0, none⟩) (by simp only; omega) _).setCell (p := ⟨w.heap.size + 1 + 1 + 1, 1, none⟩) (by simp only; omega) _).setCell (p := ⟨w.heap.size + 1 + 1 + 1, 2, none⟩) (by simp only; omega) _).setCell (p := ⟨w.heap.size + 1 + 1 + 1, 3, none⟩) (by simp only; omega) _).setCell (p := ⟨w.heap.size + 1 + 1 + 1, 4, none⟩) (by simp only; omega) _
    have hk8 : KeptY W6.heap.size (w.heap.size + 1 + 1) W6 W8.drew := by
      rw [← hW8]
      exact (((((hk7.setCell (p := ⟨w.heap.size + 1 + 1 + 1, 0, none⟩) (.inr rfl) _).setCell (p := ⟨w.heap.size + 1 + 1 + 1, 1, none⟩) (.inr rfl) _).setCell (p := ⟨w.heap.size + 1 + 1 + 1, 2, none⟩) (.inr rfl) _).setCell (p := ⟨w.heap.size + 1 + 1 + 1, 3, none⟩) (.inr rfl) _).setCell (p := ⟨w.heap.size + 1 + 1 + 1, 4, none⟩) (.inr rfl) _).drew
    clear hW8 HO7 HP7 HQ7 hb7 hk7
    refine hK.out _ _ (sincey hk8) ?_
    clear hK K hk8
    refine seq_nil ?_
    have p0 := row_cell HP8 0
    have p1 := row_cell HP8 1
    have p2 := row_cell HP8 2
    have q0 := row_cell HQ8 0
    have q1 := row_cell HQ8 1
    have q2 := row_cell HQ8 2
    have q3 := row_cell HQ8 3
    have q4 := row_cell HQ8 4
    go_wp2_with fail
    exact bodyPost_ret (v := .tuple #[.agg #[.int .i64 t.clock, .int .i64 (t.epoch + 1), .slice ao5 (n + 1) cap5], .agg (lzc (withX t job wk m))]) (by simp [results, Try.results30, go_sem, p0, p1, p2, q0, q1, q2, q3, q4, withX]) rfl ⟨_, rfl, ownsRow_base (show W8.drew.ownsRow _ _ _ _ _ _ from HO8.out) (by have := zW.out; omega), hb8.drew⟩
end Go.Proofs.Ytghkldodceamcaa
