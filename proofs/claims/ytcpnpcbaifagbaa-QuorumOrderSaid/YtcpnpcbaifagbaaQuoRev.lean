/-
  Ballots: slices.Reverse over votes.
-/
import Derived.Laws.OwnMore
import Derived.Test.YtcpnpcbaifagbaaQuoIns
namespace Go.Proofs.Ytcpnpcbaifagbaa
open Go.RowKit
theorem vcells_cons (a : Vt) (l : List Vt) : vcells (a :: l) = .string a.1 :: .string a.2 :: vcells l := by simp [vcells]
theorem vcells_set : ∀ (l : List Vt) (i : Nat) (v : Vt), ((vcells l).set (i * 2) (.string v.1)).set (i * 2 + 1) (.string v.2) = vcells (l.set i v)
  | [], i, v => by simp [vcells]
  | a :: l, 0, v => by rw [vcells_cons]; simp [vcells_cons]
  | a :: l, i + 1, v => by
    rw [vcells_cons, List.set_cons_succ, vcells_cons, ← vcells_set l i v, show (i + 1) * 2 = i * 2 + 1 + 1 by omega]
    simp only [List.set_cons_succ]
theorem own_some {w : World} {base : Nat} {e : TypeId} {g n cap : Nat} {xs : List Value} {j : Nat} (h : w.ownsRow base e 2 (.slice (some ⟨g, 0, none⟩) n cap) n xs) (hj : j < n * 2) : ∃ u, w.cell? ⟨g, j, none⟩ = some u := by
  have hx := h.1
  exact ⟨xs[j]'(by omega), by rw [h.cellAt j hj, List.getElem?_eq_getElem (by omega)]⟩
/-- The first i and the last i have changed places. -/
structure Turned (l dk : List Vt) (n i : Nat) : Prop where
  len : dk.length = n
  at_ : ∀ t, t < n → dk[t]? = if t < i ∨ n ≤ t + i then l[n - 1 - t]? else l[t]?
theorem Turned.zero {l : List Vt} {n : Nat} (h : l.length = n) : Turned l l n 0 := ⟨h, fun t ht => by rw [if_neg (by omega)]⟩
theorem Turned.step {l dk : List Vt} {n i j : Nat} {a b : Vt} (h : Turned l dk n i) (hj : j = n - 1 - i) (hij : i < j) (ha : dk[i]? = some a) (hb : dk[j]? = some b) : Turned l ((dk.set i b).set j a) n (i + 1) := by
  have hl := h.len
  refine ⟨by simp [hl], fun t ht => ?_⟩
  rw [List.getElem?_set, List.length_set, List.getElem?_set]
  have hi := h.at_ i (by omega)
  have hjj := h.at_ j (by omega)
  rw [if_neg (by omega)] at hi hjj
  by_cases e1 : j = t
  · subst e1
    rw [if_pos rfl, if_pos (by omega), if_pos (by omega), show n - 1 - j = i by omega, ← hi, ha]
  · rw [if_neg e1]
    by_cases e2 : i = t
    · subst e2
      rw [if_pos rfl, if_pos (by omega), if_pos (by omega), ← hj, ← hjj, hb]
    · rw [if_neg e2, h.at_ t ht]
      by_cases e3 : t < i ∨ n ≤ t + i
      · rw [if_pos e3, if_pos (by omega)]
      · rw [if_neg e3, if_neg (by omega)]
theorem Turned.done {l dk : List Vt} {n i : Nat} (h : Turned l dk n i) (hl : l.length = n) (hi : n ≤ 2 * i + 1) : dk = l.reverse := by
  apply List.ext_getElem?
  intro t
  by_cases ht : t < n
  · rw [h.at_ t ht, List.getElem?_reverse (by omega), hl]
    split
    · rfl
    · rw [show n - 1 - t = t by omega]
  · rw [List.getElem?_eq_none (by rw [h.len]; omega), List.getElem?_eq_none (by rw [List.length_reverse]; omega)]

set_option maxRecDepth 100000 in
set_option maxHeartbeats 8000000 in
theorem Reverse_votes (l : List Vt) (n cap g base : Nat) (w : World) (hl : l.length = n) (hm : n ≤ 1000000) (hs : w.ownsRow base 27 2 (.slice (some ⟨g, 0, none⟩) n cap) n (vcells l)) (hb : base ≤ g) :
    Calls Try.prog 19 #[.slice (some ⟨g, 0, none⟩) n cap] w fun e w' => e = .returned (.tuple #[]) ∧ w'.ownsRow base 27 2 (.slice (some ⟨g, 0, none⟩) n cap) n (vcells l.reverse) ∧ Below base w w' := by
  have HS := lid hs
  have HL := lid hl
  have hB0 := hb
  clear hs hl hb
  go_enter Try.func19, Try.ntmps19
  go_wp2_with fail
  go_loopw [2, 3] (fun s2 s3 wr => ∃ (i : Nat) (jz : Int) (dk : List Vt), i ≤ n ∧ s2 = .int .i64 i ∧ s3 = .int .i64 jz ∧ jz = (n : Int) - 1 - i ∧ Hid (Turned l dk n i) ∧ Hid (wr.ownsRow base 27 2 (.slice (some ⟨g, 0, none⟩) n cap) n (vcells dk)) ∧ Below base w wr) (fun s2 _ _ => n - (intOf s2).toNat)
  case atStart => exact ⟨0, _, l, Nat.zero_le _, rfl, rfl, by omega, lid (.zero HL.out), HS, Below.refl _ _⟩
  case round =>
    obtain ⟨i, jz, dk, hi, rfl, rfl, hjz, HT, HO, hb⟩ := hrel
    by_cases hlt : (i : Int) < jz
    · obtain ⟨j, rfl⟩ : ∃ j : Nat, jz = j := ⟨jz.toNat, by omega⟩
      have dk1 : decide ((i : Int) < (j : Int)) = true := by simpa using hlt
      have hij : i < j := by omega
      have hjn : j < n := by omega
      have hin : i < n := by omega
      have hid : i < dk.length := by rw [HT.out.len]; exact hin
      have hjd : j < dk.length := by rw [HT.out.len]; exact hjn
      have HO0 := lid HO.out.drew
      obtain ⟨a, ha⟩ : ∃ a, dk[i] = a := ⟨_, rfl⟩
      obtain ⟨b, hb'⟩ : ∃ b, dk[j] = b := ⟨_, rfl⟩
      have ci0 := HO0.out.cellAt (i * 2) (by omega)
      have ci1 := HO0.out.cellAt (i * 2 + 1) (by omega)
      have cj0 := HO0.out.cellAt (j * 2) (by omega)
      have cj1 := HO0.out.cellAt (j * 2 + 1) (by omega)
      rw [show (vcells dk)[i * 2]? = _ from (vcells_at hid).1, ha] at ci0
      rw [(vcells_at hid).2, ha] at ci1
      rw [show (vcells dk)[j * 2]? = _ from (vcells_at hjd).1, hb'] at cj0
      rw [(vcells_at hjd).2, hb'] at cj1
      have fi0 := HO0.out.frozenAt (i * 2)
      have HO1 := lid (And.left (HO0.out.stored (i * 2) (.string b.1)))
      have fi1 := HO0.out.frozenAt (i * 2 + 1)
      have HO2 := lid (And.left (HO1.out.stored (i * 2 + 1) (.string b.2)))
      rw [vcells_set] at HO2
      have fj0 := HO0.out.frozenAt (j * 2)
      have HO3 := lid (And.left (HO2.out.stored (j * 2) (.string a.1)))
      have fj1 := HO0.out.frozenAt (j * 2 + 1)
      have HO4 := lid (And.left (HO3.out.stored (j * 2 + 1) (.string a.2)))
      rw [vcells_set] at HO4
      have HT' := lid (HT.out.step (i := i) (j := j) (a := a) (b := b) (by omega) hij (by rw [List.getElem?_eq_getElem hid, ha]) (by rw [List.getElem?_eq_getElem hjd, hb']))
      have HJ : Hid ((j : Int) - 1 = (n : Int) - 1 - ((i + 1 : Nat) : Int)) := lid (by omega)
      have hj1 : j = n - 1 - i := by omega
      have HJN := lid hj1
      have gi0 := HO.out.frozenAt (i * 2)
      have gi1 := HO.out.frozenAt (i * 2 + 1)
      have gj0 := HO.out.frozenAt (j * 2)
      have gj1 := HO.out.frozenAt (j * 2 + 1)
      have di0 : wr.cell? ⟨g, i * 2, none⟩ = _ := ci0
      have di1 : wr.cell? ⟨g, i * 2 + 1, none⟩ = _ := ci1
      have dj0 : wr.cell? ⟨g, j * 2, none⟩ = _ := cj0
      have dj1 : wr.cell? ⟨g, j * 2 + 1, none⟩ = _ := cj1
      have n1 : ¬ i * 2 = j * 2 := by omega
      have n2 : ¬ i * 2 + 1 = j * 2 := by omega
      have n3 : ¬ i * 2 = j * 2 + 1 := by omega
      have n4 : ¬ i = j := by omega
      have m1 : ¬ j * 2 = i * 2 := by omega
      have m2 : ¬ j * 2 + 1 = i * 2 := by omega
      have m3 : ¬ j * 2 = i * 2 + 1 := by omega
      have m4 : ¬ j = i := by omega
      clear ha hb' hjz hj1
      go_wp2_with fail
      go_big_region
      all_goals go_wp2_with fail
      go_roundw
      case rel => exact ⟨i + 1, _, _, by omega, by go_num, rfl, by have := HJ.out; omega, HT', HO4, (((hb.drew.setCell hB0 _).setCell hB0 _).setCell hB0 _).setCell hB0 _⟩
      case measure => simp [intOf]; omega
    · have dk1 : decide ((i : Int) < jz) = false := by simpa using hlt
      go_wp2_with fail
      go_end0
      rw [← HT.out.done HL.out (by omega)]
      exact ⟨rfl, HO.out, hb⟩
theorem Reverse_empty (a : Option Addr) (cap : Nat) (w : World) : Calls Try.prog 19 #[.slice a 0 cap] w fun e w' => e = .returned (.tuple #[]) ∧ w' = w := by
  go_enter Try.func19, Try.ntmps19
  go_wp2_with fail
  go_loopw [2, 3] (fun s2 s3 wr => s2 = .int .i64 0 ∧ s3 = .int .i64 (-1) ∧ wr = w) (fun _ _ _ => 0)
  case atStart => exact ⟨rfl, rfl, rfl⟩
  case round =>
    obtain ⟨rfl, rfl, rfl⟩ := hrel
    go_wp2_with fail
    go_end0
    exact ⟨rfl, rfl⟩
theorem Reverse_own (l : List Vt) (v : Value) (n base : Nat) (w : World) (hl : l.length = n) (hm : n ≤ 1000000) (hs : w.ownsRow base 27 2 v n (vcells l)) :
    Calls Try.prog 19 #[v] w fun e w' => e = .returned (.tuple #[]) ∧ w'.ownsRow base 27 2 v n (vcells l.reverse) ∧ Below base w w' := by
  have hs0 := hs
  rcases hs.2 with ⟨rfl, rfl⟩ | ⟨g, cap, cur, rfl, hb, _⟩
  · obtain rfl := List.eq_nil_of_length_eq_zero hl
    refine (Reverse_empty _ _ _).mono ?_
    rintro e w' ⟨rfl, rfl⟩
    exact ⟨rfl, hs0, Below.refl _ _⟩
  · exact Reverse_votes l n cap g base w hl hm hs0 hb
end Go.Proofs.Ytcpnpcbaifagbaa
