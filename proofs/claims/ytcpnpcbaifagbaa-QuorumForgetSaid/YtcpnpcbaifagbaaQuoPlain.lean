/-
  Ballots: what valid ones are like. No program in sight.
-/
import Derived.Test.YtcpnpcbaifagbaaQuoChk
namespace Go.Proofs.Ytcpnpcbaifagbaa
open Go.RowKit

theorem takeWhile_take {α : Type} (P : α → Bool) : ∀ l : List α, l.takeWhile P = l.take (l.takeWhile P).length
  | [] => rfl
  | a :: l => by
    rw [List.takeWhile_cons]
    split
    · rw [List.length_cons, List.take_succ_cons, ← takeWhile_take P l]
    · rfl
theorem dropWhile_drop {α : Type} (P : α → Bool) : ∀ l : List α, l.dropWhile P = l.drop (l.takeWhile P).length
  | [] => rfl
  | a :: l => by
    rw [List.dropWhile_cons, List.takeWhile_cons]
    split
    · rw [List.length_cons, List.drop_succ_cons, dropWhile_drop P l]
    · rfl
theorem takeWhile_map' {α β : Type} (f : α → β) (P : β → Bool) : ∀ l : List α, (l.map f).takeWhile P = (l.takeWhile fun a => P (f a)).map f
  | [] => rfl
  | a :: l => by
    rw [List.map_cons, List.takeWhile_cons, List.takeWhile_cons]
    split
    · rw [List.map_cons, takeWhile_map' f P l]
    · rfl
theorem dropWhile_map' {α β : Type} (f : α → β) (P : β → Bool) : ∀ l : List α, (l.map f).dropWhile P = (l.dropWhile fun a => P (f a)).map f
  | [] => rfl
  | a :: l => by
    rw [List.map_cons, List.dropWhile_cons, List.dropWhile_cons]
    split
    · rw [dropWhile_map' f P l]
    · rfl

/-- Votes in the order of their workers, each of them valid. -/
structure VOk (l : List Vt) : Prop where
  srt : l.Pairwise fun a b => ltB a.1 b.1 = true
  ok : ∀ v ∈ l, workerB v.1 = true ∧ v.2.size ≤ 65536
theorem votesGo_ok : ∀ {l : List Vt} {p : Option ByteArray}, votesGo p l = 0 ↔ (∀ q, p = some q → ∀ v ∈ l, ltB q v.1 = true) ∧ VOk l
  | [], p => ⟨fun _ => ⟨fun _ _ v h => (by cases h), List.Pairwise.nil, fun v h => (by cases h)⟩, fun _ => rfl⟩
  | v :: l, p => by
    cases hB : workerB v.1 with
    | false =>
      rw [votes_name hB]
      exact ⟨fun h => by omega, fun ⟨_, h⟩ => by have := (h.ok v (by simp)).1; rw [hB] at this; cases this⟩
    | true =>
      by_cases ho : ∀ q, p = some q → leB v.1 q = false
      · by_cases hz : 65536 < v.2.size
        · rw [votes_limit hB ho hz]
          exact ⟨fun h => by omega, fun ⟨_, h⟩ => by have := (h.ok v (by simp)).2; omega⟩
        · rw [votes_next hB ho hz, votesGo_ok (l := l)]
          constructor
          · rintro ⟨h1, h2⟩
            have h1' := h1 v.1 rfl
            refine ⟨fun q e u hu => ?_, List.pairwise_cons.2 ⟨fun u hu => h1' u hu, h2.srt⟩, fun u hu => ?_⟩
            · have hq : ltB q v.1 = true := by
                have h3 := ltB_not q v.1
                rw [ho q e] at h3
                simpa using h3
              rcases List.mem_cons.1 hu with rfl | hu
              · exact hq
              · exact ltB_trans hq (h1' u hu)
            · rcases List.mem_cons.1 hu with rfl | hu
              · exact ⟨hB, by omega⟩
              · exact h2.ok u hu
          · rintro ⟨_, h2⟩
            have h3 := List.pairwise_cons.1 h2.srt
            exact ⟨fun q e u hu => by cases e; exact h3.1 u hu, h3.2, fun u hu => h2.ok u (by simp [hu])⟩
      · obtain ⟨q, e, hq⟩ : ∃ q, p = some q ∧ leB v.1 q = true := by
          cases p with
          | none => exact absurd (fun q e => by cases e) ho
          | some q =>
            refine ⟨q, rfl, ?_⟩
            cases h : leB v.1 q with
            | true => rfl
            | false => exact absurd (fun q' e => by cases e; exact h) ho
        subst e
        rw [votes_order hB hq]
        refine ⟨fun h => by omega, fun ⟨h, _⟩ => ?_⟩
        have h1 := h q rfl v (by simp)
        have h2 := ltB_not q v.1
        rw [hq, h1] at h2
        cases h2
theorem votesE_ok {l : List Vt} : votesE l = 0 ↔ l ≠ [] ∧ VOk l := by
  unfold votesE
  split
  · rename_i h
    exact ⟨fun e => by omega, fun h' => absurd h h'.1⟩
  · rename_i h
    rw [votesGo_ok]
    exact ⟨fun h' => ⟨h, h'.2⟩, fun h' => ⟨fun q e => (by cases e), h'.2⟩⟩
/-- Ballots in the order of their keys, each of them valid. -/
structure BOk (l : List Bal) : Prop where
  srt : l.Pairwise fun a b => ltD a.1 b.1 = true
  ok : ∀ b ∈ l, b.2 ≠ [] ∧ VOk b.2
theorem balGo_ok : ∀ {l : List Bal} {p : Option Dg}, balGo p l = 0 ↔ (∀ q, p = some q → ∀ b ∈ l, ltD q b.1 = true) ∧ BOk l
  | [], p => ⟨fun _ => ⟨fun _ _ v h => (by cases h), List.Pairwise.nil, fun v h => (by cases h)⟩, fun _ => rfl⟩
  | b :: l, p => by
    by_cases ho : ∀ q, p = some q → ltD q b.1 = true
    · by_cases hv : votesE b.2 = 0
      · rw [bal_next ho hv, balGo_ok (l := l)]
        have hv' := votesE_ok.1 hv
        constructor
        · rintro ⟨h1, h2⟩
          have h1' := h1 b.1 rfl
          refine ⟨fun q e u hu => ?_, List.pairwise_cons.2 ⟨fun u hu => h1' u hu, h2.srt⟩, fun u hu => ?_⟩
          · rcases List.mem_cons.1 hu with rfl | hu
            · exact ho q e
            · exact ltD_trans (ho q e) (h1' u hu)
          · rcases List.mem_cons.1 hu with rfl | hu
            · exact hv'
            · exact h2.ok u hu
        · rintro ⟨_, h2⟩
          have h3 := List.pairwise_cons.1 h2.srt
          exact ⟨fun q e u hu => by cases e; exact h3.1 u hu, h3.2, fun u hu => h2.ok u (by simp [hu])⟩
      · rw [bal_votes ho hv]
        exact ⟨fun h => absurd h hv, fun ⟨_, h⟩ => absurd (votesE_ok.2 (h.ok b (by simp))) hv⟩
    · obtain ⟨q, e, hq⟩ : ∃ q, p = some q ∧ ltD q b.1 = false := by
        cases p with
        | none => exact absurd (fun q e => by cases e) ho
        | some q =>
          refine ⟨q, rfl, ?_⟩
          cases h : ltD q b.1 with
          | false => rfl
          | true => exact absurd (fun q' e => by cases e; exact h) ho
      subst e
      rw [bal_order hq]
      refine ⟨fun h => by omega, fun ⟨h, _⟩ => ?_⟩
      have := h q rfl b (by simp)
      rw [hq] at this
      cases this
theorem checkB_ok {l : List Bal} : checkB l = 0 ↔ BOk l := by
  unfold checkB
  rw [balGo_ok]
  exact ⟨fun h => h.2, fun h => ⟨fun q e => (by cases e), h⟩⟩
theorem srtR_of {l : List Rw} (h : BOk (l.map Rw.bal)) : SrtR l := by
  intro i j hi hj hij
  have := List.pairwise_iff_getElem.1 h.srt i j (by simpa using hi) (by simpa using hj) hij
  simpa [Rw.bal] using this
theorem srtV_of {l : List Vt} (h : VOk l) : SrtV l := fun i j hi hj hij => List.pairwise_iff_getElem.1 h.srt i j hi hj hij

theorem insV_at (l : List Vt) (v : Vt) : insV l v = l.take (posV l v.1) ++ v :: l.drop (posV l v.1) := by
  unfold insV posV
  rw [← takeWhile_take, ← dropWhile_drop]
theorem put_new {l : List Rw} {k : Dg} {L : List Vt} (hh : hitR l k = false) : putB (l.map Rw.bal) k L = (l.take (posR l k)).map Rw.bal ++ (k, L) :: (l.drop (posR l k)).map Rw.bal := by
  unfold putB
  rw [takeWhile_map', dropWhile_map']
  have e1 := takeWhile_take (fun r : Rw => ltD r.key k) l
  have e2 := dropWhile_drop (fun r : Rw => ltD r.key k) l
  show ((l.takeWhile fun r => ltD r.key k).map Rw.bal) ++ (k, L) :: lessB ((l.dropWhile fun r => ltD r.key k).map Rw.bal) k = _
  rw [e1, e2]
  congr 2
  show lessB ((l.drop (posR l k)).map Rw.bal) k = _
  cases hd : l.drop (posR l k) with
  | nil => rfl
  | cons x r =>
    show (if x.key = k then r.map Rw.bal else (x :: r).map Rw.bal) = _
    rw [if_neg]
    · intro e
      have : x ∈ l := List.mem_of_mem_drop (by rw [hd]; simp)
      have h1 := List.any_eq_false.1 hh x this
      exact h1 (decide_eq_true e)
theorem put_old {l : List Rw} {k : Dg} {L : List Vt} (hp : posR l k < l.length) (hk : (l[posR l k]).key = k) : putB (l.map Rw.bal) k L = (l.take (posR l k)).map Rw.bal ++ (k, L) :: (l.drop (posR l k + 1)).map Rw.bal := by
  unfold putB
  rw [takeWhile_map', dropWhile_map']
  have e1 := takeWhile_take (fun r : Rw => ltD r.key k) l
  have e2 := dropWhile_drop (fun r : Rw => ltD r.key k) l
  show ((l.takeWhile fun r => ltD r.key k).map Rw.bal) ++ (k, L) :: lessB ((l.dropWhile fun r => ltD r.key k).map Rw.bal) k = _
  rw [e1, e2]
  congr 2
  show lessB ((l.drop (posR l k)).map Rw.bal) k = _
  rw [List.drop_eq_getElem_cons hp]
  show (if (l[posR l k]).key = k then (l.drop (posR l k + 1)).map Rw.bal else _) = _
  rw [if_pos hk]
/-- The hit's way, as a list that is set at one place. -/
theorem put_set {l : List Rw} {k : Dg} {x : Rw} (hp : posR l k < l.length) (hk : (l[posR l k]).key = k) (hx : x.key = k) : (l.set (posR l k) x).map Rw.bal = putB (l.map Rw.bal) k x.vs := by
  rw [put_old hp hk, List.set_eq_take_append_cons_drop, if_pos hp, List.map_append, List.map_cons]
  rw [← hx]
  rfl
theorem vote_bad {b : List Bal} {k : Dg} {wk o : ByteArray} {e : Int} (h : voteE b k wk o = e) (he : e ≠ 0) : voteL b k wk o = [] := by
  unfold voteL
  rw [if_neg (by rw [h]; exact he)]
theorem vote_good {b : List Bal} {k : Dg} {wk o : ByteArray} (h : voteE b k wk o = 0) : voteL b k wk o = putB b k (insV (aboutB b k) (wk, o)) := by
  unfold voteL
  rw [if_pos h]
theorem voteE_check {b : List Bal} {k : Dg} {wk o : ByteArray} (h : checkB b ≠ 0) : voteE b k wk o = 1 := by unfold voteE; rw [if_pos h]
theorem voteE_worker {b : List Bal} {k : Dg} {wk o : ByteArray} (h : checkB b = 0) (h1 : workerB wk = false) : voteE b k wk o = 6 := by unfold voteE; rw [if_neg (by simpa using h), if_pos h1]
theorem voteE_limit {b : List Bal} {k : Dg} {wk o : ByteArray} (h : checkB b = 0) (h1 : workerB wk = true) (h2 : 65536 < o.size) : voteE b k wk o = 4 := by unfold voteE; rw [if_neg (by simpa using h), if_neg (by simp [h1]), if_pos h2]
theorem voteE_exists {b : List Bal} {k : Dg} {wk o : ByteArray} (h : checkB b = 0) (h1 : workerB wk = true) (h2 : ¬ 65536 < o.size) (h3 : hasV (aboutB b k) wk = true) : voteE b k wk o = 7 := by unfold voteE; rw [if_neg (by simpa using h), if_neg (by simp [h1]), if_neg h2, if_pos h3]
theorem voteE_ok {b : List Bal} {k : Dg} {wk o : ByteArray} (h : checkB b = 0) (h1 : workerB wk = true) (h2 : ¬ 65536 < o.size) (h3 : hasV (aboutB b k) wk = false) : voteE b k wk o = 0 := by unfold voteE; rw [if_neg (by simpa using h), if_neg (by simp [h1]), if_neg h2, if_neg (by simp [h3])]

/-- A row whose cell has been set. -/
theorem own_setCell {w : World} {base g j : Nat} {e : TypeId} {size : Nat} {u : Value} {n cap : Nat} {xs : List Value} (h : w.ownsRow base e size (.slice (some ⟨g, 0, none⟩) n cap) n xs) :
    (w.setCell ⟨g, j, none⟩ u).ownsRow base e size (.slice (some ⟨g, 0, none⟩) n cap) n (xs.set j u) := by
  refine ⟨by rw [List.length_set]; exact h.1, ?_⟩
  rcases h.2 with ⟨hv, _⟩ | ⟨g', cap', cur, hv, hg, hcur, hncap, hmax, hsz, htk⟩
  · cases hv
  · cases hv
    refine .inr ⟨g, cap, _, rfl, hg, row_set hcur j u, hncap, hmax, by simpa using hsz, ?_⟩
    rw [Array.toList_setIfInBounds, List.take_set, htk]
theorem ownsRow_kept {w w' : World} {base : Nat} {e : TypeId} {size : Nat} {v : Value} {n : Nat} {xs : List Value} (h : w.ownsRow base e size v n xs) (hk : ∀ g, v.ownBlock = some g → w'.heap[g]? = w.heap[g]?) : w'.ownsRow base e size v n xs := by
  refine ⟨h.1, h.2.imp id ?_⟩
  rintro ⟨g, cap, cur, e1, e2, e3, e4⟩
  exact ⟨g, cap, cur, e1, e2, (hk g (by rw [e1]; rfl)).trans e3, e4⟩
theorem own_other {w : World} {base : Nat} {e : TypeId} {size : Nat} {v : Value} {n : Nat} {xs : List Value} (h : w.ownsRow base e size v n xs) {X : Nat} (hX : ∀ g, v.ownBlock = some g → g ≠ X) (j : Nat) (u : Value) : (w.setCell ⟨X, j, none⟩ u).ownsRow base e size v n xs :=
  ownsRow_kept h fun g hg => Below.heap_setCell _ _ _ _ (hX g hg)
theorem rcells_set {l : List Rw} {i : Nat} {x : Rw} (hi : i < l.length) (hk : (l[i]).key = x.key) : (rcells l).set (i * 3 + 2) (.slice x.ao x.vs.length x.cap) = rcells (l.set i x) := by
  apply List.ext_getElem?
  intro t
  rw [List.getElem?_set, rcells_length]
  by_cases ht : t < l.length * 3
  · have hk3 : t / 3 < l.length := by omega
    have hm : t % 3 < 3 := Nat.mod_lt _ (by omega)
    have et : t = t / 3 * 3 + t % 3 := by omega
    have r2 : (rcells (l.set i x))[t]? = (rwe ((l.set i x)[t / 3]'(by simpa using hk3)))[t % 3]? := by
      conv => lhs; rw [et]
      exact flat_at rwe_length (by simpa using hk3) hm
    have r1 : (rcells l)[t]? = (rwe (l[t / 3]))[t % 3]? := by
      conv => lhs; rw [et]
      exact flat_at rwe_length hk3 hm
    rw [r2, List.getElem_set]
    by_cases h1 : i = t / 3
    · rw [if_pos h1]
      have r3 : (rwe (l[t / 3]))[t % 3]? = (rwe l[i])[t % 3]? := by simp only [h1]
      have hm3 : t % 3 = 0 ∨ t % 3 = 1 ∨ t % 3 = 2 := by omega
      have hk1 : (l[i]).key.1 = x.key.1 := by rw [hk]
      have hk2 : (l[i]).key.2 = x.key.2 := by rw [hk]
      rcases hm3 with h | h | h
      · rw [if_neg (by omega), r1, r3, h]
        show some (Value.int .u64 (l[i]).key.1.toNat) = some (Value.int .u64 x.key.1.toNat)
        rw [hk1]
      · rw [if_neg (by omega), r1, r3, h]
        show some (Value.int .u64 (l[i]).key.2.toNat) = some (Value.int .u64 x.key.2.toNat)
        rw [hk2]
      · rw [if_pos (by omega), if_pos (by omega), h]
        rfl
    · rw [if_neg (by omega), if_neg h1]
      exact r1
  · rw [if_neg (by omega), List.getElem?_eq_none (by rw [rcells_length]; omega), List.getElem?_eq_none (by rw [rcells_length, List.length_set]; omega)]
end Go.Proofs.Ytcpnpcbaifagbaa
