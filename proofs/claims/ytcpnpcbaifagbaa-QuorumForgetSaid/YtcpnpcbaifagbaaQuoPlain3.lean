/-
  Ballots: what one vote makes of them. No program in sight.
-/
import Derived.Test.YtcpnpcbaifagbaaQuoPlain2
namespace Go.Proofs.Ytcpnpcbaifagbaa
open Go.RowKit

theorem less_sub {k : Dg} : ∀ (B : List Bal), (lessB B k).Sublist B
  | [] => List.Sublist.refl _
  | x :: B => by
    unfold lessB
    dsimp only
    split
    · exact List.sublist_cons_self _ _
    · exact List.Sublist.refl _
theorem rest_sub {k : Dg} (B : List Bal) : (lessB (B.dropWhile fun x => ltD x.1 k) k).Sublist B := (less_sub _).trans (List.dropWhile_sublist _)
theorem rest_gt {k : Dg} : ∀ {B : List Bal}, (B.Pairwise fun a b => ltD a.1 b.1 = true) → ∀ b ∈ lessB (B.dropWhile fun x => ltD x.1 k) k, ltD k b.1 = true
  | [], _, b, hb => by cases hb
  | x :: B, hs, b, hb => by
    have hs' := List.pairwise_cons.1 hs
    rw [List.dropWhile_cons] at hb
    split at hb
    · exact rest_gt hs'.2 b hb
    · rename_i hx
      unfold lessB at hb
      dsimp only at hb
      split at hb
      · rename_i he
        rw [← he]
        exact hs'.1 b hb
      · rename_i he
        have hk : ltD k x.1 = true := by
          rcases ltD_total x.1 k with h | h | h
          · exact absurd h hx
          · exact absurd h he
          · exact h
        rcases List.mem_cons.1 hb with rfl | hb
        · exact hk
        · exact ltD_trans hk (hs'.1 b hb)
theorem put_ok {B : List Bal} {k : Dg} {L : List Vt} (h : BOk B) (hn : L ≠ []) (hL : VOk L) : BOk (putB B k L) := by
  unfold putB
  have hg := rest_gt (k := k) h.srt
  refine ⟨?_, fun b hb => ?_⟩
  · rw [List.pairwise_append, List.pairwise_cons]
    refine ⟨h.srt.sublist (List.takeWhile_sublist _), ⟨hg, h.srt.sublist (rest_sub _)⟩, fun a ha b hb => ?_⟩
    have hak := tw_all ha
    rcases List.mem_cons.1 hb with rfl | hb
    · exact hak
    · exact ltD_trans hak (hg b hb)
  · rcases List.mem_append.1 hb with hb | hb
    · exact h.ok b ((List.takeWhile_sublist _).mem hb)
    · rcases List.mem_cons.1 hb with rfl | hb
      · exact ⟨hn, hL⟩
      · exact h.ok b ((rest_sub _).mem hb)
theorem put_cons (x : Bal) (B : List Bal) (k : Dg) (L : List Vt) : putB (x :: B) k L = if ltD x.1 k = true then x :: putB B k L else (k, L) :: lessB (x :: B) k := by
  unfold putB
  rw [List.takeWhile_cons, List.dropWhile_cons]
  split
  · rfl
  · rfl
theorem about_put {k : Dg} {L : List Vt} : ∀ (B : List Bal), aboutB (putB B k L) k = L
  | [] => about_cons_eq rfl
  | x :: B => by
    rw [put_cons]
    split
    · rename_i h
      rw [about_cons_ne (ltD_ne h), about_put B]
    · exact about_cons_eq rfl
theorem about_less {k q : Dg} (h : ¬ k = q) : ∀ (B : List Bal), aboutB (lessB B k) q = aboutB B q
  | [] => rfl
  | x :: B => by
    unfold lessB
    dsimp only
    split
    · rename_i e
      rw [about_cons_ne (by rw [e]; exact h)]
    · rfl
theorem about_other {k q : Dg} {L : List Vt} (h : ¬ k = q) : ∀ (B : List Bal), aboutB (putB B k L) q = aboutB B q
  | [] => about_cons_ne h
  | x :: B => by
    rw [put_cons]
    split
    · by_cases e : x.1 = q
      · rw [about_cons_eq e, about_cons_eq e]
      · rw [about_cons_ne e, about_cons_ne e, about_other h B]
    · rw [about_cons_ne h, about_less h]
theorem about_vok {B : List Bal} (h : BOk B) (k : Dg) : VOk (aboutB B k) := by
  unfold aboutB
  split
  · rename_i b hb
    exact (h.ok b (List.mem_of_find?_eq_some hb)).2
  · exact vok_nil
theorem vote_zero {B : List Bal} {k : Dg} {wk o : ByteArray} (h : voteE B k wk o = 0) : checkB B = 0 ∧ workerB wk = true ∧ ¬ 65536 < o.size ∧ hasV (aboutB B k) wk = false := by
  unfold voteE at h
  split at h
  · omega
  · rename_i h1
    split at h
    · omega
    · rename_i h2
      split at h
      · omega
      · rename_i h3
        split at h
        · omega
        · rename_i h4
          exact ⟨Decidable.not_not.1 h1, by simpa using h2, h3, by simpa using h4⟩
/-- What the next vote finds. -/
theorem once {B : List Bal} {k : Dg} {wk o s : ByteArray} (h : voteE B k wk o = 0) (hs : ¬ 65536 < s.size) :
    voteE (voteL B k wk o) k wk s = 7 ∧ checkB (voteL B k wk o) = 0 ∧ inS (againstB (aboutB (voteL B k wk o) k) o) wk = false ∧ ∀ q, ¬ q = k → aboutB (voteL B k wk o) q = aboutB B q := by
  obtain ⟨h1, h2, h3, h4⟩ := vote_zero h
  have hB := checkB_ok.1 h1
  have hV := about_vok hB k
  have hN : checkB (voteL B k wk o) = 0 := by
    rw [vote_good h]
    exact checkB_ok.2 (put_ok hB (insV_ne _ _) (insV_ok hV (by unfold okV; rw [h2]; simp; omega) h4))
  have hA : aboutB (voteL B k wk o) k = insV (aboutB B k) (wk, o) := by rw [vote_good h, about_put]
  refine ⟨voteE_exists hN h2 hs ?_, hN, ?_, fun q hq => ?_⟩
  · rw [hA]
    unfold hasV
    rw [List.any_eq_true]
    exact ⟨(wk, o), insV_mem.2 (.inl rfl), decide_eq_true rfl⟩
  · rw [hA]
    cases hc : inS (againstB (insV (aboutB B k) (wk, o)) o) wk with
    | false => rfl
    | true =>
      exfalso
      have := inS_iff.1 hc
      unfold againstB at this
      obtain ⟨u, hu, e⟩ := List.mem_map.1 this
      obtain ⟨hu, hn⟩ := List.mem_filter.1 hu
      rcases insV_mem.1 hu with rfl | hu
      · simp at hn
      · unfold hasV at h4
        rw [List.any_eq_false] at h4
        exact h4 u hu (decide_eq_true e)
  · rw [vote_good h, about_other (fun e => hq e.symm)]
end Go.Proofs.Ytcpnpcbaifagbaa
