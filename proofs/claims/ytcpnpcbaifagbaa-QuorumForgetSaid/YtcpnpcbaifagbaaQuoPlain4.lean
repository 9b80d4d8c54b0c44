/-
  Ballots: what forgetting a worker leaves. No program in sight.
-/
import Derived.Test.YtcpnpcbaifagbaaQuoPlain3
namespace Go.Proofs.Ytcpnpcbaifagbaa
open Go.RowKit
theorem forgetV_ok {l : List Vt} {wk : ByteArray} (h : VOk l) : VOk (forgetV l wk) :=
  ⟨h.srt.sublist List.filter_sublist, fun v hv => h.ok v (List.mem_filter.1 hv).1⟩
theorem forgetB_ok {B : List Bal} {wk : ByteArray} (h : BOk B) : BOk (forgetB B wk) := by
  unfold forgetB
  refine ⟨List.Pairwise.sublist List.filter_sublist (List.pairwise_map.2 h.srt), fun b hb => ?_⟩
  obtain ⟨h1, h2⟩ := List.mem_filter.1 hb
  obtain ⟨x, hx, rfl⟩ := List.mem_map.1 h1
  refine ⟨fun e => ?_, forgetV_ok (h.ok x hx).2⟩
  rw [show (x.1, forgetV x.2 wk).2 = [] from e] at h2
  simp at h2
theorem forgetB_cons (x : Bal) (B : List Bal) (wk : ByteArray) : forgetB (x :: B) wk = if forgetV x.2 wk = [] then forgetB B wk else (x.1, forgetV x.2 wk) :: forgetB B wk := by
  unfold forgetB
  rw [List.map_cons, List.filter_cons]
  cases forgetV x.2 wk <;> simp
theorem forgetB_none {k : Dg} {wk : ByteArray} : ∀ {B : List Bal}, (∀ b ∈ B, ¬ b.1 = k) → aboutB (forgetB B wk) k = []
  | [], _ => rfl
  | x :: B, h => by
    rw [forgetB_cons]
    have ih := forgetB_none (wk := wk) (fun b hb => h b (List.mem_cons_of_mem _ hb))
    split
    · exact ih
    · rw [about_cons_ne (by exact h x (by simp)), ih]
theorem forgetB_about {k : Dg} {wk : ByteArray} : ∀ {B : List Bal}, (B.Pairwise fun a b => ltD a.1 b.1 = true) → aboutB (forgetB B wk) k = forgetV (aboutB B k) wk
  | [], _ => rfl
  | x :: B, h => by
    have h' := List.pairwise_cons.1 h
    rw [forgetB_cons]
    by_cases e : x.1 = k
    · rw [about_cons_eq e]
      split
      · rename_i hv
        rw [hv, forgetB_none (fun b hb hk => ltD_ne (h'.1 b hb) (e.trans hk.symm))]
      · rw [about_cons_eq (by exact e)]
    · rw [about_cons_ne e, ← forgetB_about h'.2]
      split
      · rfl
      · rw [about_cons_ne (by exact e)]
theorem forgetV_twice (l : List Vt) (wk : ByteArray) : forgetV (forgetV l wk) wk = forgetV l wk := by
  unfold forgetV
  rw [List.filter_filter]
  congr 1
  funext v
  simp
theorem forgetB_twice (wk : ByteArray) : ∀ (B : List Bal), forgetB (forgetB B wk) wk = forgetB B wk
  | [] => rfl
  | x :: B => by
    rw [forgetB_cons]
    split
    · exact forgetB_twice wk B
    · rename_i h
      rw [forgetB_cons]
      dsimp only
      rw [forgetV_twice, if_neg h, forgetB_twice wk B]
theorem against_forget (vs : List Vt) (wk o : ByteArray) : againstB (forgetV vs wk) o = (againstB vs o).filter (fun v => !decide (v = wk)) := by
  unfold againstB forgetV
  rw [List.filter_filter, List.filter_map, List.filter_filter]
  congr 1
  congr 1
  funext v
  simp [Bool.and_comm]
/-- What the law of forgetting asks. -/
theorem forgets {B : List Bal} {k : Dg} {wk o : ByteArray} (h : checkB B = 0) (ho : ¬ 65536 < o.size) :
    checkB (forgetB B wk) = 0 ∧ inS (againstB (aboutB (forgetB B wk) k) o) wk = false ∧ forgetB (forgetB B wk) wk = forgetB B wk ∧
    againstB (aboutB (forgetB B wk) k) o = (againstB (aboutB B k) o).filter (fun v => !decide (v = wk)) ∧ (voteE (forgetB B wk) k wk o = 0 ∨ voteE (forgetB B wk) k wk o = 6) := by
  have hB := checkB_ok.1 h
  have hN : checkB (forgetB B wk) = 0 := checkB_ok.2 (forgetB_ok hB)
  have hA : aboutB (forgetB B wk) k = forgetV (aboutB B k) wk := forgetB_about hB.srt
  have hG := against_forget (aboutB B k) wk o
  refine ⟨hN, ?_, forgetB_twice wk B, by rw [hA, hG], ?_⟩
  · rw [hA, hG]
    unfold inS
    rw [List.any_eq_false]
    intro x hx
    have := (List.mem_filter.1 hx).2
    simpa using this
  · cases hw : workerB wk with
    | false => exact .inr (voteE_worker hN hw)
    | true =>
      refine .inl (voteE_ok hN hw ho ?_)
      rw [hA]
      unfold hasV forgetV
      rw [List.any_eq_false]
      intro x hx
      have := (List.mem_filter.1 hx).2
      simpa using this
end Go.Proofs.Ytcpnpcbaifagbaa
