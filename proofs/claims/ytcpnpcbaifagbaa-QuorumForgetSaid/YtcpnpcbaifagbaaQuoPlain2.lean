/-
  Ballots: what votes make of them. No program in sight.
-/
import Derived.Test.YtcpnpcbaifagbaaQuoFine
namespace Go.Proofs.Ytcpnpcbaifagbaa
open Go.RowKit

theorem tw_all {α : Type} {P : α → Bool} : ∀ {l : List α} {a : α}, a ∈ l.takeWhile P → P a = true
  | x :: l, a, h => by
    rw [List.takeWhile_cons] at h
    split at h
    · rename_i hx
      rcases List.mem_cons.1 h with rfl | h
      · exact hx
      · exact tw_all h
    · cases h
theorem dw_gt : ∀ {l : List Vt} {w : ByteArray}, (l.Pairwise fun a b => ltB a.1 b.1 = true) → hasV l w = false → ∀ u ∈ l.dropWhile (fun x => ltB x.1 w), ltB w u.1 = true
  | [], _, _, _, u, hu => by cases hu
  | x :: l, w, hs, hn, u, hu => by
    have hs' := List.pairwise_cons.1 hs
    unfold hasV at hn
    rw [List.any_cons, Bool.or_eq_false_iff] at hn
    rw [List.dropWhile_cons] at hu
    split at hu
    · exact dw_gt hs'.2 hn.2 u hu
    · rename_i hx
      have hxw : ltB w x.1 = true := by
        rcases ltB_total x.1 w with h | h | h
        · exact absurd h hx
        · exact absurd h (of_decide_eq_false hn.1)
        · exact h
      rcases List.mem_cons.1 hu with rfl | hu
      · exact hxw
      · exact ltB_trans hxw (hs'.1 u hu)
theorem insV_mem {l : List Vt} {v u : Vt} : u ∈ insV l v ↔ u = v ∨ u ∈ l := by
  unfold insV
  have h := List.takeWhile_append_dropWhile (p := fun x : Vt => ltB x.1 v.1) (l := l)
  constructor
  · intro hu
    rcases List.mem_append.1 hu with hu | hu
    · exact .inr ((List.takeWhile_sublist _).mem hu)
    · rcases List.mem_cons.1 hu with rfl | hu
      · exact .inl rfl
      · exact .inr ((List.dropWhile_sublist _).mem hu)
  · rintro (rfl | hu)
    · exact List.mem_append.2 (.inr (by simp))
    · rw [← h] at hu
      rcases List.mem_append.1 hu with hu | hu
      · exact List.mem_append.2 (.inl hu)
      · exact List.mem_append.2 (.inr (List.mem_cons_of_mem _ hu))
def okV (v : Vt) : Bool := workerB v.1 && decide (v.2.size ≤ 65536)
theorem insV_ok {l : List Vt} {v : Vt} (h : VOk l) (hv : okV v = true) (hn : hasV l v.1 = false) : VOk (insV l v) := by
  unfold okV at hv
  rw [Bool.and_eq_true, decide_eq_true_eq] at hv
  refine ⟨?_, fun u hu => ?_⟩
  · unfold insV
    have hd := dw_gt h.srt hn
    rw [List.pairwise_append, List.pairwise_cons]
    refine ⟨h.srt.sublist (List.takeWhile_sublist _), ⟨hd, h.srt.sublist (List.dropWhile_sublist _)⟩, fun a ha b hb => ?_⟩
    have hav := tw_all ha
    rcases List.mem_cons.1 hb with rfl | hb
    · exact hav
    · exact ltB_trans hav (hd b hb)
  · rcases insV_mem.1 hu with rfl | hu
    · exact hv
    · exact h.ok u hu
def insStep (acc : List Vt) (v : Vt) : List Vt := if okV v = true ∧ hasV acc v.1 = false then insV acc v else acc
def vsOf (l : List Vt) : List Vt := l.foldl insStep []
def wrapV (k : Dg) (vs : List Vt) : List Bal := if vs = [] then [] else [(k, vs)]
theorem wrap_ok {k : Dg} {vs : List Vt} (h : VOk vs) : BOk (wrapV k vs) := by
  unfold wrapV
  split
  · exact ⟨List.Pairwise.nil, fun b hb => by cases hb⟩
  · rename_i hn
    exact ⟨List.pairwise_cons.2 ⟨fun b hb => (by cases hb), List.Pairwise.nil⟩, fun b hb => by rw [List.mem_singleton.1 hb]; exact ⟨hn, h⟩⟩
theorem wrap_about (k : Dg) (vs : List Vt) : aboutB (wrapV k vs) k = vs := by
  unfold wrapV
  split
  · rename_i h
    rw [h]
    rfl
  · unfold aboutB
    rw [List.find?_cons_of_pos (by simp)]
theorem wrap_put (k : Dg) (vs L : List Vt) : putB (wrapV k vs) k L = [(k, L)] := by
  unfold wrapV putB
  split
  · rfl
  · rw [List.takeWhile_cons, List.dropWhile_cons]
    simp only [ltD_irrefl, Bool.false_eq_true, if_false, lessB]
    simp
theorem insV_ne (l : List Vt) (v : Vt) : insV l v ≠ [] := by
  intro h
  have := insV_len l v
  rw [h] at this
  simp at this
theorem step_wrap {k : Dg} {vs : List Vt} {v : Vt} (h : VOk vs) : stepV k (wrapV k vs) v = wrapV k (insStep vs v) := by
  have hc := checkB_ok.2 (wrap_ok (k := k) h)
  unfold stepV insStep
  by_cases hw : workerB v.1 = true
  · by_cases hz : 65536 < v.2.size
    · rw [if_neg (by rw [voteE_limit hc hw hz]; decide), if_neg (by unfold okV; simp; omega)]
    · cases hh : hasV vs v.1 with
      | true =>
        rw [if_neg (by rw [voteE_exists hc hw hz (by rw [wrap_about]; exact hh)]; decide), if_neg (by simp)]
      | false =>
        have he := voteE_ok hc hw hz (k := k) (wk := v.1) (o := v.2) (by rw [wrap_about]; exact hh)
        rw [if_pos he, vote_good he, wrap_about, wrap_put, if_pos ⟨by unfold okV; rw [hw]; simp; omega, rfl⟩]
        unfold wrapV
        rw [if_neg (insV_ne _ _)]
  · have hw' : workerB v.1 = false := by simpa using hw
    rw [if_neg (by rw [voteE_worker hc hw']; decide), if_neg (by unfold okV; rw [hw']; simp)]
theorem insStep_ok {vs : List Vt} {v : Vt} (h : VOk vs) : VOk (insStep vs v) := by
  unfold insStep
  split
  · rename_i hc
    exact insV_ok h hc.1 hc.2
  · exact h
theorem votes_fold (k : Dg) : ∀ (l : List Vt) (vs : List Vt), VOk vs → l.foldl (stepV k) (wrapV k vs) = wrapV k (l.foldl insStep vs) ∧ VOk (l.foldl insStep vs)
  | [], vs, h => ⟨rfl, h⟩
  | v :: l, vs, h => by
    rw [List.foldl_cons, List.foldl_cons, step_wrap h]
    exact votes_fold k l _ (insStep_ok h)
theorem vok_nil : VOk [] := ⟨List.Pairwise.nil, fun v h => by cases h⟩
theorem votesL_eq (k : Dg) (l : List Vt) : votesL k l = wrapV k (vsOf l) := (votes_fold k l [] vok_nil).1
theorem vsOf_ok (l : List Vt) : VOk (vsOf l) := (votes_fold (0, 0) l [] vok_nil).2
theorem votes_about (k : Dg) (l : List Vt) : aboutB (votesL k l) k = vsOf l := by rw [votesL_eq, wrap_about]
theorem votes_check (k : Dg) (l : List Vt) : BOk (votesL k l) := by rw [votesL_eq]; exact wrap_ok (vsOf_ok l)
theorem vsOf_snoc (l : List Vt) (v : Vt) : vsOf (l ++ [v]) = insStep (vsOf l) v := by unfold vsOf; rw [List.foldl_append]; rfl
theorem insStep_mem {vs : List Vt} {v u : Vt} (h : u ∈ insStep vs v) : u = v ∧ okV v = true ∨ u ∈ vs := by
  unfold insStep at h
  split at h
  · rename_i hc
    rcases insV_mem.1 h with rfl | h
    · exact .inl ⟨rfl, hc.1⟩
    · exact .inr h
  · exact .inr h
theorem insStep_keep {vs : List Vt} {v u : Vt} (h : u ∈ vs) : u ∈ insStep vs v := by
  unfold insStep
  split
  · exact insV_mem.2 (.inr h)
  · exact h
theorem list_snoc_ind {α : Type} {p : List α → Prop} (h0 : p []) (h1 : ∀ l a, p l → p (l ++ [a])) (l : List α) : p l := by
  suffices h : ∀ n (l : List α), l.length = n → p l from h _ l rfl
  intro n
  induction n with
  | zero => intro l h; rw [List.eq_nil_of_length_eq_zero h]; exact h0
  | succ n ih =>
    intro l h
    have hne : l ≠ [] := by rintro rfl; cases h
    rw [← List.dropLast_concat_getLast hne]
    exact h1 _ _ (ih _ (by simp [h]))
theorem vsOf_mem (l : List Vt) : ∀ u ∈ vsOf l, u ∈ l ∧ okV u = true := by
  refine list_snoc_ind (p := fun l => ∀ u ∈ vsOf l, u ∈ l ∧ okV u = true) (fun u h => by cases h) (fun l v ih u hu => ?_) l
  rw [vsOf_snoc] at hu
  rcases insStep_mem hu with ⟨rfl, h⟩ | h
  · exact ⟨by simp, h⟩
  · exact ⟨List.mem_append.2 (.inl (ih u h).1), (ih u h).2⟩
theorem vsOf_distinct (l : List Vt) : (l.Pairwise fun a b => a.1 ≠ b.1) → ∀ u, u ∈ vsOf l ↔ u ∈ l ∧ okV u = true := by
  refine list_snoc_ind (p := fun l => (l.Pairwise fun a b => a.1 ≠ b.1) → ∀ u, u ∈ vsOf l ↔ u ∈ l ∧ okV u = true) (fun _ u => ⟨fun h => (by cases h), fun h => (by cases h.1)⟩) (fun l v ih hd u => ?_) l
  rw [List.pairwise_append] at hd
  have ih := ih hd.1
  refine ⟨vsOf_mem _ u, fun ⟨h1, h2⟩ => ?_⟩
  rw [vsOf_snoc]
  rcases List.mem_append.1 h1 with h1 | h1
  · exact insStep_keep ((ih u).2 ⟨h1, h2⟩)
  · rw [List.mem_singleton.1 h1]
    rw [List.mem_singleton.1 h1] at h2
    unfold insStep
    rw [if_pos ⟨h2, by
      unfold hasV
      rw [List.any_eq_false]
      intro x hx hxe
      exact hd.2.2 x ((ih x).1 hx).1 v (by simp) (of_decide_eq_true hxe)⟩]
    exact insV_mem.2 (.inl rfl)
theorem sorted_unique : ∀ {a b : List Vt}, (a.Pairwise fun x y => ltB x.1 y.1 = true) → (b.Pairwise fun x y => ltB x.1 y.1 = true) → (∀ v, v ∈ a ↔ v ∈ b) → a = b
  | [], [], _, _, _ => rfl
  | [], y :: b, _, _, h => by have := (h y).2 (by simp); cases this
  | x :: a, [], _, _, h => by have := (h x).1 (by simp); cases this
  | x :: a, y :: b, ha, hb, h => by
    have ha' := List.pairwise_cons.1 ha
    have hb' := List.pairwise_cons.1 hb
    have e : x = y := by
      rcases List.mem_cons.1 ((h x).1 (by simp)) with e | hx
      · exact e
      · rcases List.mem_cons.1 ((h y).2 (by simp)) with e | hy
        · exact e.symm
        · have h1 := ltB_trans (hb'.1 x hx) (ha'.1 y hy)
          rw [ltB_irrefl] at h1
          cases h1
    subst e
    congr 1
    refine sorted_unique ha'.2 hb'.2 (fun v => ⟨fun hv => ?_, fun hv => ?_⟩)
    · rcases List.mem_cons.1 ((h v).1 (List.mem_cons_of_mem _ hv)) with e | hv'
      · have := ha'.1 v hv
        rw [e, ltB_irrefl] at this
        cases this
      · exact hv'
    · rcases List.mem_cons.1 ((h v).2 (List.mem_cons_of_mem _ hv)) with e | hv'
      · have := hb'.1 v hv
        rw [e, ltB_irrefl] at this
        cases this
      · exact hv'
theorem votes_turn {k : Dg} {l m : List Vt} (hl : l.Pairwise fun a b => a.1 ≠ b.1) (hm : m.Pairwise fun a b => a.1 ≠ b.1) (h : ∀ v, v ∈ l ↔ v ∈ m) : votesL k l = votesL k m := by
  rw [votesL_eq, votesL_eq, sorted_unique (vsOf_ok l).srt (vsOf_ok m).srt (fun v => by rw [vsOf_distinct l hl, vsOf_distinct m hm, h])]

theorem filter_len_le {α : Type} {P Q : α → Bool} : ∀ {l : List α}, (∀ a ∈ l, P a = true → Q a = true) → (l.filter P).length ≤ (l.filter Q).length
  | [], _ => Nat.le_refl _
  | a :: l, h => by
    have ih := filter_len_le (P := P) (Q := Q) (l := l) (fun x hx => h x (List.mem_cons_of_mem _ hx))
    rw [List.filter_cons, List.filter_cons]
    cases hp : P a with
    | true => rw [h a (by simp) hp]; simpa using ih
    | false =>
      cases Q a with
      | true => simp; omega
      | false => simpa using ih
theorem liars {vs : List Vt} {right : ByteArray} {n : Int} (h : ((againstB vs right).length : Int) < n) : (decB vs n).2 = false ∨ (decB vs n).1 = right := by
  have hn : 1 ≤ n := by omega
  cases hd : (decB vs n).2 with
  | false => exact .inl rfl
  | true =>
    obtain ⟨_, h1, _⟩ := (decB_on (L := vs) hn).yes hd
    by_cases e : (decB vs n).1 = right
    · exact .inr e
    · exfalso
      have h2 : cntV vs (decB vs n).1 ≤ (againstB vs right).length := by
        unfold cntV againstB
        rw [List.length_map]
        refine filter_len_le (fun a _ ha => ?_)
        have ha := of_decide_eq_true ha
        simp only [Bool.not_eq_true', decide_eq_false_iff_not]
        rw [ha]
        exact e
      omega
theorem found_iff {vs : List Vt} {n : Int} (hn : 1 ≤ n) : (decB vs n).2 = decide (n ≤ mostB vs) := by
  have hD := decB_on (L := vs) hn
  have hM := mostB_on vs
  cases hd : (decB vs n).2 with
  | true =>
    obtain ⟨h0, h1, _⟩ := hD.yes hd
    have := hM.le _ h0
    exact (decide_eq_true (by omega)).symm
  | false =>
    obtain ⟨_, h1⟩ := hD.no hd
    refine (decide_eq_false ?_).symm
    rcases hM.is with h0 | ⟨s, hs, e⟩
    · omega
    · have := h1 s hs
      omega
theorem missing_iff {vs : List Vt} {n : Int} : (missB vs n == 0) = decide (n ≤ mostB vs) := by
  unfold missB
  split
  · rename_i h
    rw [decide_eq_true h]
    rfl
  · rename_i h
    rw [decide_eq_false h, beq_eq_false_iff_ne]
    omega
theorem cnt_insV (l : List Vt) (v : Vt) (s : ByteArray) : cntV l s ≤ cntV (insV l v) s := by
  unfold cntV insV
  have h := List.takeWhile_append_dropWhile (p := fun x : Vt => ltB x.1 v.1) (l := l)
  have e : (l.filter fun v => decide (v.2 = s)).length = ((l.takeWhile fun x => ltB x.1 v.1).filter fun v => decide (v.2 = s)).length + ((l.dropWhile fun x => ltB x.1 v.1).filter fun v => decide (v.2 = s)).length := by
    conv => lhs; rw [← h]
    rw [List.filter_append, List.length_append]
  rw [e, List.filter_append, List.length_append, List.filter_cons]
  split
  · rw [List.length_cons]; omega
  · omega
theorem most_step (vs : List Vt) (v : Vt) : mostB vs ≤ mostB (insStep vs v) := by
  unfold insStep
  split
  · have h1 := mostB_on vs
    have h2 := mostB_on (insV vs v)
    rcases h1.is with h0 | ⟨s, ⟨u, hu, e⟩, e2⟩
    · omega
    · have := h2.le s ⟨u, insV_mem.2 (.inr hu), e⟩
      have := cnt_insV vs v s
      omega
  · exact Nat.le_refl _
end Go.Proofs.Ytcpnpcbaifagbaa
