/-
  Ballots: what the laws stand on: few, fine, votes.
-/
import Derived.Test.YtcpnpcbaifagbaaQuoLawVote
namespace Go.Proofs.Ytcpnpcbaifagbaa
open Go.RowKit

def rw0 (l : List Vt) (ao : Option Addr) (cap : Nat) : Rw := ⟨(0, 0), l, ao, cap⟩
def fewB (l : List Vt) : Bool := !greatB [((0, 0), l)]
theorem few_yes {l : List Vt} (h : fewB l = true) : l.length ≤ 10 ∧ ∀ v ∈ l, v.1.size ≤ 40 ∧ v.2.size ≤ 60 := by
  unfold fewB at h
  have h1 : greatB ([rw0 l none 0].map Rw.bal) = false := by simpa [rw0, Rw.bal] using h
  have := (great_no h1).2 (rw0 l none 0) (by simp)
  exact this
set_option maxRecDepth 100000 in
set_option maxHeartbeats 4000000 in
theorem few_any (l : List Vt) (n cap : Nat) (ao : Option Addr) (w : World) (h : VA w ao n cap l) :
    Calls Try.prog 17 #[.slice ao n cap] w fun e w' => e = .returned (.bool (fewB l)) ∧ Below w.heap.size w w' := by
  obtain ⟨W, hW⟩ : ∃ y, w.alloc (.cells #[.int .u64 0, .int .u64 0, .slice ao n cap] 61) = y := ⟨_, rfl⟩
  have hb : Below w.heap.size w W := by rw [← hW]; exact ba _ _
  have hl := h.len
  have HBA : Hid (BA W (some ⟨w.heap.size, 0, none⟩) 1 1 [rw0 l ao cap]) := lid (by
    have hB : W.heap[w.heap.size]? = some (.cells #[.int .u64 0, .int .u64 0, .slice ao n cap] 61 (0, 0)) := by rw [← hW]; exact heap_alloc_new _ _
    refine ⟨rfl, ⟨rfl, .inr ⟨w.heap.size, 0, rfl, row_lt hB, fun j u hu => ?_⟩⟩, Nat.le_refl _, by simp [maxLen], fun e => (by cases e), fun r hr => ?_⟩
    · rw [Nat.zero_add, row_cell hB, ← hl]
      simpa [rcells, rw0, rwe] using hu
    · rw [List.mem_singleton.1 hr]
      subst hl
      exact h.below hb)
  have CG := lid (refGreat_any [rw0 l ao cap] 1 1 _ W (by omega) HBA.out)
  have HW := lid hW
  clear h hl hW HBA
  go_enter Try.func17, Try.ntmps17
  go_wp2_with fail
  rw [HW.out]
  (with_reducible refine (CG.out).mono ?_); rintro e w1 ⟨rfl, rfl⟩
  go_wp2_with fail
  go_ret
  exact ⟨rfl, hb⟩

/-- Ballots, a key, a number, a worker, an output; and where the ballots lie. -/
structure Ask where
  bs : List Rw
  ao : Option Addr
  n : Nat
  cap : Nat
  key : Dg
  q : Int
  wk : ByteArray
  out : ByteArray
abbrev askc (a : Ask) : Array Value := #[.slice a.ao a.n a.cap, .int .u64 a.key.1.toNat, .int .u64 a.key.2.toNat, .int .i64 a.q, .string a.wk, .string a.out]
structure AskOk (w : World) (a : Ask) : Prop where
  ba : BA w a.ao a.n a.cap a.bs
  q1 : -9223372036854775808 ≤ a.q
  q2 : a.q ≤ 9223372036854775807
  wk : a.wk.size ≤ maxLen
  out : a.out.size ≤ maxLen
theorem AskOk.below {w w' : World} {a : Ask} (h : AskOk w a) (hb : Below w.heap.size w w') : AskOk w' a := ⟨h.ba.below hb, h.q1, h.q2, h.wk, h.out⟩
def fineB (a : Ask) : Bool := !greatB (a.bs.map Rw.bal) && decide (checkB (a.bs.map Rw.bal) = 0) && decide (a.wk.size ≤ 40) && decide (a.out.size ≤ 60)
set_option maxRecDepth 100000 in
set_option maxHeartbeats 4000000 in
theorem fine_any (a : Ask) (w : World) (h : AskOk w a) :
    Calls Try.prog 24 #[.agg (askc a)] w fun e w' => e = .returned (.bool (fineB a)) ∧ Below w.heap.size w w' := by
  have hn63 : a.n ≤ 9223372036854775807 := Nat.le_trans h.ba.le h.ba.max
  have hs1 : a.wk.size ≤ 9223372036854775807 := h.wk
  have hs2 : a.out.size ≤ 9223372036854775807 := h.out
  have CG := lid (refGreat_any a.bs a.n a.cap a.ao (w.alloc (.cells (askc a) 51)) hn63 (h.ba.below (ba _ _)))
  have HA := lid h
  clear h
  cases hg : greatB (a.bs.map Rw.bal) with
  | true =>
    have HV : Hid (fineB a = false) := lid (by unfold fineB; rw [hg]; rfl)
    rw [hg] at CG
    clear hg
    go_enter Try.func24, Try.ntmps24
    go_wp2_with fail
    (with_reducible refine (CG.out).mono ?_); rintro e w1 ⟨rfl, rfl⟩
    go_wp2_with fail
    go_ret
    exact ⟨ret_bool HV.out.symm, ba _ _⟩
  | false =>
    have HG := lid (great_no hg)
    have CK := lid (refCheck_any a.bs a.n a.cap a.ao (w.alloc (.cells (askc a) 51)) (by rw [← HA.out.ba.len]; have := HG.out.1; omega) (HA.out.ba.below (ba _ _)) (fun r hr => by have := (HG.out.2 r hr).1; omega))
    have HV : Hid (fineB a = (decide (checkB (a.bs.map Rw.bal) = 0) && decide (a.wk.size ≤ 40) && decide (a.out.size ≤ 60))) := lid (by unfold fineB; rw [hg]; simp)
    rw [hg] at CG
    clear hg
    obtain ⟨c, hc⟩ : ∃ c, checkB (a.bs.map Rw.bal) = c := ⟨_, rfl⟩
    rw [hc] at CK HV
    clear hc
    by_cases hc0 : c = 0
    case neg =>
      rw [decide_eq_false hc0] at HV
      have d1 : (c == 0) = false := by simpa using hc0
      clear hc0
      go_enter Try.func24, Try.ntmps24
      go_wp2_with fail
      (with_reducible refine (CG.out).mono ?_); rintro e w1 ⟨rfl, rfl⟩
      go_wp2_with fail
      (with_reducible refine (CK.out).mono ?_); rintro e w2 ⟨rfl, hb2⟩
      have hbb := (ba w (.cells (askc a) 51)).trans (hb2.mono (by simp))
      go_wp2_with fail
      go_ret
      exact ⟨ret_bool (by rw [HV.out]; rfl), hbb⟩
    rw [decide_eq_true hc0] at HV
    have d1 : (c == 0) = true := by simpa using hc0
    clear hc0
    have HX : Hid ((w.alloc (.cells (askc a) 51)).heap[w.heap.size]? = some (.cells (askc a) 51 (0, 0))) := lid (heap_alloc_new _ _)
    go_enter Try.func24, Try.ntmps24
    go_wp2_with fail
    (with_reducible refine (CG.out).mono ?_); rintro e w1 ⟨rfl, rfl⟩
    go_wp2_with fail
    (with_reducible refine (CK.out).mono ?_); rintro e w2 ⟨rfl, hb2⟩
    have hbb := (ba w (.cells (askc a) 51)).trans (hb2.mono (by simp))
    replace HX := lid ((hb2.block _ (by simp)).trans HX.out)
    have p3 := row_cell HX.out 4
    have p4 := row_cell HX.out 5
    clear hb2
    by_cases h40 : a.wk.size ≤ 40
    case neg =>
      rw [decide_eq_false h40] at HV
      have d40 : decide ((a.wk.size : Int) ≤ 40) = false := by simp; omega
      clear h40
      go_wp2_with fail
      go_ret
      exact ⟨ret_bool (by rw [HV.out]; rfl), hbb⟩
    rw [decide_eq_true h40] at HV
    have d40 : decide ((a.wk.size : Int) ≤ 40) = true := by simp; omega
    by_cases h60 : a.out.size ≤ 60
    · rw [decide_eq_true h60] at HV
      have d60 : decide ((a.out.size : Int) ≤ 60) = true := by simp; omega
      clear h40 h60
      go_wp2_with fail
      go_ret
      exact ⟨ret_bool (by rw [HV.out]; rfl), hbb⟩
    · rw [decide_eq_false h60] at HV
      have d60 : decide ((a.out.size : Int) ≤ 60) = false := by simp; omega
      clear h40 h60
      go_wp2_with fail
      go_ret
      exact ⟨ret_bool (by rw [HV.out]; rfl), hbb⟩
theorem fine_yes {a : Ask} {w : World} (h : AskOk w a) (hf : fineB a = true) : a.n ≤ 8 ∧ (∀ r ∈ a.bs, r.vs.length ≤ 10) ∧ checkB (a.bs.map Rw.bal) = 0 ∧ a.wk.size ≤ 40 ∧ a.out.size ≤ 60 := by
  unfold fineB at hf
  simp only [Bool.and_eq_true, decide_eq_true_eq, Bool.not_eq_true'] at hf
  obtain ⟨⟨⟨h1, h2⟩, h3⟩, h4⟩ := hf
  have hg := great_no h1
  exact ⟨by rw [← h.ba.len]; exact hg.1, fun r hr => (hg.2 r hr).1, h2, h3, h4⟩

/-- One vote after another; those with an error are left out. -/
def stepV (k : Dg) (b : List Bal) (v : Vt) : List Bal := if voteE b k v.1 v.2 = 0 then voteL b k v.1 v.2 else b
def votesL (k : Dg) (l : List Vt) : List Bal := l.foldl (stepV k) []
theorem votesL_snoc (k : Dg) {l : List Vt} {j : Nat} (hj : j < l.length) : votesL k (l.take (j + 1)) = stepV k (votesL k (l.take j)) l[j] := by
  unfold votesL
  rw [List.take_succ_eq_append_getElem hj, List.foldl_append]
  rfl
theorem votesL_bound (k : Dg) (l : List Vt) : (votesL k l).length ≤ l.length ∧ ∀ b ∈ votesL k l, b.2.length ≤ l.length := by
  suffices h : ∀ (l : List Vt) (b : List Bal) (N : Nat), b.length ≤ N → (∀ x ∈ b, x.2.length ≤ N) → (l.foldl (stepV k) b).length ≤ N + l.length ∧ ∀ x ∈ l.foldl (stepV k) b, x.2.length ≤ N + l.length by
    have := h l [] 0 (by simp) (fun x hx => by cases hx)
    simpa [votesL] using this
  intro l
  induction l with
  | nil => intro b N h1 h2; exact ⟨h1, h2⟩
  | cons v l ih =>
    intro b N h1 h2
    rw [List.foldl_cons]
    have hs : (stepV k b v).length ≤ N + 1 ∧ ∀ x ∈ stepV k b v, x.2.length ≤ N + 1 := by
      unfold stepV
      split
      · exact voteL_bound h1 h2
      · exact ⟨by omega, fun x hx => by have := h2 x hx; omega⟩
    have := ih (stepV k b v) (N + 1) hs.1 hs.2
    rw [List.length_cons, show N + (l.length + 1) = N + 1 + l.length by omega]
    exact this
set_option maxRecDepth 100000 in
set_option maxHeartbeats 8000000 in
theorem votes_any (l : List Vt) (n cap : Nat) (ao : Option Addr) (k : Dg) (w : World) (hm : n ≤ 1000) (h : VA w ao n cap l) :
    Calls Try.prog 20 #[dv k, .slice ao n cap] w fun e w' => ∃ (rs : List Rw) (ao' : Option Addr) (n' cap' : Nat), e = .returned (.slice ao' n' cap') ∧ rs.map Rw.bal = votesL k l ∧ BA w' ao' n' cap' rs ∧ Below w.heap.size w w' := by
  have HN := lid h.len
  have HS := lid h.sl
  have HZ := lid h.sz
  clear h
  unfold dv
  go_enter Try.func20, Try.ntmps20
  go_wp2_with fail
  obtain ⟨W0, hW0⟩ : ∃ y, w.alloc (.cells #[.int .u64 k.1.toNat, .int .u64 k.2.toNat] 25) = y := ⟨_, rfl⟩
  rw [hW0]
  have KB : Hid (W0.heap[w.heap.size]? = some (.cells #[.int .u64 k.1.toNat, .int .u64 k.2.toNat] 25 (0, 0))) := lid (by rw [← hW0]; exact heap_alloc_new _ _)
  have hb0 : Below w.heap.size w W0 := by rw [← hW0]; exact ba _ _
  clear hW0
  replace HS := lid (HS.out.below hb0)
  go_loopw [5, 7, 8, 9, 12] (fun vo _ _ _ i wr => ∃ (j : Nat) (rs : List Rw) (ao' : Option Addr) (n' cap' : Nat), j ≤ n ∧ i = .int .i64 j ∧ vo = .slice ao' n' cap' ∧ Hid (rs.map Rw.bal = votesL k (l.take j)) ∧ Hid (BA wr ao' n' cap' rs) ∧ Below W0.heap.size W0 wr) (fun _ _ _ _ i _ => n - (intOf i).toNat)
  case atStart => exact ⟨0, [], none, 0, 0, Nat.zero_le _, rfl, rfl, lid rfl, lid BA.nil, Below.refl _ _⟩
  case round =>
    obtain ⟨j, rs, ao1, n1, c1, hj, rfl, rfl, HM, HB, hb⟩ := hrel
    by_cases hlt : j < n
    · have hkl : j < l.length := by rw [HN.out]; exact hlt
      obtain ⟨b1, o1, rfl, hlb, hcell⟩ := (HS.out.below hb).at_ hlt
      have x0 := hcell (j * 2 + 0) _ (vcells_at hkl).1
      have x1 := hcell (j * 2 + 1) _ (vcells_at hkl).2
      rw [← Nat.add_assoc] at x1
      rw [Nat.add_zero] at x0
      have HSN := lid (votesL_snoc k hkl)
      have HSZ := lid (HZ.out _ (List.getElem_mem hkl))
      have dk : decide ((j : Int) < (n : Int)) = true := by simp; omega
      obtain ⟨x, hx⟩ : ∃ x, l[j] = x := ⟨_, rfl⟩
      rw [hx] at x0 x1 HSN HSZ
      clear hcell hx
      have HBD : Hid (n1 ≤ j ∧ ∀ r ∈ rs, r.vs.length ≤ j) := lid (by
        have h1 := votesL_bound k (l.take j)
        have h2 : (l.take j).length = j := by rw [List.length_take]; omega
        rw [h2] at h1
        exact rows_bound HB.out HM.out h1.1 h1.2)
      obtain ⟨W1, hW1⟩ : ∃ y, wr.alloc (.cells (vtc x) 27) = y := ⟨_, rfl⟩
      have hb1 : Below wr.heap.size wr W1 := by rw [← hW1]; exact ba _ _
      have CV := lid (Vote_any rs n1 c1 ao1 k x.1 x.2 W1 (by have := HBD.out.1; omega) (HB.out.below hb1) (fun r hr => by have := HBD.out.2 r hr; omega) HSZ.out.1 HSZ.out.2)
      rw [HM.out] at CV
      have KB1 := lid (((hb.trans (hb1.mono hb.size)).block _ (row_lt KB.out)).trans KB.out)
      have hbw1 := hb.trans (hb1.mono hb.size)
      have HB1 := lid (HB.out.below hb1)
      have p0 := (bc hb (row_lt KB.out) 0).trans (row_cell KB.out 0)
      have p1 := (bc hb (row_lt KB.out) 1).trans (row_cell KB.out 1)
      have lK : w.heap.size < wr.heap.size := Nat.lt_of_lt_of_le (row_lt KB.out) hb.size
      have HW1 := lid hW1
      unfold stepV at HSN
      obtain ⟨E, hE⟩ : ∃ y, voteE (votesL k (l.take j)) k x.1 x.2 = y := ⟨_, rfl⟩
      rw [hE] at CV HSN
      clear hE hb1 hW1
      go_wp2_with fail
      rw [HW1.out]
      (with_reducible refine (CV.out).mono ?_); rintro e w2 ⟨l2, ao2, n2, c2, rfl, hB2, hM2, hb2⟩
      have HB2 := lid hB2
      have HM2 := lid hM2
      have hbw2 := hbw1.trans (hb2.mono hbw1.size)
      have HB1' := lid (HB1.out.below hb2)
      clear CV hB2 hM2 hb2
      by_cases he : E = 0
      · rw [if_pos he] at HSN
        have d1 : (E == 0) = true := by simpa using he
        clear he
        go_wp2_with fail
        go_roundw
        case rel => exact ⟨j + 1, l2, ao2, n2, c2, by omega, by go_num, rfl, lid (by rw [HSN.out, HM2.out]), HB2, hbw2⟩
        case measure => simp [intOf]; omega
      · rw [if_neg he] at HSN
        have d1 : (E == 0) = false := by simpa using he
        clear he
        go_wp2_with fail
        go_roundw
        case rel => exact ⟨j + 1, rs, ao1, n1, c1, by omega, by go_num, rfl, lid (by rw [HSN.out, HM.out]), HB1', hbw2⟩
        case measure => simp [intOf]; omega
    · obtain rfl : j = n := by omega
      have HTK : Hid (l.take j = l) := lid (List.take_of_length_le (Nat.le_of_eq HN.out))
      rw [HTK.out] at HM
      have dk : decide ((j : Int) < (j : Int)) = false := by simp
      go_wp2_with fail
      go_ret
      exact ⟨rs, _, _, _, rfl, HM.out, HB.out, hb0.trans (hb.mono hb0.size)⟩
end Go.Proofs.Ytcpnpcbaifagbaa
