/-
  digest.Proof and the reference's Proof: the error and the digests of the proof.
-/
import Derived.Test.YtnfekadnjblciaaDigProof
import Derived.Test.YtnfekadnjblciaaDigRootOf
import Derived.Test.YtnfekadnjblciaaDigRefRoot
namespace Go.Proofs.Ytnfekadnjblciaa
open Go.RowKit

/-- The proof of a place, or an error. -/
def proofE (l : List Dg) (i : Int) : List Dg × Int := if i < 0 ∨ (l.length : Int) ≤ i then ([], 2) else (proofD l i.toNat, 0)

set_option maxHeartbeats 400000 in
theorem Proof_any (l : List Dg) (n : Nat) (ao : Option Addr) (cap : Nat) (i : Int) (w : World) (hn : l.length = n) (hcap : n ≤ cap) (hl : n ≤ 1000000) (hs : DSl w ao l) :
    Calls Try.prog 32 #[.slice ao n cap, .int .i64 i] w fun e w' => ∃ v, e = .returned (.tuple #[v, .int .i64 (proofE l i).2]) ∧ w'.ownsRow w.heap.size 37 2 v (proofE l i).1.length (dcells (proofE l i).1) ∧ Below w.heap.size w w' := by
  by_cases hi0 : i < 0
  · have HE : Hid (proofE l i = ([], 2)) := by show _ = _; unfold proofE; rw [if_pos (.inl hi0)]
    clear hn
    go_enter Try.func32, Try.ntmps32
    go_wp2_with fail
    go_ret2
    exact ⟨_, by rw [HE.out]; rfl, by rw [HE.out]; exact World.ownsRow_nil _ _ _ _, Below.refl _ _⟩
  by_cases hi1 : (n : Int) ≤ i
  · have HE : Hid (proofE l i = ([], 2)) := by show _ = _; unfold proofE; rw [if_pos (.inr (by omega))]
    clear hn
    go_enter Try.func32, Try.ntmps32
    go_wp2_with fail
    go_ret2
    exact ⟨_, by rw [HE.out]; rfl, by rw [HE.out]; exact World.ownsRow_nil _ _ _ _, Below.refl _ _⟩
  · have HE : Hid (proofE l i = (proofD l i.toNat, 0)) := by show _ = _; unfold proofE; rw [if_neg (by omega)]
    have HN := lid hn
    obtain ⟨b, off, rfl, hb, hc⟩ := hs.resolve_left (by omega)
    clear hn hs
    go_enter Try.func32, Try.ntmps32
    go_wp2_with fail
    (with_reducible refine (proof_any n l n b off cap i w HN.out (by omega) (by omega) (by omega) (by omega) hb hc (by omega) (by omega)).mono ?_); rintro e w1 ⟨v1, rfl, hown1, hb1⟩
    go_wp2_with fail
    go_ret2
    exact ⟨v1, by rw [HE.out]; rfl, by rw [HE.out]; exact hown1, hb1⟩

set_option maxHeartbeats 1000000 in
theorem refProof_in (m : Nat) : ∀ (l : List Dg) (n b off cap : Nat) (i : Int) (w : World), l.length = n → n ≤ m → 1 ≤ n → n ≤ cap → n ≤ 1099511627776 → b < w.heap.size → DCells w b off l → 0 ≤ i → i < n →
    Calls Try.prog 43 #[.slice (some ⟨b, off, none⟩) n cap, .int .i64 i] w fun e w' => ∃ v, e = .returned (.tuple #[v, .int .i64 0]) ∧ w'.ownsRow w.heap.size 37 2 v (proofD l i.toNat).length (dcells (proofD l i.toNat)) ∧ Below w.heap.size w w' := by
  induction m with
  | zero => intro l n b off cap i w h1 h2; omega
  | succ m ih =>
    intro l n b off cap i w hn hm h1 hcap hl hb hc hi0 hi1
    have IH := lid ih
    clear ih
    by_cases h2 : 2 ≤ n
    · have hk0 := halfN_pos n
      have hk1 := halfN_lt h2
      have HT : Hid ((l.take (halfN n)).length = halfN n) := by show _ = _; simp; omega
      have HD : Hid ((l.drop (halfN n)).length = n - halfN n) := by show _ = _; simp; omega
      have HN := lid hn
      clear hn
      by_cases hi : i < halfN n
      · have HP : Hid (proofD l i.toNat = proofD (l.take (halfN n)) i.toNat ++ [rootD (l.drop (halfN n))]) := by
          show _ = _
          have := HN.out
          subst this
          exact proofD_lo h2 (by omega)
        have HL : Hid ((proofD (l.take (halfN n)) i.toNat).length ≤ 1099511627776) := lid (Nat.le_trans (proofD_length _ _ _ (Nat.le_refl _)) (by have := HT.out; omega))
        go_enter Try.func43, Try.ntmps43
        go_wp2_with fail
        (with_reducible refine (refLeft_any n _ h2 hl).mono ?_); rintro e w1 ⟨rfl, rfl⟩
        go_wp2_with fail
        (with_reducible refine (IH.out (l.take (halfN n)) _ b _ _ i w HT.out (by omega) (by omega) (by omega) (by omega) hb (hc.take _) (by omega) (by omega)).mono ?_); rintro e w1 ⟨v1, rfl, hown1, hb1⟩
        have hz1 := hb1.size
        go_wp2_with fail
        (with_reducible refine (refRoot_any n (l.drop (halfN n)) _ b _ _ _ HD.out (by omega) (by omega) (by omega) (by omega) (by omega) ((hc.drop _).below hb1 hb)).mono ?_); rintro e w2 ⟨rfl, hb2⟩
        have hs2 : Below w.heap.size w w2 := hb1.trans (hb2.mono hz1)
        have hz2 : w.heap.size ≤ w2.heap.size := Nat.le_trans hz1 hb2.size
        have hown2 := ownsRow_below hown1 hb2
        go_wp2_with (at_builtin; go_must (refine wpList_append_new #[.int .u64 (rootD (l.drop (halfN n))).1.toNat, .int .u64 (rootD (l.drop (halfN n))).2.toNat] rfl _ _ 31 rfl w.heap.size 37 (.agg #[.int .u64 0, .int .u64 0]) 2 16 info_dg Try.underlying31 rfl (by decide) v1 _ _ hown2 rfl rfl rfl (by simp [Value.oneCell']) (by have := HL.out; unfold maxLen; omega) (by have := HL.out; omega) hz2 ?_))
        intro v3 w3 hown3 hb3 _
        have hs3 := hs2.trans hb3
        go_wp2_with fail
        go_ret2
        refine ⟨v3, rfl, ?_, hs3⟩
        rw [HP.out, List.length_append, dcells_append]
        exact hown3
      · have HP : Hid (proofD l i.toNat = proofD (l.drop (halfN n)) (i - halfN n).toNat ++ [rootD (l.take (halfN n))]) := by
          show _ = _
          have := HN.out
          subst this
          rw [proofD_hi h2 (by omega)]
          congr 2
          omega
        have HL : Hid ((proofD (l.drop (halfN n)) (i - halfN n).toNat).length ≤ 1099511627776) := lid (Nat.le_trans (proofD_length _ _ _ (Nat.le_refl _)) (by have := HD.out; omega))
        go_enter Try.func43, Try.ntmps43
        go_wp2_with fail
        (with_reducible refine (refLeft_any n _ h2 hl).mono ?_); rintro e w1 ⟨rfl, rfl⟩
        go_wp2_with fail
        (with_reducible refine (IH.out (l.drop (halfN n)) _ b _ _ (i - halfN n) w HD.out (by omega) (by omega) (by omega) (by omega) hb (hc.drop _) (by omega) (by omega)).mono ?_); rintro e w1 ⟨v1, rfl, hown1, hb1⟩
        have hz1 := hb1.size
        go_wp2_with fail
        (with_reducible refine (refRoot_any n (l.take (halfN n)) _ b _ _ _ HT.out (by omega) (by omega) (by omega) (by omega) (by omega) ((hc.take _).below hb1 hb)).mono ?_); rintro e w2 ⟨rfl, hb2⟩
        have hs2 : Below w.heap.size w w2 := hb1.trans (hb2.mono hz1)
        have hz2 : w.heap.size ≤ w2.heap.size := Nat.le_trans hz1 hb2.size
        have hown2 := ownsRow_below hown1 hb2
        go_wp2_with (at_builtin; go_must (refine wpList_append_new #[.int .u64 (rootD (l.take (halfN n))).1.toNat, .int .u64 (rootD (l.take (halfN n))).2.toNat] rfl _ _ 31 rfl w.heap.size 37 (.agg #[.int .u64 0, .int .u64 0]) 2 16 info_dg Try.underlying31 rfl (by decide) v1 _ _ hown2 rfl rfl rfl (by simp [Value.oneCell']) (by have := HL.out; unfold maxLen; omega) (by have := HL.out; omega) hz2 ?_))
        intro v3 w3 hown3 hb3 _
        have hs3 := hs2.trans hb3
        go_wp2_with fail
        go_ret2
        refine ⟨v3, rfl, ?_, hs3⟩
        rw [HP.out, List.length_append, dcells_append]
        rw [show (i - (halfN n : Int)).toNat = i.toNat - halfN n by omega]
        exact hown3
    · obtain rfl : n = 1 := by omega
      have HP := lid (proofD_few (l := l) (by omega) i.toNat)
      clear hn
      go_enter Try.func43, Try.ntmps43
      go_wp2_with fail
      go_ret2
      refine ⟨_, rfl, ?_, (Below.refl _ _).alloc (Nat.le_refl _) _⟩
      rw [HP.out]
      exact ownsRow_empty rfl (Nat.le_refl _)

set_option maxHeartbeats 400000 in
theorem refProof_any (l : List Dg) (n : Nat) (ao : Option Addr) (cap : Nat) (i : Int) (w : World) (hn : l.length = n) (hcap : n ≤ cap) (hl : n ≤ 1000000) (hs : DSl w ao l) :
    Calls Try.prog 43 #[.slice ao n cap, .int .i64 i] w fun e w' => ∃ v, e = .returned (.tuple #[v, .int .i64 (proofE l i).2]) ∧ w'.ownsRow w.heap.size 37 2 v (proofE l i).1.length (dcells (proofE l i).1) ∧ Below w.heap.size w w' := by
  by_cases hi0 : i < 0
  · have HE : Hid (proofE l i = ([], 2)) := by show _ = _; unfold proofE; rw [if_pos (.inl hi0)]
    clear hn
    go_enter Try.func43, Try.ntmps43
    go_wp2_with fail
    go_ret2
    exact ⟨_, by rw [HE.out]; rfl, by rw [HE.out]; exact ownsRow_empty rfl (Nat.le_refl _), (Below.refl _ _).alloc (Nat.le_refl _) _⟩
  by_cases hi1 : (n : Int) ≤ i
  · have HE : Hid (proofE l i = ([], 2)) := by show _ = _; unfold proofE; rw [if_pos (.inr (by omega))]
    clear hn
    go_enter Try.func43, Try.ntmps43
    go_wp2_with fail
    go_ret2
    exact ⟨_, by rw [HE.out]; rfl, by rw [HE.out]; exact ownsRow_empty rfl (Nat.le_refl _), (Below.refl _ _).alloc (Nat.le_refl _) _⟩
  · have HE : proofE l i = (proofD l i.toNat, 0) := by unfold proofE; rw [if_neg (by omega)]
    obtain ⟨b, off, rfl, hb, hc⟩ := hs.resolve_left (by omega)
    rw [HE]
    exact refProof_in n l n b off cap i w hn (by omega) (by omega) hcap (by omega) hb hc (by omega) (by omega)
end Go.Proofs.Ytnfekadnjblciaa
