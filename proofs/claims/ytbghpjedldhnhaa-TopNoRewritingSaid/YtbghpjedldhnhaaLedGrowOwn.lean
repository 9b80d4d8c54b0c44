/-
  A ledger's own growth proofs are right. No program in sight.
-/
import Derived.Test.YtbghpjedldhnhaaLedOwn
import Derived.Test.YtbghpjedldhnhaaLedExtends
import Derived.Test.YtbghpjedldhnhaaLedExtend
namespace Go.Proofs.Ytbghpjedldhnhaa
open Go.RowKit

theorem roots_grow (fst : List Dg → Dg) (hf : ∀ e, fst [e] = e) (m : Nat) : ∀ (ds : List Dg) (n : Nat) (whole : Bool) (old : Dg), ds.length ≤ m → 1 ≤ n → n ≤ ds.length → (whole = true → old = rootD (ds.take n)) →
    rootsD fst n ds.length whole old (growD ds n whole) = (rootD (ds.take n), rootD ds, true) := by
  induction m with
  | zero => intro ds n whole old h h1 h2; omega
  | succ m ih =>
    intro ds n whole old h h1 h2 ho
    by_cases hn : n = ds.length
    · subst hn
      cases whole with
      | true =>
        rw [growD_all _ _ rfl, if_pos rfl, rootsD_whole, ho rfl, List.take_length]
        simp
      | false =>
        rw [growD_all _ _ rfl, if_neg (by simp), List.take_length]
        have := rootsD_same fst ds.length old [] (rootD ds)
        rw [List.nil_append] at this
        rw [this, hf]
        simp
    · have hk2 : 2 ≤ ds.length := by omega
      have hk0 := halfN_pos ds.length
      have hk1 := halfN_lt hk2
      have hk3 := halfN_ge hk2
      by_cases hk : n ≤ halfN ds.length
      · rw [growD_lo hn hk2 hk, rootsD_lo fst hn hk]
        have hl : (ds.take (halfN ds.length)).length = halfN ds.length := by simp; omega
        have ht : (ds.take (halfN ds.length)).take n = ds.take n := by rw [List.take_take, Nat.min_eq_left hk]
        have := ih (ds.take (halfN ds.length)) n whole old (by omega) h1 (by omega) (by rw [ht]; exact ho)
        rw [hl, ht] at this
        rw [this, rootD_more hk2]
      · rw [growD_hi hn hk2 hk, rootsD_hi fst hn hk]
        have hl : (ds.drop (halfN ds.length)).length = ds.length - halfN ds.length := by simp
        have := ih (ds.drop (halfN ds.length)) (n - halfN ds.length) false old (by omega) (by omega) (by omega) (by intro h; cases h)
        rw [hl] at this
        have hln : (ds.take n).length = n := by simp; omega
        have hh : halfN ds.length = halfN n := halfN_eq rfl (by omega) (by omega)
        have h2n : 2 ≤ (ds.take n).length := by omega
        have hr : rootD (ds.take n) = pairD (rootD (ds.take (halfN ds.length))) (rootD ((ds.drop (halfN ds.length)).take (n - halfN ds.length))) := by
          rw [rootD_more h2n, hln, ← hh, List.take_take, Nat.min_eq_left (by omega), List.drop_take]
        rw [this, hr]
        have hr2 := rootD_more hk2
        rw [hr2]

theorem chkGo_take (l : List Rec) : ∀ (p : Option Int) (n : Nat), chkGo p l = 0 → chkGo p (l.take n) = 0 := by
  induction l with
  | nil => intro p n h; simpa using h
  | cons a l ih =>
    intro p n h
    cases n with
    | zero => cases p <;> simp [chkGo]
    | succ n =>
      rw [List.take_succ_cons]
      cases p with
      | none =>
        simp only [chkGo] at h ⊢
        split at h
        · rename_i hb
          rw [if_pos hb]
          exact ih _ _ h
        · cases h
      | some p =>
        simp only [chkGo] at h ⊢
        split at h
        · rename_i hb
          rw [if_pos hb]
          split at h
          · cases h
          · rename_i ht
            rw [if_neg ht]
            exact ih _ _ h
        · cases h
theorem check_take {l : List Rec} (h : checkL l = 0) (n : Nat) : checkL (l.take n) = 0 := by
  have hl := check_len h
  unfold checkL at h ⊢
  rw [if_pos hl] at h
  rw [if_pos (by simp; omega)]
  exact chkGo_take _ _ _ h
theorem own_extends {l : List Rec} (h : checkL l = 0) (n : Nat) (hn : n ≤ l.length) : (extE l n).2 = 0 ∧ extendsB fstL (headD (l.take n)) n (headD l) l.length (extE l n).1 = true := by
  have hl := check_len h
  have hh : headD (l.take n) = rootD ((l.map recD).take n) := by unfold headD; rw [if_pos (check_take h n), List.map_take]
  have hw : headD l = rootD (l.map recD) := by unfold headD; rw [if_pos h]
  rw [hh, hw]
  by_cases h0 : n = 0
  · subst h0
    have e : extE l ((0 : Nat) : Int) = ([], 0) := extE_zero h
    rw [e]
    have x := extendsB_zero fstL (rootD ((l.map recD).take 0)) (rootD (l.map recD)) [] (m := (l.length : Int)) (by omega)
    refine ⟨rfl, ?_⟩
    show extendsB _ _ 0 _ _ [] = true
    rw [x]
    simp
  · rw [extE_in h (by omega) hn]
    refine ⟨rfl, ?_⟩
    by_cases h5 : n = l.length
    · have x := extendsB_same fstL (rootD ((l.map recD).take n)) (rootD (l.map recD)) (growD (l.map recD) n true) (n := (n : Int)) (by omega) (by omega)
      have e : (l.map recD).take n = l.map recD := List.take_of_length_le (by simp; omega)
      have g : growD (l.map recD) n true = [] := by rw [growD_all _ _ (by simpa using h5), if_pos rfl]
      rw [h5] at x e g ⊢
      show extendsB fstL _ _ _ _ (growD (l.map recD) l.length true) = true
      rw [x, e, g]
      simp
    · have x := extendsB_in fstL (rootD ((l.map recD).take n)) (rootD (l.map recD)) (growD (l.map recD) n true) (n := (n : Int)) (m := (l.length : Int)) (by omega) (by omega) (by omega)
      have y := roots_grow fstL (fun _ => rfl) l.length (l.map recD) n true (rootD ((l.map recD).take n)) (by simp) (by omega) (by simpa using hn) (fun _ => rfl)
      rw [List.length_map] at y
      show extendsB fstL _ _ _ _ (growD (l.map recD) n true) = true
      rw [x, Int.toNat_natCast, Int.toNat_natCast, y]
      simp
theorem extend_len {l : List Rec} (h : checkL l = 0) (i : Int) : (extE l i).1.length ≤ 10001 := by
  have hl := check_len h
  unfold extE
  rw [if_pos h]
  split
  · split
    · simp
    · have := growD_length (l.map recD) i.toNat true
      rw [List.length_map] at this
      show (growD _ _ _).length ≤ _
      omega
  · simp
theorem LedA.take {w : World} {ao : Option Addr} {n cap : Nat} {l : List Rec} (h : LedA w ao n cap l) {k : Nat} (hk : k ≤ n) : LedA w ao k cap (l.take k) :=
  ⟨by rw [List.length_take, h.len]; omega, by rw [← rcells_take]; exact h.sl.take hk, fun r hr => h.sizes r (List.mem_of_mem_take hr), Nat.le_trans hk h.max⟩
theorem prove_len {l : List Rec} (h : checkL l = 0) (i : Int) : (proveE l i).1.length ≤ 10000 := by
  have hl := check_len h
  unfold proveE
  rw [if_pos h]
  unfold proofE
  split
  · simp
  · have := proofD_length l.length (l.map recD) i.toNat (by simp)
    simp at this
    show (proofD _ _).length ≤ _
    omega
end Go.Proofs.Ytbghpjedldhnhaa
