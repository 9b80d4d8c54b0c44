/-
  How much a reader of owners files can lay; plain.
-/
import Derived.Test.YtefehgdckmajiaaGreatDoorRdRead
namespace Go.Proofs.YtefehgdckmajiaaGreatDoor
open Go.RowKit

theorem wordsL_count (l : List UInt8) : (wordsL l).length ≤ l.length := by
  suffices hs : ∀ (n : Nat) (l : List UInt8), (wordsG n l).length ≤ l.length from hs _ _
  intro n
  induction n with
  | zero => intro l; simp [wordsG]
  | succ n ih =>
    intro l
    cases l with
    | nil => simp [wordsG]
    | cons c t =>
      rw [wordsG]
      have h1 := dropWhile_len nNl t
      have h2 := dropWhile_len nSp t
      split
      · have := ih t; simp; omega
      · split
        · have := ih (t.dropWhile nNl); simp; omega
        · have := ih (t.dropWhile nSp); simp; omega
theorem readF_cnt {s s' : RdS} {x : ByteArray} (h : readF s x = some s') : s'.cnt ≤ s.cnt + 1 := by
  cases s <;> simp only [readF] at h <;> (repeat' split at h) <;> cases h <;> simp [RdS.cnt, RdS.done, RdS.op, RdS.gs, RdS.og]
  all_goals omega
theorem readF_done {s s' : RdS} {x : ByteArray} {N : Nat} (h : readF s x = some s') (hd : ∀ r ∈ s.done, r.2.length ≤ N) (hc : s.cnt + 1 ≤ N) : ∀ r ∈ s'.done, r.2.length ≤ N := by
  cases s <;> simp only [readF] at h <;> (repeat' split at h) <;> cases h <;> first | exact hd | skip
  rename_i l p gs g _ _ _
  intro r hr
  rcases List.mem_append.1 hr with hr | hr
  · exact hd r hr
  · simp only [List.mem_singleton] at hr
    subst hr
    simp [RdS.cnt, RdS.done, RdS.op, RdS.gs, RdS.og] at hc
    simp
    omega
theorem readGo_cons_some {s s' : RdS} {x : List UInt8} {l : List (List UInt8)} (h : readF s (bstr x) = some s') : readGo s (x :: l) = readGo s' l := by
  rw [readGo, h]
theorem readGo_cons_none {s : RdS} {x : List UInt8} {l : List (List UInt8)} (h : readF s (bstr x) = none) : readGo s (x :: l) = none := by
  rw [readGo, h]
theorem parseF_none {s : ByteArray} (h : readGo (.rule []) (wordsL s.data.toList) = none) : parseF s = none := by
  unfold parseF; rw [h]
theorem parseF_open {s : ByteArray} {r : RdS} (h : readGo (.rule []) (wordsL s.data.toList) = some r) (hp : r.place ≠ 0) : parseF s = none := by
  unfold parseF; rw [h]
  cases r <;> first | rfl | exact absurd rfl hp
theorem parseF_rule {s : ByteArray} {r : RdS} (h : readGo (.rule []) (wordsL s.data.toList) = some r) (hp : r.place = 0) : ∃ l, r = .rule l ∧ parseF s = if chkL l = 0 then some l else none := by
  cases r with
  | rule l => exact ⟨l, rfl, by unfold parseF; rw [h]⟩
  | _ => cases hp
end Go.Proofs.YtefehgdckmajiaaGreatDoor
