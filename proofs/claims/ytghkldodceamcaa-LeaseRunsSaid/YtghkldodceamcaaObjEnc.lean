/-
  The encoding of an object: plain, and the reference's encode.
-/
import Derived.Test.YtghkldodceamcaaObjBytes
namespace Go.Proofs.Ytghkldodceamcaa
open Go.RowKit

theorem oputI_len (n : Int) : (putI n).length ≤ 6 := by
  unfold putI putB
  split
  · rename_i h
    have := of_decide_eq_true h
    exact putN_six (by omega)
  · simp
theorem oputX_len (l : List UInt8) : (putX l).length ≤ l.length + 6 := by
  unfold putX
  split
  · rename_i h
    unfold putT
    rw [List.length_append]
    have := putN_six (n := l.length) (by omega)
    omega
  · simp
def digL (d : Dg) : List UInt8 := bytesU d.1 d.2
theorem digL_len (d : Dg) : (digL d).length = 16 := bytesU_length _ _
def dirI (b : Bool) : Int := if b = true then 1 else 0
def entL (e : Ent) : List UInt8 := putX e.1.data.toList ++ (putI (dirI e.2.1) ++ digL e.2.2)
def entsL (o : Ob) (k : Nat) : List UInt8 := putI o.kind ++ (putI o.ents.length ++ (o.ents.take k).flatMap entL)
def parsL (o : Ob) (k : Nat) : List UInt8 := putI o.kind ++ (digL o.tree ++ (putI o.pars.length ++ (o.pars.take k).flatMap digL))
def encL (o : Ob) : List UInt8 :=
  if o.kind = 2 then entsL o o.ents.length
  else if o.kind = 3 then parsL o o.pars.length ++ (putX o.auth.data.toList ++ (putI o.time ++ putX o.msg.data.toList))
  else putI o.kind ++ putX o.data.data.toList
theorem entL_len {e : Ent} (h : e.1.size ≤ 24) : (entL e).length ≤ 52 := by
  unfold entL
  have h1 := oputX_len e.1.data.toList
  have h2 := oputI_len (dirI e.2.1)
  have h3 := digL_len e.2.2
  have h4 : e.1.data.toList.length = e.1.size := rfl
  simp only [List.length_append]
  omega
theorem flat_len {α : Type} {f : α → List UInt8} {l : List α} {m : Nat} (h : ∀ x ∈ l, (f x).length ≤ m) : (l.flatMap f).length ≤ l.length * m := by
  induction l with
  | nil => simp
  | cons a l ih =>
    have h1 := h a (List.mem_cons_self ..)
    have h2 := ih fun x hx => h x (List.mem_cons_of_mem _ hx)
    simp only [List.flatMap_cons, List.length_append, List.length_cons, Nat.add_mul, Nat.one_mul]
    omega
theorem flat_succ {α : Type} (f : α → List UInt8) {l : List α} {k : Nat} (h : k < l.length) : (l.take (k + 1)).flatMap f = (l.take k).flatMap f ++ f (l[k]) := by
  rw [List.take_succ_eq_append_getElem h, List.flatMap_append]
  simp
theorem entsL_succ {o : Ob} {k : Nat} (h : k < o.ents.length) : entsL o (k + 1) = entsL o k ++ entL (o.ents[k]) := by
  unfold entsL; rw [flat_succ _ h]; simp only [List.append_assoc]
theorem parsL_succ {o : Ob} {k : Nat} (h : k < o.pars.length) : parsL o (k + 1) = parsL o k ++ digL (o.pars[k]) := by
  unfold parsL; rw [flat_succ _ h]; simp only [List.append_assoc]
theorem entsL_zero (o : Ob) : entsL o 0 = putI o.kind ++ putI o.ents.length := by unfold entsL; simp
theorem parsL_zero (o : Ob) : parsL o 0 = putI o.kind ++ (digL o.tree ++ putI o.pars.length) := by unfold parsL; simp
/-- What a valid object has. -/
theorem nameB_size {s : ByteArray} (h : nameB s = true) : s.size ≤ 24 := by
  unfold nameB wordB at h
  simp only [Bool.and_eq_true, decide_eq_true_eq] at h
  exact h.1.1.2
theorem ents_names : ∀ {l : List Ent} {p : Option ByteArray}, entsGo p l = 0 → ∀ e ∈ l, nameB e.1 = true ∧ zeroB e.2.2 = false
  | [], _, _, e, he => by cases he
  | x :: l, p, h, e, he => by
    cases hx : nameB x.1 with
    | false => rw [ents_name hx] at h; cases h
    | true =>
      have ho : ∀ q, p = some q → leB x.1 q = false := by
        intro q hq
        subst hq
        cases hl : leB x.1 q with
        | false => rfl
        | true => rw [ents_order hx hl] at h; cases h
      cases hz : zeroB x.2.2 with
      | true => rw [ents_zero hx ho hz] at h; cases h
      | false =>
        rw [ents_next hx ho hz] at h
        rcases List.mem_cons.1 he with rfl | he
        · exact ⟨hx, hz⟩
        · exact ents_names h e he
theorem checkO_kind {o : Ob} (h : checkO o = 0) : o.kind = 1 ∨ o.kind = 2 ∨ o.kind = 3 ∨ o.kind = 4 := by
  unfold checkO at h
  split at h
  · omega
  · split at h
    · omega
    · split at h
      · omega
      · omega
theorem checkO_ents {o : Ob} (h : checkO o = 0) (hk : o.kind = 2) : o.ents.length ≤ 200 ∧ entsGo none o.ents = 0 := by
  unfold checkO at h
  rw [if_neg (by omega), if_pos hk] at h
  split at h
  · cases h
  · unfold entsE at h
    split at h
    · rename_i h1; exact ⟨h1, h⟩
    · cases h
theorem checkO_names {o : Ob} (h : checkO o = 0) (hk : o.kind = 2) : ∀ e ∈ o.ents, e.1.size ≤ 24 := fun e he => nameB_size (ents_names (checkO_ents h hk).2 e he).1
theorem checkO_comm {o : Ob} (h : checkO o = 0) (hk : o.kind = 3) : o.pars.length ≤ 8 ∧ o.auth.size ≤ 24 ∧ 0 ≤ o.time ∧ o.time ≤ 1099511627776 ∧ o.msg.size ≤ 200 := by
  unfold checkO at h
  rw [if_neg (by omega), if_neg (by omega), if_pos hk] at h
  split at h
  · cases h
  · unfold commE at h
    split at h
    · cases h
    · split at h
      · cases h
      · split at h
        · split at h
          · split at h
            · cases h
            · split at h
              · cases h
              · rename_i h1 h2 h3 h4 h5
                exact ⟨by omega, nameB_size h3, by omega, by omega, by omega⟩
          · cases h
        · exact absurd h ‹_›
theorem entsL_len {o : Ob} (h : ∀ e ∈ o.ents, e.1.size ≤ 24) {k : Nat} (hk : k ≤ o.ents.length) : (entsL o k).length ≤ 12 + k * 52 := by
  unfold entsL
  have h1 := oputI_len o.kind
  have h2 := oputI_len o.ents.length
  have h3 := flat_len (f := entL) (l := o.ents.take k) (m := 52) fun e he => entL_len (h e (List.mem_of_mem_take he))
  rw [List.length_take, Nat.min_eq_left hk] at h3
  simp only [List.length_append]
  omega
theorem parsL_len (o : Ob) {k : Nat} (hk : k ≤ o.pars.length) : (parsL o k).length ≤ 28 + k * 16 := by
  unfold parsL
  have h1 := oputI_len o.kind
  have h2 := oputI_len o.pars.length
  have h4 := digL_len o.tree
  have h3 := flat_len (f := digL) (l := o.pars.take k) (m := 16) fun e _ => Nat.le_of_eq (digL_len e)
  rw [List.length_take, Nat.min_eq_left hk] at h3
  simp only [List.length_append]
  omega
/-- The encoding of a valid object of a usual size is never too long. -/
theorem encL_len {o : Ob} (h : checkO o = 0) (hd : o.data.size ≤ 60000) : (encL o).length ≤ 60012 := by
  unfold encL
  split
  · rename_i hk
    have := entsL_len (checkO_names h hk) (Nat.le_refl _)
    have := (checkO_ents h hk).1
    omega
  · split
    · rename_i hk
      obtain ⟨h1, h2, _, _, h3⟩ := checkO_comm h hk
      have h4 := parsL_len o (Nat.le_refl _)
      have h5 := oputX_len o.auth.data.toList
      have h6 := oputX_len o.msg.data.toList
      have h7 := oputI_len o.time
      have h8 : o.auth.data.toList.length = o.auth.size := rfl
      have h9 : o.msg.data.toList.length = o.msg.size := rfl
      simp only [List.length_append]
      omega
    · have h5 := oputX_len o.data.data.toList
      have h7 := oputI_len o.kind
      have h8 : o.data.data.toList.length = o.data.size := rfl
      simp only [List.length_append]
      omega
end Go.Proofs.Ytghkldodceamcaa
