/-
  Sets of numbers: Whole, whole, Without, has, contains.
-/
import Derived.Test.YtnjcoejnknpfoaaMinInt
namespace Go.Proofs.Ytnjcoejnknpfoaa
open Go.RowKit
def upto (n : Nat) : List Int := (List.range n).map fun (i : Nat) => (i : Int)
theorem upto_succ (n : Nat) : upto (n + 1) = upto n ++ [(n : Int)] := by simp [upto, List.range_succ]
theorem upto_length (n : Nat) : (upto n).length = n := by simp [upto]
theorem ivals_snoc (l : List Int) (x : Int) : ivals (l ++ [x]) = ivals l ++ [.int .i64 x] := by simp [ivals]
def lessI (l : List Int) (x : Int) : List Int := l.filter fun y => !decide (y = x)
theorem lessI_succ {l : List Int} {k : Nat} {x : Int} (hk : k < l.length) : lessI (l.take (k + 1)) x = lessI (l.take k) x ++ (if l[k] = x then [] else [l[k]]) := by
  unfold lessI
  rw [List.take_succ_eq_append_getElem hk, List.filter_append]
  by_cases h : l[k] = x <;> simp [h]
def hasI (l : List Int) (x : Int) : Bool := l.any fun y => decide (y = x)
def contI (l m : List Int) : Bool := m.all fun x => hasI l x

set_option maxRecDepth 100000 in
set_option maxHeartbeats 4000000 in
theorem Whole_any (n : Nat) (w : World) (hn : n ≤ 1000000) :
    Calls Try.prog 31 #[.int .i64 n] w fun e w' => ∃ v', e = .returned v' ∧ w'.ownsRow w.heap.size 3 1 v' n (ivals (upto n)) ∧ Below w.heap.size w w' := by
  go_enter Try.func31, Try.ntmps31
  go_wp2_with fail
  go_loopw [3, 4] (fun vo i wr => ∃ j : Nat, j ≤ n ∧ i = .int .i64 j ∧ Hid (wr.ownsRow w.heap.size 3 1 vo j (ivals (upto j))) ∧ Below w.heap.size w wr) (fun _ i _ => n - (intOf i).toNat)
  case atStart => exact ⟨0, Nat.zero_le _, rfl, lid (ownsRow_empty rfl (Nat.le_refl _)), ba _ _⟩
  case round =>
    obtain ⟨j, hj, rfl, HO, hb⟩ := hrel
    obtain ⟨aoO, capO, rfl⟩ := own_slice HO.out
    by_cases hlt : j < n
    · have dk : decide ((j : Int) < (n : Int)) = true := by simp; omega
      go_wp2_with (at_builtin; go_must (refine wpList_append_new (w := wr) #[.int .i64 j] rfl _ _ 30 rfl w.heap.size 3 (.int .i64 0) 1 8 info_int Try.underlying30 rfl (by decide) _ j _ HO.out rfl rfl rfl (by intro u hu; simp only [List.mem_cons, List.not_mem_nil, or_false] at hu; rw [hu]; rfl) (by simp only [maxLen]; omega) (by omega) hb.size ?_))
      intro v9 w9 hown9 hb9 _
      have HO9 : Hid (w9.ownsRow w.heap.size 3 1 v9 (j + 1) (ivals (upto (j + 1)))) := lid (by rw [upto_succ, ivals_snoc]; exact hown9)
      have hb19 := hb.trans hb9
      clear hown9 hb9
      go_wp2_with fail
      go_roundw
      case rel => exact ⟨j + 1, by omega, by go_num, HO9, hb19⟩
      case measure => simp [intOf]; omega
    · obtain rfl : j = n := by omega
      have dk : decide ((j : Int) < (j : Int)) = false := by simp
      go_wp2_with fail
      go_ret
      exact ⟨_, rfl, HO.out, hb⟩

set_option maxRecDepth 100000 in
set_option maxHeartbeats 4000000 in
theorem Without_any (l : List Int) (n cap : Nat) (ao : Option Addr) (x : Int) (w : World) (hn : n ≤ 1000000) (h : IA w ao n cap l) :
    Calls Try.prog 29 #[.slice ao n cap, .int .i64 x] w fun e w' => ∃ v' m, e = .returned v' ∧ w'.ownsRow w.heap.size 3 1 v' m (ivals (lessI l x)) ∧ Below w.heap.size w w' := by
  have HN := lid h.len
  have HS := lid h.sl
  clear h
  go_enter Try.func29, Try.ntmps29
  go_wp2_with fail
  go_loopw [5, 6] (fun vo i wr => ∃ j m : Nat, j ≤ n ∧ i = .int .i64 j ∧ m ≤ j ∧ Hid (wr.ownsRow w.heap.size 3 1 vo m (ivals (lessI (l.take j) x))) ∧ Below w.heap.size w wr) (fun _ i _ => n - (intOf i).toNat)
  case atStart => exact ⟨0, 0, Nat.zero_le _, rfl, Nat.le_refl _, lid (ownsRow_empty rfl (Nat.le_refl _)), ba _ _⟩
  case round =>
    obtain ⟨j, m, hj, rfl, hmj, HO, hb⟩ := hrel
    obtain ⟨aoO, capO, rfl⟩ := own_slice HO.out
    by_cases hlt : j < n
    · have hkl : j < l.length := by rw [HN.out]; exact hlt
      obtain ⟨b1, o1, rfl, hlb, hcell⟩ := (HS.out.below hb).at_ hlt
      have x0 := hcell j _ (ivals_at hkl)
      have HC := lid (lessI_succ (x := x) hkl)
      have dk : decide ((j : Int) < (n : Int)) = true := by simp; omega
      obtain ⟨y, hy⟩ : ∃ y, l[j] = y := ⟨_, rfl⟩
      rw [hy] at x0 HC
      clear hcell hy
      by_cases he : y = x
      · rw [if_pos he, List.append_nil] at HC
        have d := int_eq he
        clear he
        go_wp2_with fail
        go_roundw
        case rel => exact ⟨j + 1, m, by omega, by go_num, by omega, lid (by rw [HC.out]; exact HO.out), hb⟩
        case measure => simp [intOf]; omega
      · rw [if_neg he] at HC
        have d := int_ne he
        clear he
        go_wp2_with (at_builtin; go_must (refine wpList_append_new (w := wr) #[.int .i64 y] rfl _ _ 30 rfl w.heap.size 3 (.int .i64 0) 1 8 info_int Try.underlying30 rfl (by decide) _ m _ HO.out rfl rfl rfl (by intro u hu; simp only [List.mem_cons, List.not_mem_nil, or_false] at hu; rw [hu]; rfl) (by simp only [maxLen]; omega) (by omega) hb.size ?_))
        intro v9 w9 hown9 hb9 _
        have HO9 : Hid (w9.ownsRow w.heap.size 3 1 v9 (m + 1) (ivals (lessI (l.take (j + 1)) x))) := lid (by rw [HC.out, ivals_snoc]; exact hown9)
        have hb19 := hb.trans hb9
        clear hown9 hb9
        go_wp2_with fail
        go_roundw
        case rel => exact ⟨j + 1, m + 1, by omega, by go_num, by omega, HO9, hb19⟩
        case measure => simp [intOf]; omega
    · obtain rfl : j = n := by omega
      have HTK : Hid (l.take j = l) := lid (List.take_of_length_le (Nat.le_of_eq HN.out))
      rw [HTK.out] at HO
      have dk : decide ((j : Int) < (j : Int)) = false := by simp
      go_wp2_with fail
      go_ret
      exact ⟨_, _, rfl, HO.out, hb⟩

set_option maxRecDepth 100000 in
set_option maxHeartbeats 4000000 in
theorem has_any (l : List Int) (n cap : Nat) (ao : Option Addr) (x : Int) (w : World) (hn : n ≤ 1000000) (h : IA w ao n cap l) :
    Calls Try.prog 36 #[.slice ao n cap, .int .i64 x] w fun e w' => e = .returned (.bool (hasI l x)) ∧ w = w' := by
  have HN := lid h.len
  have HS := lid h.sl
  clear h
  go_enter Try.func36, Try.ntmps36
  go_wp2_with fail
  go_loop [6, 9] (fun _ i => ∃ j : Nat, j ≤ n ∧ i = .int .i64 j ∧ Hid ((l.take j).any (fun y => decide (y = x)) = false)) (fun _ i => n - (intOf i).toNat)
  case atStart => exact ⟨0, Nat.zero_le _, rfl, lid rfl⟩
  case round =>
    obtain ⟨j, hj, rfl, HT⟩ := hrel
    by_cases hlt : j < n
    · have hkl : j < l.length := by rw [HN.out]; exact hlt
      obtain ⟨b1, o1, rfl, hlb, hcell⟩ := HS.out.at_ hlt
      have x0 := hcell j _ (ivals_at hkl)
      have HY : Hid (l[j] = x → hasI l x = true) := lid (fun e => List.any_eq_true.2 ⟨l[j], List.getElem_mem hkl, decide_eq_true e⟩)
      have HZ : Hid (¬ l[j] = x → (l.take (j + 1)).any (fun y => decide (y = x)) = false) := lid (fun e => any_take_succ hkl HT.out (decide_eq_false e))
      have dk : decide ((j : Int) < (n : Int)) = true := by simp; omega
      obtain ⟨y, hy⟩ : ∃ y, l[j] = y := ⟨_, rfl⟩
      rw [hy] at x0 HY HZ
      clear hcell hy
      by_cases he : y = x
      · have HV := lid (HY.out he)
        have d := int_eq he
        clear he HY HZ
        go_wp2_with fail
        go_ret
        exact ⟨ret_bool HV.out.symm, rfl⟩
      · have HV := lid (HZ.out he)
        have d := int_ne he
        clear he HY HZ
        go_wp2_with fail
        go_round
        case rel => exact ⟨j + 1, by omega, by go_num, HV⟩
        case measure => simp [intOf]; omega
    · obtain rfl : j = n := by omega
      have HV : Hid (hasI l x = false) := lid (by have := HT.out; rwa [List.take_of_length_le (Nat.le_of_eq HN.out)] at this)
      have dk : decide ((j : Int) < (j : Int)) = false := by simp
      go_wp2_with fail
      go_ret
      exact ⟨ret_bool HV.out.symm, rfl⟩

theorem all_take_succ {α : Type} {P : α → Bool} {l : List α} {k : Nat} (hk : k < l.length) (hn : (l.take k).all P = true) (hp : P l[k] = true) : (l.take (k + 1)).all P = true := by
  rw [List.take_succ_eq_append_getElem hk, List.all_append, hn]
  simp [hp]
set_option maxRecDepth 100000 in
set_option maxHeartbeats 4000000 in
theorem contains_any (l m : List Int) (n cap n2 c2 : Nat) (ao a2 : Option Addr) (w : World) (hn : n ≤ 1000000) (hn2 : n2 ≤ 1000000) (h : IA w ao n cap l) (h2 : IA w a2 n2 c2 m) :
    Calls Try.prog 30 #[.slice ao n cap, .slice a2 n2 c2] w fun e w' => e = .returned (.bool (contI l m)) ∧ w = w' := by
  have CH := lid (fun x => has_any l n cap ao x w hn h)
  have HN := lid h2.len
  have HS := lid h2.sl
  clear h h2
  go_enter Try.func30, Try.ntmps30
  go_wp2_with fail
  go_loop [6, 9] (fun _ i => ∃ j : Nat, j ≤ n2 ∧ i = .int .i64 j ∧ Hid ((m.take j).all (fun y => hasI l y) = true)) (fun _ i => n2 - (intOf i).toNat)
  case atStart => exact ⟨0, Nat.zero_le _, rfl, lid rfl⟩
  case round =>
    obtain ⟨j, hj, rfl, HT⟩ := hrel
    by_cases hlt : j < n2
    · have hkl : j < m.length := by rw [HN.out]; exact hlt
      obtain ⟨b1, o1, rfl, hlb, hcell⟩ := HS.out.at_ hlt
      have x0 := hcell j _ (ivals_at hkl)
      have HY : Hid (hasI l m[j] = false → contI l m = false) := lid (fun e => List.all_eq_false.2 ⟨m[j], List.getElem_mem hkl, by rw [e]; decide⟩)
      have HZ : Hid (hasI l m[j] = true → (m.take (j + 1)).all (fun y => hasI l y) = true) := lid (fun e => all_take_succ hkl HT.out e)
      have dk : decide ((j : Int) < (n2 : Int)) = true := by simp; omega
      obtain ⟨y, hy⟩ : ∃ y, m[j] = y := ⟨_, rfl⟩
      rw [hy] at x0 HY HZ
      have CX := lid (CH.out y)
      obtain ⟨q, hq⟩ : ∃ q, hasI l y = q := ⟨_, rfl⟩
      rw [hq] at CX HY HZ
      clear hcell hy hq
      cases q with
      | false =>
        have HV := lid (HY.out rfl)
        clear HY HZ
        go_wp2_with fail
        (with_reducible refine (CX.out).mono ?_); rintro e w1 ⟨rfl, rfl⟩
        go_wp2_with fail
        go_ret
        exact ⟨ret_bool HV.out.symm, rfl⟩
      | true =>
        have HV := lid (HZ.out rfl)
        clear HY HZ
        go_wp2_with fail
        (with_reducible refine (CX.out).mono ?_); rintro e w1 ⟨rfl, rfl⟩
        go_wp2_with fail
        go_round
        case rel => exact ⟨j + 1, by omega, by go_num, HV⟩
        case measure => simp [intOf]; omega
    · obtain rfl : j = n2 := by omega
      have HV : Hid (contI l m = true) := lid (by have := HT.out; rwa [List.take_of_length_le (Nat.le_of_eq HN.out)] at this)
      have dk : decide ((j : Int) < (j : Int)) = false := by simp
      go_wp2_with fail
      go_ret
      exact ⟨ret_bool HV.out.symm, rfl⟩
end Go.Proofs.Ytnjcoejnknpfoaa
