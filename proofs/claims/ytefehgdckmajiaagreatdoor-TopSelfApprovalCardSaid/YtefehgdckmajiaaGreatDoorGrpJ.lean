/-
  OwnFl OwnPath OwnIsPath.
-/
import Derived.Test.YtefehgdckmajiaaGreatDoorGrpA
import Derived.Test.YtefehgdckmajiaaGreatDoorGrpB
import Derived.Test.YtefehgdckmajiaaGreatDoorGrpI
import Derived.Laws.EntriesVeiled
namespace Go.Proofs.YtefehgdckmajiaaGreatDoor
open Go.RowKit
theorem h_new {w : World} {n : Nat} (h : w.heap.size = n) (o : Obj) : (w.alloc o).heap[n]? = some o := by subst h; exact World.alloc_heap_new w o
theorem h_old {w : World} {k : Nat} (h : k < w.heap.size) (o : Obj) : (w.alloc o).heap[k]? = w.heap[k]? := Below.heap_alloc w o k h
/-- A file: its path, its data. -/
abbrev Fl := ByteArray × ByteArray
abbrev fce (f : Fl) : List Value := [.string f.1, .string f.2]
abbrev fca (f : Fl) : Array Value := #[.string f.1, .string f.2]
def fcells (l : List Fl) : List Value := l.flatMap fce
theorem fce_length (f : Fl) : (fce f).length = 2 := rfl
theorem fcells_length (l : List Fl) : (fcells l).length = l.length * 2 := flat_length fce_length l
theorem fcells_at {l : List Fl} {k : Nat} (h : k < l.length) : (fcells l)[k * 2 + 0]? = some (.string l[k].1) ∧ (fcells l)[k * 2 + 1]? = some (.string l[k].2) := ⟨flat_at fce_length h (by omega), flat_at fce_length h (by omega)⟩
theorem fcells_append (l m : List Fl) : fcells (l ++ m) = fcells l ++ fcells m := by simp [fcells]
theorem fcells_one (l : List Fl) : ∀ u ∈ fcells l, u.oneCell' = true := by
  intro u hu
  simp only [fcells, List.mem_flatMap] at hu
  obtain ⟨r, _, hu⟩ := hu
  simp only [List.mem_cons, List.not_mem_nil, or_false] at hu
  rcases hu with rfl | rfl <;> rfl
/-- A slice value reads as files. -/
structure FA (w : World) (ao : Option Addr) (n cap : Nat) (l : List Fl) : Prop where
  len : l.length = n
  sl : Sl w 2 ao n (fcells l)
  le : n ≤ cap
  max : cap ≤ maxLen
  z : ao = none → cap = 0
  sz : ∀ f ∈ l, f.1.size ≤ maxLen ∧ f.2.size ≤ maxLen
theorem FA.below {w w' : World} {ao : Option Addr} {n cap : Nat} {l : List Fl} (h : FA w ao n cap l) (hb : Below w.heap.size w w') : FA w' ao n cap l := ⟨h.len, h.sl.below hb, h.le, h.max, h.z, h.sz⟩
theorem FA.nil (w : World) : FA w none 0 0 [] := ⟨rfl, Sl.nil, Nat.le_refl _, by simp [maxLen], (fun _ => rfl), (fun r hr => by cases hr)⟩
theorem ftake_succ {α : Type} {P : α → Bool} {l : List α} {k : Nat} (hk : k < l.length) (hn : (l.take k).any P = false) (hp : P l[k] = false) : (l.take (k + 1)).any P = false := by
  rw [List.take_succ_eq_append_getElem hk, List.any_append, hn]
  simp [hp]
/-- A file of more than the statements' size. -/
def longF (f : Fl) : Bool := decide (120 < f.1.size) || decide (200 < f.2.size)
def fgreat (l : List Fl) : Bool := decide (10 < l.length) || l.any longF
set_option maxRecDepth 100000 in
set_option maxHeartbeats 4000000 in
theorem fGreat_any (l : List Fl) (n cap : Nat) (ao : Option Addr) (w : World) (h : FA w ao n cap l) :
    Calls Tryz.prog 4 #[.slice ao n cap] w fun e w' => e = .returned (.bool (fgreat l)) ∧ w' = w := by
  have HA := lid h
  have hmx : n ≤ 9223372036854775807 := Nat.le_trans h.le h.max
  by_cases h10 : 10 < n
  · have HV : Hid (fgreat l = true) := lid (by unfold fgreat; rw [h.len, decide_eq_true h10]; rfl)
    have d : decide ((10 : Int) < (n : Int)) = true := by simp; omega
    clear h h10
    go_enter Tryz.func4, Tryz.ntmps4
    go_wp2_with fail
    go_ret
    exact ⟨ret_bool (by rw [HV.out]), rfl⟩
  have HV : Hid (fgreat l = l.any longF) := lid (by unfold fgreat; rw [h.len, decide_eq_false h10]; rfl)
  have d : decide ((10 : Int) < (n : Int)) = false := by simp; omega
  have hn10 : n ≤ 10 := by omega
  clear h h10
  go_enter Tryz.func4, Tryz.ntmps4
  go_wp2_with fail
  go_loopw [3] (fun i wr => ∃ j : Nat, j ≤ n ∧ i = .int .i64 j ∧ Hid ((l.take j).any longF = false) ∧ Hid (w = wr)) (fun i _ => n - (intOf i).toNat)
  case atStart => exact ⟨0, Nat.zero_le _, rfl, lid rfl, lid rfl⟩
  case round =>
    obtain ⟨j, hj, rfl, HT, HW⟩ := hrel
    have hW := HW.out
    subst hW
    by_cases hlt : j < n
    · have dj : decide ((j : Int) < (n : Int)) = true := by simp; omega
      have hjl : j < l.length := by rw [HA.out.len]; exact hlt
      obtain ⟨b1, o1, rfl, hlb, hcell⟩ := HA.out.sl.at_ hlt
      have x0 := hcell (j * 2 + 0) _ (fcells_at hjl).1
      have x1 := hcell (j * 2 + 1) _ (fcells_at hjl).2
      rw [← Nat.add_assoc] at x1
      rw [Nat.add_zero] at x0
      have HY : Hid (longF l[j] = true → l.any longF = true) := lid (fun e => List.any_eq_true.2 ⟨l[j], List.getElem_mem hjl, e⟩)
      have HZ : Hid (longF l[j] = false → (l.take (j + 1)).any longF = false) := lid (fun e => ftake_succ hjl HT.out e)
      have HSZ := lid (HA.out.sz _ (List.getElem_mem hjl))
      obtain ⟨⟨p, q⟩, hx⟩ : ∃ x, l[j] = x := ⟨_, rfl⟩
      rw [hx] at x0 x1 HY HZ HSZ
      have hp63 : p.size ≤ 9223372036854775807 := HSZ.out.1
      have hq63 : q.size ≤ 9223372036854775807 := HSZ.out.2
      clear hcell hx
      by_cases h1 : 120 < p.size
      · have d1 : decide ((120 : Int) < (p.size : Int)) = true := by simp; omega
        have HE := lid (HY.out (by unfold longF; simp [h1]))
        clear h1 HY HZ
        go_wp2_with fail
        go_ret
        exact ⟨ret_bool (by rw [HV.out, HE.out]), rfl⟩
      · have d1 : decide ((120 : Int) < (p.size : Int)) = false := by simp; omega
        by_cases h2 : 200 < q.size
        · have d2 : decide ((200 : Int) < (q.size : Int)) = true := by simp; omega
          have HE := lid (HY.out (by unfold longF; simp [h2]))
          clear h1 h2 HY HZ
          go_wp2_with fail
          go_ret
          exact ⟨ret_bool (by rw [HV.out, HE.out]), rfl⟩
        · have d2 : decide ((200 : Int) < (q.size : Int)) = false := by simp; omega
          have HE := lid (HZ.out (by unfold longF; simp [h1, h2]))
          clear h1 h2 HY HZ
          go_wp2_with fail
          go_roundw
          case rel => exact ⟨j + 1, by omega, by go_num, HE, lid trivial⟩
          case measure => simp [intOf]; omega
    · obtain rfl : j = n := by omega
      have dj : decide ((j : Int) < (j : Int)) = false := by simp
      have HE : Hid (l.any longF = false) := lid (by have := HT.out; rwa [List.take_of_length_le (Nat.le_of_eq HA.out.len)] at this)
      go_wp2_with fail
      go_ret
      exact ⟨ret_bool (by rw [HV.out, HE.out]), rfl⟩
/-- The data of a file. -/
def findF (l : List Fl) (p : ByteArray) : Option ByteArray := (l.find? fun f => decide (f.1 = p)).map (·.2)
theorem findF_none {l : List Fl} {p : ByteArray} {j : Nat} (h : j < l.length) (hn : (l.take j).any (fun f => decide (f.1 = p)) = false) (he : l[j].1 = p) : findF l p = some l[j].2 := by
  have h0 : l.drop j = l[j] :: l.drop (j + 1) := List.drop_eq_getElem_cons h
  have h2 : l.find? (fun f => decide (f.1 = p)) = some l[j] := by
    rw [show l.find? (fun f => decide (f.1 = p)) = (l.take j ++ l.drop j).find? (fun f => decide (f.1 = p)) from congrArg _ (List.take_append_drop j l).symm, List.find?_append, List.find?_eq_none.2 (fun x hx => by have := List.any_eq_false.1 hn x hx; simpa using this), h0]
    rw [List.find?_cons_of_pos (by simpa using he)]
    rfl
  unfold findF
  rw [h2]
  rfl
theorem findF_miss {l : List Fl} {p : ByteArray} (hn : l.any (fun f => decide (f.1 = p)) = false) : findF l p = none := by
  unfold findF
  rw [List.find?_eq_none.2 (fun x hx => by have := List.any_eq_false.1 hn x hx; simpa using this)]
  rfl
set_option maxRecDepth 100000 in
set_option maxHeartbeats 4000000 in
theorem find_any (l : List Fl) (n cap : Nat) (ao : Option Addr) (p : ByteArray) (w : World) (h : FA w ao n cap l) (hn : n ≤ 1000000) :
    Calls Tryz.prog 13 #[.slice ao n cap, .string p] w fun e w' => e = .returned (.tuple #[.string ((findF l p).getD ⟨#[]⟩), .bool (findF l p).isSome]) ∧ w' = w := by
  have HA := lid h
  clear h
  go_enter Tryz.func13, Tryz.ntmps13
  go_wp2_with fail
  go_loopw [6] (fun i wr => ∃ j : Nat, j ≤ n ∧ i = .int .i64 j ∧ Hid ((l.take j).any (fun f => decide (f.1 = p)) = false) ∧ Hid (w = wr)) (fun i _ => n - (intOf i).toNat)
  case atStart => exact ⟨0, Nat.zero_le _, rfl, lid rfl, lid rfl⟩
  case round =>
    obtain ⟨j, hj, rfl, HT, HW⟩ := hrel
    have hW := HW.out
    subst hW
    by_cases hlt : j < n
    · have dj : decide ((j : Int) < (n : Int)) = true := by simp; omega
      have hjl : j < l.length := by rw [HA.out.len]; exact hlt
      obtain ⟨b1, o1, rfl, hlb, hcell⟩ := HA.out.sl.at_ hlt
      have x0 := hcell (j * 2 + 0) _ (fcells_at hjl).1
      have x1 := hcell (j * 2 + 1) _ (fcells_at hjl).2
      rw [← Nat.add_assoc] at x1
      rw [Nat.add_zero] at x0
      have HY : Hid (l[j].1 = p → findF l p = some l[j].2) := lid (fun e => findF_none hjl HT.out e)
      have HZ : Hid (¬ l[j].1 = p → (l.take (j + 1)).any (fun f => decide (f.1 = p)) = false) := lid (fun e => ftake_succ hjl HT.out (by simpa using e))
      obtain ⟨⟨a, q⟩, hx⟩ : ∃ x, l[j] = x := ⟨_, rfl⟩
      rw [hx] at x0 x1 HY HZ
      clear hcell hx
      by_cases h1 : a = p
      · have d1 := str_eq h1
        have HE := lid (HY.out h1)
        clear h1 HY HZ
        go_wp2_with fail
        go_ret2
        exact ⟨by rw [HE.out]; rfl, rfl⟩
      · have d1 := str_ne h1
        have HE := lid (HZ.out h1)
        clear h1 HY HZ
        go_wp2_with fail
        go_roundw
        case rel => exact ⟨j + 1, by omega, by go_num, HE, lid trivial⟩
        case measure => simp [intOf]; omega
    · obtain rfl : j = n := by omega
      have dj : decide ((j : Int) < (j : Int)) = false := by simp
      have HE : Hid (findF l p = none) := lid (findF_miss (by have := HT.out; rwa [List.take_of_length_le (Nat.le_of_eq HA.out.len)] at this))
      go_wp2_with fail
      go_ret2
      exact ⟨by rw [HE.out]; rfl, rfl⟩
set_option maxRecDepth 100000 in
theorem Find_any (l : List Fl) (n cap : Nat) (ao : Option Addr) (p : ByteArray) (w : World) (h : FA w ao n cap l) (hn : n ≤ 1000000) :
    Calls Tryz.prog 8 #[.slice ao n cap, .string p] w fun e w' => e = .returned (.tuple #[.string ((findF l p).getD ⟨#[]⟩), .bool (findF l p).isSome]) ∧ w' = w := by
  have CF := lid (find_any l n cap ao p w h hn)
  clear h
  go_enter Tryz.func8, Tryz.ntmps8
  go_wp2_with fail
  (with_reducible refine (CF.out).mono ?_); rintro e w2 ⟨rfl, rfl⟩
  go_wp2_with fail
  go_ret2
  exact ⟨rfl, rfl⟩
/-- The object with a file's data. -/
def obB (s : ByteArray) : Ob := ⟨1, s, [], (0, 0), [], ⟨#[]⟩, 0, ⟨#[]⟩⟩
end Go.Proofs.YtefehgdckmajiaaGreatDoor

namespace Go.Proofs.YtefehgdckmajiaaGreatDoor
open Go.RowKit Go.Shelf
attribute [local go_sem] Oper.semAt_some
/-- A text cut at each slash. -/
def splitL : List UInt8 → List (List UInt8)
  | [] => [[]]
  | c :: l => if c = 47 then [] :: splitL l else match splitL l with
    | p :: r => (c :: p) :: r
    | [] => [[c]]
theorem splitL_ne (l : List UInt8) : splitL l ≠ [] := by
  cases l with
  | nil => simp [splitL]
  | cons c l =>
    rw [splitL]
    split
    · simp
    · split <;> simp
theorem split_no : ∀ {l : List UInt8}, Lib.indexByte l 47 = -1 → splitL l = [l]
  | [], _ => rfl
  | c :: l, h => by
    rw [Lib.indexByte] at h
    by_cases hc : c = 47
    · subst hc
      simp at h
    · rw [if_neg (by simpa using hc)] at h
      have h2 : Lib.indexByte l 47 = -1 := by
        by_cases h3 : Lib.indexByte l 47 = -1
        · exact h3
        · rw [if_neg (by simpa using h3)] at h
          have := Lib.indexByte_ge l 47
          omega
      rw [splitL, if_neg hc, split_no h2]
theorem split_at : ∀ {l : List UInt8} {i : Nat}, Lib.indexByte l 47 = (i : Int) → i < l.length ∧ splitL l = l.take i :: splitL (l.drop (i + 1))
  | [], i, h => by rw [Lib.indexByte] at h; omega
  | c :: l, i, h => by
    rw [Lib.indexByte] at h
    by_cases hc : c = 47
    · subst hc
      rw [if_pos (by simp)] at h
      obtain rfl : i = 0 := by omega
      exact ⟨by simp, by rw [splitL, if_pos rfl]; rfl⟩
    · rw [if_neg (by simpa using hc)] at h
      by_cases h3 : Lib.indexByte l 47 = -1
      · rw [if_pos (by simpa using h3)] at h
        omega
      · rw [if_neg (by simpa using h3)] at h
        have h4 := Lib.indexByte_ge l 47
        obtain ⟨j, hj⟩ : ∃ j : Nat, Lib.indexByte l 47 = j := ⟨(Lib.indexByte l 47).toNat, by omega⟩
        obtain rfl : i = j + 1 := by omega
        obtain ⟨h5, h6⟩ := split_at hj
        refine ⟨by simp; omega, ?_⟩
        rw [splitL, if_neg hc, h6]
        simp
theorem bstr_take (l : List UInt8) (k : Nat) : (bstr l).extract 0 k = bstr (l.take k) := by
  apply ByteArray.ext
  simp [bstr]
theorem bstr_from (l : List UInt8) (k n : Nat) (h : n = l.length) : (bstr l).extract k n = bstr (l.drop k) := by
  subst h
  apply ByteArray.ext
  simp only [bstr, ByteArray.data_extract, List.extract_toArray, List.extract_eq_take_drop]
  rw [List.take_of_length_le (by simp)]
theorem splitL_len : ∀ {l : List UInt8} {x : List UInt8}, x ∈ splitL l → x.length ≤ l.length
  | [], x, h => by simp [splitL] at h; simp [h]
  | c :: l, x, h => by
    rw [splitL] at h
    split at h
    · rcases List.mem_cons.1 h with rfl | h
      · simp
      · have := splitL_len h
        simp; omega
    · split at h
      · rename_i p r hp
        rcases List.mem_cons.1 h with rfl | h
        · have := splitL_len (l := l) (x := p) (by rw [hp]; simp)
          simp; omega
        · have := splitL_len (l := l) (x := x) (by rw [hp]; simp [h])
          simp; omega
      · simp at h
        simp [h]
/-- The length of a text in a box. -/
def strAt (w : World) (b : Nat) : Nat := match w.cell? ⟨b, 0, none⟩ with
  | some (.string s) => s.size
  | _ => 0
def SpX (s : List (List UInt8)) (x : List UInt8) (_ : World) : Prop := ∃ t, s = x :: t
def SpT (s : List (List UInt8)) (x : List UInt8) (s' : List (List UInt8)) : Prop := s = x :: s'
abbrev spv (x : List UInt8) : Value := .string (bstr x)
set_option maxRecDepth 100000 in
set_option maxHeartbeats 4000000 in
theorem splitSeq_any (l m : Nat) (c : Nat → Prop) (B bs bp bk : Nat) (s0 : List UInt8) (J : List (List UInt8) → World → Prop) (Jx : List (List UInt8) → List UInt8 → World → Prop) (hJ : ∀ s, Ab B (J s)) (hJs : ∀ s W v, J s W → J s (W.setCell ⟨bs, 0, none⟩ v))
    (hY : RoundC Tryz.prog m l c B spv SpX SpT J Jx) (W : World) (hs : W.heap[bs]? = some (.cells #[.string (bstr s0)] 9 (0, 0))) (hp : W.heap[bp]? = some (.cells #[.string ⟨#[47]⟩] 9 (0, 0))) (hk : W.heap[bk]? = some (.cells #[.int .i64 0] 3 (0, 0))) (h1 : c bs) (h2 : c bp) (h3 : c bk) (hsp : bs ≠ bp) (hsk : bs ≠ bk) (hlen : s0.length ≤ 1000000) (hJ0 : J (splitL s0) W) :
    Calls Tryz.prog 87 #[.func (.yield l) #[] #[], .pointer (some ⟨bp, 0, none⟩), .pointer (some ⟨bs, 0, none⟩), .pointer (some ⟨bk, 0, none⟩)] W fun e W' => e = .returned (.tuple #[]) ∧ (J [] W' ∨ ∃ s x, Jx s x W') := by
  have HS := lid hs
  have HP := lid hp
  have HK := lid hk
  have HJ := lid hJ
  have HJS := lid hJs
  have HY := lid hY
  have HJ0 := lid hJ0
  have lP := row_lt hp
  have p0 := row_cell hp 0
  clear hs hp hk hJ hJs hY hJ0
  refine (callsIn_wide (n := m + 1)).1 ?_
  refine callsIn_of_wp Tryz.func87 rfl trivial ?_ rfl
  simp only [Tryz.ntmps87, List.size_toArray, List.length_cons, List.length_nil, Nat.reduceAdd, Nat.reduceSub, Array.replicate_succ, Array.replicate_zero, List.push_toArray, List.append_toArray, List.nil_append, List.cons_append]
  gi_wp2_with fail
  gi_loopw [7] (fun _ wr => ∃ t : List UInt8, t.length ≤ 1000000 ∧ Hid (wr.heap[bs]? = some (.cells #[.string (bstr t)] 9 (0, 0))) ∧ Hid (wr.heap[bp]? = some (.cells #[.string ⟨#[47]⟩] 9 (0, 0))) ∧ Hid (wr.heap[bk]? = some (.cells #[.int .i64 0] 3 (0, 0))) ∧ Hid (J (splitL t) wr)) (fun _ wr => strAt wr bs)
  case atStart => exact ⟨s0, hlen, HS, HP, HK, HJ0⟩
  case round =>
    obtain ⟨t, ht, HB, HP2, HK2, HJ2⟩ := hrel
    have hBS := HB
    replace p0 := row_cell HP2.out 0
    have q0 := row_cell HK2.out 0
    have s0' := row_cell HB.out 0
    have lS := row_lt HB.out
    have lP2 := row_lt HP2.out
    have lK := row_lt HK2.out
    have hsz : (bstr t).size = t.length := by simp [bstr, ByteArray.size]
    have CX := lid (strings_Index_one (bstr t) 47 wr)
    gi_wp2_with fail
    refine ⟨trivial, (callsIn_wide.2 CX.out).mono ?_⟩
    rintro e w2 ⟨rfl, rfl⟩
    rw [show (bstr t).data.toList = t by simp [bstr]]
    by_cases hx : Lib.indexByte t 47 = -1
    · rw [hx]
      obtain ⟨fn, tmps, assign, body, hy, hR⟩ := HY.out _ t w2 HJ2.out ⟨[], split_no hx⟩
      have HR1 := lid hR
      have HSP := lid (split_no hx)
      clear hx hR
      gi_wp2_with fail
      refine HR1.out.mono ?_
      rintro e W' (⟨rfl, hk', s', hT, hJ'⟩ | ⟨rfl, hk', hJx'⟩)
      · have hs' : s' = [] := by
          unfold SpT at hT
          rw [HSP.out] at hT
          exact (List.cons.inj hT).2.symm
        subst hs'
        have HJ' := lid hJ'
        clear hJ' hT hk'
        gi_wp2_with fail
        exact bodyPost_end (results_none rfl _ _ _) rfl ⟨rfl, .inl HJ'.out⟩
      · have HJ' := lid hJx'
        clear hJx' hk'
        gi_wp2_with fail
        exact bodyPost_end (results_none rfl _ _ _) rfl ⟨rfl, .inr ⟨_, _, HJ'.out⟩⟩
    · obtain ⟨i, hi⟩ : ∃ i : Nat, Lib.indexByte t 47 = i := ⟨(Lib.indexByte t 47).toNat, by have := Lib.indexByte_ge t 47; omega⟩
      rw [hi]
      obtain ⟨hil, hsp2⟩ := split_at hi
      obtain ⟨fn, tmps, assign, body, hy, hR⟩ := HY.out _ (t.take i) w2 HJ2.out ⟨_, hsp2⟩
      rw [show spv (t.take i) = .string ((bstr t).extract 0 i) by rw [bstr_take]] at hy
      have HR1 := lid hR
      have HSP := lid hsp2
      have d0 : decide ((i : Int) < 0) = false := by simp
      clear hx hi hR hsp2
      gi_wp2_with fail
      refine HR1.out.mono ?_
      rintro e W' (⟨rfl, hk', s', hT, hJ'⟩ | ⟨rfl, hk', hJx'⟩)
      · have hs' : s' = splitL (t.drop (i + 1)) := by
          unfold SpT at hT
          rw [HSP.out] at hT
          exact (List.cons.inj hT).2.symm
        subst hs'
        have HJ' := lid hJ'
        have HB' := lid (hk'.cells _ _ _ _ h1 HB.out)
        have HP' := lid (hk'.cells _ _ _ _ h2 HP2.out)
        have HK' := lid (hk'.cells _ _ _ _ h3 HK2.out)
        clear hJ' hT hk' p0 q0 s0' lS lP2 lK hy
        have p0 := row_cell HP'.out 0
        have s0' := row_cell HB'.out 0
        have f0 := row_fz HB'.out 0
        have lS := row_lt HB'.out
        have lP2 := row_lt HP'.out
        gi_wp2_with fail
        go_roundw
        case rel =>
          refine ⟨t.drop (i + 1), by rw [List.length_drop]; omega, lid ?_, lid (row_other HP'.out (by omega)), lid (row_other HK'.out (by omega)), lid (HJS.out _ _ _ HJ'.out)⟩
          rw [bstr_from _ _ _ rfl]
          have := row_set HB'.out 0 (.string (bstr (t.drop (i + 1))))
          simpa using this
        case measure =>
          have e1 := row_cell (row_set HB'.out 0 (.string ((bstr t).extract (i + 1) t.length))) 0
          have e2 := row_cell HB.out 0
          unfold strAt
          rw [e1, e2]
          rw [bstr_from _ _ _ rfl]
          simp [bstr, ByteArray.size]
          omega
      · have HJ' := lid hJx'
        clear hJx' hk'
        gi_wp2_with fail
        exact bodyPost_ret (results_none rfl _ _ _) rfl ⟨rfl, .inr ⟨_, _, HJ'.out⟩⟩
end Go.Proofs.YtefehgdckmajiaaGreatDoor

namespace Go.Proofs.YtefehgdckmajiaaGreatDoor
open Go.RowKit Go.Shelf
attribute [local go_sem] Oper.semAt_some
/-- Is it a path? -/
def pathB (s : ByteArray) : Bool := decide (s.size ≤ 100) && (splitL s.data.toList).all fun p => nameB (bstr p)
set_option maxRecDepth 100000 in
set_option maxHeartbeats 1000000 in
theorem splitSeq_fn (s p : ByteArray) (w : World) :
    Calls Tryz.prog 71 #[.string s, .string p, .int .i64 0] w fun e w' => e = .returned (.func (.func 87) #[] #[.pointer (some ⟨w.heap.size + 1, 0, none⟩), .pointer (some ⟨w.heap.size, 0, none⟩), .pointer (some ⟨w.heap.size + 1 + 1, 0, none⟩)]) ∧
      w' = ((w.alloc (.cells #[.string s] 9)).alloc (.cells #[.string p] 9)).alloc (.cells #[.int .i64 0] 3) := by
  go_enter Tryz.func71, Tryz.ntmps71
  go_wp2_with fail
  go_ret
  exact ⟨by simp, rfl⟩
set_option maxRecDepth 100000 in
set_option maxHeartbeats 1000000 in
theorem SplitSeq_fn (s p : ByteArray) (w : World) :
    Calls Tryz.prog 55 #[.string s, .string p] w fun e w' => e = .returned (.func (.func 87) #[] #[.pointer (some ⟨w.heap.size + 1, 0, none⟩), .pointer (some ⟨w.heap.size, 0, none⟩), .pointer (some ⟨w.heap.size + 1 + 1, 0, none⟩)]) ∧
      w' = ((w.alloc (.cells #[.string s] 9)).alloc (.cells #[.string p] 9)).alloc (.cells #[.int .i64 0] 3) := by
  go_enter Tryz.func55, Tryz.ntmps55
  go_wp2_with fail
  (with_reducible refine (splitSeq_fn s p w).mono ?_); rintro e w2 ⟨rfl, rfl⟩
  go_wp2_with fail
  go_ret
  exact ⟨rfl, rfl⟩
theorem res_bool2 {fn : Func} (hf : fn.results = #[.cell 2 4]) (t : Array Value) (w : World) (k : Nat) (b : Bool) (h : t.getD 2 undef = .pointer (some ⟨k, 0, none⟩)) (e : w.heap[k]? = some (.cells #[.bool b] 4 (0, 0))) : (results fn t).run Tryz.prog w = .ok (.bool b) w := by
  have e0 := row_cell e 0
  rw [Array.getD_eq_getD_getElem?] at h
  unfold results
  rw [hf]
  simp [go_sem, h, e0, asAddr]
theorem rf_keeps {W : World} {a : Addr} {v : Value} {k : Nat} {o : Obj} (h : W.heap[k]? = some o) (ho : o.isCells = false) : (W.setCell a v).heap[k]? = some o := (KeepsOthers.setCell W a v).same k o h ho
/-- What a round of isPath keeps. -/
def PI (w : World) (t : List UInt8) (s : List (List UInt8)) (W : World) : Prop :=
  Below w.heap.size w W ∧ W.heap[w.heap.size]? = some (.cells #[.bool false] 4 (0, 0)) ∧ ∃ p, splitL t = p ++ s ∧ p.all (fun x => nameB (bstr x)) = true
/-- Where it has stopped. -/
def PX (w : World) (t : List UInt8) (c : Code) (_ : List (List UInt8)) (x : List UInt8) (W : World) : Prop :=
  c = .ret ∧ Below w.heap.size w W ∧ W.heap[w.heap.size]? = some (.cells #[.bool false] 4 (0, 0)) ∧ nameB (bstr x) = false ∧ x ∈ splitL t
theorem PI.ab {w : World} {t : List UInt8} {s : List (List UInt8)} {B : Nat} (hB : w.heap.size < B) : Ab B (PI w t s) := fun W W' row hs hg hr =>
  ⟨Ab.belowW (B := B) (Nat.le_refl _) (by omega) W W' row hs.1 hg hr, Ab.blk (B := B) hB _ rfl W W' row hs.2.1 hg hr, hs.2.2⟩
theorem PX.ab {w : World} {t : List UInt8} {c : Code} {s : List (List UInt8)} {x : List UInt8} {B : Nat} (hB : w.heap.size < B) : Ab B (PX w t c s x) := fun W W' row hs hg hr =>
  ⟨hs.1, Ab.belowW (B := B) (Nat.le_refl _) (by omega) W W' row hs.2.1 hg hr, Ab.blk (B := B) hB _ rfl W W' row hs.2.2.1 hg hr, hs.2.2.2⟩
set_option maxRecDepth 100000 in
set_option maxHeartbeats 4000000 in
theorem isPath_any (s : ByteArray) (w : World) (hs : s.size ≤ maxLen) :
    Calls Tryz.prog 38 #[.string s] w fun e w' => e = .returned (.bool (pathB s)) ∧ Below w.heap.size w w' := by
  have hs63 : s.size ≤ 9223372036854775807 := hs
  by_cases h100 : 100 < s.size
  · have d : decide ((100 : Int) < (s.size : Int)) = true := by simp; omega
    have HV : Hid (pathB s = false) := lid (by unfold pathB; rw [decide_eq_false (by omega)]; rfl)
    clear h100
    refine (callsIn_wide (n := 3)).1 ?_
    refine callsIn_of_wp_marks Tryz.func38 rfl trivial ?_ rfl
    simp only [Tryz.ntmps38, List.size_toArray, List.length_cons, List.length_nil, Nat.reduceAdd, Nat.reduceSub, Array.replicate_succ, Array.replicate_zero, List.push_toArray, List.append_toArray, List.nil_append, List.cons_append]
    gi_wp2_with fail
    exact ⟨_, res_bool2 rfl _ _ w.heap.size false rfl (h_new rfl _), by rw [HV.out], ba _ _⟩
  have d : decide ((100 : Int) < (s.size : Int)) = false := by simp; omega
  have HV : Hid (pathB s = (splitL s.data.toList).all fun p => nameB (bstr p)) := lid (by unfold pathB; rw [decide_eq_true (by omega)]; simp)
  obtain ⟨t, ht⟩ : ∃ t, s.data.toList = t := ⟨_, rfl⟩
  have hst : s = bstr t := by rw [← ht]; rfl
  have hlen : t.length ≤ 1000000 := by rw [← ht]; show s.size ≤ 1000000; omega
  rw [ht] at HV
  subst hst
  have d2 : decide ((100 : Int) < (t.length : Int)) = false := by have : (bstr t).size = t.length := (by simp [bstr, ByteArray.size]); simp; omega
  clear ht h100 hs
  have FV := lid (fun (x : List UInt8) (hx : x ∈ splitL t) (w1 : World) => valid_any (bstr x) w1 (by have := splitL_len hx; show x.toArray.size ≤ maxLen; simp [maxLen]; omega))
  refine (callsIn_wide (n := 3)).1 ?_
  refine callsIn_of_wp_marks Tryz.func38 rfl trivial ?_ rfl
  simp only [Tryz.ntmps38, List.size_toArray, List.length_cons, List.length_nil, Nat.reduceAdd, Nat.reduceSub, Array.replicate_succ, Array.replicate_zero, List.push_toArray, List.append_toArray, List.nil_append, List.cons_append]
  gi_wp2_with fail
  refine ⟨trivial, (callsIn_wide.2 (SplitSeq_fn (bstr t) _ _)).mono ?_⟩
  rintro e w4 ⟨rfl, hw4⟩
  have hz : (w.alloc (.cells #[.bool false] 4)).heap.size = w.heap.size + 1 := by simp
  rw [hz]
  obtain ⟨W1, hW1⟩ : ∃ y, w.alloc (.cells #[.bool false] 4) = y := ⟨_, rfl⟩
  rw [hW1] at hz
  rw [hW1] at hw4
  have hb4 : Below w.heap.size w w4 := by rw [hw4, ← hW1]; exact (((ba _ _).alloc (by simp) _).alloc (by simp; omega) _).alloc (by simp; omega) _
  have hz4 : w4.heap.size = w.heap.size + 4 := by rw [hw4]; simp [hz]
  have r0 : w4.heap[w.heap.size]? = some (.cells #[.bool false] 4 (0, 0)) := by
    rw [hw4]
    exact (h_old (by simp [hz]; omega) _).trans ((h_old (by simp [hz]; omega) _).trans ((h_old (by omega) _).trans (by rw [← hW1]; exact h_new rfl _)))
  have HR1 : Hid (w4.heap[w.heap.size + 1]? = some (.cells #[.string (bstr t)] 9 (0, 0))) := lid (by
    rw [hw4]
    exact (h_old (by simp [hz]) _).trans ((h_old (by simp [hz]) _).trans (h_new hz _)))
  have HR2 : Hid (w4.heap[w.heap.size + 1 + 1]? = some (.cells #[.string ⟨#[47]⟩] 9 (0, 0))) := lid (by
    rw [hw4]
    exact (h_old (by simp [hz]) _).trans (h_new (by simp [hz]) _))
  have HR3 : Hid (w4.heap[w.heap.size + 1 + 1 + 1]? = some (.cells #[.int .i64 0] 3 (0, 0))) := lid (by
    rw [hw4]
    exact h_new (by simp [hz]) _)
  have HP0 : Hid (PI w t (splitL t) w4) := lid ⟨hb4, r0, [], rfl, rfl⟩
  have HZ4 := lid hz4
  clear hw4 hW1 hz hb4 r0 hz4
  gi_wp2_with fail
  refine wpIn_rf (pre := #[]) (lb := #[.pointer (some ⟨w.heap.size + 1 + 1, 0, none⟩), .pointer (some ⟨w.heap.size + 1, 0, none⟩), .pointer (some ⟨w.heap.size + 1 + 1 + 1, 0, none⟩)]) rfl (enters_of Tryz.func87 (by kernel_rfl) rfl) spv SpX SpT (PI w t) (PX w t) (fun s x => Ab.pure _) (fun s => PI.ab (by have := HZ4.out; omega)) (fun c s x => PX.ab (by have := HZ4.out; omega)) (splitL t) HP0.out 3 (fun s => s = []) (fun _ _ => True) (fun k => w.heap.size + 1 ≤ k) ?call ?assign ?body ?done ?stop
  case call =>
    intro l' m' rec W' hz' hbw hJ1 hJ2 hR hj
    have hz4 := HZ4.out
    have hblk : ∀ k, k < w4.heap.size → W'.heap[k]? = w4.heap[k]? := fun k hk => hbw.block k hk
    refine (splitSeq_any l' m' (fun k => w.heap.size + 1 ≤ k) W'.heap.size (w.heap.size + 1) (w.heap.size + 1 + 1) (w.heap.size + 1 + 1 + 1) t _ _ hJ1 (fun s W v h => ?_) hR W' ((hblk _ (by omega)).trans HR1.out) ((hblk _ (by omega)).trans HR2.out) ((hblk _ (by omega)).trans HR3.out) (by omega) (by omega) (by omega) (by omega) (by omega) hlen hj).mono ?_
    · exact ⟨⟨h.1.1.setCell (p := ⟨w.heap.size + 1, 0, none⟩) (by show w.heap.size ≤ w.heap.size + 1; omega) _, row_other h.1.2.1 (by omega), h.1.2.2⟩, rf_keeps h.2.1 rfl, rf_keeps h.2.2 rfl⟩
    · rintro e W3 ⟨rfl, h | ⟨s, x, h⟩⟩
      · exact ⟨rfl, .inl ⟨[], rfl, h⟩⟩
      · exact ⟨rfl, .inr ⟨s, x, trivial, h⟩⟩
  case assign =>
    intro l' m' x W' K hK
    gi_wp2_with fail
    exact hK
  case body =>
    rintro l' m' s x W' ⟨hb, hr, p, hp, hall⟩ ⟨tl, rfl⟩ hsz
    have hmem : x ∈ splitL t := by rw [hp]; simp
    have FX := lid (FV.out x hmem W')
    have HB := lid hb
    have HR := lid hr
    have HP := lid hp
    have HM := lid hmem
    have HA := lid hall
    have c0 := row_cell hr 0
    have z0 := row_fz hr 0
    have lr := row_lt hr
    clear hb hp hmem hall hr
    gi_wp2_with fail
    refine ⟨trivial, (fun h => by cases h), CallsIn.inRound l' ((callsIn_wide.2 FX.out).mono ?_)⟩
    rintro e w5 ⟨rfl, rfl⟩
    cases hn : nameB (bstr x) with
    | false =>
      have HN := lid hn
      clear hn
      gi_wp2_with fail
      exact ⟨KF.setCell _ _ _ (by show ¬ w.heap.size + 1 ≤ w.heap.size; omega), rfl, HB.out.setCell (p := ⟨w.heap.size, 0, none⟩) (Nat.le_refl _) _, by have := row_set HR.out 0 (.bool false); simpa using this, HN.out, HM.out⟩
    | true =>
      have HN := lid hn
      clear hn
      gi_wp2_with fail
      exact ⟨KF.refl _ _ _, tl, rfl, HB.out, HR.out, p ++ [x], by rw [HP.out]; simp, by rw [List.all_append, HA.out]; simp [HN.out]⟩
  case done =>
    rintro D s W' hD rfl ⟨hb, hr, p, hp, hall⟩ hdef
    have HB := lid hb
    have HR := lid hr
    have HDE := lid hdef
    have HVT : Hid (pathB (bstr t) = true) := lid (by rw [HV.out, hp, List.append_nil]; exact hall)
    have c0 := row_cell hr 0
    have z0 := row_fz hr 0
    have lr := row_lt hr
    have hDw : w.heap.size < D := by have := HZ4.out; omega
    clear hb hr hp hall hdef
    gi_wp2_with fail
    have HD2 : Hid ((W'.setCell ⟨w.heap.size, 0, none⟩ (.bool true)).heap[D]? = some (.deferred (some []))) := lid ((Below.heap_setCell _ _ _ D (by show D ≠ w.heap.size; omega)).trans HDE.out)
    have HR2 : Hid ((W'.setCell ⟨w.heap.size, 0, none⟩ (.bool true)).heap[w.heap.size]? = some (.cells #[.bool true] 4 (0, 0))) := lid (by have := row_set HR.out 0 (.bool true); simpa using this)
    have HB2 := lid (HB.out.setCell (p := ⟨w.heap.size, 0, none⟩) (Nat.le_refl _) (.bool true))
    refine ⟨by simp, .inl ⟨D, _, rfl, run_takeDeferred HD2.out, ?_⟩⟩
    refine ⟨_, res_bool2 rfl _ _ w.heap.size true rfl ((World.putObj_heap_other (by omega)).trans HR2.out), by rw [HVT.out], ?_⟩
    exact HB2.out.grown (grownBy_putObj' _ D _) HB2.out.size (fun j e => by cases e; omega)
  case stop =>
    rintro D c s x W' hD _ ⟨rfl, hb, hr, hx, hmem⟩ hdef
    have HB := lid hb
    have HR := lid hr
    have HDE := lid hdef
    have HVF : Hid (pathB (bstr t) = false) := lid (by
      rw [HV.out]
      exact List.all_eq_false.2 ⟨x, hmem, by simp [hx]⟩)
    have hDw : w.heap.size < D := by have := HZ4.out; omega
    clear hb hr hx hmem hdef
    gi_wp2_with fail
    refine ⟨by simp, .inl ⟨D, _, rfl, run_takeDeferred HDE.out, ?_⟩⟩
    refine ⟨_, res_bool2 rfl _ _ w.heap.size false rfl ((World.putObj_heap_other (by omega)).trans HR.out), by rw [HVF.out], ?_⟩
    exact HB.out.grown (grownBy_putObj' _ D _) HB.out.size (fun j e => by cases e; omega)
end Go.Proofs.YtefehgdckmajiaaGreatDoor
