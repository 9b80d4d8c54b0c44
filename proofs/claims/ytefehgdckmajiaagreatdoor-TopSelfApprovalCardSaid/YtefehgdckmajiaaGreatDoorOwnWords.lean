/-
  owners.words: the iterator over the words of a text, as its caller meets it.
-/
import Derived.Test.YtefehgdckmajiaaGreatDoorGrpJ
import Derived.Test.YtefehgdckmajiaaGreatDoorRegionW
namespace Go.Proofs.YtefehgdckmajiaaGreatDoor
open Go.RowKit Go.Shelf
attribute [local go_sem] Oper.semAt_some
def isSp (c : UInt8) : Bool := decide (c = 32) || decide (c = 10)
def nSp (c : UInt8) : Bool := !isSp c
def nNl (c : UInt8) : Bool := !decide (c = 10)
def wordsG : Nat → List UInt8 → List (List UInt8)
  | 0, _ => []
  | _ + 1, [] => []
  | n + 1, c :: t => if isSp c = true then wordsG n t else if c = 35 then wordsG n (t.dropWhile nNl) else (c :: t.takeWhile nSp) :: wordsG n (t.dropWhile nSp)
theorem dropWhile_len {α : Type} (p : α → Bool) (l : List α) : (l.dropWhile p).length ≤ l.length := (List.dropWhile_sublist p).length_le
theorem wordsG_fuel : ∀ (n : Nat) (l : List UInt8), l.length ≤ n → wordsG n l = wordsG l.length l
  | 0, l, h => by obtain rfl := List.eq_nil_of_length_eq_zero (Nat.le_zero.1 h); rfl
  | n + 1, [], _ => rfl
  | n + 1, c :: t, h => by
    have ht : t.length ≤ n := by simpa using h
    have h1 := dropWhile_len nNl t
    have h2 := dropWhile_len nSp t
    rw [List.length_cons, wordsG, wordsG, wordsG_fuel n t ht, wordsG_fuel n _ (Nat.le_trans h1 ht), wordsG_fuel n _ (Nat.le_trans h2 ht), ← wordsG_fuel t.length _ h1, ← wordsG_fuel t.length _ h2]
termination_by n => n
/-- The words of a text. -/
def wordsL (l : List UInt8) : List (List UInt8) := wordsG l.length l
theorem words_nil : wordsL [] = [] := rfl
theorem words_space {c : UInt8} {t : List UInt8} (h : isSp c = true) : wordsL (c :: t) = wordsL t := by
  unfold wordsL
  rw [List.length_cons, wordsG, if_pos h]
theorem words_note {c : UInt8} {t : List UInt8} (h : c = 35) : wordsL (c :: t) = wordsL (t.dropWhile nNl) := by
  subst h
  unfold wordsL
  rw [List.length_cons, wordsG, if_neg (by decide), if_pos rfl, wordsG_fuel _ _ (dropWhile_len nNl t)]
theorem words_word {c : UInt8} {t : List UInt8} (h : isSp c = false) (h2 : c ≠ 35) : wordsL (c :: t) = (c :: t.takeWhile nSp) :: wordsL (t.dropWhile nSp) := by
  unfold wordsL
  rw [List.length_cons, wordsG, if_neg (by simp [h]), if_neg h2, wordsG_fuel _ _ (dropWhile_len nSp t)]
theorem wordsL_len {l x : List UInt8} (h : x ∈ wordsL l) : x.length ≤ l.length := by
  suffices hs : ∀ (n : Nat) (l x : List UInt8), x ∈ wordsG n l → x.length ≤ l.length from hs _ _ _ h
  clear h
  intro n
  induction n with
  | zero => intro l x h; simp [wordsG] at h
  | succ n ih =>
    intro l x h
    cases l with
    | nil => simp [wordsG] at h
    | cons c t =>
      rw [wordsG] at h
      have h1 := dropWhile_len nNl t
      have h2 := dropWhile_len nSp t
      have h3 := (List.takeWhile_sublist (l := t) nSp).length_le
      split at h
      · have := ih _ _ h; simp; omega
      · split at h
        · have := ih _ _ h; simp; omega
        · rcases List.mem_cons.1 h with rfl | h
          · simp; omega
          · have := ih _ _ h; simp; omega
/-- A text's rest behind a place, and the byte there. -/
theorem drop_byte {s : List UInt8} {k : Nat} (h : k < s.length) : s.drop k = s[k] :: s.drop (k + 1) := List.drop_eq_getElem_cons h
theorem isSp_spell (c : UInt8) : (((c.toNat : Int) == 32) || ((c.toNat : Int) == 10)) = isSp c := by
  unfold isSp
  have e : ∀ (k : UInt8), ((c.toNat : Int) == (k.toNat : Int)) = decide (c = k) := fun k => by
    by_cases h : c = k
    · subst h; simp
    · rw [decide_eq_false h]
      have : c.toNat ≠ k.toNat := fun e => h (UInt8.toNat_inj.1 e)
      simp
      omega
  rw [← e 32, ← e 10]
  rfl
set_option maxRecDepth 100000 in
set_option maxHeartbeats 1000000 in
theorem isSpace_any (c : UInt8) (w : World) : Calls Tryz.prog 77 #[.int .u8 c.toNat] w fun e w' => e = .returned (.bool (isSp c)) ∧ w' = w := by
  rw [← isSp_spell]
  cases h : ((c.toNat : Int) == 32) with
  | true =>
    go_enter Tryz.func77, Tryz.ntmps77
    go_wp2_with fail
    go_ret
    exact ⟨rfl, rfl⟩
  | false =>
    go_enter Tryz.func77, Tryz.ntmps77
    go_wp2_with fail
    go_ret
    exact ⟨rfl, rfl⟩
/-- A word, with its place. -/
abbrev Wd := List UInt8 × Nat
abbrev wdv (x : Wd) : Value := .agg #[.string (bstr x.1), .int .i64 x.2]
def WdX (s : List (List UInt8)) (x : Wd) (_ : World) : Prop := ∃ t, s = x.1 :: t
def WdT (s : List (List UInt8)) (x : Wd) (s' : List (List UInt8)) : Prop := s = x.1 :: s'
theorem extract_bstr (s : ByteArray) (a b : Nat) : s.extract a b = bstr ((s.data.toList.drop a).take (b - a)) := by
  apply ByteArray.ext
  simp only [bstr, ByteArray.data_extract]
  apply Array.toList_inj.1
  rw [Array.toList_extract, List.extract_eq_take_drop]
theorem sdrop_byte {s : ByteArray} {k : Nat} (h : k < s.size) : s.data.toList.drop k = s[k] :: s.data.toList.drop (k + 1) := List.drop_eq_getElem_cons (show k < s.data.toList.length from h)
theorem sdrop_end {s : ByteArray} : s.data.toList.drop s.size = [] := List.drop_of_length_le (Nat.le_refl _)
/-- Where a word that begins at k has come to. -/
structure WdAt (s : ByteArray) (k q : Nat) : Prop where
  tk : (s.data.toList.drop k).takeWhile nSp = (s.data.toList.drop k).take (q - k) ++ (s.data.toList.drop q).takeWhile nSp
  dr : (s.data.toList.drop k).dropWhile nSp = (s.data.toList.drop q).dropWhile nSp
theorem WdAt.start (s : ByteArray) (k : Nat) : WdAt s k k := ⟨by simp, rfl⟩
theorem WdAt.next {s : ByteArray} {k q : Nat} (h : WdAt s k q) (hk : k ≤ q) (hq : q < s.size) (hn : isSp s[q] = false) : WdAt s k (q + 1) := by
  have e := sdrop_byte hq
  have p : nSp s[q] = true := by unfold nSp; rw [hn]; rfl
  refine ⟨?_, ?_⟩
  · have hlen : q - k < (s.data.toList.drop k).length := by rw [List.length_drop]; show q - k < s.size - k; omega
    have hget : (s.data.toList.drop k)[q - k] = s[q] := by
      simp only [List.getElem_drop, Nat.add_sub_cancel' hk]
      rfl
    rw [h.tk, e, List.takeWhile_cons_of_pos p, show q + 1 - k = q - k + 1 by omega, List.take_succ_eq_append_getElem hlen, hget]
    simp
  · rw [h.dr, e, List.dropWhile_cons_of_pos p]
theorem words_step {s : ByteArray} {k q : Nat} (hlt : k < s.size) (hsp : isSp s[k] = false) (h35 : ¬ s[k] = 35) (h : WdAt s k q) (hz : (s.data.toList.drop q).takeWhile nSp = [] ∧ (s.data.toList.drop q).dropWhile nSp = s.data.toList.drop q) :
    wordsL (s.data.toList.drop k) = (s.data.toList.drop k).take (q - k) :: wordsL (s.data.toList.drop q) := by
  have p : nSp s[k] = true := by unfold nSp; rw [hsp]; rfl
  have e1 := h.tk
  have e2 := h.dr
  rw [hz.1, List.append_nil] at e1
  rw [hz.2] at e2
  rw [← e1, ← e2, sdrop_byte hlt, words_word hsp h35, List.takeWhile_cons_of_pos p, List.dropWhile_cons_of_pos p]
theorem byte_eq (c k : UInt8) : ((c.toNat : Int) == (k.toNat : Int)) = decide (c = k) := by
  by_cases h : c = k
  · subst h; simp
  · rw [decide_eq_false h]
    have : c.toNat ≠ k.toNat := fun e => h (UInt8.toNat_inj.1 e)
    simp
    omega
set_option maxRecDepth 100000 in
set_option maxHeartbeats 8000000 in
theorem words_iter (l m : Nat) (c : Nat → Prop) (B bs bf : Nat) (s : ByteArray) (J : List (List UInt8) → World → Prop) (Jx : List (List UInt8) → Wd → World → Prop) (hJ : ∀ s, Ab B (J s))
    (hY : RoundC Tryz.prog m l c B wdv WdX WdT J Jx) (W : World) (hs : W.heap[bs]? = some (.cells #[.string s] 9 (0, 0))) (hf : W.heap[bf]? = some (.cells #[.func (.func 77) #[] #[]] 136 (0, 0))) (h1 : c bs) (h2 : c bf) (hlen : s.size ≤ 1000000) (hJ0 : J (wordsL s.data.toList) W) :
    Calls Tryz.prog 78 #[.func (.yield l) #[] #[], .pointer (some ⟨bs, 0, none⟩), .pointer (some ⟨bf, 0, none⟩)] W fun e W' => e = .returned (.tuple #[]) ∧ (J [] W' ∨ ∃ s x, Jx s x W') := by
  have HS := lid hs
  have HF := lid hf
  have HJ := lid hJ
  have HY := lid hY
  have HJ0 := lid hJ0
  clear hs hf hJ hY hJ0
  refine (callsIn_wide (n := m + 1)).1 ?_
  refine callsIn_of_wp Tryz.func78 rfl trivial ?_ rfl
  simp only [Tryz.ntmps78, List.size_toArray, List.length_cons, List.length_nil, Nat.reduceAdd, Nat.reduceSub, Array.replicate_succ, Array.replicate_zero, List.push_toArray, List.append_toArray, List.nil_append, List.cons_append]
  gi_wp2_with fail
  gi_loopw [4] (fun i wr => ∃ k : Nat, k ≤ s.size ∧ i = .int .i64 k ∧ Hid (wr.heap[bs]? = some (.cells #[.string s] 9 (0, 0))) ∧ Hid (wr.heap[bf]? = some (.cells #[.func (.func 77) #[] #[]] 136 (0, 0))) ∧ Hid (J (wordsL (s.data.toList.drop k)) wr)) (fun i _ => s.size - (intOf i).toNat)
  case atStart => exact ⟨0, Nat.zero_le _, rfl, HS, HF, HJ0⟩
  case round =>
    obtain ⟨k, hk, rfl, HS2, HF2, HJ2⟩ := hrel
    have s0 := row_cell HS2.out 0
    have f0 := row_cell HF2.out 0
    have lS := row_lt HS2.out
    have lF := row_lt HF2.out
    by_cases hlt : k < s.size
    · have dk : decide ((k : Int) < (s.size : Int)) = true := by simp; omega
      have HD := lid (sdrop_byte hlt)
      have HJd := lid ((HJ.out _).below HJ2.out (Below.refl wr.heap.size wr).drew)
      have HSd : Hid (wr.drew.heap[bs]? = some (.cells #[.string s] 9 (0, 0))) := lid HS2.out
      have HFd : Hid (wr.drew.heap[bf]? = some (.cells #[.func (.func 77) #[] #[]] 136 (0, 0))) := lid HF2.out
      cases hsp : isSp (s[k]'hlt) with
      | true =>
        have HE : Hid (wordsL (s.data.toList.drop k) = wordsL (s.data.toList.drop (k + 1))) := lid (by rw [HD.out, words_space hsp])
        gi_wp2_with fail
        refine wpIn_region_seqW (fun w' => ∃ s : Since wr.heap.size wr, w' = s.world) [(0, true), (1, true), (2, true), (3, true), (4, false), (5, false)] (by kernel_rfl) (by kernel_rfl) (since (Below.refl _ _).drew) ?_
        repeat (first | (refine seq_skip (by rfl) (by rfl) ?_; simp only [Act.put, List.setIfInBounds_toArray, List.set_cons_succ, List.set_cons_zero]) | (refine seq_float (by rfl) (by rfl) (by rfl) ?_; intro K hK; go_big_quiet_op; go_big_quiet_on))
        refine seq_chain (by rfl) ?_
        intro K hK
        go_wp2_with fail
        (with_reducible refine (isSpace_any _ _).mono ?_); rintro e w2 ⟨rfl, rfl⟩
        rw [hsp]
        go_wp2_with fail
        refine hK.out _ _ (since (Below.refl _ _).drew) ?_
        clear hK K
        repeat (first | (refine seq_skip (by rfl) (by rfl) ?_; simp only [Act.put, List.setIfInBounds_toArray, List.set_cons_succ, List.set_cons_zero]) | (refine seq_float (by rfl) (by rfl) (by rfl) ?_; intro K hK; go_big_quiet_op; go_big_quiet_on))
        refine seq_chain (by rfl) ?_
        intro K hK
        go_wp2_with fail
        go_wp2_with fail
        refine hK.out _ _ (since (Below.refl _ _).drew) ?_
        clear hK K
        refine seq_nil ⟨rfl, ?_⟩
        gi_wp2_with fail
        go_roundw
        case rel => exact ⟨k + 1, by omega, by go_num, HSd, HFd, by rw [← HE.out]; exact HJd⟩
        case measure => simp [intOf]; omega
      | false =>
        by_cases h35 : s[k]'hlt = 35
        · have U35 : Hid ((((s[k]'hlt).toNat : Int) == 35) = true) := lid (by rw [h35]; rfl)
          have H35 := lid h35
          have HE : Hid (wordsL (s.data.toList.drop k) = wordsL ((s.data.toList.drop k).dropWhile nNl)) := lid (by
            rw [HD.out, words_note h35, List.dropWhile_cons_of_pos (by rw [h35]; rfl)])
          clear h35
          gi_wp2_with fail
          refine wpIn_region_seqW (fun w' => ∃ s : Since wr.heap.size wr, w' = s.world) [(0, true), (1, true), (2, true), (3, true), (4, false), (5, false)] (by kernel_rfl) (by kernel_rfl) (since (Below.refl _ _).drew) ?_
          repeat (first | (refine seq_skip (by rfl) (by rfl) ?_; simp only [Act.put, List.setIfInBounds_toArray, List.set_cons_succ, List.set_cons_zero]) | (refine seq_float (by rfl) (by rfl) (by rfl) ?_; intro K hK; go_big_quiet_op; go_big_quiet_on))
          refine seq_chain (by rfl) ?_
          intro K hK
          go_wp2_with fail
          (with_reducible refine (isSpace_any _ _).mono ?_); rintro e w2 ⟨rfl, rfl⟩
          rw [hsp]
          go_wp2_with fail
          refine hK.out _ _ (since (Below.refl _ _).drew) ?_
          clear hK K
          repeat (first | (refine seq_skip (by rfl) (by rfl) ?_; simp only [Act.put, List.setIfInBounds_toArray, List.set_cons_succ, List.set_cons_zero]) | (refine seq_float (by rfl) (by rfl) (by rfl) ?_; intro K hK; go_big_quiet_op; go_big_quiet_on))
          refine seq_chain (by rfl) ?_
          intro K hK
          go_wp2_with fail
          have u35 := U35.out
          go_wp2_with fail
          refine hK.out _ _ (since (Below.refl _ _).drew) ?_
          clear hK K
          refine seq_nil ⟨rfl, ?_⟩
          gi_wp2_with fail
          gi_loopw [4] (fun i wq => ∃ q : Nat, k ≤ q ∧ q ≤ s.size ∧ i = .int .i64 q ∧ Hid (wordsL (s.data.toList.drop k) = wordsL ((s.data.toList.drop q).dropWhile nNl)) ∧ Hid (wr.drew = wq)) (fun i _ => s.size - (intOf i).toNat)
          case atStart => exact ⟨k, Nat.le_refl _, hk, rfl, HE, lid rfl⟩
          case round =>
            obtain ⟨q, hkq, hq, rfl, HQ, HW⟩ := hrel
            have hW := HW.out
            subst hW
            by_cases hql : q < s.size
            · have dq : decide ((q : Int) < (s.size : Int)) = true := by simp; omega
              have HDq := lid (sdrop_byte hql)
              by_cases h10 : s[q]'hql = 10
              · have u10 : (((s[q]'hql).toNat : Int) == 10) = true := by rw [h10]; rfl
                have u10b : (((s[q]'hql).toNat : Int) != 10) = false := by rw [h10]; rfl
                have hne : k ≠ q := by rintro rfl; rw [H35.out] at h10; exact absurd h10 (by decide)
                have HJ9 : Hid (J (wordsL (s.data.toList.drop q)) wr.drew) := lid (by
                  have e := HQ.out
                  rw [HDq.out, List.dropWhile_cons_of_neg (by rw [h10]; decide), ← HDq.out] at e
                  rw [← e]
                  exact HJd.out)
                gi_wp2_with fail
                go_roundw
                case rel => exact ⟨q, hq, rfl, HSd, HFd, HJ9⟩
                case measure => simp [intOf]; omega
              · have u10 : (((s[q]'hql).toNat : Int) == 10) = false := by rw [show ((10 : Int)) = ((10 : UInt8).toNat : Int) from rfl, byte_eq, decide_eq_false h10]
                have u10b : (((s[q]'hql).toNat : Int) != 10) = true := by unfold bne; rw [u10]; rfl
                have HE2 : Hid (wordsL (s.data.toList.drop k) = wordsL ((s.data.toList.drop (q + 1)).dropWhile nNl)) := lid (by
                  have e := HQ.out
                  rwa [HDq.out, List.dropWhile_cons_of_pos (by unfold nNl; rw [decide_eq_false h10]; rfl)] at e)
                gi_wp2_with fail
                go_roundw
                case rel => exact ⟨q + 1, by omega, by omega, by go_num, HE2, lid trivial⟩
                case measure => simp [intOf]; omega
            · obtain rfl : q = s.size := by omega
              have dq : decide ((s.size : Int) < (s.size : Int)) = false := by simp
              have HJ9 : Hid (J (wordsL (s.data.toList.drop s.size)) wr.drew) := lid (by
                have e := HQ.out
                rw [sdrop_end, List.dropWhile_nil] at e
                rw [sdrop_end, ← e]
                exact HJd.out)
              gi_wp2_with fail
              go_roundw
              case rel => exact ⟨s.size, Nat.le_refl _, rfl, HSd, HFd, HJ9⟩
              case measure => simp [intOf]; omega
        · have U35 : Hid ((((s[k]'hlt).toNat : Int) == 35) = false) := lid (by rw [show ((35 : Int)) = ((35 : UInt8).toNat : Int) from rfl, byte_eq, decide_eq_false h35])
          gi_wp2_with fail
          refine wpIn_region_seqW (fun w' => ∃ s : Since wr.heap.size wr, w' = s.world) [(0, true), (1, true), (2, true), (3, true), (4, false), (5, false)] (by kernel_rfl) (by kernel_rfl) (since (Below.refl _ _).drew) ?_
          repeat (first | (refine seq_skip (by rfl) (by rfl) ?_; simp only [Act.put, List.setIfInBounds_toArray, List.set_cons_succ, List.set_cons_zero]) | (refine seq_float (by rfl) (by rfl) (by rfl) ?_; intro K hK; go_big_quiet_op; go_big_quiet_on))
          refine seq_chain (by rfl) ?_
          intro K hK
          go_wp2_with fail
          (with_reducible refine (isSpace_any _ _).mono ?_); rintro e w2 ⟨rfl, rfl⟩
          rw [hsp]
          go_wp2_with fail
          refine hK.out _ _ (since (Below.refl _ _).drew) ?_
          clear hK K
          repeat (first | (refine seq_skip (by rfl) (by rfl) ?_; simp only [Act.put, List.setIfInBounds_toArray, List.set_cons_succ, List.set_cons_zero]) | (refine seq_float (by rfl) (by rfl) (by rfl) ?_; intro K hK; go_big_quiet_op; go_big_quiet_on))
          refine seq_chain (by rfl) ?_
          intro K hK
          go_wp2_with fail
          have u35 := U35.out
          go_wp2_with fail
          refine hK.out _ _ (since (Below.refl _ _).drew) ?_
          clear hK K
          refine seq_nil ⟨rfl, ?_⟩
          gi_wp2_with fail
          gi_loopw [4] (fun i wq => ∃ q : Nat, k ≤ q ∧ q ≤ s.size ∧ i = .int .i64 q ∧ Hid (WdAt s k q) ∧ Hid (wq.heap[bs]? = some (.cells #[.string s] 9 (0, 0))) ∧ Hid (wq.heap[bf]? = some (.cells #[.func (.func 77) #[] #[]] 136 (0, 0))) ∧ Hid (J (wordsL (s.data.toList.drop k)) wq)) (fun i _ => s.size - (intOf i).toNat)
          case atStart => exact ⟨k, Nat.le_refl _, hk, rfl, lid (WdAt.start s k), HSd, HFd, HJd⟩
          case round =>
            clear s0 f0 lS lF HSd HFd HJd
            obtain ⟨wq, rfl⟩ : ∃ y, y = wr := ⟨_, rfl⟩
            obtain ⟨q, hkq, hq, rfl, HQ, HS3, HF3, HJ3⟩ := hrel
            have s0 := row_cell HS3.out 0
            have f0 := row_cell HF3.out 0
            have lS := row_lt HS3.out
            have lF := row_lt HF3.out
            have HJq := lid ((HJ.out _).below HJ3.out (Below.refl wq.heap.size wq).drew)
            have HSq : Hid (wq.drew.heap[bs]? = some (.cells #[.string s] 9 (0, 0))) := lid HS3.out
            have HFq : Hid (wq.drew.heap[bf]? = some (.cells #[.func (.func 77) #[] #[]] 136 (0, 0))) := lid HF3.out
            by_cases hql : q < s.size
            · have dq : decide ((q : Int) < (s.size : Int)) = true := by simp; omega
              cases hsq : isSp (s[q]'hql) with
              | false =>
                have HQ2 := lid (HQ.out.next hkq hql hsq)
                gi_wp2_with fail
                refine wpIn_region_seqW (fun w' => ∃ s : Since wq.heap.size wq, w' = s.world) [(0, true), (1, true), (2, true), (3, true), (4, true), (5, true), (6, true), (7, true), (8, true), (9, false), (10, true), (11, true)] (by kernel_rfl) (by kernel_rfl) (since (Below.refl _ _).drew) ?_
                repeat (first | (refine seq_skip (by rfl) (by rfl) ?_; simp only [Act.put, List.setIfInBounds_toArray, List.set_cons_succ, List.set_cons_zero]) | (refine seq_float (by rfl) (by rfl) (by rfl) ?_; intro K hK; go_big_quiet_op; go_big_quiet_on))
                refine seq_chain (by rfl) ?_
                intro K hK
                go_wp2_with fail
                (with_reducible refine (isSpace_any _ _).mono ?_); rintro e w2 ⟨rfl, rfl⟩
                rw [hsq]
                go_wp2_with fail
                refine hK.out _ _ (since (Below.refl _ _).drew) ?_
                clear hK K
                repeat (first | (refine seq_skip (by rfl) (by rfl) ?_; simp only [Act.put, List.setIfInBounds_toArray, List.set_cons_succ, List.set_cons_zero]) | (refine seq_float (by rfl) (by rfl) (by rfl) ?_; intro K hK; go_big_quiet_op; go_big_quiet_on))
                refine seq_nil ⟨rfl, ?_⟩
                gi_wp2_with fail
                go_roundw
                case rel => exact ⟨q + 1, by omega, by omega, by go_num, HQ2, HSq, HFq, HJq⟩
                case measure => simp [intOf]; omega
              | true =>
                have HZ : Hid ((s.data.toList.drop q).takeWhile nSp = [] ∧ (s.data.toList.drop q).dropWhile nSp = s.data.toList.drop q) := lid (by
                  rw [sdrop_byte hql]
                  exact ⟨List.takeWhile_cons_of_neg (by unfold nSp; rw [hsq]; decide), List.dropWhile_cons_of_neg (by unfold nSp; rw [hsq]; decide)⟩)
                have hne : k ≠ q := by rintro rfl; rw [hsp] at hsq; cases hsq
                gi_wp2_with fail
                refine wpIn_region_seqW (fun w' => ∃ s : Since wq.heap.size wq, w' = s.world) [(0, true), (1, true), (2, true), (3, true), (4, true), (5, true), (6, true), (7, true), (8, true), (9, false), (10, true), (11, true)] (by kernel_rfl) (by kernel_rfl) (since (Below.refl _ _).drew) ?_
                repeat (first | (refine seq_skip (by rfl) (by rfl) ?_; simp only [Act.put, List.setIfInBounds_toArray, List.set_cons_succ, List.set_cons_zero]) | (refine seq_float (by rfl) (by rfl) (by rfl) ?_; intro K hK; go_big_quiet_op; go_big_quiet_on))
                refine seq_chain (by rfl) ?_
                intro K hK
                go_wp2_with fail
                (with_reducible refine (isSpace_any _ _).mono ?_); rintro e w2 ⟨rfl, rfl⟩
                rw [hsq]
                go_wp2_with fail
                refine hK.out _ _ (since (Below.refl _ _).drew) ?_
                clear hK K
                repeat (first | (refine seq_skip (by rfl) (by rfl) ?_; simp only [Act.put, List.setIfInBounds_toArray, List.set_cons_succ, List.set_cons_zero]) | (refine seq_float (by rfl) (by rfl) (by rfl) ?_; intro K hK; go_big_quiet_op; go_big_quiet_on))
                refine seq_nil ⟨rfl, ?_⟩
                have HWR : Hid (wordsL (s.data.toList.drop k) = (s.data.toList.drop k).take (q - k) :: wordsL (s.data.toList.drop q)) := lid (words_step hlt hsp h35 HQ.out HZ.out)
                obtain ⟨fn, tmps, assign, body, hy, hR⟩ := HY.out _ ((s.data.toList.drop k).take (q - k), k) wq.drew HJq.out ⟨_, HWR.out⟩
                rw [show wdv ((s.data.toList.drop k).take (q - k), k) = .agg #[.string (s.extract k q), .int .i64 k] by rw [extract_bstr]] at hy
                have HR1 := lid hR
                clear hR
                gi_wp2_with fail
                refine HR1.out.mono ?_
                rintro e W' (⟨rfl, hk', s', hT, hJ'⟩ | ⟨rfl, hk', hJx'⟩)
                · have hs' : s' = wordsL (s.data.toList.drop q) := by
                    unfold WdT at hT
                    rw [HWR.out] at hT
                    exact (List.cons.inj hT).2.symm
                  subst hs'
                  have HJ' := lid hJ'
                  have HS' := lid (hk'.cells _ _ _ _ h1 HSq.out)
                  have HF' := lid (hk'.cells _ _ _ _ h2 HFq.out)
                  clear hJ' hT hk' hy
                  gi_wp2_with fail
                  go_roundw
                  case rel => exact ⟨q, by omega, rfl, HS', HF', HJ'⟩
                  case measure => simp [intOf]; omega
                · have HJ' := lid hJx'
                  clear hJx' hk'
                  gi_wp2_with fail
                  exact bodyPost_ret (results_none rfl _ _ _) rfl ⟨rfl, .inr ⟨_, _, HJ'.out⟩⟩
            · obtain rfl : q = s.size := by omega
              have dq : decide ((s.size : Int) < (s.size : Int)) = false := by simp
              have HZ : Hid ((s.data.toList.drop s.size).takeWhile nSp = [] ∧ (s.data.toList.drop s.size).dropWhile nSp = s.data.toList.drop s.size) := lid (by
                rw [sdrop_end]
                exact ⟨rfl, rfl⟩)
              gi_wp2_with fail
              refine wpIn_region_seqW (fun w' => ∃ s : Since wq.heap.size wq, w' = s.world) [(0, true), (1, true), (2, true), (3, true), (4, true), (5, true), (6, true), (7, true), (8, true), (9, true), (10, true), (11, true)] (by kernel_rfl) (by kernel_rfl) (since (Below.refl _ _).drew) ?_
              repeat (first | (refine seq_skip (by rfl) (by rfl) ?_; simp only [Act.put, List.setIfInBounds_toArray, List.set_cons_succ, List.set_cons_zero]) | (refine seq_float (by rfl) (by rfl) (by rfl) ?_; intro K hK; go_big_quiet_op; go_big_quiet_on))
              refine seq_nil ⟨rfl, ?_⟩
              have HWR : Hid (wordsL (s.data.toList.drop k) = (s.data.toList.drop k).take (s.size - k) :: wordsL (s.data.toList.drop s.size)) := lid (words_step hlt hsp h35 HQ.out HZ.out)
              obtain ⟨fn, tmps, assign, body, hy, hR⟩ := HY.out _ ((s.data.toList.drop k).take (s.size - k), k) wq.drew HJq.out ⟨_, HWR.out⟩
              rw [show wdv ((s.data.toList.drop k).take (s.size - k), k) = .agg #[.string (s.extract k s.size), .int .i64 k] by rw [extract_bstr]] at hy
              have HR1 := lid hR
              clear hR
              gi_wp2_with fail
              refine HR1.out.mono ?_
              rintro e W' (⟨rfl, hk', s', hT, hJ'⟩ | ⟨rfl, hk', hJx'⟩)
              · have hs' : s' = wordsL (s.data.toList.drop s.size) := by
                  unfold WdT at hT
                  rw [HWR.out] at hT
                  exact (List.cons.inj hT).2.symm
                subst hs'
                have HJ' := lid hJ'
                have HS' := lid (hk'.cells _ _ _ _ h1 HSq.out)
                have HF' := lid (hk'.cells _ _ _ _ h2 HFq.out)
                clear hJ' hT hk' hy
                gi_wp2_with fail
                go_roundw
                case rel => exact ⟨s.size, Nat.le_refl _, rfl, HS', HF', HJ'⟩
                case measure => simp [intOf]; omega
              · have HJ' := lid hJx'
                clear hJx' hk'
                gi_wp2_with fail
                exact bodyPost_ret (results_none rfl _ _ _) rfl ⟨rfl, .inr ⟨_, _, HJ'.out⟩⟩
    · obtain rfl : k = s.size := by omega
      have dk : decide ((s.size : Int) < (s.size : Int)) = false := by simp
      rw [sdrop_end] at HJ2
      gi_wp2_with fail
      exact bodyPost_end (results_none rfl _ _ _) rfl ⟨rfl, .inl HJ2.out⟩
end Go.Proofs.YtefehgdckmajiaaGreatDoor
