/-
  The changes between two lists of files, plain; owners.changed.
-/
import Derived.Test.YtefehgdckmajiaaGreatDoorOwnOf
namespace Go.Proofs.YtefehgdckmajiaaGreatDoor
open Go.RowKit

/-- A change: path, had, has, old, new. -/
abbrev Ch := ByteArray × Bool × Bool × ByteArray × ByteArray
abbrev cha (c : Ch) : Array Value := #[.string c.1, .bool c.2.1, .bool c.2.2.1, .string c.2.2.2.1, .string c.2.2.2.2]
abbrev chce (c : Ch) : List Value := [.string c.1, .bool c.2.1, .bool c.2.2.1, .string c.2.2.2.1, .string c.2.2.2.2]
def chcells (l : List Ch) : List Value := l.flatMap chce
theorem chce_length (c : Ch) : (chce c).length = 5 := rfl
theorem chcells_length (l : List Ch) : (chcells l).length = l.length * 5 := flat_length chce_length l
theorem chcells_at {l : List Ch} {k : Nat} (h : k < l.length) : (chcells l)[k * 5 + 0]? = some (.string l[k].1) ∧ (chcells l)[k * 5 + 1]? = some (.bool l[k].2.1) ∧ (chcells l)[k * 5 + 2]? = some (.bool l[k].2.2.1) ∧ (chcells l)[k * 5 + 3]? = some (.string l[k].2.2.2.1) ∧ (chcells l)[k * 5 + 4]? = some (.string l[k].2.2.2.2) :=
  ⟨flat_at chce_length h (by omega), flat_at chce_length h (by omega), flat_at chce_length h (by omega), flat_at chce_length h (by omega), flat_at chce_length h (by omega)⟩
theorem chcells_append (l m : List Ch) : chcells (l ++ m) = chcells l ++ chcells m := by simp [chcells]
def ltP (a b : ByteArray) : Bool := Op.bytesLess a.toList b.toList
def delC (a : Fl) : Ch := (a.1, true, false, a.2, ⟨#[]⟩)
def addC (b : Fl) : Ch := (b.1, false, true, ⟨#[]⟩, b.2)
def chgC (a b : Fl) : Ch := (a.1, true, true, a.2, b.2)
def diffA (a : Fl) (rec : List Fl → List Ch) : List Fl → List Ch
  | [] => delC a :: rec []
  | b :: t => if ltP a.1 b.1 = true then delC a :: rec (b :: t) else if ltP b.1 a.1 = true then addC b :: diffA a rec t else (if a.2 = b.2 then [] else [chgC a b]) ++ rec t
/-- The changes from a list of files to another one. -/
def diffF : List Fl → List Fl → List Ch
  | [] => fun t => t.map addC
  | a :: s => diffA a (diffF s)
theorem diff_delE {a : Fl} {s : List Fl} : diffF (a :: s) [] = [delC a] ++ diffF s [] := rfl
theorem diff_del {a b : Fl} {s t : List Fl} (h : ltP a.1 b.1 = true) : diffF (a :: s) (b :: t) = [delC a] ++ diffF s (b :: t) := by
  show diffA a (diffF s) (b :: t) = _
  rw [diffA, if_pos h]; rfl
theorem diff_addE {b : Fl} {t : List Fl} : diffF [] (b :: t) = [addC b] ++ diffF [] t := rfl
theorem diff_add {a b : Fl} {s t : List Fl} (h : ltP a.1 b.1 = false) (h2 : ltP b.1 a.1 = true) : diffF (a :: s) (b :: t) = [addC b] ++ diffF (a :: s) t := by
  show diffA a (diffF s) (b :: t) = _
  rw [diffA, if_neg (by simp [h]), if_pos h2]; rfl
theorem diff_chg {a b : Fl} {s t : List Fl} (h : ltP a.1 b.1 = false) (h2 : ltP b.1 a.1 = false) (h3 : ¬ a.2 = b.2) : diffF (a :: s) (b :: t) = [chgC a b] ++ diffF s t := by
  show diffA a (diffF s) (b :: t) = _
  rw [diffA, if_neg (by simp [h]), if_neg (by simp [h2]), if_neg h3]
theorem diff_same {a b : Fl} {s t : List Fl} (h : ltP a.1 b.1 = false) (h2 : ltP b.1 a.1 = false) (h3 : a.2 = b.2) : diffF (a :: s) (b :: t) = [] ++ diffF s t := by
  show diffA a (diffF s) (b :: t) = _
  rw [diffA, if_neg (by simp [h]), if_neg (by simp [h2]), if_pos h3]
theorem fcell_at {w : World} {l : List Fl} {n : Nat} {ao : Option Addr} (h : Sl w 2 ao n (fcells l)) (hn : l.length = n) {k : Nat} (hk : k < n) : ∃ b o p d, ao = some ⟨b, o, none⟩ ∧ b < w.heap.size ∧ w.cell? ⟨b, o + k * 2, none⟩ = some (.string p) ∧ w.cell? ⟨b, o + k * 2 + 1, none⟩ = some (.string d) ∧ l.drop k = (p, d) :: l.drop (k + 1) ∧ (p, d) ∈ l := by
  obtain ⟨b, o, e, hb, hc⟩ := h.at_ hk
  have hkl : k < l.length := by omega
  refine ⟨b, o, l[k].1, l[k].2, e, hb, ?_, ?_, List.drop_eq_getElem_cons hkl, List.getElem_mem hkl⟩
  · have := hc (k * 2 + 0) _ (fcells_at hkl).1
    rwa [Nat.add_zero] at this
  · have := hc (k * 2 + 1) _ (fcells_at hkl).2
    rwa [← Nat.add_assoc] at this
set_option maxRecDepth 100000 in
set_option maxHeartbeats 16000000 in
theorem changed_any (l1 l2 : List Fl) (n1 cap1 n2 cap2 : Nat) (a1 a2 : Option Addr) (w : World) (h1 : FA w a1 n1 cap1 l1) (h2 : FA w a2 n2 cap2 l2) (hn1 : n1 ≤ 100000) (hn2 : n2 ≤ 100000) :
    Calls Tryz.prog 26 #[.slice a1 n1 cap1, .slice a2 n2 cap2] w fun e w' => ∃ v : SV, e = .returned (slv v) ∧ Below w.heap.size w w' ∧ GC (fun k => w.heap.size ≤ k ∧ k < w'.heap.size) w' v ((diffF l1 l2).map (·.1)) := by
  have HN1 : Hid (l1.length = n1) := lid h1.len
  have HN2 : Hid (l2.length = n2) := lid h2.len
  have HS1 : Hid (Sl w 2 a1 n1 (fcells l1)) := lid h1.sl
  have HS2 : Hid (Sl w 2 a2 n2 (fcells l2)) := lid h2.sl
  have HZ1 := lid h1.sz
  have HZ2 := lid h2.sz
  have hcap1 : n1 ≤ cap1 := h1.le
  have hcap2 : n2 ≤ cap2 := h2.le
  have hn19 : n1 ≤ 9223372036854775807 := by omega
  have hn29 : n2 ≤ 9223372036854775807 := by omega
  clear h1 h2
  go_enter Tryz.func26, Tryz.ntmps26
  go_wp2_with fail
  go_loopw [5, 6, 7] (fun v5 u6 u7 wr => ∃ (i k : Nat) (acc : List Ch), i ≤ n1 ∧ k ≤ n2 ∧ u6 = .int .i64 i ∧ u7 = .int .i64 k ∧ Hid (diffF l1 l2 = acc ++ diffF (l1.drop i) (l2.drop k)) ∧ Hid (acc.length ≤ i + k) ∧ Hid (wr.ownsRow w.heap.size 9 1 v5 acc.length (svals (acc.map (·.1)))) ∧ Hid (∀ x ∈ acc, x.1.size ≤ maxLen ∧ x.2.2.2.1.size ≤ maxLen ∧ x.2.2.2.2.size ≤ maxLen) ∧ Below w.heap.size w wr) (fun _ u6 u7 _ => (n1 - (intOf u6).toNat) + (n2 - (intOf u7).toNat))
  case atStart => exact ⟨0, 0, [], Nat.zero_le _, Nat.zero_le _, rfl, rfl, lid rfl, lid (Nat.le_refl _), lid (World.ownsRow_nil _ _ _ _), lid (fun x hx => by cases hx), Below.refl _ _⟩
  case round =>
    obtain ⟨i, k, acc, hi, hk, rfl, rfl, HD, HL, HO, HZ, hb⟩ := hrel
    rcases Nat.lt_or_ge i n1 with hlt1 | hge1
    · obtain ⟨b1, o1, p1, d1, rfl, lw1, x0, x1, hd1, hm1⟩ := fcell_at HS1.out HN1.out hlt1
      replace x0 := (bc hb lw1 _).trans x0
      replace x1 := (bc hb lw1 _).trans x1
      have lb1 := Nat.lt_of_lt_of_le lw1 hb.size
      have HD1 := lid hd1
      have hp1 := (HZ1.out _ hm1).1
      have hq1 := (HZ1.out _ hm1).2
      have hp19 : p1.size ≤ 9223372036854775807 := hp1
      have hbs : w.heap.size ≤ wr.heap.size := hb.size
      clear hd1 hm1
      rcases Nat.lt_or_ge k n2 with hlt2 | hge2
      · obtain ⟨b2, o2, p2, d2, rfl, lw2, y0, y1, hd2, hm2⟩ := fcell_at HS2.out HN2.out hlt2
        replace y0 := (bc hb lw2 _).trans y0
        replace y1 := (bc hb lw2 _).trans y1
        have lb2 := Nat.lt_of_lt_of_le lw2 hb.size
        have HD2 := lid hd2
        have hp2 := (HZ2.out _ hm2).1
        have hq2 := (HZ2.out _ hm2).2
        have hp29 : p2.size ≤ 9223372036854775807 := hp2
        clear hd2 hm2
        have di : decide ((i : Int) < (n1 : Int)) = true := by first | (simp; done) | (simp; omega)
        have ei : ((i : Int) == (n1 : Int)) = false := by first | (simp; done) | (simp; omega)
        have dk : decide ((k : Int) < (n2 : Int)) = true := by first | (simp; done) | (simp; omega)
        have ek : ((k : Int) == (n2 : Int)) = false := by first | (simp; done) | (simp; omega)
        cases hlt : Op.bytesLess p1.toList p2.toList with
        | true =>
          have HE : Hid (ltP (p1, d1).1 (p2, d2).1 = true) := lid hlt
          go_wp2_with fail
          refine wp_region_seq (fun w' => ∃ s : Since wr.heap.size wr, w' = s.world) [(0, true), (1, true), (2, true), (3, true), (4, true), (5, true), (6, true), (7, true), (8, true), (9, true), (10, true), (11, true), (12, true), (13, true), (14, true), (15, true), (16, true), (17, true), (18, true), (19, true), (20, true), (21, true), (22, true), (23, false)] (by kernel_rfl) (by kernel_rfl) (by intro c d v a w h; first | (cases d <;> exact h) | cases h.1) (since (Below.refl _ _).drew) ?_
          repeat (first | (refine seq_skip (by rfl) (by rfl) ?_; simp only [Act.put, List.setIfInBounds_toArray, List.set_cons_succ, List.set_cons_zero]) | (refine seq_float (by rfl) (by rfl) (by rfl) ?_; intro K hK; go_big_quiet_op; go_big_quiet_on))
          refine seq_chain (by rfl) ?_
          intro K hK
          go_wp2_with fail
          refine hK.out _ _ (since (Below.refl _ _).drew) ?_
          clear hK K
          repeat (first | (refine seq_skip (by rfl) (by rfl) ?_; simp only [Act.put, List.setIfInBounds_toArray, List.set_cons_succ, List.set_cons_zero]) | (refine seq_float (by rfl) (by rfl) (by rfl) ?_; intro K hK; go_big_quiet_op; go_big_quiet_on))
          refine seq_nil ?_
          go_wp2_with (at_builtin; go_must (refine wpList_append_new (w := wr.drew) #[.string p1] rfl _ _ 36 rfl w.heap.size 9 (.string ⟨#[]⟩) 1 16 info_st Tryz.underlying36 rfl (by decide) _ acc.length _ HO.out.drew rfl rfl rfl (by intro u hu; simp only [List.mem_cons, List.not_mem_nil, or_false] at hu; rw [hu]; rfl) (by have := HL.out; simp only [maxLen]; omega) (by have := HL.out; omega) hbs ?_))
          intro v9 w9 hown9 hb9 _
          obtain ⟨a9, c9, rfl⟩ := slv_of hown9
          have HO9 : Hid (w9.ownsRow w.heap.size 9 1 (slv (a9, acc.length + 1, c9)) (acc ++ [delC (p1, d1)]).length (svals ((acc ++ [delC (p1, d1)]).map (·.1)))) := lid (by
            rw [List.length_append, List.map_append, show svals (acc.map (·.1) ++ [delC (p1, d1)].map (·.1)) = svals (acc.map (·.1)) ++ [.string (delC (p1, d1)).1] by simp [svals]]
            exact hown9)
          have hw9 : Below w.heap.size w w9 := hb.trans (((Below.refl _ _).drew).trans hb9)
          have HD9 : Hid (diffF l1 l2 = (acc ++ [delC (p1, d1)]) ++ diffF (l1.drop (i + 1)) (l2.drop (k))) := lid (by rw [HD.out, HD1.out, HD2.out, diff_del HE.out, ← HD2.out, List.append_assoc])
          have HL9 : Hid ((acc ++ [delC (p1, d1)]).length ≤ i + 1 + (k)) := lid (by have := HL.out; simp; omega)
          have HZ9 : Hid (∀ x ∈ acc ++ [delC (p1, d1)], x.1.size ≤ maxLen ∧ x.2.2.2.1.size ≤ maxLen ∧ x.2.2.2.2.size ≤ maxLen) := lid (fun x hx => by
            rcases List.mem_append.1 hx with hx | hx
            · exact HZ.out x hx
            · simp only [List.mem_singleton] at hx; subst hx; exact ⟨hp1, hq1, show (0 : Nat) ≤ maxLen by decide⟩)
          clear hown9 hb9
          go_wp2_with fail
          go_roundw
          case rel => exact ⟨i + 1, k, _, by omega, by omega, by go_num, by go_num, HD9, HL9, HO9, HZ9, hw9⟩
          case measure => simp [intOf]; omega
        | false =>
          cases hgt : Op.bytesLess p2.toList p1.toList with
          | true =>
            have HE : Hid (ltP (p1, d1).1 (p2, d2).1 = false) := lid hlt
            have HE2 : Hid (ltP (p2, d2).1 (p1, d1).1 = true) := lid hgt
            go_wp2_with fail
            refine wp_region_seq (fun w' => ∃ s : Since wr.heap.size wr, w' = s.world) [(0, true), (1, true), (2, true), (3, true), (4, true), (5, true), (6, true), (7, true), (8, true), (9, true), (10, true), (11, true), (12, true), (13, true), (14, true), (15, true), (16, true), (17, true), (18, true), (19, true), (20, true), (21, true), (22, true), (23, false)] (by kernel_rfl) (by kernel_rfl) (by intro c d v a w h; first | (cases d <;> exact h) | cases h.1) (since (Below.refl _ _).drew) ?_
            repeat (first | (refine seq_skip (by rfl) (by rfl) ?_; simp only [Act.put, List.setIfInBounds_toArray, List.set_cons_succ, List.set_cons_zero]) | (refine seq_float (by rfl) (by rfl) (by rfl) ?_; intro K hK; go_big_quiet_op; go_big_quiet_on))
            refine seq_chain (by rfl) ?_
            intro K hK
            go_wp2_with fail
            refine hK.out _ _ (since (Below.refl _ _).drew) ?_
            clear hK K
            repeat (first | (refine seq_skip (by rfl) (by rfl) ?_; simp only [Act.put, List.setIfInBounds_toArray, List.set_cons_succ, List.set_cons_zero]) | (refine seq_float (by rfl) (by rfl) (by rfl) ?_; intro K hK; go_big_quiet_op; go_big_quiet_on))
            refine seq_nil ?_
            go_wp2_with fail
            refine wp_region_seq (fun w' => ∃ s : Since wr.heap.size wr.drew, w' = s.world) [(0, true), (1, true), (2, true), (3, true), (4, true), (5, true), (6, true), (7, true), (8, true), (9, true), (10, true), (11, true), (12, true), (13, true), (14, true), (15, true), (16, true), (17, false)] (by kernel_rfl) (by kernel_rfl) (by intro c d v a w h; first | (cases d <;> exact h) | cases h.1) (since (Below.refl _ _).drew) ?_
            repeat (first | (refine seq_skip (by rfl) (by rfl) ?_; simp only [Act.put, List.setIfInBounds_toArray, List.set_cons_succ, List.set_cons_zero]) | (refine seq_float (by rfl) (by rfl) (by rfl) ?_; intro K hK; go_big_quiet_op; go_big_quiet_on))
            refine seq_chain (by rfl) ?_
            intro K hK
            go_wp2_with fail
            refine hK.out _ _ (since (Below.refl _ _).drew) ?_
            clear hK K
            repeat (first | (refine seq_skip (by rfl) (by rfl) ?_; simp only [Act.put, List.setIfInBounds_toArray, List.set_cons_succ, List.set_cons_zero]) | (refine seq_float (by rfl) (by rfl) (by rfl) ?_; intro K hK; go_big_quiet_op; go_big_quiet_on))
            refine seq_nil ?_
            go_wp2_with (at_builtin; go_must (refine wpList_append_new (w := wr.drew.drew) #[.string p2] rfl _ _ 36 rfl w.heap.size 9 (.string ⟨#[]⟩) 1 16 info_st Tryz.underlying36 rfl (by decide) _ acc.length _ HO.out.drew.drew rfl rfl rfl (by intro u hu; simp only [List.mem_cons, List.not_mem_nil, or_false] at hu; rw [hu]; rfl) (by have := HL.out; simp only [maxLen]; omega) (by have := HL.out; omega) hbs ?_))
            intro v9 w9 hown9 hb9 _
            obtain ⟨a9, c9, rfl⟩ := slv_of hown9
            have HO9 : Hid (w9.ownsRow w.heap.size 9 1 (slv (a9, acc.length + 1, c9)) (acc ++ [addC (p2, d2)]).length (svals ((acc ++ [addC (p2, d2)]).map (·.1)))) := lid (by
              rw [List.length_append, List.map_append, show svals (acc.map (·.1) ++ [addC (p2, d2)].map (·.1)) = svals (acc.map (·.1)) ++ [.string (addC (p2, d2)).1] by simp [svals]]
              exact hown9)
            have hw9 : Below w.heap.size w w9 := hb.trans (((Below.refl _ _).drew.drew).trans hb9)
            have HD9 : Hid (diffF l1 l2 = (acc ++ [addC (p2, d2)]) ++ diffF (l1.drop (i)) (l2.drop (k + 1))) := lid (by rw [HD.out, HD1.out, HD2.out, diff_add HE.out HE2.out, ← HD1.out, List.append_assoc])
            have HL9 : Hid ((acc ++ [addC (p2, d2)]).length ≤ i + (k + 1)) := lid (by have := HL.out; simp; omega)
            have HZ9 : Hid (∀ x ∈ acc ++ [addC (p2, d2)], x.1.size ≤ maxLen ∧ x.2.2.2.1.size ≤ maxLen ∧ x.2.2.2.2.size ≤ maxLen) := lid (fun x hx => by
              rcases List.mem_append.1 hx with hx | hx
              · exact HZ.out x hx
              · simp only [List.mem_singleton] at hx; subst hx; exact ⟨hp2, show (0 : Nat) ≤ maxLen by decide, hq2⟩)
            clear hown9 hb9
            go_wp2_with fail
            go_roundw
            case rel => exact ⟨i, k + 1, _, by omega, by omega, by go_num, by go_num, HD9, HL9, HO9, HZ9, hw9⟩
            case measure => simp [intOf]; omega
          | false =>
            have HE : Hid (ltP (p1, d1).1 (p2, d2).1 = false) := lid hlt
            have HE2 : Hid (ltP (p2, d2).1 (p1, d1).1 = false) := lid hgt
            by_cases hdd : d1 = d2
            · have u := str_eq hdd
              have HE3 : Hid ((p1, d1).2 = (p2, d2).2) := lid hdd
              clear hdd
              go_wp2_with fail
              refine wp_region_seq (fun w' => ∃ s : Since wr.heap.size wr, w' = s.world) [(0, true), (1, true), (2, true), (3, true), (4, true), (5, true), (6, true), (7, true), (8, true), (9, true), (10, true), (11, true), (12, true), (13, true), (14, true), (15, true), (16, true), (17, true), (18, true), (19, true), (20, true), (21, true), (22, true), (23, false)] (by kernel_rfl) (by kernel_rfl) (by intro c d v a w h; first | (cases d <;> exact h) | cases h.1) (since (Below.refl _ _).drew) ?_
              repeat (first | (refine seq_skip (by rfl) (by rfl) ?_; simp only [Act.put, List.setIfInBounds_toArray, List.set_cons_succ, List.set_cons_zero]) | (refine seq_float (by rfl) (by rfl) (by rfl) ?_; intro K hK; go_big_quiet_op; go_big_quiet_on))
              refine seq_chain (by rfl) ?_
              intro K hK
              go_wp2_with fail
              refine hK.out _ _ (since (Below.refl _ _).drew) ?_
              clear hK K
              repeat (first | (refine seq_skip (by rfl) (by rfl) ?_; simp only [Act.put, List.setIfInBounds_toArray, List.set_cons_succ, List.set_cons_zero]) | (refine seq_float (by rfl) (by rfl) (by rfl) ?_; intro K hK; go_big_quiet_op; go_big_quiet_on))
              refine seq_nil ?_
              go_wp2_with fail
              refine wp_region_seq (fun w' => ∃ s : Since wr.heap.size wr.drew, w' = s.world) [(0, true), (1, true), (2, true), (3, true), (4, true), (5, true), (6, true), (7, true), (8, true), (9, true), (10, true), (11, true), (12, true), (13, true), (14, true), (15, true), (16, true), (17, false)] (by kernel_rfl) (by kernel_rfl) (by intro c d v a w h; first | (cases d <;> exact h) | cases h.1) (since (Below.refl _ _).drew) ?_
              repeat (first | (refine seq_skip (by rfl) (by rfl) ?_; simp only [Act.put, List.setIfInBounds_toArray, List.set_cons_succ, List.set_cons_zero]) | (refine seq_float (by rfl) (by rfl) (by rfl) ?_; intro K hK; go_big_quiet_op; go_big_quiet_on))
              refine seq_chain (by rfl) ?_
              intro K hK
              go_wp2_with fail
              refine hK.out _ _ (since (Below.refl _ _).drew) ?_
              clear hK K
              repeat (first | (refine seq_skip (by rfl) (by rfl) ?_; simp only [Act.put, List.setIfInBounds_toArray, List.set_cons_succ, List.set_cons_zero]) | (refine seq_float (by rfl) (by rfl) (by rfl) ?_; intro K hK; go_big_quiet_op; go_big_quiet_on))
              refine seq_nil ?_
              go_wp2_with fail
              refine wp_region_seq (fun w' => ∃ s : Since wr.heap.size wr.drew.drew, w' = s.world) [(0, true), (1, true), (2, true), (3, true), (4, true), (5, true), (6, true), (7, true), (8, true), (9, true), (10, true)] (by kernel_rfl) (by kernel_rfl) (by intro c d v a w h; first | (cases d <;> exact h) | cases h.1) (since (Below.refl _ _).drew) ?_
              repeat (first | (refine seq_skip (by rfl) (by rfl) ?_; simp only [Act.put, List.setIfInBounds_toArray, List.set_cons_succ, List.set_cons_zero]) | (refine seq_float (by rfl) (by rfl) (by rfl) ?_; intro K hK; go_big_quiet_op; go_big_quiet_on))
              refine seq_nil ?_
              have HD9 : Hid (diffF l1 l2 = acc ++ diffF (l1.drop (i + 1)) (l2.drop (k + 1))) := lid (by rw [HD.out, HD1.out, HD2.out, diff_same HE.out HE2.out HE3.out, List.nil_append])
              have HL9 : Hid (acc.length ≤ i + 1 + (k + 1)) := lid (by have := HL.out; omega)
              have hw9 : Below w.heap.size w wr.drew.drew.drew := hb.drew.drew.drew
              go_wp2_with fail
              go_roundw
              case rel => exact ⟨i + 1, k + 1, _, by omega, by omega, by go_num, by go_num, HD9, HL9, lid HO.out.drew.drew.drew, HZ, hw9⟩
              case measure => simp [intOf]; omega
            · have u := str_ne hdd
              have HE3 : Hid (¬ (p1, d1).2 = (p2, d2).2) := lid hdd
              clear hdd
              go_wp2_with fail
              refine wp_region_seq (fun w' => ∃ s : Since wr.heap.size wr, w' = s.world) [(0, true), (1, true), (2, true), (3, true), (4, true), (5, true), (6, true), (7, true), (8, true), (9, true), (10, true), (11, true), (12, true), (13, true), (14, true), (15, true), (16, true), (17, true), (18, true), (19, true), (20, true), (21, true), (22, true), (23, false)] (by kernel_rfl) (by kernel_rfl) (by intro c d v a w h; first | (cases d <;> exact h) | cases h.1) (since (Below.refl _ _).drew) ?_
              repeat (first | (refine seq_skip (by rfl) (by rfl) ?_; simp only [Act.put, List.setIfInBounds_toArray, List.set_cons_succ, List.set_cons_zero]) | (refine seq_float (by rfl) (by rfl) (by rfl) ?_; intro K hK; go_big_quiet_op; go_big_quiet_on))
              refine seq_chain (by rfl) ?_
              intro K hK
              go_wp2_with fail
              refine hK.out _ _ (since (Below.refl _ _).drew) ?_
              clear hK K
              repeat (first | (refine seq_skip (by rfl) (by rfl) ?_; simp only [Act.put, List.setIfInBounds_toArray, List.set_cons_succ, List.set_cons_zero]) | (refine seq_float (by rfl) (by rfl) (by rfl) ?_; intro K hK; go_big_quiet_op; go_big_quiet_on))
              refine seq_nil ?_
              go_wp2_with fail
              refine wp_region_seq (fun w' => ∃ s : Since wr.heap.size wr.drew, w' = s.world) [(0, true), (1, true), (2, true), (3, true), (4, true), (5, true), (6, true), (7, true), (8, true), (9, true), (10, true), (11, true), (12, true), (13, true), (14, true), (15, true), (16, true), (17, false)] (by kernel_rfl) (by kernel_rfl) (by intro c d v a w h; first | (cases d <;> exact h) | cases h.1) (since (Below.refl _ _).drew) ?_
              repeat (first | (refine seq_skip (by rfl) (by rfl) ?_; simp only [Act.put, List.setIfInBounds_toArray, List.set_cons_succ, List.set_cons_zero]) | (refine seq_float (by rfl) (by rfl) (by rfl) ?_; intro K hK; go_big_quiet_op; go_big_quiet_on))
              refine seq_chain (by rfl) ?_
              intro K hK
              go_wp2_with fail
              refine hK.out _ _ (since (Below.refl _ _).drew) ?_
              clear hK K
              repeat (first | (refine seq_skip (by rfl) (by rfl) ?_; simp only [Act.put, List.setIfInBounds_toArray, List.set_cons_succ, List.set_cons_zero]) | (refine seq_float (by rfl) (by rfl) (by rfl) ?_; intro K hK; go_big_quiet_op; go_big_quiet_on))
              refine seq_nil ?_
              go_wp2_with fail
              refine wp_region_seq (fun w' => ∃ s : Since wr.heap.size wr.drew.drew, w' = s.world) [(0, true), (1, true), (2, true), (3, true), (4, true), (5, true), (6, true), (7, true), (8, true), (9, true), (10, true)] (by kernel_rfl) (by kernel_rfl) (by intro c d v a w h; first | (cases d <;> exact h) | cases h.1) (since (Below.refl _ _).drew) ?_
              repeat (first | (refine seq_skip (by rfl) (by rfl) ?_; simp only [Act.put, List.setIfInBounds_toArray, List.set_cons_succ, List.set_cons_zero]) | (refine seq_float (by rfl) (by rfl) (by rfl) ?_; intro K hK; go_big_quiet_op; go_big_quiet_on))
              refine seq_nil ?_
              go_wp2_with (at_builtin; go_must (refine wpList_append_new (w := wr.drew.drew.drew) #[.string p1] rfl _ _ 36 rfl w.heap.size 9 (.string ⟨#[]⟩) 1 16 info_st Tryz.underlying36 rfl (by decide) _ acc.length _ HO.out.drew.drew.drew rfl rfl rfl (by intro u hu; simp only [List.mem_cons, List.not_mem_nil, or_false] at hu; rw [hu]; rfl) (by have := HL.out; simp only [maxLen]; omega) (by have := HL.out; omega) hbs ?_))
              intro v9 w9 hown9 hb9 _
              obtain ⟨a9, c9, rfl⟩ := slv_of hown9
              have HO9 : Hid (w9.ownsRow w.heap.size 9 1 (slv (a9, acc.length + 1, c9)) (acc ++ [chgC (p1, d1) (p2, d2)]).length (svals ((acc ++ [chgC (p1, d1) (p2, d2)]).map (·.1)))) := lid (by
                rw [List.length_append, List.map_append, show svals (acc.map (·.1) ++ [chgC (p1, d1) (p2, d2)].map (·.1)) = svals (acc.map (·.1)) ++ [.string (chgC (p1, d1) (p2, d2)).1] by simp [svals]]
                exact hown9)
              have hw9 : Below w.heap.size w w9 := hb.trans (((Below.refl _ _).drew.drew.drew).trans hb9)
              have HD9 : Hid (diffF l1 l2 = (acc ++ [chgC (p1, d1) (p2, d2)]) ++ diffF (l1.drop (i + 1)) (l2.drop (k + 1))) := lid (by rw [HD.out, HD1.out, HD2.out, diff_chg HE.out HE2.out HE3.out, List.append_assoc])
              have HL9 : Hid ((acc ++ [chgC (p1, d1) (p2, d2)]).length ≤ i + 1 + (k + 1)) := lid (by have := HL.out; simp; omega)
              have HZ9 : Hid (∀ x ∈ acc ++ [chgC (p1, d1) (p2, d2)], x.1.size ≤ maxLen ∧ x.2.2.2.1.size ≤ maxLen ∧ x.2.2.2.2.size ≤ maxLen) := lid (fun x hx => by
                rcases List.mem_append.1 hx with hx | hx
                · exact HZ.out x hx
                · simp only [List.mem_singleton] at hx; subst hx; exact ⟨hp1, hq1, hq2⟩)
              clear hown9 hb9
              go_wp2_with fail
              go_roundw
              case rel => exact ⟨i + 1, k + 1, _, by omega, by omega, by go_num, by go_num, HD9, HL9, HO9, HZ9, hw9⟩
              case measure => simp [intOf]; omega
      · obtain rfl : k = n2 := by omega
        have HD2 : Hid (l2.drop k = []) := lid (List.drop_of_length_le (Nat.le_of_eq HN2.out))
        have di : decide ((i : Int) < (n1 : Int)) = true := by first | (simp; done) | (simp; omega)
        have ei : ((i : Int) == (n1 : Int)) = false := by first | (simp; done) | (simp; omega)
        have dk : decide ((k : Int) < (k : Int)) = false := by first | (simp; done) | (simp; omega)
        have ek : ((k : Int) == (k : Int)) = true := by first | (simp; done) | (simp; omega)
        go_wp2_with fail
        refine wp_region_seq (fun w' => ∃ s : Since wr.heap.size wr, w' = s.world) [(0, true), (1, true), (2, true), (3, true), (4, true), (5, true), (6, true), (7, true), (8, true), (9, true), (10, true), (11, true), (12, true), (13, true), (14, true), (15, true), (16, true), (17, true), (18, true), (19, true), (20, true), (21, true), (22, true), (23, false)] (by kernel_rfl) (by kernel_rfl) (by intro c d v a w h; first | (cases d <;> exact h) | cases h.1) (since (Below.refl _ _).drew) ?_
        repeat (first | (refine seq_skip (by rfl) (by rfl) ?_; simp only [Act.put, List.setIfInBounds_toArray, List.set_cons_succ, List.set_cons_zero]) | (refine seq_float (by rfl) (by rfl) (by rfl) ?_; intro K hK; go_big_quiet_op; go_big_quiet_on))
        refine seq_chain (by rfl) ?_
        intro K hK
        go_wp2_with fail
        refine hK.out _ _ (since (Below.refl _ _).drew) ?_
        clear hK K
        repeat (first | (refine seq_skip (by rfl) (by rfl) ?_; simp only [Act.put, List.setIfInBounds_toArray, List.set_cons_succ, List.set_cons_zero]) | (refine seq_float (by rfl) (by rfl) (by rfl) ?_; intro K hK; go_big_quiet_op; go_big_quiet_on))
        refine seq_nil ?_
        go_wp2_with (at_builtin; go_must (refine wpList_append_new (w := wr.drew) #[.string p1] rfl _ _ 36 rfl w.heap.size 9 (.string ⟨#[]⟩) 1 16 info_st Tryz.underlying36 rfl (by decide) _ acc.length _ HO.out.drew rfl rfl rfl (by intro u hu; simp only [List.mem_cons, List.not_mem_nil, or_false] at hu; rw [hu]; rfl) (by have := HL.out; simp only [maxLen]; omega) (by have := HL.out; omega) hbs ?_))
        intro v9 w9 hown9 hb9 _
        obtain ⟨a9, c9, rfl⟩ := slv_of hown9
        have HO9 : Hid (w9.ownsRow w.heap.size 9 1 (slv (a9, acc.length + 1, c9)) (acc ++ [delC (p1, d1)]).length (svals ((acc ++ [delC (p1, d1)]).map (·.1)))) := lid (by
          rw [List.length_append, List.map_append, show svals (acc.map (·.1) ++ [delC (p1, d1)].map (·.1)) = svals (acc.map (·.1)) ++ [.string (delC (p1, d1)).1] by simp [svals]]
          exact hown9)
        have hw9 : Below w.heap.size w w9 := hb.trans (((Below.refl _ _).drew).trans hb9)
        have HD9 : Hid (diffF l1 l2 = (acc ++ [delC (p1, d1)]) ++ diffF (l1.drop (i + 1)) (l2.drop (k))) := lid (by rw [HD.out, HD1.out, HD2.out, diff_delE, List.append_assoc])
        have HL9 : Hid ((acc ++ [delC (p1, d1)]).length ≤ i + 1 + (k)) := lid (by have := HL.out; simp; omega)
        have HZ9 : Hid (∀ x ∈ acc ++ [delC (p1, d1)], x.1.size ≤ maxLen ∧ x.2.2.2.1.size ≤ maxLen ∧ x.2.2.2.2.size ≤ maxLen) := lid (fun x hx => by
          rcases List.mem_append.1 hx with hx | hx
          · exact HZ.out x hx
          · simp only [List.mem_singleton] at hx; subst hx; exact ⟨hp1, hq1, show (0 : Nat) ≤ maxLen by decide⟩)
        clear hown9 hb9
        go_wp2_with fail
        go_roundw
        case rel => exact ⟨i + 1, k, _, by omega, by omega, by go_num, by go_num, HD9, HL9, HO9, HZ9, hw9⟩
        case measure => simp [intOf]; omega
    · obtain rfl : i = n1 := by omega
      have HD1 : Hid (l1.drop i = []) := lid (List.drop_of_length_le (Nat.le_of_eq HN1.out))
      have hbs : w.heap.size ≤ wr.heap.size := hb.size
      rcases Nat.lt_or_ge k n2 with hlt2 | hge2
      · obtain ⟨b2, o2, p2, d2, rfl, lw2, y0, y1, hd2, hm2⟩ := fcell_at HS2.out HN2.out hlt2
        replace y0 := (bc hb lw2 _).trans y0
        replace y1 := (bc hb lw2 _).trans y1
        have lb2 := Nat.lt_of_lt_of_le lw2 hb.size
        have HD2 := lid hd2
        have hp2 := (HZ2.out _ hm2).1
        have hq2 := (HZ2.out _ hm2).2
        have hp29 : p2.size ≤ 9223372036854775807 := hp2
        clear hd2 hm2
        have di : decide ((i : Int) < (i : Int)) = false := by first | (simp; done) | (simp; omega)
        have ei : ((i : Int) == (i : Int)) = true := by first | (simp; done) | (simp; omega)
        have dk : decide ((k : Int) < (n2 : Int)) = true := by first | (simp; done) | (simp; omega)
        have ek : ((k : Int) == (n2 : Int)) = false := by first | (simp; done) | (simp; omega)
        go_wp2_with fail
        refine wp_region_seq (fun w' => ∃ s : Since wr.heap.size wr, w' = s.world) [(0, true), (1, true), (2, true), (3, true), (4, true), (5, true), (6, true), (7, true), (8, true), (9, true), (10, true), (11, true), (12, true), (13, true), (14, true), (15, true), (16, true), (17, true), (18, true), (19, true), (20, true), (21, true), (22, true), (23, false)] (by kernel_rfl) (by kernel_rfl) (by intro c d v a w h; first | (cases d <;> exact h) | cases h.1) (since (Below.refl _ _).drew) ?_
        repeat (first | (refine seq_skip (by rfl) (by rfl) ?_; simp only [Act.put, List.setIfInBounds_toArray, List.set_cons_succ, List.set_cons_zero]) | (refine seq_float (by rfl) (by rfl) (by rfl) ?_; intro K hK; go_big_quiet_op; go_big_quiet_on))
        refine seq_chain (by rfl) ?_
        intro K hK
        go_wp2_with fail
        refine hK.out _ _ (since (Below.refl _ _).drew) ?_
        clear hK K
        repeat (first | (refine seq_skip (by rfl) (by rfl) ?_; simp only [Act.put, List.setIfInBounds_toArray, List.set_cons_succ, List.set_cons_zero]) | (refine seq_float (by rfl) (by rfl) (by rfl) ?_; intro K hK; go_big_quiet_op; go_big_quiet_on))
        refine seq_nil ?_
        go_wp2_with fail
        refine wp_region_seq (fun w' => ∃ s : Since wr.heap.size wr.drew, w' = s.world) [(0, true), (1, true), (2, true), (3, true), (4, true), (5, true), (6, true), (7, true), (8, true), (9, true), (10, true), (11, true), (12, true), (13, true), (14, true), (15, true), (16, true), (17, false)] (by kernel_rfl) (by kernel_rfl) (by intro c d v a w h; first | (cases d <;> exact h) | cases h.1) (since (Below.refl _ _).drew) ?_
        repeat (first | (refine seq_skip (by rfl) (by rfl) ?_; simp only [Act.put, List.setIfInBounds_toArray, List.set_cons_succ, List.set_cons_zero]) | (refine seq_float (by rfl) (by rfl) (by rfl) ?_; intro K hK; go_big_quiet_op; go_big_quiet_on))
        refine seq_chain (by rfl) ?_
        intro K hK
        go_wp2_with fail
        refine hK.out _ _ (since (Below.refl _ _).drew) ?_
        clear hK K
        repeat (first | (refine seq_skip (by rfl) (by rfl) ?_; simp only [Act.put, List.setIfInBounds_toArray, List.set_cons_succ, List.set_cons_zero]) | (refine seq_float (by rfl) (by rfl) (by rfl) ?_; intro K hK; go_big_quiet_op; go_big_quiet_on))
        refine seq_nil ?_
        go_wp2_with (at_builtin; go_must (refine wpList_append_new (w := wr.drew.drew) #[.string p2] rfl _ _ 36 rfl w.heap.size 9 (.string ⟨#[]⟩) 1 16 info_st Tryz.underlying36 rfl (by decide) _ acc.length _ HO.out.drew.drew rfl rfl rfl (by intro u hu; simp only [List.mem_cons, List.not_mem_nil, or_false] at hu; rw [hu]; rfl) (by have := HL.out; simp only [maxLen]; omega) (by have := HL.out; omega) hbs ?_))
        intro v9 w9 hown9 hb9 _
        obtain ⟨a9, c9, rfl⟩ := slv_of hown9
        have HO9 : Hid (w9.ownsRow w.heap.size 9 1 (slv (a9, acc.length + 1, c9)) (acc ++ [addC (p2, d2)]).length (svals ((acc ++ [addC (p2, d2)]).map (·.1)))) := lid (by
          rw [List.length_append, List.map_append, show svals (acc.map (·.1) ++ [addC (p2, d2)].map (·.1)) = svals (acc.map (·.1)) ++ [.string (addC (p2, d2)).1] by simp [svals]]
          exact hown9)
        have hw9 : Below w.heap.size w w9 := hb.trans (((Below.refl _ _).drew.drew).trans hb9)
        have HD9 : Hid (diffF l1 l2 = (acc ++ [addC (p2, d2)]) ++ diffF (l1.drop (i)) (l2.drop (k + 1))) := lid (by rw [HD.out, HD1.out, HD2.out, diff_addE, List.append_assoc])
        have HL9 : Hid ((acc ++ [addC (p2, d2)]).length ≤ i + (k + 1)) := lid (by have := HL.out; simp; omega)
        have HZ9 : Hid (∀ x ∈ acc ++ [addC (p2, d2)], x.1.size ≤ maxLen ∧ x.2.2.2.1.size ≤ maxLen ∧ x.2.2.2.2.size ≤ maxLen) := lid (fun x hx => by
          rcases List.mem_append.1 hx with hx | hx
          · exact HZ.out x hx
          · simp only [List.mem_singleton] at hx; subst hx; exact ⟨hp2, show (0 : Nat) ≤ maxLen by decide, hq2⟩)
        clear hown9 hb9
        go_wp2_with fail
        go_roundw
        case rel => exact ⟨i, k + 1, _, by omega, by omega, by go_num, by go_num, HD9, HL9, HO9, HZ9, hw9⟩
        case measure => simp [intOf]; omega
      · obtain rfl : k = n2 := by omega
        have HD2 : Hid (l2.drop k = []) := lid (List.drop_of_length_le (Nat.le_of_eq HN2.out))
        have di : decide ((i : Int) < (i : Int)) = false := by first | (simp; done) | (simp; omega)
        have ei : ((i : Int) == (i : Int)) = true := by first | (simp; done) | (simp; omega)
        have dk : decide ((k : Int) < (k : Int)) = false := by first | (simp; done) | (simp; omega)
        have ek : ((k : Int) == (k : Int)) = true := by first | (simp; done) | (simp; omega)
        have HE : Hid (diffF l1 l2 = acc) := lid (by rw [HD.out, HD1.out, HD2.out]; exact List.append_nil _)
        obtain ⟨av, cv, hv⟩ := slv_of HO.out
        subst hv
        have HF : Hid (GC (fun k => w.heap.size ≤ k ∧ k < wr.heap.size) wr (av, acc.length, cv) ((diffF l1 l2).map (·.1))) := lid (by
          obtain ⟨h1, h2⟩ := SlC.of_own (c := fun k => w.heap.size ≤ k ∧ k < wr.heap.size) HO.out (fun q e => HO.out.lt q e)
          rw [HE.out]
          exact ⟨by simpa using h1, by simp, fun s hs => by
          obtain ⟨x, hx, rfl⟩ := List.mem_map.1 hs
          exact (HZ.out x hx).1⟩)
        go_wp2_with fail
        go_ret
        exact ⟨_, rfl, hb, HF.out⟩
end Go.Proofs.YtefehgdckmajiaaGreatDoor
