/-
  ask of the reference.
-/
import Derived.Test.YtnjcoejnknpfoaaBox
import Derived.Test.YtnjcoejnknpfoaaMinTell
namespace Go.Proofs.Ytnjcoejnknpfoaa
open Go.RowKit Go.Shelf
/-- An asker, as a value. -/
abbrev askV (ao : Option Addr) (k cap : Nat) (u : Int) (a1 : Option Addr) (n1 c1 : Nat) (stop : Bool) : Value := .agg #[.slice ao k cap, .int .i64 u, .slice a1 n1 c1, .bool stop]
abbrev askC (ao : Option Addr) (k cap : Nat) (u : Int) (a1 : Option Addr) (n1 c1 : Nat) (stop : Bool) : Array Value := #[.slice ao k cap, .int .i64 u, .slice a1 n1 c1, .bool stop]
theorem lookL_hit {kn : List Kn} {u i : Nat} {s : List Int} (hi : i < kn.length) (hu : i < u) (h : lookL (kn.take i) s = none) (e : kn[i].1 = s) : lookL (kn.take u) s = some kn[i].2 := by
  have h1 := (List.take_append_drop i (kn.take u)).symm
  rw [List.take_take, Nat.min_eq_left (Nat.le_of_lt hu)] at h1
  have hl : i < (kn.take u).length := by rw [List.length_take]; omega
  have h2 : (kn.take u).drop i = kn[i] :: (kn.take u).drop (i + 1) := by
    rw [List.drop_eq_getElem_cons hl, List.getElem_take]
  unfold lookL at *
  rw [h1, List.find?_append, h2]
  cases hf : (kn.take i).find? fun k => decide (k.1 = s) with
  | some c => rw [hf] at h; cases h
  | none => simp [e]
theorem lookL_miss {kn : List Kn} {i : Nat} {s : List Int} (hi : i < kn.length) (h : lookL (kn.take i) s = none) (e : kn[i].1 ≠ s) : lookL (kn.take (i + 1)) s = none := by
  rw [List.take_succ_eq_append_getElem hi]
  have := lookL_snoc (kn.take i) kn[i].1 s kn[i].2
  rw [show kn[i] = (kn[i].1, kn[i].2) from rfl, this, h]
  simp [e]
/-- What the reference's ask gives. -/
def rAskP (kn : List Kn) (ao : Option Addr) (k cap u : Nat) (xs : List Int) (a1 : Option Addr) (n1 c1 : Nat) (a2 : Option Addr) (n2 c2 : Nat) (w : World) (e : Ending) (w' : World) : Prop :=
  Below w.heap.size w w' ∧ match ask1 kn u xs with
    | some (b, u') => e = .returned (.tuple #[askV ao k cap u' a1 n1 c1 false, .bool b])
    | none => e = .returned (.tuple #[askV ao k cap u a2 n2 c2 true, .bool false])
theorem res_ask {fn : Func} (hf : fn.results = #[.cell 4 73, .tmp 5]) (t : Array Value) (w : World) (q : Nat) (ao : Option Addr) (k cap : Nat) (u : Int) (a1 : Option Addr) (n1 c1 : Nat) (stop b : Bool) (h4 : t.getD 4 undef = .pointer (some ⟨q, 0, none⟩)) (h5 : t.getD 5 undef = .bool b)
    (e : w.heap[q]? = some (.cells (askC ao k cap u a1 n1 c1 stop) 73 (0, 0))) : (results fn t).run Try.prog w = .ok (.tuple #[askV ao k cap u a1 n1 c1 stop, .bool b]) w := by
  have e0 := row_cell e 0
  have e1 := row_cell e 1
  have e2 := row_cell e 2
  have e3 := row_cell e 3
  rw [Array.getD_eq_getD_getElem?] at h4 h5
  unfold results
  rw [hf]
  simp [go_sem, h4, h5, e0, e1, e2, e3, asAddr]
theorem set4_keptx {W : World} {B X : Nat} {v0 v1 v2 v3 : Value} : KeptX B X W ((((W.setCell ⟨X, 0, none⟩ v0).setCell ⟨X, 1, none⟩ v1).setCell ⟨X, 2, none⟩ v2).setCell ⟨X, 3, none⟩ v3).drew := by
  refine KeptX.drew ?_
  refine KeptX.setCell (p := ⟨X, 3, none⟩) ?_ (.inl rfl) v3
  refine KeptX.setCell (p := ⟨X, 2, none⟩) ?_ (.inl rfl) v2
  refine KeptX.setCell (p := ⟨X, 1, none⟩) ?_ (.inl rfl) v1
  refine KeptX.setCell (p := ⟨X, 0, none⟩) ?_ (.inl rfl) v0
  exact KeptX.refl _ _ _
set_option maxRecDepth 100000 in
set_option maxHeartbeats 8000000 in
theorem refAsk_any (l : List Kw) (k cap : Nat) (ao : Option Addr) (u : Nat) (a1 : Option Addr) (n1 c1 : Nat) (xs : List Int) (a2 : Option Addr) (n2 c2 : Nat) (w : World) (hk : k ≤ 100) (huk : u ≤ k) (h : KA w ao k cap l) (hl : ∀ r ∈ l, r.vs.length ≤ 20) (hx : IA w a2 n2 c2 xs) (hn2 : n2 ≤ 20) :
    Calls Try.prog 43 #[askV ao k cap u a1 n1 c1 false, .slice a2 n2 c2] w (rAskP (l.map Kw.kn) ao k cap u xs a1 n1 c1 a2 n2 c2 w) := by
  have HK := lid h
  have HL := lid hl
  have HX := lid hx
  have HN := lid h.len
  obtain ⟨kn, hkn⟩ : ∃ y, l.map Kw.kn = y := ⟨_, rfl⟩
  have HKN := lid hkn
  have HKL : Hid (kn.length = k) := lid (by rw [← hkn, List.length_map]; exact h.len)
  have HAT : Hid (∀ (i : Nat) (hi : i < l.length) (h2 : i < kn.length), kn[i] = (l[i].vs, l[i].bad)) := lid (by
    intro i hi h2
    subst hkn
    simp [Kw.kn])
  rw [hkn]
  clear h hl hx hkn
  go_enter Try.func43, Try.ntmps43
  go_wp2_with fail
  obtain ⟨W1, hW1⟩ : ∃ y, (w.alloc (.cells (askC ao k cap u a1 n1 c1 false) 73)).alloc (.cells #[.slice none 0 0, .int .i64 0, .slice none 0 0, .bool false] 73) = y := ⟨_, rfl⟩
  have g1 : Below w.heap.size w W1 := by rw [← hW1]; exact (ba _ _).alloc (by simp) _
  have rA : Hid (W1.heap[w.heap.size]? = some (.cells (askC ao k cap u a1 n1 c1 false) 73 (0, 0))) := lid (by rw [← hW1]; exact (h_old (by simp) _).trans (h_new rfl _))
  have rR : Hid (W1.heap[w.heap.size + 1]? = some (.cells #[.slice none 0 0, .int .i64 0, .slice none 0 0, .bool false] 73 (0, 0))) := lid (by rw [← hW1]; exact h_new (by simp) _)
  rw [hW1]
  clear hW1
  go_loopw [6] (fun i wr => ∃ j : Nat, j ≤ u ∧ i = .int .i64 j ∧ Hid (lookL (kn.take j) xs = none) ∧ Hid (wr.heap[w.heap.size]? = some (.cells (askC ao k cap u a1 n1 c1 false) 73 (0, 0))) ∧ Hid (wr.heap[w.heap.size + 1]? = some (.cells #[.slice none 0 0, .int .i64 0, .slice none 0 0, .bool false] 73 (0, 0))) ∧ Below w.heap.size w wr) (fun i _ => u - (intOf i).toNat)
  case atStart => exact ⟨0, Nat.zero_le _, rfl, lid rfl, rA, rR, g1⟩
  case round =>
    obtain ⟨j, hj, rfl, HLK, HA, HR, hb⟩ := hrel
    have p0 := row_cell HA.out 0
    have p1 := row_cell HA.out 1
    have p2 := row_cell HA.out 2
    have p3 := row_cell HA.out 3
    have lA := row_lt HA.out
    have lR := row_lt HR.out
    have y0 := row_cell HR.out 0
    have y1 := row_cell HR.out 1
    have y2 := row_cell HR.out 2
    have y3 := row_cell HR.out 3
    have z0 := row_fz HR.out 0
    have z1 := row_fz HR.out 1
    have z2 := row_fz HR.out 2
    have z3 := row_fz HR.out 3
    have HK2 := lid (HK.out.below hb)
    have HX2 := lid (HX.out.below hb)
    by_cases hlt : j < u
    · have dj : decide ((j : Int) < (u : Int)) = true := by simp; omega
      have hjk : j < k := by omega
      have hjl : j < l.length := by rw [HN.out]; exact hjk
      obtain ⟨b1, o1, rfl, hlw, hcell⟩ := HK.out.sl.at_ hjk
      have hlb := Nat.lt_of_lt_of_le hlw hb.size
      have x0 := (bc hb hlw _).trans (hcell (j * 2 + 0) _ (kcells_at hjl).1)
      have x1 := (bc hb hlw _).trans (hcell (j * 2 + 1) _ (kcells_at hjl).2)
      rw [← Nat.add_assoc] at x1
      rw [Nat.add_zero] at x0
      have HOK := lid (HK2.out.ok _ (List.getElem_mem hjl))
      have HLE := lid (HL.out _ (List.getElem_mem hjl))
      have hjn : j < kn.length := by rw [HKL.out]; exact hjk
      have HKA := lid (HAT.out j hjl hjn)
      have HHIT : Hid ((l[j]).vs = xs → lookL (kn.take u) xs = some (l[j]).bad) := lid (fun e => by
        have := lookL_hit hjn hlt HLK.out (by rw [HKA.out]; exact e)
        rwa [HKA.out] at this)
      have HMISS : Hid ((l[j]).vs ≠ xs → lookL (kn.take (j + 1)) xs = none) := lid (fun e => lookL_miss hjn HLK.out (by rw [HKA.out]; exact e))
      obtain ⟨r, hr⟩ : ∃ r, l[j] = r := ⟨_, rfl⟩
      rw [hr] at x0 x1 HOK HLE HHIT HMISS
      obtain ⟨rk, hrk⟩ : ∃ y, r.vs.length = y := ⟨_, rfl⟩
      rw [hrk] at HOK HLE
      replace x0 : wr.cell? ⟨b1, o1 + j * 2, none⟩ = some (.slice r.ao rk r.cap) := by rw [x0, ← hrk]
      have CE := lid (SameSet_any r.vs xs rk r.cap n2 c2 r.ao a2 wr (by have := HLE.out; omega) (by omega) HOK.out HX2.out)
      clear hcell hr hrk
      go_wp2_with fail
      (with_reducible refine (CE.out).mono ?_); rintro e w3 ⟨rfl, hb3⟩
      have h3 := hb3.size
      have hb13 := hb.trans (hb3.mono hb.size)
      have HA3 := lid ((hb3.block _ lA).trans HA.out)
      have HR3 := lid ((hb3.block _ lR).trans HR.out)
      by_cases he : r.vs = xs
      · rw [decide_eq_true he]
        have HLU := lid (HHIT.out he)
        have lA3 := row_lt HA3.out
        have lR3 := row_lt HR3.out
        have lb3 := Nat.lt_of_lt_of_le hlb h3
        have hbX : b1 ≠ w.heap.size + 1 := by omega
        have t0 := SinceX.cell (B := w3.heap.size) (X := w.heap.size + 1) (W := w3) w.heap.size 0 lA3 (by omega) (row_cell HA3.out 0)
        have t1 := SinceX.cell (B := w3.heap.size) (X := w.heap.size + 1) (W := w3) w.heap.size 1 lA3 (by omega) (row_cell HA3.out 1)
        have t2 := SinceX.cell (B := w3.heap.size) (X := w.heap.size + 1) (W := w3) w.heap.size 2 lA3 (by omega) (row_cell HA3.out 2)
        have t3 := SinceX.cell (B := w3.heap.size) (X := w.heap.size + 1) (W := w3) w.heap.size 3 lA3 (by omega) (row_cell HA3.out 3)
        have t4 := SinceX.cell (B := w3.heap.size) (X := w.heap.size + 1) (W := w3) b1 (o1 + j * 2 + 1) lb3 hbX ((bc hb3 hlb _).trans x1)
        clear he hb3 CE p0 p1 p2 p3 x0 x1
        replace y0 := row_cell HR3.out 0
        replace y1 := row_cell HR3.out 1
        replace y2 := row_cell HR3.out 2
        replace y3 := row_cell HR3.out 3
        replace z0 := row_fz HR3.out 0
        replace z1 := row_fz HR3.out 1
        replace z2 := row_fz HR3.out 2
        replace z3 := row_fz HR3.out 3
        go_wp2_with fail
        refine wp_region_seq (fun w' => ∃ s : SinceX w3.heap.size (w.heap.size + 1) w3, w' = s.world) [(0, true), (1, true), (2, true), (3, true), (4, true), (5, true), (6, true), (7, false), (8, false)] (by kernel_rfl) (by kernel_rfl) (by intro c d v a w h; first | (cases d <;> exact h) | cases h.1) (sincex (KeptX.refl _ _ _).drew) ?_
        repeat (first | (refine seq_skip (by rfl) (by rfl) ?_; simp only [Act.put, List.setIfInBounds_toArray, List.set_cons_succ, List.set_cons_zero]) | (refine seq_float (by rfl) (by rfl) (by rfl) ?_; intro K hK; go_big_quiet_op; go_big_quiet_on))
        refine seq_chain (by rfl) ?_
        intro K hK
        go_wp2_with fail
        obtain ⟨W6, hW6⟩ : ∃ y, ((((w3.setCell ⟨w.heap.size + 1, 0, none⟩ (.slice (some ⟨b1, o1, none⟩) k cap)).setCell ⟨w.heap.size + 1, 1, none⟩ (.int .i64 u)).setCell ⟨w.heap.size + 1, 2, none⟩ (.slice a1 n1 c1)).setCell ⟨w.heap.size + 1, 3, none⟩ (.bool false)).drew = y := ⟨_, rfl⟩
        have hX6 : KeptX w3.heap.size (w.heap.size + 1) w3 W6 := by rw [← hW6]; exact set4_keptx
        have RR6 : Hid (W6.heap[w.heap.size + 1]? = some (.cells (askC (some ⟨b1, o1, none⟩) k cap u a1 n1 c1 false) 73 (0, 0))) := lid (by rw [← hW6]; exact set4_row HR3.out _ _ _ _)
        have HB6 : Hid (Below w.heap.size w W6) := lid (by rw [← hW6]; exact (set4_below hb13 (by omega)).drew)
        rw [hW6]
        clear hW6
        refine hK.out _ _ (sincex hX6) ?_
        clear hK K
        repeat (first | (refine seq_skip (by rfl) (by rfl) ?_; simp only [Act.put, List.setIfInBounds_toArray, List.set_cons_succ, List.set_cons_zero]) | (refine seq_float (by rfl) (by rfl) (by rfl) ?_; intro K hK; go_big_quiet_op; go_big_quiet_on))
        refine seq_chain (by rfl) ?_
        intro K hK
        go_wp2_with fail
        refine hK.out _ _ (sincex hX6) ?_
        clear hK K
        repeat (first | (refine seq_skip (by rfl) (by rfl) ?_; simp only [Act.put, List.setIfInBounds_toArray, List.set_cons_succ, List.set_cons_zero]) | (refine seq_float (by rfl) (by rfl) (by rfl) ?_; intro K hK; go_big_quiet_op; go_big_quiet_on))
        refine seq_nil ?_
        go_wp2_with fail
        exact bodyPost_ret (res_ask rfl _ _ (w.heap.size + 1) _ k cap u a1 n1 c1 false _ rfl rfl RR6.out) rfl ⟨HB6.out, by rw [ask1_old HLU.out]⟩
      · rw [decide_eq_false he]
        have HM := lid (HMISS.out he)
        clear he hb3 CE
        go_wp2_with fail
        go_roundw
        case rel => exact ⟨j + 1, by omega, by go_num, HM, HA3, HR3, hb13⟩
        case measure => simp [intOf]; omega
    · obtain rfl : j = u := by omega
      have dj : decide ((j : Int) < (j : Int)) = false := by simp
      by_cases hjk : j < k
      · have dk : decide ((j : Int) < (k : Int)) = true := by simp; omega
        have hjl : j < l.length := by rw [HN.out]; exact hjk
        obtain ⟨b1, o1, rfl, hlw, hcell⟩ := HK.out.sl.at_ hjk
        have hlb := Nat.lt_of_lt_of_le hlw hb.size
        have x0 := (bc hb hlw _).trans (hcell (j * 2 + 0) _ (kcells_at hjl).1)
        have x1 := (bc hb hlw _).trans (hcell (j * 2 + 1) _ (kcells_at hjl).2)
        rw [← Nat.add_assoc] at x1
        rw [Nat.add_zero] at x0
        have HOK := lid (HK2.out.ok _ (List.getElem_mem hjl))
        have HLE := lid (HL.out _ (List.getElem_mem hjl))
        have hjn : j < kn.length := by rw [HKL.out]; exact hjk
        have HKA := lid (HAT.out j hjl hjn)
        have HHIT : Hid ((l[j]).vs = xs → ask1 kn j xs = some ((l[j]).bad, j + 1)) := lid (fun e => ask1_new HLK.out (by rw [List.getElem?_eq_getElem hjn, HKA.out, e]))
        have HMISS : Hid ((l[j]).vs ≠ xs → ask1 kn j xs = none) := lid (fun e => ask1_stop HLK.out (fun b e2 => by
          rw [List.getElem?_eq_getElem hjn, HKA.out] at e2
          exact e (congrArg Prod.fst (Option.some.inj e2))))
        obtain ⟨r, hr⟩ : ∃ r, l[j] = r := ⟨_, rfl⟩
        rw [hr] at x0 x1 HOK HLE HHIT HMISS
        obtain ⟨rk, hrk⟩ : ∃ y, r.vs.length = y := ⟨_, rfl⟩
        rw [hrk] at HOK HLE
        replace x0 : wr.cell? ⟨b1, o1 + j * 2, none⟩ = some (.slice r.ao rk r.cap) := by rw [x0, ← hrk]
        have CE := lid (SameSet_any r.vs xs rk r.cap n2 c2 r.ao a2 wr (by have := HLE.out; omega) (by omega) HOK.out HX2.out)
        clear hcell hr hrk
        go_wp2_with fail
        (with_reducible refine (CE.out).mono ?_); rintro e w3 ⟨rfl, hb3⟩
        have h3 := hb3.size
        have hb13 := hb.trans (hb3.mono hb.size)
        have HA3 := lid ((hb3.block _ lA).trans HA.out)
        have HR3 := lid ((hb3.block _ lR).trans HR.out)
        have lA3 := row_lt HA3.out
        have lR3 := row_lt HR3.out
        have lb3 := Nat.lt_of_lt_of_le hlb h3
        have hbX : b1 ≠ w.heap.size + 1 := by omega
        have hbA : b1 ≠ w.heap.size := by omega
        have HX1 := lid ((bc hb3 hlb _).trans x1)
        clear p0 p1 p2 p3 x0 x1
        have p0 := row_cell HA3.out 0
        have f0 := row_fz HA3.out 0
        have p1 := row_cell HA3.out 1
        have f1 := row_fz HA3.out 1
        have p2 := row_cell HA3.out 2
        have f2 := row_fz HA3.out 2
        have p3 := row_cell HA3.out 3
        have f3 := row_fz HA3.out 3
        replace y0 := row_cell HR3.out 0
        replace z0 := row_fz HR3.out 0
        replace y1 := row_cell HR3.out 1
        replace z1 := row_fz HR3.out 1
        replace y2 := row_cell HR3.out 2
        replace z2 := row_fz HR3.out 2
        replace y3 := row_cell HR3.out 3
        replace z3 := row_fz HR3.out 3
        have HRX := HR3
        have HBX := lid hb13
        by_cases he : r.vs = xs
        · rw [decide_eq_true he]
          have HAS := lid (HHIT.out he)
          clear he hb3 CE
          go_wp2_with fail
          obtain ⟨W5, hW5⟩ : ∃ y, w3.setCell ⟨w.heap.size, 1, none⟩ (.int .i64 ((j : Int) + 1)) = y := ⟨_, rfl⟩
          have RA5 : Hid (W5.heap[w.heap.size]? = some (.cells (askC (some ⟨b1, o1, none⟩) k cap ((j : Int) + 1) a1 n1 c1 false) 73 (0, 0))) := lid (by
            rw [← hW5]
            have := row_set HA3.out 1 (.int .i64 ((j : Int) + 1))
            simpa using this)
          have RR5 : Hid (W5.heap[w.heap.size + 1]? = some (.cells #[.slice none 0 0, .int .i64 0, .slice none 0 0, .bool false] 73 (0, 0))) := lid (by rw [← hW5]; exact row_other HR3.out (by omega))
          have hz5 : W5.heap.size = w3.heap.size := by rw [← hW5]; exact World.size_setCell _ _ _
          have HX5 : Hid (W5.cell? ⟨b1, o1 + j * 2 + 1, none⟩ = some (.bool r.bad)) := lid (by
            rw [← hW5, World.cell?_setCell_other _ _ _ _ (by intro e; have := congrArg Addr.block e; simp at this; omega)]
            exact HX1.out)
          have HB5 : Hid (Below w.heap.size w W5) := lid (by rw [← hW5]; exact hb13.setCell (p := ⟨w.heap.size, 1, none⟩) (Nat.le_refl _) _)
          have lA5 := row_lt RA5.out
          have lR5 := row_lt RR5.out
          have lb5 : b1 < W5.heap.size := by omega
          have t0 := SinceX.cell (B := W5.heap.size) (X := w.heap.size + 1) (W := W5) w.heap.size 0 lA5 (by omega) (row_cell RA5.out 0)
          have t1 := SinceX.cell (B := W5.heap.size) (X := w.heap.size + 1) (W := W5) w.heap.size 1 lA5 (by omega) (row_cell RA5.out 1)
          have t2 := SinceX.cell (B := W5.heap.size) (X := w.heap.size + 1) (W := W5) w.heap.size 2 lA5 (by omega) (row_cell RA5.out 2)
          have t3 := SinceX.cell (B := W5.heap.size) (X := w.heap.size + 1) (W := W5) w.heap.size 3 lA5 (by omega) (row_cell RA5.out 3)
          have t4 := SinceX.cell (B := W5.heap.size) (X := w.heap.size + 1) (W := W5) b1 (o1 + j * 2 + 1) lb5 hbX HX5.out
          rw [hW5]
          clear hW5 p0 p1 p2 p3 f0 f1 f2 f3
          replace y0 := row_cell RR5.out 0
          replace z0 := row_fz RR5.out 0
          replace y1 := row_cell RR5.out 1
          replace z1 := row_fz RR5.out 1
          replace y2 := row_cell RR5.out 2
          replace z2 := row_fz RR5.out 2
          replace y3 := row_cell RR5.out 3
          replace z3 := row_fz RR5.out 3
          have e11 : ((j : Int) + 1) - 1 = (j : Int) := by omega
          go_wp2_with fail
          refine wp_region_seq (fun w' => ∃ s : SinceX W5.heap.size (w.heap.size + 1) W5, w' = s.world) [(0, true), (1, true), (2, true), (3, true), (4, true), (5, true), (6, true), (7, true), (8, true), (9, false), (10, false)] (by kernel_rfl) (by kernel_rfl) (by intro c d v a w h; first | (cases d <;> exact h) | cases h.1) (sincex (KeptX.refl _ _ _).drew) ?_
          repeat (first | (refine seq_skip (by rfl) (by rfl) ?_; simp only [Act.put, List.setIfInBounds_toArray, List.set_cons_succ, List.set_cons_zero]) | (refine seq_float (by rfl) (by rfl) (by rfl) ?_; intro K hK; go_big_quiet_op; go_big_quiet_on))
          refine seq_chain (by rfl) ?_
          intro K hK
          go_wp2_with fail
          obtain ⟨W6, hW6⟩ : ∃ y, ((((W5.setCell ⟨w.heap.size + 1, 0, none⟩ (.slice (some ⟨b1, o1, none⟩) k cap)).setCell ⟨w.heap.size + 1, 1, none⟩ (.int .i64 ((j : Int) + 1))).setCell ⟨w.heap.size + 1, 2, none⟩ (.slice a1 n1 c1)).setCell ⟨w.heap.size + 1, 3, none⟩ (.bool false)).drew = y := ⟨_, rfl⟩
          have hX6 : KeptX W5.heap.size (w.heap.size + 1) W5 W6 := by rw [← hW6]; exact set4_keptx
          have RR6 : Hid (W6.heap[w.heap.size + 1]? = some (.cells (askC (some ⟨b1, o1, none⟩) k cap ((j : Int) + 1) a1 n1 c1 false) 73 (0, 0))) := lid (by rw [← hW6]; exact set4_row RR5.out _ _ _ _)
          have HB6 : Hid (Below w.heap.size w W6) := lid (by rw [← hW6]; exact (set4_below HB5.out (by omega)).drew)
          rw [hW6]
          clear hW6
          refine hK.out _ _ (sincex hX6) ?_
          clear hK K
          repeat (first | (refine seq_skip (by rfl) (by rfl) ?_; simp only [Act.put, List.setIfInBounds_toArray, List.set_cons_succ, List.set_cons_zero]) | (refine seq_float (by rfl) (by rfl) (by rfl) ?_; intro K hK; go_big_quiet_op; go_big_quiet_on))
          refine seq_chain (by rfl) ?_
          intro K hK
          go_wp2_with fail
          refine hK.out _ _ (sincex hX6) ?_
          clear hK K
          repeat (first | (refine seq_skip (by rfl) (by rfl) ?_; simp only [Act.put, List.setIfInBounds_toArray, List.set_cons_succ, List.set_cons_zero]) | (refine seq_float (by rfl) (by rfl) (by rfl) ?_; intro K hK; go_big_quiet_op; go_big_quiet_on))
          refine seq_nil ?_
          go_wp2_with fail
          exact bodyPost_ret (res_ask rfl _ _ (w.heap.size + 1) _ k cap ((j : Int) + 1) a1 n1 c1 false _ rfl rfl RR6.out) rfl ⟨HB6.out, by rw [HAS.out]; rfl⟩
        · rw [decide_eq_false he]
          have HAS := lid (HMISS.out he)
          clear he hb3 CE
          go_wp2_with fail
          exact bodyPost_ret (res_ask rfl _ _ (w.heap.size + 1) _ k cap j a2 n2 c2 true false rfl rfl (set4_row (row_other (row_other HRX.out (by omega)) (by omega)) _ _ _ _)) rfl ⟨set4_below ((HBX.out.setCell (p := ⟨w.heap.size, 2, none⟩) (Nat.le_refl _) _).setCell (p := ⟨w.heap.size, 3, none⟩) (Nat.le_refl _) _) (by omega), by rw [HAS.out]⟩
      · obtain rfl : j = k := by omega
        have dk : decide ((j : Int) < (j : Int)) = false := by simp
        have HAS : Hid (ask1 kn j xs = none) := lid (ask1_stop HLK.out (fun b e2 => by
          have := (List.getElem?_eq_some_iff.1 e2).1
          have := HKL.out
          omega))
        have f2 := row_fz HA.out 2
        have f3 := row_fz HA.out 3
        have HRX := HR
        have HBX := lid hb
        go_wp2_with fail
        exact bodyPost_ret (res_ask rfl _ _ (w.heap.size + 1) ao j cap j a2 n2 c2 true false rfl rfl (set4_row (row_other (row_other HRX.out (by omega)) (by omega)) _ _ _ _)) rfl ⟨set4_below ((HBX.out.setCell (p := ⟨w.heap.size, 2, none⟩) (Nat.le_refl _) _).setCell (p := ⟨w.heap.size, 3, none⟩) (Nat.le_refl _) _) (by omega), by rw [HAS.out]⟩
end Go.Proofs.Ytnjcoejnknpfoaa
