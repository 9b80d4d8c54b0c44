/-
  owners.ownersOf.
-/
import Derived.Test.YtefehgdckmajiaaGreatDoorOwnRules
import Derived.Test.YtefehgdckmajiaaGreatDoorOwnDirs
namespace Go.Proofs.YtefehgdckmajiaaGreatDoor
open Go.RowKit Go.Shelf
attribute [local go_sem] Oper.semAt_some
/-- Is rule k better than the best one so far? -/
def betterB (l : List Rl) (rest : ByteArray) (best : Option Nat) (k : Nat) : Bool :=
  Lib.hasPrefix rest.data.toList (l.getD k (⟨#[]⟩, [])).1.data.toList && (match best with
    | none => true
    | some b => decide ((l.getD b (⟨#[]⟩, [])).1.size < (l.getD k (⟨#[]⟩, [])).1.size))
/-- The best of the first rules. -/
def bestK (l : List Rl) (rest : ByteArray) : Nat → Option Nat
  | 0 => none
  | k + 1 => if betterB l rest (bestK l rest k) k = true then some k else bestK l rest k
theorem bestK_lt {l : List Rl} {rest : ByteArray} : ∀ {k b : Nat}, bestK l rest k = some b → b < k
  | 0, b, h => by cases h
  | k + 1, b, h => by
    rw [bestK] at h
    split at h
    · cases h; omega
    · have := bestK_lt h; omega
def ownGo (look : ByteArray → List Rl) : List Dr → List (List ByteArray)
  | [] => []
  | x :: t => match bestK (look (bstr x.1)) (bstr x.2) (look (bstr x.1)).length with
    | some b => ((look (bstr x.1)).getD b (⟨#[]⟩, [])).2
    | none => ownGo look t
/-- The owners of a path. -/
def ownF (look : ByteArray → List Rl) (p : ByteArray) : List (List ByteArray) := ownGo look (dirsL p.data.toList)
theorem ownGo_some {look : ByteArray → List Rl} {x : Dr} {t : List Dr} {b : Nat} (h : bestK (look (bstr x.1)) (bstr x.2) (look (bstr x.1)).length = some b) : ownGo look (x :: t) = ((look (bstr x.1)).getD b (⟨#[]⟩, [])).2 := by rw [ownGo, h]
theorem ownGo_none {look : ByteArray → List Rl} {x : Dr} {t : List Dr} (h : bestK (look (bstr x.1)) (bstr x.2) (look (bstr x.1)).length = none) : ownGo look (x :: t) = ownGo look t := by rw [ownGo, h]
theorem dirsE_len (s : List UInt8) (e : Nat) (he : e ≤ s.length) : ∀ x ∈ dirsE s e, x.1.length ≤ s.length + 6 ∧ x.2.length ≤ s.length := by
  induction e with
  | zero => intro x hx; simp only [dirsE, List.mem_singleton] at hx; subst hx; exact ⟨by simp [ownS], Nat.le_refl _⟩
  | succ e ih =>
    intro x hx
    rw [dirsE] at hx
    split at hx
    · rcases List.mem_cons.1 hx with rfl | hx
      · refine ⟨?_, ?_⟩
        · show (s.take (e + 1) ++ ownS).length ≤ _
          rw [List.length_append, List.length_take]
          have : ownS.length = 6 := rfl
          omega
        · show (s.drop (e + 1)).length ≤ _
          rw [List.length_drop]
          omega
      · exact ih (by omega) x hx
    · exact ih (by omega) x hx
theorem res_one {fn : Func} (hf : fn.results = #[.cell 4 31]) (t : Array Value) (w : World) (k : Nat) (v : Value) (h : t.getD 4 undef = .pointer (some ⟨k, 0, none⟩)) (e : w.heap[k]? = some (.cells #[v] 31 (0, 0))) : (results fn t).run Tryz.prog w = .ok v w := by
  have e0 := row_cell e 0
  rw [Array.getD_eq_getD_getElem?] at h
  unfold results
  rw [hf]
  simp [go_sem, h, e0, asAddr]
/-- What the rounds keep. -/
def OfI (c : Nat → Prop) (w : World) (mb n : Nat) (R : List (ByteArray × List Rl)) (p : ByteArray) (left : List Dr) (W : World) : Prop :=
  Below w.heap.size w W ∧ W.heap[w.heap.size]? = some (.cells #[.map (some mb)] 65 (0, 0)) ∧ W.heap[w.heap.size + 1]? = some (.cells #[.slice none 0 0] 31 (0, 0)) ∧ OwnMap c w mb n R ∧
    ownF (rulesAt R) p = ownGo (rulesAt R) left ∧ ∀ x ∈ left, x.1.length ≤ 1000006 ∧ x.2.length ≤ 1000000
/-- Where they have stopped. -/
def OfX (c : Nat → Prop) (w : World) (R : List (ByteArray × List Rl)) (p : ByteArray) (q : Code) (_ : List Dr) (_ : Dr) (W : World) : Prop :=
  q = .ret ∧ Below w.heap.size w W ∧ ∃ v : SV, W.heap[w.heap.size + 1]? = some (.cells #[slv v] 31 (0, 0)) ∧ GS c w v (ownF (rulesAt R) p)
theorem OfI.ab {c : Nat → Prop} {w : World} {mb n : Nat} {R : List (ByteArray × List Rl)} {p : ByteArray} {left : List Dr} {B : Nat} (hB : w.heap.size + 1 < B) : Ab B (OfI c w mb n R p left) := fun W W' row hs hg hr =>
  ⟨Ab.belowW (B := B) (Nat.le_refl _) (by omega) W W' row hs.1 hg hr, Ab.blk (B := B) (by omega) _ rfl W W' row hs.2.1 hg hr, Ab.blk (B := B) (by omega) _ rfl W W' row hs.2.2.1 hg hr, hs.2.2.2⟩
theorem OfX.ab {c : Nat → Prop} {w : World} {R : List (ByteArray × List Rl)} {p : ByteArray} {q : Code} {s : List Dr} {x : Dr} {B : Nat} (hB : w.heap.size + 1 < B) : Ab B (OfX c w R p q s x) := fun W W' row hs hg hr =>
  ⟨hs.1, Ab.belowW (B := B) (Nat.le_refl _) (by omega) W W' row hs.2.1 hg hr, let ⟨v, h1, h2⟩ := hs.2.2; ⟨v, Ab.blk (B := B) (by omega) _ rfl W W' row h1 hg hr, h2⟩⟩
/-- The best one so far, as an int. -/
def bestV : Option Nat → Value
  | none => .int .i64 (-1)
  | some b => .int .i64 b
set_option maxRecDepth 100000 in
set_option maxHeartbeats 8000000 in
theorem ownersOf_any (c : Nat → Prop) (mb n : Nat) (R : List (ByteArray × List Rl)) (p : ByteArray) (w : World) (h : OwnMap c w mb n R) (hp : p.size ≤ 1000000) :
    Calls Tryz.prog 27 #[.map (some mb), .string p] w fun e w' => ∃ v : SV, e = .returned (slv v) ∧ Below w.heap.size w w' ∧ GS c w' v (ownF (rulesAt R) p) := by
  have HM := lid h
  clear h
  refine (callsIn_wide (n := 3)).1 ?_
  refine callsIn_of_wp_marks Tryz.func27 rfl trivial ?_ rfl
  simp only [Tryz.ntmps27, List.size_toArray, List.length_cons, List.length_nil, Nat.reduceAdd, Nat.reduceSub, Array.replicate_succ, Array.replicate_zero, List.push_toArray, List.append_toArray, List.nil_append, List.cons_append]
  gi_wp2_with fail
  obtain ⟨W0, hW0⟩ : ∃ y, (w.alloc (Obj.cells #[.map (some mb)] 65)).alloc (Obj.cells #[.slice none 0 0] 31) = y := ⟨_, rfl⟩
  rw [hW0]
  have hz : W0.heap.size = w.heap.size + 1 + 1 := by rw [← hW0]; simp
  refine ⟨trivial, (callsIn_wide.2 (directories_fn p _)).mono ?_⟩
  rintro e w4 ⟨rfl, hw4⟩
  rw [hz]
  have hb0 : Below w.heap.size w W0 := by rw [← hW0]; exact (ba _ _).alloc (by simp) _
  have hb4 : Below w.heap.size w w4 := by rw [hw4]; exact hb0.alloc (by omega) _
  have hz4 : w4.heap.size = w.heap.size + 3 := by rw [hw4]; simp [hz]
  have o0 : ∀ k, k < W0.heap.size → w4.heap[k]? = W0.heap[k]? := fun k hk => by rw [hw4]; exact h_old hk _
  have HP0 : Hid (OfI c w mb n R p (dirsL p.data.toList) w4) := lid ⟨hb4, (o0 _ (by omega)).trans (by rw [← hW0]; exact (h_old (by simp) _).trans (h_new rfl _)), (o0 _ (by omega)).trans (by rw [← hW0]; exact h_new (by simp) _), HM.out, rfl, fun x hx => by
    have := dirsE_len _ _ (Nat.le_refl _) x hx
    have e : p.data.toList.length = p.size := rfl
    omega⟩
  have HBS : Hid (w4.heap[w.heap.size + 1 + 1]? = some (.cells #[.string p] 9 (0, 0))) := lid (by rw [hw4]; exact h_new hz _)
  have HZ4 := lid hz4
  clear hw4 hW0 hz hb4 hz4 o0 hb0
  gi_wp2_with fail
  refine wpIn_rfn (pre := #[]) (lb := #[.pointer (some ⟨w.heap.size + 1 + 1, 0, none⟩)]) rfl (enters_of Tryz.func62 (by kernel_rfl) rfl) drv DrX DrT (OfI c w mb n R p) (OfX c w R p) (fun _ => rfl)
    (fun x => { tmps := #[Value.map (some mb), Value.string p, Value.pointer (some { block := w.heap.size, off := 0 }), undef, Value.pointer (some { block := w.heap.size + 1, off := 0 }), Value.string (bstr x.1), Value.string (bstr x.2), undef, undef, undef, undef, Value.string p, Value.func (Fn.func 62) #[] #[Value.pointer (some { block := w.heap.size + 1 + 1, off := 0 })], Value.string (bstr x.1), Value.string (bstr x.2), undef, undef, undef, undef, undef, undef, undef, undef, undef, undef, undef, undef, undef, undef, undef, undef, undef, undef, undef, undef, undef, undef, undef, undef, undef, undef, undef, undef, undef, undef, undef, undef, undef, undef, undef, undef, undef, undef, undef], defers := [] })
    (fun s x => Ab.pure _) (fun _ => OfI.ab (by have := HZ4.out; omega)) (fun _ _ _ => OfX.ab (by have := HZ4.out; omega)) (dirsL p.data.toList) HP0.out (fun s => s = []) (fun _ _ => True) (fun k => k = w.heap.size + 1 + 1) ?call ?assign ?body ?done ?stop
  case call =>
    intro l' m' rec W' hz' hbw hJ1 hJ2 hR hj
    have hz4 := HZ4.out
    refine (dirs_iter l' m' (fun k => k = w.heap.size + 1 + 1) W'.heap.size (w.heap.size + 1 + 1) p _ _ hJ1 hR W' ((hbw.block _ (by omega)).trans HBS.out) rfl hp hj).mono ?_
    rintro e W3 ⟨rfl, h | ⟨s, x, h⟩⟩
    · exact ⟨rfl, .inl ⟨[], rfl, h⟩⟩
    · exact ⟨rfl, .inr ⟨s, x, trivial, h⟩⟩
  case assign =>
    intro l' m' x W' K hK
    gi_wp2_with fail
    exact hK
  case body =>
    rintro l' m' s x W' ⟨hb, hbox, hres, hmap, hgo, hlen⟩ ⟨tl, rfl⟩ hsz
    have hz4 := HZ4.out
    have hxl := hlen x (by simp)
    obtain ⟨⟨av, nl, cv⟩, hrun0, hRS⟩ := hmap.lookB hb (bstr x.1) (by show x.1.toArray.size ≤ maxLen; simp only [maxLen, List.size_toArray]; omega)
    have hrun : (Instr.lookup 65 (.map (some mb)) (.string (bstr x.1)) false).run Tryz.prog W' = .ok (.slice av nl cv) W' := hrun0
    obtain ⟨L, hL⟩ : ∃ L, rulesAt R (bstr x.1) = L := ⟨_, rfl⟩
    obtain ⟨rest, hrest⟩ : ∃ rest, bstr x.2 = rest := ⟨_, rfl⟩
    rw [hL] at hRS
    obtain ⟨ps, hsl, hrl⟩ := hRS.r
    have HLN : Hid (L.length = nl) := lid hRS.len
    have HSL : Hid (Sl W' 2 av nl (pcells ps)) := lid (hsl.sl.below hb)
    have hncv : nl ≤ cv := hsl.le
    have hcm : cv ≤ 9223372036854775807 := hsl.max
    have HRL : Hid (RLs c w ps L) := lid hrl
    have HG := lid hgo
    have HLL := lid hL
    have HRR := lid hrest
    have HB := lid hb
    have HBX := lid hbox
    have HBR := lid hres
    have HMAP := lid hmap
    have HLEN := lid hlen
    have y0 := row_cell hbox 0
    have lX := row_lt hbox
    have e0 : w.heap.size < W'.heap.size := by omega
    have e1 : w.heap.size + 1 < W'.heap.size := by omega
    rw [hrest]
    clear hb hbox hres hmap hgo hlen hxl hL hrest hRS hsl hrl hz4 hrun0
    gi_wp2_with fail
    gi_loopw [7, 20] (fun best i wr => ∃ k : Nat, k ≤ nl ∧ i = .int .i64 k ∧ best = bestV (bestK L rest k) ∧ Hid (Below W'.heap.size W' wr)) (fun _ i _ => nl - (intOf i).toNat)
    case atStart => exact ⟨0, Nat.zero_le _, rfl, rfl, lid (Below.refl _ _)⟩
    case round =>
      obtain ⟨k, hk, hbest, rfl, HBW⟩ : ∃ k : Nat, k ≤ nl ∧ u7 = bestV (bestK L rest k) ∧ u20 = .int .i64 k ∧ Hid (Below W'.heap.size W' wr) := by
        obtain ⟨k, h1, h2, h3, h4⟩ := hrel
        exact ⟨k, h1, h3, h2, h4⟩
      obtain ⟨bo, hbo⟩ : ∃ bo, bestK L rest k = bo := ⟨_, rfl⟩
      rw [hbo] at hbest
      subst hbest
      by_cases hlt : k < nl
      · have hkl : k < L.length := by rw [HLN.out]; exact hlt
        have hkp : k < ps.length := by rw [HRL.out.1]; exact hkl
        obtain ⟨b1, o1, rfl, hlb, hcell⟩ := (HSL.out.below HBW.out).at_ hlt
        have x0 := hcell (k * 2 + 0) _ (pcells_at hkp).1
        have x1 := hcell (k * 2 + 1) _ (pcells_at hkp).2
        rw [← Nat.add_assoc] at x1
        rw [Nat.add_zero] at x0
        have hE := HRL.out.2 k _ _ (List.getElem?_eq_getElem hkp) (List.getElem?_eq_getElem hkl)
        have dk : decide ((k : Int) < (nl : Int)) = true := by simp; omega
        have hgd : L.getD k (⟨#[]⟩, []) = L[k] := by rw [List.getD_eq_getElem?_getD, List.getElem?_eq_getElem hkl]; rfl
        obtain ⟨⟨q, a2, n2, c2⟩, hv⟩ : ∃ v, ps[k] = v := ⟨_, rfl⟩
        rw [hv] at x0 x1 hE
        have hq : (L.getD k (⟨#[]⟩, [])).1 = q := by rw [hgd]; exact hE.1.symm
        have hqs : q.size ≤ 9223372036854775807 := by rw [show q = L[k].1 from hE.1]; exact hE.2.1
        replace x0 : wr.cell? ⟨b1, o1 + k * 2, none⟩ = some (Value.string q) := x0
        replace x1 : wr.cell? ⟨b1, o1 + k * 2 + 1, none⟩ = some (Value.slice a2 n2 c2) := x1
        clear hE hv hgd
        cases hhp : Lib.hasPrefix rest.data.toList q.data.toList with
        | false =>
          have HBE : Hid (bestK L rest (k + 1) = bo) := lid (by rw [bestK, hbo, if_neg]; unfold betterB; rw [hq, hhp]; simp)
          clear hbo hq
          cases bo with
          | none =>
            clear hcell
            rw [show bestV none = Value.int .i64 (-1) from rfl]
            gi_wp2_with fail
            obtain ⟨W1, hW1⟩ : ∃ W1, wr.alloc (Obj.cells #[.string q, .slice a2 n2 c2] 99) = W1 := ⟨_, rfl⟩
            have hb1 : Below wr.heap.size wr W1 := by rw [← hW1]; exact ba _ _
            have hR : W1.heap[wr.heap.size]? = some (.cells #[.string q, .slice a2 n2 c2] 99 (0, 0)) := by rw [← hW1]; exact h_new rfl _
            rw [hW1]
            have y0 := row_cell hR 0
            have lR := row_lt hR
            have lb1 := Nat.lt_of_lt_of_le hlb hb1.size
            have HBN : Hid (Below W'.heap.size W' W1.drew) := lid ((HBW.out.trans (hb1.mono HBW.out.size)).drew)
            clear hW1 hR hb1 x0 x1
            gi_wp2_with fail
            refine wpIn_region_seq (fun w' => ∃ s : Since W1.heap.size W1, w' = s.world) [(0, true), (1, true), (2, true), (3, false), (4, true), (5, true), (6, true), (7, true), (8, true), (9, true), (10, true), (11, true), (12, true), (13, true), (14, true), (15, true), (16, true), (17, true), (18, true), (19, true)] (by kernel_rfl) (by kernel_rfl) (since (Below.refl _ _).drew) ?_
            repeat (first | (refine seq_skip (by rfl) (by rfl) ?_; simp only [Act.put, List.setIfInBounds_toArray, List.set_cons_succ, List.set_cons_zero]) | (refine seq_float (by rfl) (by rfl) (by rfl) ?_; intro K hK; go_big_quiet_op; go_big_quiet_on))
            refine seq_chain (by rfl) ?_
            intro K hK
            go_wp2_with fail
            (with_reducible refine (strings_HasPrefix _ _ _).mono ?_); rintro e w2 ⟨rfl, rfl⟩
            rw [hhp]
            go_wp2_with fail
            refine hK.out _ _ (since (Below.refl _ _).drew) ?_
            clear hK K
            repeat (first | (refine seq_skip (by rfl) (by rfl) ?_; simp only [Act.put, List.setIfInBounds_toArray, List.set_cons_succ, List.set_cons_zero]) | (refine seq_float (by rfl) (by rfl) (by rfl) ?_; intro K hK; go_big_quiet_op; go_big_quiet_on))
            refine seq_nil ⟨rfl, ?_⟩
            gi_wp2_with fail
            go_roundw
            case rel => exact ⟨k + 1, by omega, by go_num, by rw [HBE.out]; rfl, HBN⟩
            case measure => simp [intOf]; omega
          | some b =>
            clear hcell
            rw [show bestV (some b) = Value.int .i64 b from rfl]
            gi_wp2_with fail
            obtain ⟨W1, hW1⟩ : ∃ W1, wr.alloc (Obj.cells #[.string q, .slice a2 n2 c2] 99) = W1 := ⟨_, rfl⟩
            have hb1 : Below wr.heap.size wr W1 := by rw [← hW1]; exact ba _ _
            have hR : W1.heap[wr.heap.size]? = some (.cells #[.string q, .slice a2 n2 c2] 99 (0, 0)) := by rw [← hW1]; exact h_new rfl _
            rw [hW1]
            have y0 := row_cell hR 0
            have lR := row_lt hR
            have lb1 := Nat.lt_of_lt_of_le hlb hb1.size
            have HBN : Hid (Below W'.heap.size W' W1.drew) := lid ((HBW.out.trans (hb1.mono HBW.out.size)).drew)
            clear hW1 hR hb1 x0 x1
            gi_wp2_with fail
            refine wpIn_region_seq (fun w' => ∃ s : Since W1.heap.size W1, w' = s.world) [(0, true), (1, true), (2, true), (3, false), (4, true), (5, true), (6, true), (7, true), (8, true), (9, true), (10, true), (11, true), (12, true), (13, true), (14, true), (15, true), (16, true), (17, true), (18, true), (19, true)] (by kernel_rfl) (by kernel_rfl) (since (Below.refl _ _).drew) ?_
            repeat (first | (refine seq_skip (by rfl) (by rfl) ?_; simp only [Act.put, List.setIfInBounds_toArray, List.set_cons_succ, List.set_cons_zero]) | (refine seq_float (by rfl) (by rfl) (by rfl) ?_; intro K hK; go_big_quiet_op; go_big_quiet_on))
            refine seq_chain (by rfl) ?_
            intro K hK
            go_wp2_with fail
            (with_reducible refine (strings_HasPrefix _ _ _).mono ?_); rintro e w2 ⟨rfl, rfl⟩
            rw [hhp]
            go_wp2_with fail
            refine hK.out _ _ (since (Below.refl _ _).drew) ?_
            clear hK K
            repeat (first | (refine seq_skip (by rfl) (by rfl) ?_; simp only [Act.put, List.setIfInBounds_toArray, List.set_cons_succ, List.set_cons_zero]) | (refine seq_float (by rfl) (by rfl) (by rfl) ?_; intro K hK; go_big_quiet_op; go_big_quiet_on))
            refine seq_nil ⟨rfl, ?_⟩
            gi_wp2_with fail
            go_roundw
            case rel => exact ⟨k + 1, by omega, by go_num, by rw [HBE.out]; rfl, HBN⟩
            case measure => simp [intOf]; omega
        | true =>
          cases bo with
          | none =>
            have HBE : Hid (bestK L rest (k + 1) = some k) := lid (by rw [bestK, hbo, if_pos]; unfold betterB; rw [hq, hhp]; rfl)
            have d1 : decide ((-1 : Int) < 0) = true := by decide
            clear hcell hbo hq
            rw [show bestV none = Value.int .i64 (-1) from rfl]
            gi_wp2_with fail
            obtain ⟨W1, hW1⟩ : ∃ W1, wr.alloc (Obj.cells #[.string q, .slice a2 n2 c2] 99) = W1 := ⟨_, rfl⟩
            have hb1 : Below wr.heap.size wr W1 := by rw [← hW1]; exact ba _ _
            have hR : W1.heap[wr.heap.size]? = some (.cells #[.string q, .slice a2 n2 c2] 99 (0, 0)) := by rw [← hW1]; exact h_new rfl _
            rw [hW1]
            have y0 := row_cell hR 0
            have lR := row_lt hR
            have lb1 := Nat.lt_of_lt_of_le hlb hb1.size
            have HBN : Hid (Below W'.heap.size W' W1.drew) := lid ((HBW.out.trans (hb1.mono HBW.out.size)).drew)
            clear hW1 hR hb1 x0 x1
            gi_wp2_with fail
            refine wpIn_region_seq (fun w' => ∃ s : Since W1.heap.size W1, w' = s.world) [(0, true), (1, true), (2, true), (3, false), (4, true), (5, true), (6, true), (7, true), (8, true), (9, true), (10, true), (11, true), (12, true), (13, true), (14, true), (15, true), (16, true), (17, true), (18, true), (19, true)] (by kernel_rfl) (by kernel_rfl) (since (Below.refl _ _).drew) ?_
            repeat (first | (refine seq_skip (by rfl) (by rfl) ?_; simp only [Act.put, List.setIfInBounds_toArray, List.set_cons_succ, List.set_cons_zero]) | (refine seq_float (by rfl) (by rfl) (by rfl) ?_; intro K hK; go_big_quiet_op; go_big_quiet_on))
            refine seq_chain (by rfl) ?_
            intro K hK
            go_wp2_with fail
            (with_reducible refine (strings_HasPrefix _ _ _).mono ?_); rintro e w2 ⟨rfl, rfl⟩
            rw [hhp]
            go_wp2_with fail
            refine hK.out _ _ (since (Below.refl _ _).drew) ?_
            clear hK K
            repeat (first | (refine seq_skip (by rfl) (by rfl) ?_; simp only [Act.put, List.setIfInBounds_toArray, List.set_cons_succ, List.set_cons_zero]) | (refine seq_float (by rfl) (by rfl) (by rfl) ?_; intro K hK; go_big_quiet_op; go_big_quiet_on))
            refine seq_nil ⟨rfl, ?_⟩
            gi_wp2_with fail
            go_roundw
            case rel => exact ⟨k + 1, by omega, by go_num, by rw [HBE.out]; rfl, HBN⟩
            case measure => simp [intOf]; omega
          | some b =>
            have hbk : b < k := bestK_lt hbo
            have hbp : b < ps.length := by omega
            have hbl : b < L.length := by omega
            have z0 := hcell (b * 2 + 0) _ (pcells_at hbp).1
            rw [Nat.add_zero] at z0
            have hEb := HRL.out.2 b _ _ (List.getElem?_eq_getElem hbp) (List.getElem?_eq_getElem hbl)
            obtain ⟨⟨qb, ab, nb, cb⟩, hvb⟩ : ∃ v, ps[b] = v := ⟨_, rfl⟩
            rw [hvb] at z0 hEb
            have hqb : (L.getD b (⟨#[]⟩, [])).1 = qb := by rw [List.getD_eq_getElem?_getD, List.getElem?_eq_getElem hbl]; exact hEb.1.symm
            have hqbs : qb.size ≤ 9223372036854775807 := by rw [show qb = L[b].1 from hEb.1]; exact hEb.2.1
            replace z0 : wr.cell? ⟨b1, o1 + b * 2, none⟩ = some (Value.string qb) := z0
            have d1 : decide ((b : Int) < 0) = false := by simp
            have hbn : b < nl := by omega
            clear hvb hEb hcell
            rw [show bestV (some b) = Value.int .i64 b from rfl]
            by_cases hsz2 : qb.size < q.size
            · have d2 : decide ((qb.size : Int) < (q.size : Int)) = true := by simp; omega
              have d3 : decide (qb.size < q.size) = true := by simpa using hsz2
              have HBE : Hid (bestK L rest (k + 1) = some k) := lid (by rw [bestK, hbo, if_pos]; unfold betterB; rw [hq, hhp]; show decide ((L.getD b (⟨#[]⟩, [])).1.size < _) = true; rw [hqb]; simpa using hsz2)
              clear hbo hq hqb hsz2
              gi_wp2_with fail
              obtain ⟨W1, hW1⟩ : ∃ W1, wr.alloc (Obj.cells #[.string q, .slice a2 n2 c2] 99) = W1 := ⟨_, rfl⟩
              have hb1 : Below wr.heap.size wr W1 := by rw [← hW1]; exact ba _ _
              have hR : W1.heap[wr.heap.size]? = some (.cells #[.string q, .slice a2 n2 c2] 99 (0, 0)) := by rw [← hW1]; exact h_new rfl _
              rw [hW1]
              have y0 := row_cell hR 0
              have lR := row_lt hR
              have lb1 := Nat.lt_of_lt_of_le hlb hb1.size
              have z1 := (bc hb1 hlb _).trans z0
              have HBN : Hid (Below W'.heap.size W' W1.drew) := lid ((HBW.out.trans (hb1.mono HBW.out.size)).drew)
              clear hW1 hR hb1 x0 x1 z0
              gi_wp2_with fail
              refine wpIn_region_seq (fun w' => ∃ s : Since W1.heap.size W1, w' = s.world) [(0, true), (1, true), (2, true), (3, false), (4, true), (5, true), (6, true), (7, true), (8, true), (9, true), (10, true), (11, true), (12, true), (13, true), (14, true), (15, true), (16, true), (17, true), (18, true), (19, true)] (by kernel_rfl) (by kernel_rfl) (since (Below.refl _ _).drew) ?_
              repeat (first | (refine seq_skip (by rfl) (by rfl) ?_; simp only [Act.put, List.setIfInBounds_toArray, List.set_cons_succ, List.set_cons_zero]) | (refine seq_float (by rfl) (by rfl) (by rfl) ?_; intro K hK; go_big_quiet_op; go_big_quiet_on))
              refine seq_chain (by rfl) ?_
              intro K hK
              go_wp2_with fail
              (with_reducible refine (strings_HasPrefix _ _ _).mono ?_); rintro e w2 ⟨rfl, rfl⟩
              rw [hhp]
              go_wp2_with fail
              refine hK.out _ _ (since (Below.refl _ _).drew) ?_
              clear hK K
              repeat (first | (refine seq_skip (by rfl) (by rfl) ?_; simp only [Act.put, List.setIfInBounds_toArray, List.set_cons_succ, List.set_cons_zero]) | (refine seq_float (by rfl) (by rfl) (by rfl) ?_; intro K hK; go_big_quiet_op; go_big_quiet_on))
              refine seq_nil ⟨rfl, ?_⟩
              gi_wp2_with fail
              go_roundw
              case rel => exact ⟨k + 1, by omega, by go_num, by rw [HBE.out]; rfl, HBN⟩
              case measure => simp [intOf]; omega
            · have d2 : decide ((qb.size : Int) < (q.size : Int)) = false := by simp; omega
              have d3 : decide (qb.size < q.size) = false := by simpa using hsz2
              have HBE : Hid (bestK L rest (k + 1) = some b) := lid (by rw [bestK, hbo, if_neg]; unfold betterB; rw [hq, hhp]; show ¬ decide ((L.getD b (⟨#[]⟩, [])).1.size < _) = true; rw [hqb]; simpa using hsz2)
              clear hbo hq hqb hsz2
              gi_wp2_with fail
              obtain ⟨W1, hW1⟩ : ∃ W1, wr.alloc (Obj.cells #[.string q, .slice a2 n2 c2] 99) = W1 := ⟨_, rfl⟩
              have hb1 : Below wr.heap.size wr W1 := by rw [← hW1]; exact ba _ _
              have hR : W1.heap[wr.heap.size]? = some (.cells #[.string q, .slice a2 n2 c2] 99 (0, 0)) := by rw [← hW1]; exact h_new rfl _
              rw [hW1]
              have y0 := row_cell hR 0
              have lR := row_lt hR
              have lb1 := Nat.lt_of_lt_of_le hlb hb1.size
              have z1 := (bc hb1 hlb _).trans z0
              have HBN : Hid (Below W'.heap.size W' W1.drew) := lid ((HBW.out.trans (hb1.mono HBW.out.size)).drew)
              clear hW1 hR hb1 x0 x1 z0
              gi_wp2_with fail
              refine wpIn_region_seq (fun w' => ∃ s : Since W1.heap.size W1, w' = s.world) [(0, true), (1, true), (2, true), (3, false), (4, true), (5, true), (6, true), (7, true), (8, true), (9, true), (10, true), (11, true), (12, true), (13, true), (14, true), (15, true), (16, true), (17, true), (18, true), (19, true)] (by kernel_rfl) (by kernel_rfl) (since (Below.refl _ _).drew) ?_
              repeat (first | (refine seq_skip (by rfl) (by rfl) ?_; simp only [Act.put, List.setIfInBounds_toArray, List.set_cons_succ, List.set_cons_zero]) | (refine seq_float (by rfl) (by rfl) (by rfl) ?_; intro K hK; go_big_quiet_op; go_big_quiet_on))
              refine seq_chain (by rfl) ?_
              intro K hK
              go_wp2_with fail
              (with_reducible refine (strings_HasPrefix _ _ _).mono ?_); rintro e w2 ⟨rfl, rfl⟩
              rw [hhp]
              go_wp2_with fail
              refine hK.out _ _ (since (Below.refl _ _).drew) ?_
              clear hK K
              repeat (first | (refine seq_skip (by rfl) (by rfl) ?_; simp only [Act.put, List.setIfInBounds_toArray, List.set_cons_succ, List.set_cons_zero]) | (refine seq_float (by rfl) (by rfl) (by rfl) ?_; intro K hK; go_big_quiet_op; go_big_quiet_on))
              refine seq_nil ⟨rfl, ?_⟩
              gi_wp2_with fail
              go_roundw
              case rel => exact ⟨k + 1, by omega, by go_num, by rw [HBE.out]; rfl, HBN⟩
              case measure => simp [intOf]; omega
      · obtain rfl : k = nl := by omega
        have dk : decide ((k : Int) < (k : Int)) = false := by simp
        cases bo with
        | none =>
          have HGO : Hid (ownF (rulesAt R) p = ownGo (rulesAt R) tl) := lid (by rw [HG.out]; exact ownGo_none (by rw [HLL.out, HRR.out, HLN.out]; exact hbo))
          have d1 : decide ((0 : Int) ≤ -1) = false := by decide
          clear hbo
          rw [show bestV none = Value.int .i64 (-1) from rfl]
          gi_wp2_with fail
          exact ⟨KF.below HBW.out, tl, rfl, HB.out.trans (HBW.out.mono HB.out.size), (HBW.out.block _ (by omega)).trans HBX.out, (HBW.out.block _ (by omega)).trans HBR.out, HMAP.out, HGO.out, fun y hy => HLEN.out y (by simp [hy])⟩
        | some b =>
          have hbk : b < k := bestK_lt hbo
          have hbl : b < L.length := by rw [HLN.out]; exact hbk
          have hbp : b < ps.length := by rw [HRL.out.1]; exact hbl
          obtain ⟨b1, o1, rfl, hlb, hcell⟩ := (HSL.out.below HBW.out).at_ hbk
          have z1 := hcell (b * 2 + 1) _ (pcells_at hbp).2
          rw [← Nat.add_assoc] at z1
          have hEb := HRL.out.2 b _ _ (List.getElem?_eq_getElem hbp) (List.getElem?_eq_getElem hbl)
          have hgd : L.getD b (⟨#[]⟩, []) = L[b] := by rw [List.getD_eq_getElem?_getD, List.getElem?_eq_getElem hbl]; rfl
          have HGS : Hid (GS c w ps[b].2 (ownF (rulesAt R) p)) := lid (by
            rw [HG.out, ownGo_some (b := b) (by rw [HLL.out, HRR.out, HLN.out]; exact hbo), HLL.out, hgd]
            exact hEb.2.2)
          obtain ⟨⟨q, a2, n2, c2⟩, hv⟩ : ∃ v, ps[b] = v := ⟨_, rfl⟩
          rw [hv] at z1 HGS
          replace z1 : wr.cell? ⟨b1, o1 + b * 2 + 1, none⟩ = some (Value.slice a2 n2 c2) := z1
          have d1 : decide ((0 : Int) ≤ (b : Int)) = true := by simp
          have r1 := (HBW.out.block (w.heap.size + 1) (by omega)).trans HBR.out
          have t1 := row_cell r1 0
          have t2 := row_fz r1 0
          have t3 := row_lt r1
          have HR1 := lid r1
          clear hcell hEb hgd hv hbo r1
          rw [show bestV (some b) = Value.int .i64 b from rfl]
          gi_wp2_with fail
          refine ⟨(KF.below HBW.out).trans (KF.setCell _ ⟨w.heap.size + 1, 0, none⟩ _ (by show ¬ w.heap.size + 1 = w.heap.size + 1 + 1; omega)), rfl, (HB.out.trans (HBW.out.mono HB.out.size)).setCell (p := ⟨w.heap.size + 1, 0, none⟩) (by show w.heap.size ≤ w.heap.size + 1; omega) _, (a2, n2, c2), by have := row_set HR1.out 0 (.slice a2 n2 c2); simpa using this, HGS.out⟩
  case done =>
    rintro D s' W' hD rfl ⟨hb, hbox, hres, hmap, hgo, hlen⟩ hdef
    have hz4 := HZ4.out
    have HB := lid hb
    have HR := lid hres
    have HDE := lid hdef
    have HGO : Hid (ownF (rulesAt R) p = []) := lid hgo
    have t1 := row_cell hres 0
    have t2 := row_fz hres 0
    have t3 := row_lt hres
    have hDw : w.heap.size + 3 ≤ D := by omega
    clear hb hbox hres hmap hgo hlen hdef hz4
    gi_wp2_with fail
    have HD2 : Hid ((W'.setCell ⟨w.heap.size + 1, 0, none⟩ (.slice none 0 0)).heap[D]? = some (.deferred (some []))) := lid ((Below.heap_setCell _ _ _ D (by show D ≠ w.heap.size + 1; omega)).trans HDE.out)
    have HR2 : Hid ((W'.setCell ⟨w.heap.size + 1, 0, none⟩ (.slice none 0 0)).heap[w.heap.size + 1]? = some (.cells #[.slice none 0 0] 31 (0, 0))) := lid (by have := row_set HR.out 0 (.slice none 0 0); simpa using this)
    have HB2 := lid (HB.out.setCell (p := ⟨w.heap.size + 1, 0, none⟩) (by show w.heap.size ≤ w.heap.size + 1; omega) (.slice none 0 0))
    refine ⟨by simp, .inl ⟨D, _, rfl, run_takeDeferred HD2.out, ?_⟩⟩
    refine ⟨_, res_one rfl _ _ (w.heap.size + 1) (.slice none 0 0) rfl ((World.putObj_heap_other (by omega)).trans HR2.out), nv, rfl, ?_, by rw [HGO.out]; exact GS.nil _ _⟩
    exact HB2.out.grown (grownBy_putObj' _ D _) HB2.out.size (fun j e => by cases e; omega)
  case stop =>
    rintro D q s' x W' hD _ ⟨rfl, hb, v, hres, hgs⟩ hdef
    have HB := lid hb
    have HR := lid hres
    have HDE := lid hdef
    have HGS := lid hgs
    have hDw : w.heap.size + 3 ≤ D := by have := HZ4.out; omega
    clear hb hres hgs hdef
    gi_wp2_with fail
    refine ⟨by simp, .inl ⟨D, _, rfl, run_takeDeferred HDE.out, ?_⟩⟩
    have hBE := HB.out.grown (grownBy_putObj' _ D (.deferred none)) HB.out.size (fun j e => by cases e; omega)
    refine ⟨_, res_one rfl _ _ (w.heap.size + 1) (slv v) rfl ((World.putObj_heap_other (by omega)).trans HR.out), v, rfl, hBE, HGS.out.keep (KeepC.below hBE)⟩
end Go.Proofs.YtefehgdckmajiaaGreatDoor
