/-
  ObjOnly CodRef ObjBytes ObjEnc ObjRefEnc ObjWr RegionIn.
-/
import Derived.Test.YtphjillihapbfaaGreatDoorObjChk
import Derived.Test.YtphjillihapbfaaGreatDoorGrpE
import Derived.Test.YtphjillihapbfaaGreatDoorGrpF
import Derived.Test.YtphjillihapbfaaGreatDoorGrpA
import Derived.OrdersIn
import Derived.RangeFuncCalls
import Derived.TacticsIn
import Derived.Test.YtphjillihapbfaaGreatDoorGrpB
namespace Go.Proofs.YtphjillihapbfaaGreatDoor
open Go.RowKit

def onlyB (o : Ob) : Bool := if ((o.kind = 2 ∨ o.kind = 3) ∧ hasD o = true) ∨ (o.kind ≠ 2 ∧ hasE o = true) then false else decide (o.kind = 3) || !hasC o

end Go.Proofs.YtphjillihapbfaaGreatDoor

namespace Go.Proofs.YtphjillihapbfaaGreatDoor
open Go.RowKit

/-- What is known while a byte is laid, turned to a string, and the rest is called, in any order. -/
def RP (c : UInt8) (t : List UInt8) (B0 : Nat) (W : World) (s : Nat → Bool) (vs : List Value) (w : World) : Prop :=
  ∃ x y z, vs = [x, y, z] ∧ Below B0 W w ∧ (s 4 = true → ∃ k, x = .slice (some ⟨k, 0, none⟩) 1 1 ∧ w.ownsRow B0 5 1 x 1 (bvals [c])) ∧ (s 5 = true → y = .string (bstr [c])) ∧ (s 8 = true → z = .string (bstr t))
section
variable {c : UInt8} {t : List UInt8} {B0 : Nat} {W w w' : World} {s : Nat → Bool}
theorem RP.three {vs : List Value} (h : RP c t B0 W s vs w) : ∃ x y z, vs = [x, y, z] := by
  obtain ⟨x, y, z, e, _⟩ := h
  exact ⟨x, y, z, e⟩
theorem RP.old {vs : List Value} (h : RP c t B0 W s vs w) : Below B0 W w := by
  obtain ⟨x, y, z, e, hb, _⟩ := h
  exact hb
theorem RP.start (x y z : Value) (hs : s 4 = false ∧ s 5 = false ∧ s 8 = false) : RP c t B0 W s [x, y, z] W.drew := by
  refine ⟨x, y, z, rfl, (Below.refl _ _).drew, ?_, ?_, ?_⟩ <;> simp [hs]
theorem RP.byte {x y z : Value} (h : RP c t B0 W s [x, y, z] w) (hB : B0 ≤ w.heap.size) : RP c t B0 W (upd s 4) [.slice (some ⟨w.heap.size, 0, none⟩) 1 1, y, z] (w.alloc (.cells #[.int .u8 c.toNat] 5)) := by
  obtain ⟨x, y, z, e, h0, h4, h5', h8⟩ := h
  cases e
  refine ⟨_, y, z, rfl, h0.trans ((ba w _).mono hB), fun _ => ⟨_, rfl, ?_⟩, ?_, ?_⟩
  · have := World.ownsRow_lit (e := 5) (base := B0) (size := 1) w #[.int .u8 c.toNat] 1 hB (by simp [maxLen]) rfl
    simpa [bvals] using this
  · rw [upd_ne s (show 5 ≠ 4 by decide)]
    exact h5'
  · rw [upd_ne s (show 8 ≠ 4 by decide)]
    exact h8
theorem RP.conv {x y z : Value} (h : RP c t B0 W s [x, y, z] w) (h4 : s 4 = true) : (∃ k, x = .slice (some ⟨k, 0, none⟩) 1 1) ∧ (convert 120 9 x).run Tryz.prog w = .ok (.string (bstr [c])) w ∧ RP c t B0 W (upd s 5) [x, .string (bstr [c]), z] w := by
  obtain ⟨x, y, z, e, h0, h4', h5', h8⟩ := h
  cases e
  obtain ⟨k, hk, hown⟩ := h4' h4
  refine ⟨⟨k, hk⟩, run_string_of_row hown Tryz.underlying120 Tryz.underlying5 Tryz.underlying9, x, _, z, rfl, h0, ?_, fun _ => rfl, ?_⟩
  · intro _
    exact ⟨k, hk, hown⟩
  · rw [upd_ne s (show 8 ≠ 5 by decide)]
    exact h8
theorem RP.call {x y z : Value} (h : RP c t B0 W s [x, y, z] w) (hB : B0 ≤ w.heap.size) (hb : Below w.heap.size w w') : RP c t B0 W (upd s 8) [x, y, .string (bstr t)] w' := by
  obtain ⟨x, y, z, e, h0, h4, h5, h8⟩ := h
  cases e
  refine ⟨x, y, _, rfl, h0.trans (hb.mono hB), ?_, ?_, fun _ => rfl⟩
  · rw [upd_ne s (show 4 ≠ 8 by decide)]
    intro hs
    obtain ⟨k, e, ho⟩ := h4 hs
    exact ⟨k, e, ownsRow_below ho hb⟩
  · rw [upd_ne s (show 5 ≠ 8 by decide)]
    exact h5
theorem RP.all {vs : List Value} (h : RP c t B0 W s vs w) (h4 : s 4 = true) (h5 : s 5 = true) (h8 : s 8 = true) : ∃ k, vs = [.slice (some ⟨k, 0, none⟩) 1 1, .string (bstr [c]), .string (bstr t)] := by
  obtain ⟨x, y, z, e, h0, e4, e5, e8⟩ := h
  obtain ⟨k, hk, _⟩ := e4 h4
  exact ⟨k, by rw [e, hk, e5 h5, e8 h8]⟩
end
theorem ret_str1 {a b : ByteArray} (h : a = b) : Ending.returned (.string a) = .returned (.string b) := by rw [h]
end Go.Proofs.YtphjillihapbfaaGreatDoor

namespace Go.Proofs.YtphjillihapbfaaGreatDoor
open Go.RowKit

/-- Sixteen bytes. -/
def mk16 (f : Nat → UInt8) : List UInt8 := (List.range 16).map f
theorem mk16_set {f g : Nat → UInt8} {p : Nat} (hp : p < 16) {c : Int} (h1 : c = (g p).toNat) (h2 : ∀ q, q < 16 → q ≠ p → g q = f q) : (bvals (mk16 f)).set p (.int .u8 c) = bvals (mk16 g) := by
  apply List.ext_getElem?
  intro j
  rw [List.getElem?_set]
  unfold bvals mk16
  simp only [List.length_map, List.length_range, List.getElem?_map]
  by_cases hj : j < 16
  · rw [List.getElem?_range hj]
    by_cases e : p = j
    · subst e
      simp [hp, h1]
    · simp [e, h2 j hj (Ne.symm e)]
  · rw [List.getElem?_eq_none (by simpa using hj)]
    by_cases e : p = j
    · omega
    · simp [e]
theorem mk16_bytes (x y : UInt64) {f : Nat → UInt8} (h : ∀ p, p < 16 → f p = byteAt x y p) : mk16 f = bytesU x y := by
  unfold mk16 bytesU
  exact List.map_congr_left fun p hp => h p (List.mem_range.1 hp)
theorem make16 (base : Nat) (w : World) (hb : base ≤ w.heap.size) :
    ∃ w1, (Instr.makeSlice 120 (.int .i64 16) (.int .i64 16)).run Tryz.prog w = .ok (.slice (some ⟨w.heap.size, 0, none⟩) 16 16) w1 ∧ w1.ownsRow base 5 1 (.slice (some ⟨w.heap.size, 0, none⟩) 16 16) 16 (bvals (mk16 fun _ => 0)) ∧ w.grownBy w1 none := by
  obtain ⟨i, hi⟩ : ∃ i, Tryz.prog.info? 5 = some i := by
    cases h : Tryz.prog.info? 5 with
    | none => have := info_u8; rw [h] at this; cases this
    | some i => exact ⟨i, rfl⟩
  have h := info_u8
  rw [hi] at h
  simp only [Option.map_some, Option.some.injEq, Prod.mk.injEq] at h
  obtain ⟨w1, h1, h2, h3⟩ := run_makeSlice_full w base 120 5 i (.int .u8 0) 1 Tryz.underlying120 hi h.1 h.2.1 .i64 .i64 16 (by omega) (by rw [h.2.2]; omega) (by simp [maxLen]) hb
  refine ⟨w1, h1, ?_, h3⟩
  rw [show (Value.int .u8 0).cells = #[.int .u8 0] from rfl, toList_madeCells_one] at h2
  exact h2
/-- The bytes that are set after i digits and j rounds of the inner loop. -/
def setB (x y : UInt64) (i j p : Nat) : UInt8 := if p < 8 * i ∨ (8 * i + 8 - j ≤ p ∧ p < 8 * i + 8) then byteAt x y p else 0
theorem setB_step (x y : UInt64) {i j : Nat} (hi : i < 2) (hj : j < 8) {c : Int} (hc : c = (byteAt x y (8 * i + (7 - j))).toNat) : (bvals (mk16 (setB x y i j))).set (8 * i + (7 - j)) (.int .u8 c) = bvals (mk16 (setB x y i (j + 1))) := by
  refine mk16_set (by omega) ?_ fun q _ hq => ?_
  · rw [hc]; unfold setB; rw [if_pos (by omega)]
  · unfold setB
    by_cases h : q < 8 * i ∨ (8 * i + 8 - j ≤ q ∧ q < 8 * i + 8)
    · rw [if_pos h, if_pos (by omega)]
    · rw [if_neg h, if_neg (by omega)]
theorem setB_turn (x y : UInt64) (i : Nat) : mk16 (setB x y i 8) = mk16 (setB x y (i + 1) 0) := by
  unfold mk16
  refine List.map_congr_left fun p hp => ?_
  unfold setB
  by_cases h : p < 8 * i ∨ (8 * i + 8 - 8 ≤ p ∧ p < 8 * i + 8)
  · rw [if_pos h, if_pos (by omega)]
  · rw [if_neg h, if_neg (by omega)]
theorem setB_full (x y : UInt64) : mk16 (setB x y 2 0) = bytesU x y := mk16_bytes x y fun p hp => by unfold setB; rw [if_pos (by omega)]
theorem setB_none (x y : UInt64) : mk16 (setB x y 0 0) = mk16 fun _ => 0 := List.map_congr_left fun p hp => by unfold setB; rw [if_neg (by omega)]
theorem byteAt_up0 (x y : UInt64) {j : Nat} (h : j < 8) : ((x.toNat : Int) / 256 ^ j % 256) = ((byteAt x y (8 * 0 + (7 - j))).toNat : Int) := by
  rw [← byteAt_lo x y (show 7 - j < 8 by omega), show 56 - 8 * (7 - j) = 8 * j by omega, Int.pow_mul]
  rfl
theorem byteAt_up1 (x y : UInt64) {j : Nat} (h : j < 8) : ((y.toNat : Int) / 256 ^ j % 256) = ((byteAt x y (8 * 1 + (7 - j))).toNat : Int) := by
  rw [← byteAt_hi x y (show 7 - j < 8 by omega), show 56 - 8 * (7 - j) = 8 * j by omega, Int.pow_mul]
  rfl

end Go.Proofs.YtphjillihapbfaaGreatDoor

namespace Go.Proofs.YtphjillihapbfaaGreatDoor
open Go.RowKit

theorem oputI_len (n : Int) : (putI n).length ≤ 6 := by
  unfold putI putB
  split
  · rename_i h
    have := of_decide_eq_true h
    exact putN_six (by omega)
  · simp
theorem oputX_len (l : List UInt8) : (putX l).length ≤ l.length + 6 := by
  unfold putX
  split
  · rename_i h
    unfold putT
    rw [List.length_append]
    have := putN_six (n := l.length) (by omega)
    omega
  · simp
def digL (d : Dg) : List UInt8 := bytesU d.1 d.2
theorem digL_len (d : Dg) : (digL d).length = 16 := bytesU_length _ _
def dirI (b : Bool) : Int := if b = true then 1 else 0
def entL (e : Ent) : List UInt8 := putX e.1.data.toList ++ (putI (dirI e.2.1) ++ digL e.2.2)
def entsL (o : Ob) (k : Nat) : List UInt8 := putI o.kind ++ (putI o.ents.length ++ (o.ents.take k).flatMap entL)
def parsL (o : Ob) (k : Nat) : List UInt8 := putI o.kind ++ (digL o.tree ++ (putI o.pars.length ++ (o.pars.take k).flatMap digL))
def encL (o : Ob) : List UInt8 :=
  if o.kind = 2 then entsL o o.ents.length
  else if o.kind = 3 then parsL o o.pars.length ++ (putX o.auth.data.toList ++ (putI o.time ++ putX o.msg.data.toList))
  else putI o.kind ++ putX o.data.data.toList
theorem entL_len {e : Ent} (h : e.1.size ≤ 24) : (entL e).length ≤ 52 := by
  unfold entL
  have h1 := oputX_len e.1.data.toList
  have h2 := oputI_len (dirI e.2.1)
  have h3 := digL_len e.2.2
  have h4 : e.1.data.toList.length = e.1.size := rfl
  simp only [List.length_append]
  omega
theorem flat_len {α : Type} {f : α → List UInt8} {l : List α} {m : Nat} (h : ∀ x ∈ l, (f x).length ≤ m) : (l.flatMap f).length ≤ l.length * m := by
  induction l with
  | nil => simp
  | cons a l ih =>
    have h1 := h a (List.mem_cons_self ..)
    have h2 := ih fun x hx => h x (List.mem_cons_of_mem _ hx)
    simp only [List.flatMap_cons, List.length_append, List.length_cons, Nat.add_mul, Nat.one_mul]
    omega
theorem flat_succ {α : Type} (f : α → List UInt8) {l : List α} {k : Nat} (h : k < l.length) : (l.take (k + 1)).flatMap f = (l.take k).flatMap f ++ f (l[k]) := by
  rw [List.take_succ_eq_append_getElem h, List.flatMap_append]
  simp
theorem entsL_succ {o : Ob} {k : Nat} (h : k < o.ents.length) : entsL o (k + 1) = entsL o k ++ entL (o.ents[k]) := by
  unfold entsL; rw [flat_succ _ h]; simp only [List.append_assoc]
theorem parsL_succ {o : Ob} {k : Nat} (h : k < o.pars.length) : parsL o (k + 1) = parsL o k ++ digL (o.pars[k]) := by
  unfold parsL; rw [flat_succ _ h]; simp only [List.append_assoc]
theorem entsL_zero (o : Ob) : entsL o 0 = putI o.kind ++ putI o.ents.length := by unfold entsL; simp
theorem parsL_zero (o : Ob) : parsL o 0 = putI o.kind ++ (digL o.tree ++ putI o.pars.length) := by unfold parsL; simp
/-- What a valid object has. -/
theorem nameB_size {s : ByteArray} (h : nameB s = true) : s.size ≤ 24 := by
  unfold nameB wordB at h
  simp only [Bool.and_eq_true, decide_eq_true_eq] at h
  exact h.1.1.2
theorem ents_names : ∀ {l : List Ent} {p : Option ByteArray}, entsGo p l = 0 → ∀ e ∈ l, nameB e.1 = true ∧ zeroB e.2.2 = false
  | [], _, _, e, he => by cases he
  | x :: l, p, h, e, he => by
    cases hx : nameB x.1 with
    | false => rw [ents_name hx] at h; cases h
    | true =>
      have ho : ∀ q, p = some q → leB x.1 q = false := by
        intro q hq
        subst hq
        cases hl : leB x.1 q with
        | false => rfl
        | true => rw [ents_order hx hl] at h; cases h
      cases hz : zeroB x.2.2 with
      | true => rw [ents_zero hx ho hz] at h; cases h
      | false =>
        rw [ents_next hx ho hz] at h
        rcases List.mem_cons.1 he with rfl | he
        · exact ⟨hx, hz⟩
        · exact ents_names h e he
theorem checkO_kind {o : Ob} (h : checkO o = 0) : o.kind = 1 ∨ o.kind = 2 ∨ o.kind = 3 ∨ o.kind = 4 := by
  unfold checkO at h
  split at h
  · omega
  · split at h
    · omega
    · split at h
      · omega
      · omega
theorem checkO_ents {o : Ob} (h : checkO o = 0) (hk : o.kind = 2) : o.ents.length ≤ 200 ∧ entsGo none o.ents = 0 := by
  unfold checkO at h
  rw [if_neg (by omega), if_pos hk] at h
  split at h
  · cases h
  · unfold entsE at h
    split at h
    · rename_i h1; exact ⟨h1, h⟩
    · cases h
theorem checkO_names {o : Ob} (h : checkO o = 0) (hk : o.kind = 2) : ∀ e ∈ o.ents, e.1.size ≤ 24 := fun e he => nameB_size (ents_names (checkO_ents h hk).2 e he).1
theorem checkO_comm {o : Ob} (h : checkO o = 0) (hk : o.kind = 3) : o.pars.length ≤ 8 ∧ o.auth.size ≤ 24 ∧ 0 ≤ o.time ∧ o.time ≤ 1099511627776 ∧ o.msg.size ≤ 200 := by
  unfold checkO at h
  rw [if_neg (by omega), if_neg (by omega), if_pos hk] at h
  split at h
  · cases h
  · unfold commE at h
    split at h
    · cases h
    · split at h
      · cases h
      · split at h
        · split at h
          · split at h
            · cases h
            · split at h
              · cases h
              · rename_i h1 h2 h3 h4 h5
                exact ⟨by omega, nameB_size h3, by omega, by omega, by omega⟩
          · cases h
        · exact absurd h ‹_›
theorem entsL_len {o : Ob} (h : ∀ e ∈ o.ents, e.1.size ≤ 24) {k : Nat} (hk : k ≤ o.ents.length) : (entsL o k).length ≤ 12 + k * 52 := by
  unfold entsL
  have h1 := oputI_len o.kind
  have h2 := oputI_len o.ents.length
  have h3 := flat_len (f := entL) (l := o.ents.take k) (m := 52) fun e he => entL_len (h e (List.mem_of_mem_take he))
  rw [List.length_take, Nat.min_eq_left hk] at h3
  simp only [List.length_append]
  omega
theorem parsL_len (o : Ob) {k : Nat} (hk : k ≤ o.pars.length) : (parsL o k).length ≤ 28 + k * 16 := by
  unfold parsL
  have h1 := oputI_len o.kind
  have h2 := oputI_len o.pars.length
  have h4 := digL_len o.tree
  have h3 := flat_len (f := digL) (l := o.pars.take k) (m := 16) fun e _ => Nat.le_of_eq (digL_len e)
  rw [List.length_take, Nat.min_eq_left hk] at h3
  simp only [List.length_append]
  omega
/-- The encoding of a valid object of a usual size is never too long. -/
theorem encL_len {o : Ob} (h : checkO o = 0) (hd : o.data.size ≤ 60000) : (encL o).length ≤ 60012 := by
  unfold encL
  split
  · rename_i hk
    have := entsL_len (checkO_names h hk) (Nat.le_refl _)
    have := (checkO_ents h hk).1
    omega
  · split
    · rename_i hk
      obtain ⟨h1, h2, _, _, h3⟩ := checkO_comm h hk
      have h4 := parsL_len o (Nat.le_refl _)
      have h5 := oputX_len o.auth.data.toList
      have h6 := oputX_len o.msg.data.toList
      have h7 := oputI_len o.time
      have h8 : o.auth.data.toList.length = o.auth.size := rfl
      have h9 : o.msg.data.toList.length = o.msg.size := rfl
      simp only [List.length_append]
      omega
    · have h5 := oputX_len o.data.data.toList
      have h7 := oputI_len o.kind
      have h8 : o.data.data.toList.length = o.data.size := rfl
      simp only [List.length_append]
      omega
end Go.Proofs.YtphjillihapbfaaGreatDoor

namespace Go.Proofs.YtphjillihapbfaaGreatDoor
open Go.RowKit

end Go.Proofs.YtphjillihapbfaaGreatDoor

namespace Go.Proofs.YtphjillihapbfaaGreatDoor
open Go.RowKit

theorem own_block {w w' : World} {base : Nat} {e : TypeId} {size : Nat} {v : Value} {n : Nat} {xs : List Value} (h : w.ownsRow base e size v n xs) (hb : ∀ g, v.ownBlock = some g → w'.heap[g]? = w.heap[g]?) : w'.ownsRow base e size v n xs := by
  refine ⟨h.1, ?_⟩
  rcases h.2 with hn | ⟨g, cap, cur, rfl, hg, hgb, hr⟩
  · exact .inl hn
  · exact .inr ⟨g, cap, cur, rfl, hg, (hb g (by simp [Value.ownBlock])).trans hgb, hr⟩
theorem own_below {w w' : World} {base : Nat} {e : TypeId} {size : Nat} {v : Value} {n : Nat} {xs : List Value} (h : w.ownsRow base e size v n xs) (hb : Below w.heap.size w w') : w'.ownsRow base e size v n xs :=
  own_block h fun g hg => hb.block g (h.lt g hg).2
/-- A writer in box b that owns its text (block B and above), and that has met nothing wrong. -/
def Wr (B b : Nat) (L : List UInt8) (w : World) : Prop :=
  B ≤ b ∧ ∃ v, w.heap[b]? = some (.cells #[v, .bool false] 122 (0, 0)) ∧ w.ownsRow B 5 1 v L.length (bvals L) ∧ v.ownBlock ≠ some b
theorem Wr.lt {B b : Nat} {L : List UInt8} {w : World} (h : Wr B b L w) : b < w.heap.size := by
  obtain ⟨_, v, h1, _⟩ := h
  exact (Array.getElem?_eq_some_iff.1 h1).1
theorem Wr.below {B b : Nat} {L : List UInt8} {w w' : World} (h : Wr B b L w) (hb : Below w.heap.size w w') : Wr B b L w' := by
  have hlt := h.lt
  obtain ⟨h0, v, h1, h2, h3⟩ := h
  exact ⟨h0, v, (hb.block b hlt).trans h1, own_below h2 hb, h3⟩
/-- The store of 'bad'. -/
theorem Wr.bad {B b : Nat} {L : List UInt8} {w : World} (h : Wr B b L w) : Wr B b L (w.setCell ⟨b, 1, none⟩ (.bool false)) := by
  obtain ⟨h0, v, h1, h2, h3⟩ := h
  refine ⟨h0, v, heap_setCell_same w b 1 _ _ _ h1, own_block h2 fun g hg => Below.heap_setCell _ _ _ _ (fun e => h3 (by rw [hg]; exact congrArg some e)), h3⟩
theorem others_bad {b : Nat} {w w' : World} (h : Lib.OthersKept 5 (some b) w w') (o : Nat) (v : Value) : Lib.OthersKept 5 (some b) w (w'.setCell ⟨b, o, none⟩ v) := h.setCell _ rfl _
theorem others_of_below {e : TypeId} {b : Option Nat} {w w' : World} (hb : Below w.heap.size w w') : Lib.OthersKept e b w w' := fun k _ hk _ _ => (hb.block k (Array.getElem?_eq_some_iff.1 hk).1).trans hk
/-- The text grown: behind the store. -/
theorem Wr.put {B b : Nat} {M : List UInt8} {w w2 : World} {v v' : Value} (h0 : B ≤ b) (h1 : w.heap[b]? = some (.cells #[v, .bool false] 122 (0, 0)))  (h3 : v.ownBlock ≠ some b)
    (hown' : w2.ownsRow B 5 1 v' M.length (bvals M)) (hg : w.grownBy w2 v.ownBlock) : Wr B b M (w2.setCell ⟨b, 0, none⟩ v') := by
  have hlt : b < w.heap.size := (Array.getElem?_eq_some_iff.1 h1).1
  have hb2 : w2.heap[b]? = some (.cells #[v, .bool false] 122 (0, 0)) := by
    rw [hg.block b hlt (fun e => h3 e.symm)]
    exact h1
  have hne : v'.ownBlock ≠ some b := fun e => by
    obtain ⟨c, fz, hk⟩ := own_kind hown' b e
    rw [hb2] at hk
    cases hk
  exact ⟨h0, v', heap_setCell_same w2 b 0 _ _ _ hb2, own_block hown' fun g hg' => Below.heap_setCell _ _ _ _ (fun e => hne (by rw [hg']; exact congrArg some e)), hne⟩
theorem own_slice {w : World} {base : Nat} {e : TypeId} {size : Nat} {v : Value} {n : Nat} {xs : List Value} (h : w.ownsRow base e size v n xs) : ∃ ao cap, v = .slice ao n cap := by
  rcases h.2 with ⟨hv, h0⟩ | ⟨g, cap, cur, hv, _⟩
  · subst h0; exact ⟨_, _, hv⟩
  · exact ⟨_, _, hv⟩

set_option maxRecDepth 100000 in
set_option maxHeartbeats 4000000 in
theorem wNumber_any (B b : Nat) (L : List UInt8) (n : Int) (w : World) (h : Wr B b L w) (hB : B ≤ w.heap.size) (hl : L.length ≤ 1000000) (hn : putB n = true) :
    Calls Tryz.prog 68 #[.pointer (some ⟨b, 0, none⟩), .int .i64 n] w fun e w' => e = .returned (.tuple #[]) ∧ Wr B b (L ++ putI n) w' ∧ Below B w w' ∧ Lib.OthersKept 5 (some b) w w' := by
  obtain ⟨i0, hi, hz0, hz1, hz2⟩ := info_parts info_byte
  have HE : Hid (putIE n = 0) := lid (by unfold putIE; rw [if_pos hn])
  have HW := lid h
  have HL := lid hl
  clear h hn hl
  go_enter Tryz.func68, Tryz.ntmps68
  go_wp2_with fail
  (with_reducible refine (PutInt_any n _).mono ?_); rintro e w1 ⟨rfl, hb1⟩
  rw [HE.out]
  have HW1 := lid (HW.out.below hb1)
  have hsz := hb1.size
  obtain ⟨h0, v, h1, h2, h3⟩ := HW1.out
  obtain ⟨g0, u, g1, g2, g3⟩ := HW1.out.bad
  have c0 : w1.cell? ⟨b, 0, none⟩ = some v := by rw [Lib.cell_of_heap h1]; rfl
  have c1 : w1.cell? ⟨b, 1, none⟩ = some (.bool false) := by rw [Lib.cell_of_heap h1]; rfl
  have f1 : w1.frozen? ⟨b, 1, none⟩ = false := Lib.frozen_of_heap h1 1
  obtain rfl : u = v := by
    rw [heap_setCell_same w1 b 1 _ _ _ h1] at g1
    simp at g1
    exact g1.symm
  have G1 := lid g1
  have G2 := lid g2
  obtain ⟨X, hX⟩ : ∃ X, bstr (putI n) = X := ⟨_, rfl⟩
  have hXs : X.size ≤ 6 := by rw [← hX, bstr_size]; exact oputI_len n
  have HX := lid hX
  rw [hX]
  clear h1 h2 g1 g2 hX
  have hB1 : B ≤ (w1.setCell ⟨b, 1, none⟩ (.bool false)).heap.size := by rw [World.size_setCell]; omega
  go_wp2_with (at_builtin; go_must (refine Lib.wpList_append_own_string _ rfl _ _ 120 9 rfl B 5 i0 Tryz.underlying120 Tryz.underlying9 hi hz0 hz1 hz2 _ _ _ rfl G2.out X rfl (by have := HL.out; unfold maxLen; omega) (by have := HL.out; omega) hB1 ?_))
  intro v' w2 hown' hgrow _
  have hlt : b < (w1.setCell ⟨b, 1, none⟩ (.bool false)).heap.size := (Array.getElem?_eq_some_iff.1 G1.out).1
  have hb2 : w2.heap[b]? = some (.cells #[u, .bool false] 122 (0, 0)) := by
    rw [hgrow.block b hlt (fun e => g3 e.symm)]
    exact G1.out
  have d0 : w2.cell? ⟨b, 0, none⟩ = some u := by rw [Lib.cell_of_heap hb2]; rfl
  have d1 : w2.frozen? ⟨b, 0, none⟩ = false := Lib.frozen_of_heap hb2 0
  have HO' := lid hown'
  obtain ⟨ao, cap, rfl⟩ := own_slice hown'
  have hL : (L ++ putI n).length = L.length + X.size := by rw [← HX.out, bstr_size, List.length_append]
  have HLL := lid hL
  clear hb2 hown' c0 c1 f1 hL
  go_wp2_with fail
  go_end0
  refine ⟨rfl, Wr.put h0 G1.out g3 ?_ hgrow, ?_, ?_⟩
  · rw [HLL.out, bvals_append]
    have := HO'.out
    rw [← HX.out] at this ⊢
    exact this
  · exact (((hb1.mono (by omega)).setCell (p := ⟨b, 1, none⟩) h0 _).grown hgrow hB1 (fun k hk => ownsRow_row G2.out k hk)).setCell (p := ⟨b, 0, none⟩) h0 _
  · exact others_bad ((others_bad (others_of_below hb1) 1 _).grown hgrow (own_kind G2.out)) 0 _
set_option maxRecDepth 100000 in
set_option maxHeartbeats 4000000 in
theorem wString_any (B b : Nat) (L : List UInt8) (s : ByteArray) (w : World) (h : Wr B b L w) (hB : B ≤ w.heap.size) (hl : L.length ≤ 1000000) (hn : s.size ≤ 60000) :
    Calls Tryz.prog 69 #[.pointer (some ⟨b, 0, none⟩), .string s] w fun e w' => e = .returned (.tuple #[]) ∧ Wr B b (L ++ putX s.data.toList) w' ∧ Below B w w' ∧ Lib.OthersKept 5 (some b) w w' := by
  obtain ⟨i0, hi, hz0, hz1, hz2⟩ := info_parts info_byte
  have HE : Hid (putXE s.data.toList = 0) := lid (by unfold putXE; rw [if_pos (by have h2 : s.data.toList.length ≤ 60000 := hn; omega)])
  have HM : Hid (s.size ≤ maxLen) := lid (Nat.le_trans hn (by simp [maxLen]))
  have HS := lid hn
  have HW := lid h
  have HL := lid hl
  clear h hn hl
  go_enter Tryz.func69, Tryz.ntmps69
  go_wp2_with fail
  (with_reducible refine (PutText_any s _ HM.out).mono ?_); rintro e w1 ⟨rfl, hb1⟩
  rw [HE.out]
  have HW1 := lid (HW.out.below hb1)
  have hsz := hb1.size
  obtain ⟨h0, v, h1, h2, h3⟩ := HW1.out
  obtain ⟨g0, u, g1, g2, g3⟩ := HW1.out.bad
  have c0 : w1.cell? ⟨b, 0, none⟩ = some v := by rw [Lib.cell_of_heap h1]; rfl
  have c1 : w1.cell? ⟨b, 1, none⟩ = some (.bool false) := by rw [Lib.cell_of_heap h1]; rfl
  have f1 : w1.frozen? ⟨b, 1, none⟩ = false := Lib.frozen_of_heap h1 1
  obtain rfl : u = v := by
    rw [heap_setCell_same w1 b 1 _ _ _ h1] at g1
    simp at g1
    exact g1.symm
  have G1 := lid g1
  have G2 := lid g2
  obtain ⟨X, hX⟩ : ∃ X, bstr (putX s.data.toList) = X := ⟨_, rfl⟩
  have hXs : X.size ≤ 60006 := by rw [← hX, bstr_size]; have h1 := oputX_len s.data.toList; have h2 : s.data.toList.length ≤ 60000 := HS.out; omega
  have HX := lid hX
  rw [hX]
  clear h1 h2 g1 g2 hX
  have hB1 : B ≤ (w1.setCell ⟨b, 1, none⟩ (.bool false)).heap.size := by rw [World.size_setCell]; omega
  go_wp2_with (at_builtin; go_must (refine Lib.wpList_append_own_string _ rfl _ _ 120 9 rfl B 5 i0 Tryz.underlying120 Tryz.underlying9 hi hz0 hz1 hz2 _ _ _ rfl G2.out X rfl (by have := HL.out; unfold maxLen; omega) (by have := HL.out; omega) hB1 ?_))
  intro v' w2 hown' hgrow _
  have hlt : b < (w1.setCell ⟨b, 1, none⟩ (.bool false)).heap.size := (Array.getElem?_eq_some_iff.1 G1.out).1
  have hb2 : w2.heap[b]? = some (.cells #[u, .bool false] 122 (0, 0)) := by
    rw [hgrow.block b hlt (fun e => g3 e.symm)]
    exact G1.out
  have d0 : w2.cell? ⟨b, 0, none⟩ = some u := by rw [Lib.cell_of_heap hb2]; rfl
  have d1 : w2.frozen? ⟨b, 0, none⟩ = false := Lib.frozen_of_heap hb2 0
  have HO' := lid hown'
  obtain ⟨ao, cap, rfl⟩ := own_slice hown'
  have hL : (L ++ putX s.data.toList).length = L.length + X.size := by rw [← HX.out, bstr_size, List.length_append]
  have HLL := lid hL
  clear hb2 hown' c0 c1 f1 hL
  go_wp2_with fail
  go_end0
  refine ⟨rfl, Wr.put h0 G1.out g3 ?_ hgrow, ?_, ?_⟩
  · rw [HLL.out, bvals_append]
    have := HO'.out
    rw [← HX.out] at this ⊢
    exact this
  · exact (((hb1.mono (by omega)).setCell (p := ⟨b, 1, none⟩) h0 _).grown hgrow hB1 (fun k hk => ownsRow_row G2.out k hk)).setCell (p := ⟨b, 0, none⟩) h0 _
  · exact others_bad ((others_bad (others_of_below hb1) 1 _).grown hgrow (own_kind G2.out)) 0 _
end Go.Proofs.YtphjillihapbfaaGreatDoor

namespace Go.Proofs.YtphjillihapbfaaGreatDoor
open Go.RowKit

def noDefer (ops : Array Oper) : Bool := ops.all fun o => match o.op with | .defer _ => false | _ => true
theorem noDefer_spec {ops : Array Oper} (h : noDefer ops = true) {i : Nat} {o : Oper} (hi : ops[i]? = some o) : ∀ c, o.op ≠ .defer c := by
  intro c hc
  unfold noDefer at h
  rw [Array.all_eq_true_iff_forall_mem] at h
  have := h o (Array.mem_of_getElem? hi)
  rw [hc] at this
  cases this

theorem rows_wide {n r : Nat} {P : Program} {row : String} {args : Array Value} {w : World} {R : Value → World → Prop} (h : Rows P row args w R) : RowsIn (Fence.wide.inRound r) n P row args w R :=
  fun c cs _ => let ⟨v, w', hr, hs⟩ := h c cs; ⟨v, w', hr, stepsIn_wide.2 hs⟩

/-- At its end alone. -/
def Ends (Q : Exit → Act → World → Prop) : Exit → Act → World → Prop := fun e a w => e = .normal ∧ Q e a w

section
variable {P : Program} {ops : Array Oper} {Q : Exit → Act → World → Prop} {r n : Nat}
theorem wpOpIn_of {i : Nat} {K : Act → World → Prop} {a : Act} {w : World} (hd : noDefer ops = true) (h : wpOp P ops (Ends Q) i K a w) : wpOpIn (Fence.wide.inRound r) n P ops Q i K a w := by
  unfold wpOp at h
  unfold wpOpIn
  split
  · rename_i hi
    simpa only [hi] using h
  · rename_i o hi
    simp only [hi] at h
    split
    · rename_i hw
      rw [if_pos hw] at h
      rcases h with h | ⟨_, _, _, h, _⟩
      · unfold Oper.wp at h
        refine ⟨fun _ _ => trivial, ?_⟩
        rw [Fence.inRound_round, Oper.semAt_some _ _ _ (noDefer_spec hd hi)]
        generalize (execOp a.eval o).run P w = res at *
        cases res with
        | ok x w' =>
          cases x <;> simp only [Oper.upon, Oper.uponIn] at h ⊢
          case value v => exact h
          case skip => exact h
          case defer d => exact h
          case enter f args =>
            refine ⟨fun h => (by cases h), CallsIn.inRound r (callsIn_wide.2 (Calls.mono h fun e w'' he => ?_))⟩
            cases e with
            | returned v => exact he
            | panicked c => cases he.1
            | outgrown => obtain ⟨_, _, he, _⟩ := he; cases he
          case row row args => exact ⟨fun h => (by cases h), rows_wide h⟩
        | halt x w' =>
          cases x <;> simp only [Oper.upon, Oper.uponIn] at h ⊢
          case panic v => cases h.1
      · cases h
    · rename_i hw
      rw [if_neg hw] at h
      exact ⟨fun _ _ => trivial, h⟩

theorem wpAnyIn_of {md : Region.Mode} (hd : noDefer ops = true) : ∀ (fuel : Nat) (listed : Array Bool) (a : Act) (w : World), wpAny P md ops (Ends Q) fuel listed a w → wpAnyIn (Fence.wide.inRound r) n P md ops Q fuel listed a w
  | 0, _, _, _, h => ⟨h.1, h.2.2⟩
  | fuel + 1, _, _, _, h => ⟨fun e => (h.1 e).2, fun i hi => wpOpIn_mono (fun a' w' h' => wpAnyIn_of hd fuel _ a' w' h') (wpOpIn_of hd (h.2 i hi))⟩

/-- wp_region_seq in a round. -/
theorem wpIn_region_seq {id : Nat} {a : Act} {w : World} {l : List Oper} (C : World → Prop) (ord : List (Nat × Bool)) (hm : P.follows .mixedOrders = true)
    (hB : (noDefer l.toArray && (Region.noSelect l.toArray && decide (ord.length = l.length) && (match seqB .any l.toArray ord (Array.replicate l.length false) with | some listed => (Region.ready .any l.toArray listed).isEmpty | none => false))) = true)
    (hC : C w.drew) (h : seqRun P l.toArray C (Ends Q) (fun a w => Ends Q .normal a w) ord a w.drew) : (Code.region id l.toArray true).wpIn (Fence.wide.inRound r) n P Q a w := by
  simp only [Bool.and_eq_true, decide_eq_true_eq] at hB
  obtain ⟨hd, ⟨hs, hl⟩, hB⟩ := hB
  split at hB
  · rename_i listed hsq
    refine wpIn_region_any hm (wpAnyIn_of hd _ _ _ _ (wpAny_of_held (S := C) _ _ _ _ ?_))
    have := wpAnyH_of_seq (md := .any) (P := P) (fuel := 0) hs (fun c d v a w h => by cases h.1) ord _ listed a w.drew hC hsq (fun a w _ hq => ⟨by simpa using hB, hq⟩) h
    rw [hl] at this
    simpa using this
  · cases hB
end
end Go.Proofs.YtphjillihapbfaaGreatDoor
