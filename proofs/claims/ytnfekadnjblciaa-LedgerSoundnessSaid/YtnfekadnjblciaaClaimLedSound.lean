/-
  LedgerSoundness: if a proof holds for another record than the ledger's, two different strings with the same digest are hashed on the way to the root.
-/
import Derived.Test.YtnfekadnjblciaaDigSpec
import Derived.Test.YtnfekadnjblciaaDigHash
import Derived.Test.YtnfekadnjblciaaKit
import Derived.Test.YtnfekadnjblciaaLedHead
import Derived.Test.YtnfekadnjblciaaSl
import Derived.Test.YtnfekadnjblciaaLedOwn
import Derived.Test.YtnfekadnjblciaaLedSpec
import Derived.Test.YtnfekadnjblciaaLedGrow
import Derived.Test.YtnfekadnjblciaaLedRec
import Derived.Test.YtnfekadnjblciaaDigRefRoot
import Derived.Test.YtnfekadnjblciaaDigBox
import Derived.Test.YtnfekadnjblciaaMix
import Derived.Test.YtnfekadnjblciaaLedAwake
import Derived.Test.YtnfekadnjblciaaLedLawRecords
import Derived.Test.YtnfekadnjblciaaLedExtends
import Derived.Test.YtnfekadnjblciaaLawLed
namespace Go.Proofs.Ytnfekadnjblciaa

theorem hexVal_hexDigit {n : Nat} (h : n < 16) : hexVal (hexDigit n) = n := by
  match n, h with
  | 0, _ => rfl | 1, _ => rfl | 2, _ => rfl | 3, _ => rfl | 4, _ => rfl | 5, _ => rfl | 6, _ => rfl | 7, _ => rfl
  | 8, _ => rfl | 9, _ => rfl | 10, _ => rfl | 11, _ => rfl | 12, _ => rfl | 13, _ => rfl | 14, _ => rfl | 15, _ => rfl
  | n + 16, h => exact absurd h (by omega)
theorem hexDigit_hexVal {c : UInt8} (h : hexVal c < 16) : hexDigit (hexVal c) = c := by
  unfold hexVal at h ⊢
  split at h
  · rename_i h1
    rw [if_pos h1]
    unfold hexDigit
    rw [if_pos (by omega), show 48 + (c.toNat - 48) = c.toNat by omega]
    simp
  · rename_i h1
    rw [if_neg h1]
    split at h
    · rename_i h2
      rw [if_pos h2]
      unfold hexDigit
      rw [if_neg (by omega), show 87 + (c.toNat - 87) = c.toNat by omega]
      simp
    · omega
theorem nibAt_lt (x y : UInt64) (k : Nat) : nibAt x y k < 16 := Nat.mod_lt _ (by omega)
theorem hexU_get (x y : UInt64) (k : Nat) (h : k < 32) : (hexU x y)[k]'(by rw [hexU_length]; exact h) = hexDigit (nibAt x y k) := by simp [hexU]
theorem hexU_all (x y : UInt64) : ∀ c ∈ hexU x y, hexVal c < 16 := by
  intro c hc
  simp only [hexU, List.mem_map] at hc
  obtain ⟨k, _, rfl⟩ := hc
  rw [hexVal_hexDigit (nibAt_lt x y k)]
  exact nibAt_lt x y k

theorem valHex_append (a b : List UInt8) : valHex (a ++ b) = valHex a * 16 ^ b.length + valHex b := by
  have : ∀ (b : List UInt8) (n : Nat), b.foldl (fun a c => a * 16 + hexVal c) n = n * 16 ^ b.length + valHex b := by
    intro b
    induction b with
    | nil => intro n; simp [valHex]
    | cons c b ih =>
      intro n
      have h1 : valHex (c :: b) = (0 * 16 + hexVal c) * 16 ^ b.length + valHex b := ih _
      rw [List.foldl_cons, ih, h1, List.length_cons, Nat.pow_succ, Nat.add_mul, Nat.zero_mul, Nat.zero_add, Nat.mul_assoc, Nat.mul_comm 16, Nat.add_assoc]
  rw [valHex, List.foldl_append, this]
  rfl
theorem valHex_div (a b : List UInt8) (hb : ∀ c ∈ b, hexVal c < 16) : valHex (a ++ b) / 16 ^ b.length = valHex a := by
  rw [valHex_append, Nat.mul_comm, Nat.mul_add_div (Nat.pow_pos (by omega)), Nat.div_eq_of_lt (valHex_lt b hb), Nat.add_zero]
/-- Digit k of the number that sixteen digits write. -/
theorem valHex_nib {m : List UInt8} (hl : m.length = 16) (hm : ∀ c ∈ m, hexVal c < 16) {k : Nat} (hk : k < 16) : valHex m / 2 ^ (60 - 4 * k) % 16 = hexVal (m[k]'(by omega)) := by
  have h1 : m = (m.take k ++ [m[k]'(by omega)]) ++ m.drop (k + 1) := by
    rw [← List.take_succ_eq_append_getElem (by omega), List.take_append_drop]
  have h2 : (m.drop (k + 1)).length = 15 - k := by rw [List.length_drop]; omega
  have h3 : (2 : Nat) ^ (60 - 4 * k) = 16 ^ (m.drop (k + 1)).length := by
    rw [h2, show (16 : Nat) = 2 ^ 4 from rfl, ← Nat.pow_mul]
    congr 1
    omega
  rw [h3]
  have h4 := valHex_div (m.take k ++ [m[k]'(by omega)]) (m.drop (k + 1)) (fun c hc => hm c (List.mem_of_mem_drop hc))
  rw [← h1] at h4
  rw [h4, valHex_snoc]
  have := hm (m[k]'(by omega)) (List.getElem_mem _)
  omega
theorem valHex_lt64 {m : List UInt8} (hl : m.length = 16) (hm : ∀ c ∈ m, hexVal c < 16) : valHex m < 18446744073709551616 := by
  have := valHex_bound (m := 16) hm (by omega)
  exact this

/-- A number is told by its digits. -/
theorem u64_of_nibs {a b : Nat} (ha : a < 18446744073709551616) (hb : b < 18446744073709551616) (h : ∀ k < 16, a / 2 ^ (60 - 4 * k) % 16 = b / 2 ^ (60 - 4 * k) % 16) : a = b := by
  have key : ∀ k, k ≤ 16 → a / 2 ^ (64 - 4 * k) = b / 2 ^ (64 - 4 * k) := by
    intro k
    induction k with
    | zero => intro _; rw [Nat.div_eq_of_lt (by simpa using ha), Nat.div_eq_of_lt (by simpa using hb)]
    | succ k ih =>
      intro hk
      have h1 := ih (by omega)
      have h2 := h k (by omega)
      rw [show 64 - 4 * (k + 1) = 60 - 4 * k by omega]
      rw [show 64 - 4 * k = (60 - 4 * k) + 4 by omega, Nat.pow_add, ← Nat.div_div_eq_div_mul, ← Nat.div_div_eq_div_mul] at h1
      omega
  have := key 16 (Nat.le_refl _)
  simpa using this

theorem parseE_hexU (x y : UInt64) : parseE (hexU x y) = ((x, y), 0) := by
  rw [parseE_ok (hexU_length x y) (hexU_all x y)]
  have hall := hexU_all x y
  have e1 : valHex ((hexU x y).take 16) = x.toNat := by
    have hl : ((hexU x y).take 16).length = 16 := by rw [List.length_take, hexU_length]; omega
    have hm : ∀ c ∈ (hexU x y).take 16, hexVal c < 16 := fun c hc => hall c (List.mem_of_mem_take hc)
    refine u64_of_nibs (valHex_lt64 hl hm) (u64_lt x) (fun k hk => ?_)
    rw [valHex_nib hl hm hk, List.getElem_take, hexU_get x y k (by omega), hexVal_hexDigit (nibAt_lt x y k)]
    unfold nibAt
    rw [if_pos hk, Nat.mod_eq_of_lt hk]
  have e2 : valHex ((hexU x y).drop 16) = y.toNat := by
    have hl : ((hexU x y).drop 16).length = 16 := by rw [List.length_drop, hexU_length]
    have hm : ∀ c ∈ (hexU x y).drop 16, hexVal c < 16 := fun c hc => hall c (List.mem_of_mem_drop hc)
    refine u64_of_nibs (valHex_lt64 hl hm) (u64_lt y) (fun k hk => ?_)
    rw [valHex_nib hl hm hk, List.getElem_drop, hexU_get x y (16 + k) (by omega), hexVal_hexDigit (nibAt_lt x y _)]
    unfold nibAt
    rw [if_neg (by omega), show (16 + k) % 16 = k by omega]
  rw [e1, e2]
  simp

theorem hexU_parseE {l : List UInt8} {x y : UInt64} (h : parseE l = ((x, y), 0)) : hexU x y = l := by
  unfold parseE at h
  split at h
  · rename_i hh
    obtain ⟨hl, hm⟩ := hh
    simp only [Prod.mk.injEq] at h
    obtain ⟨⟨h1, h2⟩, _⟩ := h
    have l1 : (l.take 16).length = 16 := by rw [List.length_take]; omega
    have l2 : (l.drop 16).length = 16 := by rw [List.length_drop]; omega
    have m1 : ∀ c ∈ l.take 16, hexVal c < 16 := fun c hc => hm c (List.mem_of_mem_take hc)
    have m2 : ∀ c ∈ l.drop 16, hexVal c < 16 := fun c hc => hm c (List.mem_of_mem_drop hc)
    have x1 : x.toNat = valHex (l.take 16) := by rw [← h1, UInt64.toNat_ofNat_of_lt' (by simpa [UInt64.size] using valHex_lt64 l1 m1)]
    have y1 : y.toNat = valHex (l.drop 16) := by rw [← h2, UInt64.toNat_ofNat_of_lt' (by simpa [UInt64.size] using valHex_lt64 l2 m2)]
    apply List.ext_getElem (by rw [hexU_length, hl])
    intro k hk hk'
    rw [hexU_get x y k (by omega)]
    have hck := hm l[k] (List.getElem_mem _)
    rw [← hexDigit_hexVal hck]
    congr 1
    unfold nibAt
    rcases Nat.lt_or_ge k 16 with h16 | h16
    · rw [if_pos h16, Nat.mod_eq_of_lt h16, x1, valHex_nib l1 m1 h16, List.getElem_take]
    · rw [if_neg (by omega), show k % 16 = k - 16 by omega, y1, valHex_nib l2 m2 (by omega), List.getElem_drop]
      congr 2
      omega
  · simp at h
theorem parseE_err (l : List UInt8) : (parseE l).2 = 0 ∨ parseE l = ((0, 0), 3) := by
  unfold parseE
  split
  · exact .inl rfl
  · exact .inr rfl
end Go.Proofs.Ytnfekadnjblciaa

namespace Go.Proofs.Ytnfekadnjblciaa

def hexOf (l : List UInt8) : List UInt8 := l.flatMap fun c => [hexDigit (c.toNat / 16), hexDigit (c.toNat % 16)]
theorem hexU_hexOf_take (x y : UInt64) (k : Nat) (h : k ≤ 16) : (hexU x y).take (2 * k) = hexOf ((bytesU x y).take k) := by
  induction k with
  | zero => simp [hexOf]
  | succ k ih =>
    rw [hexU_take2 x y k (by omega), ih (by omega), bytesU_take x y k (by omega)]
    simp [hexOf]
theorem hexU_hexOf (x y : UInt64) : hexU x y = hexOf (bytesU x y) := by
  have h := hexU_hexOf_take x y 16 (Nat.le_refl _)
  rwa [List.take_of_length_le (by simp [hexU_length]), List.take_of_length_le (by simp [bytesU_length])] at h
theorem hexU_inj {a b : Dg} (h : hexU a.1 a.2 = hexU b.1 b.2) : a = b := by
  have h1 := parseE_hexU a.1 a.2
  rw [h, parseE_hexU] at h1
  simp only [Prod.mk.injEq, and_true] at h1
  exact Prod.ext h1.1.symm h1.2.symm
theorem bytesU_inj {a b : Dg} (h : bytesU a.1 a.2 = bytesU b.1 b.2) : a = b := hexU_inj (by rw [hexU_hexOf, hexU_hexOf, h])
theorem nodes_inj {a b c d : Dg} (h : bytesU a.1 a.2 ++ bytesU b.1 b.2 = bytesU c.1 c.2 ++ bytesU d.1 d.2) : a = c ∧ b = d := by
  have := List.append_inj h (by simp [bytesU_length])
  exact ⟨bytesU_inj this.1, bytesU_inj this.2⟩
theorem bstr_inj {a b : List UInt8} (h : bstr a = bstr b) : a = b := by
  have := congrArg (fun s : ByteArray => s.data.toList) h
  simpa using this

/-- Of a right proof: where no digest is left, one element is left. -/
theorem result_nil_one {n i : Nat} {d : Dg} (h : (resultD n i d []).2 = true) : n = 1 := by
  by_cases h1 : n = 1
  · exact h1
  · rw [resultD_nil h1] at h; simp at h
theorem result_one_nil {i : Nat} {d : Dg} {p : List Dg} (h : (resultD 1 i d p).2 = true) : p = [] := by
  rw [resultD_one] at h
  exact List.eq_nil_of_length_eq_zero (by simpa using h)
end Go.Proofs.Ytnfekadnjblciaa

namespace Go.Proofs.Ytnfekadnjblciaa
open Go.RowKit

theorem eqGuardRec : Try.prog.eqGuardType Try.prog.depth 30 = false := by kernel_rfl
set_option maxRecDepth 100000 in
/-- '!=' of a record and itself, in a region. -/
theorem quiet_ne_rec {C : World → Prop} {K : Act → Prop} {a : Act} {o : Oper} (r : Rec) (x y : Operand) (h : o.op = .binOp .neq 30 x y 30)
    (hx : a.eval x = rv r) (hy : a.eval y = rv r) (hk : K (a.put o.dst (.bool false))) : o.quiet Try.prog a C K := by
  refine ⟨.bool false, fun w _ => ?_, hk⟩
  unfold Oper.quietAt execOp
  rw [h]
  simp only [hx, hy]
  simp [go_sem]

set_option maxRecDepth 100000 in
set_option maxHeartbeats 8000000 in
theorem Same_same (l : List Rec) (n n' cap cap' : Nat) (ao ao' : Option Addr) (w : World) (h : LedA w ao n cap l) (h' : LedA w ao' n' cap' l) :
    Calls Try.prog 26 #[.agg #[.slice ao n cap], .agg #[.slice ao' n' cap']] w fun e w' => e = .returned (.bool true) ∧ Below w.heap.size w w' := by
  obtain rfl : n = n' := h.len.symm.trans h'.len
  have HN := lid h.len
  have hm' : n ≤ 9223372036854775807 := h.max
  obtain ⟨W, hW⟩ : ∃ W, (w.alloc (Obj.cells #[.slice ao n cap] 24)).alloc (Obj.cells #[.slice ao' n cap'] 24) = W := ⟨_, rfl⟩
  have hb0 : Below w.heap.size w W := by rw [← hW]; exact ((Below.refl _ _).alloc (Nat.le_refl _) _).alloc (by simp) _
  have q0 : W.cell? ⟨w.heap.size, 0, none⟩ = some (.slice ao n cap) := by rw [← hW]; simp
  have q1 : W.cell? ⟨w.heap.size + 1, 0, none⟩ = some (.slice ao' n cap') := by
    have := cell_new_at (w := w.alloc (Obj.cells #[.slice ao n cap] 24)) rfl #[.slice ao' n cap'] 24 0
    rw [World.size_alloc] at this
    rw [← hW]
    exact this
  have hlt : w.heap.size + 1 < W.heap.size := by rw [← hW]; simp
  have HW := lid hW
  have HA := lid (h.below hb0)
  have HB := lid (h'.below hb0)
  clear hW h h'
  go_enter Try.func26, Try.ntmps26
  go_wp2_with fail
  rw [HW.out]
  clear HW
  have Q0 := lid q0
  have Q1 := lid q1
  go_wp2_with fail
  clear q0 q1
  go_loopw [5] (fun i wr => ∃ (k : Nat), k ≤ n ∧ i = .int .i64 k ∧ Below W.heap.size W wr) (fun i _ => n - (intOf i).toNat)
  case atStart => exact ⟨0, Nat.zero_le _, rfl, Below.refl _ _⟩
  case round =>
    obtain ⟨k, hk, rfl, hb⟩ := hrel
    have hq0 := (bc hb (by omega) 0).trans Q0.out
    have hq1 := (bc hb hlt 0).trans Q1.out
    have l0 : w.heap.size < wr.heap.size := by have := hb.size; omega
    have l1 : w.heap.size + 1 < wr.heap.size := by have := hb.size; omega
    by_cases hk' : k < n
    · have hkl : k < l.length := by rw [HN.out]; exact hk'
      obtain ⟨b1, o1, rfl, hlb1, hd1⟩ := (HA.out.below hb).sl.at_ hk'
      obtain ⟨b2, o2, rfl, hlb2, hd2⟩ := (HB.out.below hb).sl.at_ hk'
      have x0 := hd1 (k * 4 + 0) _ (rcells_at hkl).1
      have x1 := hd1 (k * 4 + 1) _ (rcells_at hkl).2.1
      have x2 := hd1 (k * 4 + 2) _ (rcells_at hkl).2.2.1
      have x3 := hd1 (k * 4 + 3) _ (rcells_at hkl).2.2.2
      have y0 := hd2 (k * 4 + 0) _ (rcells_at hkl).1
      have y1 := hd2 (k * 4 + 1) _ (rcells_at hkl).2.1
      have y2 := hd2 (k * 4 + 2) _ (rcells_at hkl).2.2.1
      have y3 := hd2 (k * 4 + 3) _ (rcells_at hkl).2.2.2
      rw [← Nat.add_assoc] at x1 x2 x3 y1 y2 y3
      rw [Nat.add_zero] at x0 y0
      clear hd1 hd2
      obtain ⟨r, hrk⟩ : ∃ r, l[k] = r := ⟨_, rfl⟩
      rw [hrk] at x0 x1 x2 x3 y0 y1 y2 y3
      clear hrk
      have hdk : decide ((k : Int) < n) = true := by simp; omega
      have hdk' : decide (k < n) = true := by simpa using hk'
      go_wp2_with fail
      refine wp_region_seq (fun w' => ∃ s : Since wr.heap.size wr, w' = s.world) [(0, true), (1, true), (2, true), (3, true), (4, true), (5, true), (6, true), (7, true), (8, true), (9, true), (10, true)] (by kernel_rfl) (by kernel_rfl) (by intro c d v a w h; cases d <;> exact h) (since (Below.refl _ _).drew) ?_
      iterate 10 (first | (refine seq_skip (by rfl) (by rfl) ?_; simp only [Act.put, List.setIfInBounds_toArray, List.set_cons_succ, List.set_cons_zero]) | (refine seq_float (by rfl) (by rfl) (by rfl) ?_; intro K hK; go_big_quiet_op; go_big_quiet_on))
      refine seq_float (by rfl) (by rfl) (by rfl) ?_; intro K hK
      refine quiet_ne_rec r _ _ rfl rfl rfl ?_
      simp only [Act.put, List.setIfInBounds_toArray, List.set_cons_succ, List.set_cons_zero]
      go_big_quiet_on
      refine seq_nil ?_
      go_wp2_with fail
      go_roundw
      case rel => exact ⟨k + 1, by omega, by go_num, hb.drew⟩
      case measure => simp [intOf]; omega
    · obtain rfl : k = n := by omega
      go_wp2_with fail
      go_ret
      exact ⟨rfl, hb0.trans (hb.mono hb0.size)⟩
end Go.Proofs.Ytnfekadnjblciaa

namespace Go.Proofs.Ytnfekadnjblciaa
open Go.RowKit

theorem str_list (a b : ByteArray) : (a.toList = b.toList) = (a = b) := by
  have := str_beq a b
  rw [Bool.eq_iff_iff] at this
  simpa using this
set_option maxRecDepth 100000 in
theorem quiet_eq_rec {C : World → Prop} {K : Act → Prop} {a : Act} {o : Oper} (r q : Rec) (v : Bool) (x y : Operand) (h : o.op = .binOp .eql 30 x y 30)
    (hx : a.eval x = rv r) (hy : a.eval y = rv q) (hv : decide (r = q) = v) (hk : K (a.put o.dst (.bool v))) : o.quiet Try.prog a C K := by
  refine ⟨.bool v, fun w _ => ?_, hk⟩
  subst hv
  unfold Oper.quietAt execOp
  rw [h]
  simp only [hx, hy]
  simp [go_sem]
  by_cases hq : r = q
  · subst hq
    simp
  · obtain ⟨t, a1, b1, d1⟩ := r
    obtain ⟨t', a2, b2, d2⟩ := q
    have e1 := str_list a1 a2
    have e2 := str_list b1 b2
    have e3 := str_list d1 d2
    simp only [e1, e2, e3, hq, decide_false]
    by_cases h1 : t = t'
    · by_cases h2 : a1 = a2
      · by_cases h3 : b1 = b2
        · by_cases h4 : d1 = d2
          · exact absurd (by rw [h1, h2, h3, h4]) hq
          · simp [h1, h2, h3, h4]
        · simp [h1, h2, h3]
      · simp [h1, h2]
    · simp [h1]
end Go.Proofs.Ytnfekadnjblciaa

namespace Go.Proofs.Ytnfekadnjblciaa
open Go.RowKit

def leafS (d : Dg) : List UInt8 := 0 :: bytesU d.1 d.2
def nodeS (a b : Dg) : List UInt8 := 1 :: (bytesU a.1 a.2 ++ bytesU b.1 b.2)
theorem leafS_inj {a b : Dg} (h : leafS a = leafS b) : a = b := bytesU_inj (List.cons.inj h).2
theorem nodeS_inj {a b c d : Dg} (h : nodeS a b = nodeS c d) : a = c ∧ b = d := nodes_inj (List.cons.inj h).2
/-- The strings that are hashed from a text up to the root of n. -/
def pathB (n i : Nat) (tx : List UInt8) (p : List Dg) : List (List UInt8) :=
  if n < 2 then [tx, leafS (ofU tx)]
  else if _h : p.length = 0 then [tx, leafS (ofU tx)]
  else if i < halfN n then pathB (halfN n) i tx p.dropLast ++ [nodeS (ofU ((pathB (halfN n) i tx p.dropLast).getLastD [])) (p.getLastD (0, 0))]
  else pathB (n - halfN n) (i - halfN n) tx p.dropLast ++ [nodeS (p.getLastD (0, 0)) (ofU ((pathB (n - halfN n) (i - halfN n) tx p.dropLast).getLastD []))]
termination_by p.length
decreasing_by all_goals (simp; omega)
theorem pathB_one {n : Nat} (h : n < 2) (i : Nat) (tx : List UInt8) (p : List Dg) : pathB n i tx p = [tx, leafS (ofU tx)] := by rw [pathB, if_pos h]
theorem pathB_nil (n i : Nat) (tx : List UInt8) : pathB n i tx [] = [tx, leafS (ofU tx)] := by
  rw [pathB]
  split
  · rfl
  · rw [dif_pos (show ([] : List Dg).length = 0 from rfl)]
theorem pathB_lo {n i : Nat} (h : 2 ≤ n) (hi : i < halfN n) (tx : List UInt8) (q : List Dg) (e : Dg) : pathB n i tx (q ++ [e]) = pathB (halfN n) i tx q ++ [nodeS (ofU ((pathB (halfN n) i tx q).getLastD [])) e] := by
  rw [pathB, if_neg (by omega), dif_neg (by simp), if_pos hi]
  simp
theorem pathB_hi {n i : Nat} (h : 2 ≤ n) (hi : ¬ i < halfN n) (tx : List UInt8) (q : List Dg) (e : Dg) : pathB n i tx (q ++ [e]) = pathB (n - halfN n) (i - halfN n) tx q ++ [nodeS e (ofU ((pathB (n - halfN n) (i - halfN n) tx q).getLastD []))] := by
  rw [pathB, if_neg (by omega), dif_neg (by simp), if_neg hi]
  simp
theorem pathB_len (m : Nat) : ∀ (p : List Dg) (n i : Nat) (tx : List UInt8), p.length ≤ m → 2 ≤ (pathB n i tx p).length ∧ (pathB n i tx p).length ≤ p.length + 2 := by
  induction m with
  | zero =>
    intro p n i tx h
    obtain rfl := List.eq_nil_of_length_eq_zero (by omega : p.length = 0)
    rw [pathB_nil]
    simp
  | succ m ih =>
    intro p n i tx h
    by_cases hn : n < 2
    · rw [pathB_one hn]; simp
    rcases List.eq_nil_or_concat p with rfl | ⟨q, e, hqe⟩
    · rw [pathB_nil]; simp
    · rw [List.concat_eq_append] at hqe
      subst hqe
      have hq : q.length ≤ m := by simp at h; omega
      by_cases hi : i < halfN n
      · rw [pathB_lo (by omega) hi]
        have := ih q (halfN n) i tx hq
        simp
        omega
      · rw [pathB_hi (by omega) hi]
        have := ih q (n - halfN n) (i - halfN n) tx hq
        simp
        omega
/-- The last string's digest is what the proof results in. -/
theorem pathB_last (m : Nat) : ∀ (p : List Dg) (n i : Nat) (tx : List UInt8), p.length ≤ m → 1 ≤ n → (resultD n i (ofU tx) p).2 = true → ofU ((pathB n i tx p).getLastD []) = (resultD n i (ofU tx) p).1 := by
  induction m with
  | zero =>
    intro p n i tx h h1 hok
    obtain rfl := List.eq_nil_of_length_eq_zero (by omega : p.length = 0)
    obtain rfl := result_nil_one hok
    rw [pathB_nil, resultD_one]
    rfl
  | succ m ih =>
    intro p n i tx h h1 hok
    by_cases hn : n = 1
    · subst hn
      rw [pathB_one (by omega), resultD_one]
      rfl
    rcases List.eq_nil_or_concat p with rfl | ⟨q, e, hqe⟩
    · exact absurd (result_nil_one hok) hn
    · rw [List.concat_eq_append] at hqe
      subst hqe
      have hq : q.length ≤ m := by simp at h; omega
      have hk0 := halfN_pos n
      have hk1 := halfN_lt (n := n) (by omega)
      by_cases hi : i < halfN n
      · rw [resultD_lo hn hi] at hok ⊢
        rw [pathB_lo (by omega) hi, List.getLastD_concat, ih q _ _ _ hq (by omega) hok]
        rfl
      · rw [resultD_hi hn hi] at hok ⊢
        rw [pathB_hi (by omega) hi, List.getLastD_concat, ih q _ _ _ hq (by omega) hok]
        rfl
/-- Two rows of strings have, at one place, two different ones with the same digest. -/
def Clash (A B : List (List UInt8)) : Prop := ∃ (k : Nat) (a b : List UInt8), A[k]? = some a ∧ B[k]? = some b ∧ a ≠ b ∧ ofU a = ofU b
theorem Clash.more {A B : List (List UInt8)} (h : Clash A B) (x y : List UInt8) : Clash (A ++ [x]) (B ++ [y]) := by
  obtain ⟨k, a, b, h1, h2, h3, h4⟩ := h
  have l1 := (List.getElem?_eq_some_iff.1 h1).1
  have l2 := (List.getElem?_eq_some_iff.1 h2).1
  exact ⟨k, a, b, by rw [List.getElem?_append_left l1]; exact h1, by rw [List.getElem?_append_left l2]; exact h2, h3, h4⟩
theorem Clash.last {A B : List (List UInt8)} (hl : A.length = B.length) {x y : List UInt8} (h : x ≠ y) (he : ofU x = ofU y) : Clash (A ++ [x]) (B ++ [y]) :=
  ⟨A.length, x, y, by simp, by rw [hl]; simp, h, he⟩
theorem path_same (m : Nat) : ∀ (p q : List Dg) (n i : Nat) (tx ty : List UInt8), p.length ≤ m → 1 ≤ n → (resultD n i (ofU tx) p).2 = true → (resultD n i (ofU ty) q).2 = true → (pathB n i tx p).length = (pathB n i ty q).length := by
  induction m with
  | zero =>
    intro p q n i tx ty h h1 hok hok'
    obtain rfl := List.eq_nil_of_length_eq_zero (by omega : p.length = 0)
    obtain rfl := result_nil_one hok
    obtain rfl := result_one_nil hok'
    rw [pathB_nil, pathB_nil]
    rfl
  | succ m ih =>
    intro p q n i tx ty h h1 hok hok'
    by_cases hn : n = 1
    · subst hn
      rw [pathB_one (by omega), pathB_one (by omega)]
      rfl
    rcases List.eq_nil_or_concat p with rfl | ⟨p, e, hqe⟩
    · exact absurd (result_nil_one hok) hn
    rcases List.eq_nil_or_concat q with rfl | ⟨q, f, hqf⟩
    · exact absurd (result_nil_one hok') hn
    rw [List.concat_eq_append] at hqe hqf
    subst hqe hqf
    have hp : p.length ≤ m := by simp at h; omega
    have hk0 := halfN_pos n
    have hk1 := halfN_lt (n := n) (by omega)
    by_cases hi : i < halfN n
    · rw [resultD_lo hn hi] at hok hok'
      rw [pathB_lo (by omega) hi, pathB_lo (by omega) hi, List.length_append, List.length_append, ih p q _ _ tx ty hp (by omega) hok hok']
      rfl
    · rw [resultD_hi hn hi] at hok hok'
      rw [pathB_hi (by omega) hi, pathB_hi (by omega) hi, List.length_append, List.length_append, ih p q _ _ tx ty hp (by omega) hok hok']
      rfl
theorem clash (m : Nat) : ∀ (p q : List Dg) (n i : Nat) (tx ty : List UInt8), p.length ≤ m → 1 ≤ n → (resultD n i (ofU tx) p).2 = true → (resultD n i (ofU ty) q).2 = true → (resultD n i (ofU tx) p).1 = (resultD n i (ofU ty) q).1 → tx ≠ ty → Clash (pathB n i tx p) (pathB n i ty q) := by
  have base : ∀ (i : Nat) (tx ty : List UInt8), (resultD 1 i (ofU tx) []).1 = (resultD 1 i (ofU ty) []).1 → tx ≠ ty → Clash (pathB 1 i tx []) (pathB 1 i ty []) := by
    intro i tx ty h hne
    rw [pathB_nil, pathB_nil]
    rw [resultD_one, resultD_one] at h
    by_cases hd : ofU tx = ofU ty
    · exact ⟨0, tx, ty, rfl, rfl, hne, hd⟩
    · exact ⟨1, _, _, rfl, rfl, fun e => hd (leafS_inj e), h⟩
  induction m with
  | zero =>
    intro p q n i tx ty h h1 hok hok' he hne
    obtain rfl := List.eq_nil_of_length_eq_zero (by omega : p.length = 0)
    obtain rfl := result_nil_one hok
    obtain rfl := result_one_nil hok'
    exact base i tx ty he hne
  | succ m ih =>
    intro p q n i tx ty h h1 hok hok' he hne
    by_cases hn : n = 1
    · subst hn
      obtain rfl := result_one_nil hok
      obtain rfl := result_one_nil hok'
      exact base i tx ty he hne
    rcases List.eq_nil_or_concat p with rfl | ⟨p, e, hqe⟩
    · exact absurd (result_nil_one hok) hn
    rcases List.eq_nil_or_concat q with rfl | ⟨q, f, hqf⟩
    · exact absurd (result_nil_one hok') hn
    rw [List.concat_eq_append] at hqe hqf
    subst hqe hqf
    have hp : p.length ≤ m := by simp at h; omega
    have hk0 := halfN_pos n
    have hk1 := halfN_lt (n := n) (by omega)
    by_cases hi : i < halfN n
    · rw [resultD_lo hn hi] at hok hok' he
      rw [resultD_lo hn hi] at he
      have L1 := pathB_last p.length p (halfN n) i tx (Nat.le_refl _) (by omega) hok
      have L2 := pathB_last q.length q (halfN n) i ty (Nat.le_refl _) (by omega) hok'
      have L3 := path_same p.length p q (halfN n) i tx ty (Nat.le_refl _) (by omega) hok hok'
      rw [pathB_lo (by omega) hi, pathB_lo (by omega) hi, L1, L2]
      by_cases hs : nodeS (resultD (halfN n) i (ofU tx) p).1 e = nodeS (resultD (halfN n) i (ofU ty) q).1 f
      · exact (ih p q (halfN n) i tx ty hp (by omega) hok hok' (nodeS_inj hs).1 hne).more _ _
      · exact Clash.last L3 hs he
    · rw [resultD_hi hn hi] at hok hok' he
      rw [resultD_hi hn hi] at he
      have L1 := pathB_last p.length p (n - halfN n) (i - halfN n) tx (Nat.le_refl _) (by omega) hok
      have L2 := pathB_last q.length q (n - halfN n) (i - halfN n) ty (Nat.le_refl _) (by omega) hok'
      have L3 := path_same p.length p q (n - halfN n) (i - halfN n) tx ty (Nat.le_refl _) (by omega) hok hok'
      rw [pathB_hi (by omega) hi, pathB_hi (by omega) hi, L1, L2]
      by_cases hs : nodeS e (resultD (n - halfN n) (i - halfN n) (ofU tx) p).1 = nodeS f (resultD (n - halfN n) (i - halfN n) (ofU ty) q).1
      · exact (ih p q (n - halfN n) (i - halfN n) tx ty hp (by omega) hok hok' (nodeS_inj hs).2 hne).more _ _
      · exact Clash.last L3 hs he

/-- The bytes of a number end where they end. -/
theorem putN_app (a : Nat) : ∀ (b : Nat) (s t : List UInt8), putN a ++ s = putN b ++ t → a = b ∧ s = t := by
  induction a using Nat.strongRecOn with
  | _ a ih =>
  intro b s t h
  by_cases ha : a < 128
  · rw [putN_lo ha] at h
    by_cases hb : b < 128
    · rw [putN_lo hb] at h
      obtain ⟨h1, h2⟩ := List.cons.inj h
      have := congrArg UInt8.toNat h1
      rw [ofNat_lo ha, ofNat_lo hb] at this
      exact ⟨this, h2⟩
    · rw [putN_hi hb] at h
      obtain ⟨h1, h2⟩ := List.cons.inj h
      have := congrArg UInt8.toNat h1
      rw [ofNat_lo ha, ofNat_hi] at this
      omega
  · rw [putN_hi ha] at h
    by_cases hb : b < 128
    · rw [putN_lo hb] at h
      obtain ⟨h1, h2⟩ := List.cons.inj h
      have := congrArg UInt8.toNat h1
      rw [ofNat_lo hb, ofNat_hi] at this
      omega
    · rw [putN_hi hb] at h
      obtain ⟨h1, h2⟩ := List.cons.inj h
      have := congrArg UInt8.toNat h1
      rw [ofNat_hi, ofNat_hi] at this
      obtain ⟨h3, h4⟩ := ih (a / 128) (by omega) (b / 128) s t h2
      exact ⟨by omega, h4⟩
theorem putT_app {l m s t : List UInt8} (h : putT l ++ s = putT m ++ t) : l = m ∧ s = t := by
  unfold putT at h
  rw [List.append_assoc, List.append_assoc] at h
  obtain ⟨h1, h2⟩ := putN_app _ _ _ _ h
  exact List.append_inj h2 h1
theorem bytes_ext {a b : ByteArray} (h : a.data.toList = b.data.toList) : a = b := by
  cases a
  cases b
  congr
  simpa using h
/-- Two valid records with the same text are one. -/
theorem recL_inj {r q : Rec} (hr : recB r = true) (hq : recB q = true) (h : recL r = recL q) : r = q := by
  obtain ⟨t, a, b, d⟩ := r
  obtain ⟨t', a', b', d'⟩ := q
  have wl : ∀ l : List UInt8, wordB l = true → l.length ≤ 65536 := fun l hl => by
    unfold wordB at hl
    simp only [Bool.and_eq_true, decide_eq_true_eq] at hl
    omega
  unfold recB at hr hq
  simp only [Bool.and_eq_true, decide_eq_true_eq] at hr hq
  obtain ⟨⟨r1, r2⟩, r3, r4, r5⟩ := hr
  obtain ⟨⟨q1, q2⟩, q3, q4, q5⟩ := hq
  have pI : ∀ n : Int, 0 ≤ n → n ≤ 1099511627776 → putI n = putN n.toNat := fun n h1 h2 => by unfold putI; rw [if_pos (by unfold putB; simp; omega)]
  have pX : ∀ l : List UInt8, l.length ≤ 65536 → putX l = putT l := fun l hl => by unfold putX; rw [if_pos hl]
  have e : putN t.toNat ++ (putT a.data.toList ++ (putT b.data.toList ++ (putT d.data.toList ++ []))) = putN t'.toNat ++ (putT a'.data.toList ++ (putT b'.data.toList ++ (putT d'.data.toList ++ []))) := by
    have := h
    unfold recL at this
    simp only at this
    rw [pI t r1 r2, pI t' q1 q2, pX _ (wl _ r3), pX _ (wl _ r4), pX d.data.toList (by simpa using r5), pX _ (wl _ q3), pX _ (wl _ q4), pX d'.data.toList (by simpa using q5)] at this
    simpa using this
  obtain ⟨e1, e⟩ := putN_app _ _ _ _ e
  obtain ⟨e2, e⟩ := putT_app e
  obtain ⟨e3, e⟩ := putT_app e
  obtain ⟨e4, e⟩ := putT_app e
  obtain rfl : t = t' := by omega
  rw [bytes_ext e2, bytes_ext e3, bytes_ext e4]
/-- Where a proof holds for another record than the ledger's, two different strings with the same digest are hashed. -/
theorem holds_clash {l : List Rec} (hc : checkL l = 0) {i : Nat} (hi : i < l.length) {r : Rec} {p : List Dg} (h : holdsB (headD l) l.length i r p = true) (hne : r ≠ l[i]) : (proveE l i).2 = 0 ∧ (pathB l.length i (recL r) p).length = (pathB l.length i (recL (l[i])) (proveE l i).1).length ∧ Clash (pathB l.length i (recL r) p) (pathB l.length i (recL (l[i])) (proveE l i).1) := by
  have hl := check_len hc
  have ⟨hp, ho⟩ := own_holds hc i hi
  have h2 : (proveE l i).2 = 0 := by rw [hp]
  have hnd : ¬ (((i : Nat) : Int) < 0 ∨ ((l.length : Nat) : Int) ≤ ((i : Nat) : Int) ∨ (10000 : Int) < ((l.length : Nat) : Int)) := by omega
  unfold holdsB at h ho
  rw [Bool.and_eq_true] at h ho
  obtain ⟨hr, hv⟩ := h
  obtain ⟨hq, hw⟩ := ho
  rw [verifyD_in _ _ _ (by omega)] at hv hw
  rw [Int.toNat_natCast, Int.toNat_natCast, Bool.and_eq_true] at hv hw
  obtain ⟨v1, v2⟩ := hv
  obtain ⟨w1, w2⟩ := hw
  have v2' := of_decide_eq_true v2
  have w2' := of_decide_eq_true w2
  have hx : recL r ≠ recL (l[i]) := fun e => hne (recL_inj hr hq e)
  exact ⟨h2, path_same p.length p _ l.length i _ _ (Nat.le_refl _) (by omega) v1 w1, clash p.length p _ l.length i _ _ (Nat.le_refl _) (by omega) v1 w1 (by rw [show (resultD l.length i (ofU (recL r)) p).1 = _ from v2', show (resultD l.length i (ofU (recL (l[i]))) (proveE l i).1).1 = _ from w2']) hx⟩
end Go.Proofs.Ytnfekadnjblciaa

namespace Go.Proofs.Ytnfekadnjblciaa
open Go.RowKit

def bcells (L : List (List UInt8)) : List Value := L.map fun l => .string (bstr l)
theorem bcells_append (A B : List (List UInt8)) : bcells (A ++ B) = bcells A ++ bcells B := by simp [bcells]
theorem bcells_at {L : List (List UInt8)} {k : Nat} {a : List UInt8} (h : L[k]? = some a) : (bcells L)[k]? = some (.string (bstr a)) := by simp [bcells, h]
theorem info_txt : (Try.prog.info? 9).map (fun i => (i.zero, i.size, i.bytes)) = some (some (.string ⟨#[]⟩), 1, 16) := by kernel_rfl
theorem of_b (l : List UInt8) (w : World) (hl : (bstr l).size ≤ maxLen) : Calls Try.prog 18 #[.string (bstr l)] w fun e w' => e = .returned (dv (ofU l)) ∧ Below w.heap.size w w' := by
  have h := refOf_any (bstr l) w hl
  rw [show (bstr l).data.toList = l by simp] at h
  exact h
theorem leaf_b (d : Dg) (w : World) : Calls Try.prog 40 #[dv d] w fun e w' => e = .returned (.string (bstr (leafS d))) ∧ Below w.heap.size w w' := refLeaf_any d.1 d.2 w
theorem node_b (a b : Dg) (w : World) : Calls Try.prog 42 #[dv a, dv b] w fun e w' => e = .returned (.string (bstr (nodeS a b))) ∧ Below w.heap.size w w' := refNode_any a.1 a.2 b.1 b.2 w
/-- The texts of a path are short. -/
theorem pathB_size (tx : List UInt8) (ht : (bstr tx).size ≤ maxLen) (m : Nat) : ∀ (p : List Dg) (n i : Nat), p.length ≤ m → ∀ x ∈ pathB n i tx p, (bstr x).size ≤ maxLen := by
  have hn : ∀ a b : Dg, (bstr (nodeS a b)).size ≤ maxLen := fun a b => by simp [nodeS, bytesU_length, maxLen]
  have hf : ∀ x ∈ [tx, leafS (ofU tx)], (bstr x).size ≤ maxLen := by
    intro x hx
    rcases List.mem_cons.1 hx with rfl | hx
    · exact ht
    · rw [List.mem_singleton.1 hx]
      simp [leafS, bytesU_length, maxLen]
  induction m with
  | zero =>
    intro p n i h
    obtain rfl := List.eq_nil_of_length_eq_zero (by omega : p.length = 0)
    rw [pathB_nil]
    exact hf
  | succ m ih =>
    intro p n i h
    by_cases h2 : n < 2
    · rw [pathB_one h2]
      exact hf
    rcases List.eq_nil_or_concat p with rfl | ⟨q, e, hqe⟩
    · rw [pathB_nil]
      exact hf
    · rw [List.concat_eq_append] at hqe
      subst hqe
      have hq : q.length ≤ m := by simp at h; omega
      intro x hx
      by_cases hi : i < halfN n
      · rw [pathB_lo (by omega) hi] at hx
        rcases List.mem_append.1 hx with hx | hx
        · exact ih q _ _ hq x hx
        · rw [List.mem_singleton.1 hx]
          exact hn _ _
      · rw [pathB_hi (by omega) hi] at hx
        rcases List.mem_append.1 hx with hx | hx
        · exact ih q _ _ hq x hx
        · rw [List.mem_singleton.1 hx]
          exact hn _ _

/-- What is known while two reads and a call come up in any order. -/
def RT (i j k : Nat) (X Y Z : Value) (W : World) (s : Nat → Bool) (vs : List Value) (w : World) : Prop :=
  ∃ x y z, vs = [x, y, z] ∧ Below W.heap.size W w ∧ (s i = true → x = X) ∧ (s j = true → y = Y) ∧ (s k = true → z = Z)
section
variable {i j k : Nat} {X Y Z : Value} {W w w' : World} {s : Nat → Bool} {x y z : Value}
theorem RT.start (i j k : Nat) (X Y Z : Value) (W : World) (s : Nat → Bool) (h0 : s i = false) (h1 : s j = false) (h2 : s k = false) : RT i j k X Y Z W s [undef, undef, undef] W.drew :=
  ⟨_, _, _, rfl, (Below.refl _ _).drew, fun h => (by rw [h0] at h; cases h), fun h => (by rw [h1] at h; cases h), fun h => (by rw [h2] at h; cases h)⟩
theorem RT.one (h : RT i j k X Y Z W s [x, y, z] w) (hj : j ≠ i) (hk : k ≠ i) : RT i j k X Y Z W (upd s i) [X, y, z] w := by
  obtain ⟨_, _, _, e, h0, h1, h2, h3⟩ := h
  cases e
  exact ⟨_, _, _, rfl, h0, fun _ => rfl, fun h => h2 (by rwa [upd_ne _ hj] at h), fun h => h3 (by rwa [upd_ne _ hk] at h)⟩
theorem RT.two (h : RT i j k X Y Z W s [x, y, z] w) (hi : i ≠ j) (hk : k ≠ j) (hb : Below w.heap.size w w') : RT i j k X Y Z W (upd s j) [x, Y, z] w' := by
  obtain ⟨_, _, _, e, h0, h1, h2, h3⟩ := h
  cases e
  exact ⟨_, _, _, rfl, h0.trans (hb.mono h0.size), fun h => h1 (by rwa [upd_ne _ hi] at h), fun _ => rfl, fun h => h3 (by rwa [upd_ne _ hk] at h)⟩
theorem RT.three (h : RT i j k X Y Z W s [x, y, z] w) (hi : i ≠ k) (hj : j ≠ k) : RT i j k X Y Z W (upd s k) [x, y, Z] w := by
  obtain ⟨_, _, _, e, h0, h1, h2, h3⟩ := h
  cases e
  exact ⟨_, _, _, rfl, h0, fun h => h1 (by rwa [upd_ne _ hi] at h), fun h => h2 (by rwa [upd_ne _ hj] at h), fun _ => rfl⟩
end

set_option maxRecDepth 100000 in
set_option maxHeartbeats 16000000 in
theorem path_any (r : Rec) (hr : RecS r) (m : Nat) : ∀ (p : List Dg) (n i : Nat) (po : Option Addr) (len pcap : Nat) (w : World), p.length = len → len ≤ m → len ≤ pcap → len ≤ 1000000 → 1 ≤ n → n ≤ 10000 → i < n → DSl w po p →
    Calls Try.prog 17 #[.int .i64 n, .int .i64 i, rv r, .slice po len pcap] w fun e w' => ∃ v', e = .returned v' ∧ w'.ownsRow w.heap.size 9 1 v' (pathB n i (recL r) p).length (bcells (pathB n i (recL r) p)) ∧ Below w.heap.size w w' := by
  obtain ⟨t, a, b, d⟩ := r
  have HT := lid (fun w => refText_any (t, a, b, d) w hr)
  have HS : (bstr (recL (t, a, b, d))).size ≤ maxLen := recL_len _
  generalize recL (t, a, b, d) = tx at *
  induction m with
  | zero =>
    intro p n i po len pcap w hp hm hpc hl6 h1 hn hi hs
    obtain rfl : len = 0 := by omega
    obtain rfl := List.eq_nil_of_length_eq_zero hp
    have hw0 := ba w (Obj.cells #[.int .i64 t, .string a, .string b, .string d] 30)
    have HF : pathB n i tx [] = [tx, leafS (ofU tx)] := pathB_nil _ _ _
    clear hp hs
    by_cases h2 : n < 2
    · have d1 : decide ((n : Int) < 2) = true := by simp; omega
      have d1' : decide (n < 2) = true := by simpa using h2
      have HV := lid HF
      clear HF
      go_enter Try.func17, Try.ntmps17
      go_wp2_with fail
      (with_reducible refine (HT.out _).mono ?_); rintro e w1 ⟨rfl, hb1⟩
      have hw1 := hw0.trans (hb1.mono hw0.size)
      go_wp2_with fail
      (with_reducible refine (of_b tx _ HS).mono ?_); rintro e w2 ⟨rfl, hb2⟩
      have hw2 := hw1.trans (hb2.mono hw1.size)
      go_wp2_with fail
      (with_reducible refine (leaf_b (ofU tx) _).mono ?_); rintro e w3 ⟨rfl, hb3⟩
      have hw3 := hw2.trans (hb3.mono hw2.size)
      go_wp2_with fail
      go_ret
      refine ⟨_, rfl, ?_, hw3.trans ((ba _ _).mono hw3.size)⟩
      rw [HV.out]
      exact World.ownsRow_lit w3 #[.string (bstr tx), .string (bstr (leafS (ofU tx)))] 2 hw3.size (by simp [maxLen]) rfl
    · have d1 : decide ((n : Int) < 2) = false := by simp; omega
      have d1' : decide (n < 2) = false := by simpa using h2
      have HV := lid HF
      clear HF
      go_enter Try.func17, Try.ntmps17
      go_wp2_with fail
      (with_reducible refine (HT.out _).mono ?_); rintro e w1 ⟨rfl, hb1⟩
      have hw1 := hw0.trans (hb1.mono hw0.size)
      go_wp2_with fail
      (with_reducible refine (of_b tx _ HS).mono ?_); rintro e w2 ⟨rfl, hb2⟩
      have hw2 := hw1.trans (hb2.mono hw1.size)
      go_wp2_with fail
      (with_reducible refine (leaf_b (ofU tx) _).mono ?_); rintro e w3 ⟨rfl, hb3⟩
      have hw3 := hw2.trans (hb3.mono hw2.size)
      go_wp2_with fail
      go_ret
      refine ⟨_, rfl, ?_, hw3.trans ((ba _ _).mono hw3.size)⟩
      rw [HV.out]
      exact World.ownsRow_lit w3 #[.string (bstr tx), .string (bstr (leafS (ofU tx)))] 2 hw3.size (by simp [maxLen]) rfl
  | succ m ih =>
    intro p n i po len pcap w hp hm hpc hl6 h1 hn hi0 hs
    have hw0 := ba w (Obj.cells #[.int .i64 t, .string a, .string b, .string d] 30)
    by_cases h2 : n < 2
    · have d1 : decide ((n : Int) < 2) = true := by simp; omega
      have d1' : decide (n < 2) = true := by simpa using h2
      have HF : pathB n i tx p = [tx, leafS (ofU tx)] := pathB_one h2 _ _ _
      clear hp hs ih
      have HV := lid HF
      clear HF
      go_enter Try.func17, Try.ntmps17
      go_wp2_with fail
      (with_reducible refine (HT.out _).mono ?_); rintro e w1 ⟨rfl, hb1⟩
      have hw1 := hw0.trans (hb1.mono hw0.size)
      go_wp2_with fail
      (with_reducible refine (of_b tx _ HS).mono ?_); rintro e w2 ⟨rfl, hb2⟩
      have hw2 := hw1.trans (hb2.mono hw1.size)
      go_wp2_with fail
      (with_reducible refine (leaf_b (ofU tx) _).mono ?_); rintro e w3 ⟨rfl, hb3⟩
      have hw3 := hw2.trans (hb3.mono hw2.size)
      go_wp2_with fail
      go_ret
      refine ⟨_, rfl, ?_, hw3.trans ((ba _ _).mono hw3.size)⟩
      rw [HV.out]
      exact World.ownsRow_lit w3 #[.string (bstr tx), .string (bstr (leafS (ofU tx)))] 2 hw3.size (by simp [maxLen]) rfl
    have d1 : decide ((n : Int) < 2) = false := by simp; omega
    have d1' : decide (n < 2) = false := by simpa using h2
    rcases List.eq_nil_or_concat p with rfl | ⟨q, e, hqe⟩
    · obtain rfl : len = 0 := hp.symm
      have HF : pathB n i tx [] = [tx, leafS (ofU tx)] := pathB_nil _ _ _
      clear hp hs ih
      have HV := lid HF
      clear HF
      go_enter Try.func17, Try.ntmps17
      go_wp2_with fail
      (with_reducible refine (HT.out _).mono ?_); rintro e w1 ⟨rfl, hb1⟩
      have hw1 := hw0.trans (hb1.mono hw0.size)
      go_wp2_with fail
      (with_reducible refine (of_b tx _ HS).mono ?_); rintro e w2 ⟨rfl, hb2⟩
      have hw2 := hw1.trans (hb2.mono hw1.size)
      go_wp2_with fail
      (with_reducible refine (leaf_b (ofU tx) _).mono ?_); rintro e w3 ⟨rfl, hb3⟩
      have hw3 := hw2.trans (hb3.mono hw2.size)
      go_wp2_with fail
      go_ret
      refine ⟨_, rfl, ?_, hw3.trans ((ba _ _).mono hw3.size)⟩
      rw [HV.out]
      exact World.ownsRow_lit w3 #[.string (bstr tx), .string (bstr (leafS (ofU tx)))] 2 hw3.size (by simp [maxLen]) rfl
    · rw [List.concat_eq_append] at hqe
      subst hqe
      have IH := lid ih
      obtain rfl : q.length + 1 = len := by simpa using hp
      obtain ⟨pb, po, rfl, hpb, hpcs⟩ : ∃ b off, po = some ⟨b, off, none⟩ ∧ b < w.heap.size ∧ DCells w b off (q ++ [e]) := hs.resolve_left (by simp)
      obtain ⟨ce0, ce1⟩ := hpcs q.length (by simp)
      rw [List.getElem_concat_length rfl] at ce0 ce1
      have hsq : DSl w (some ⟨pb, po, none⟩) q := .inr ⟨pb, po, rfl, hpb, by have := hpcs.take q.length; rwa [List.take_left' rfl] at this⟩
      have hn2 : 2 ≤ n := by omega
      have hn6 : n ≤ 1099511627776 := by omega
      have hk0 := halfN_pos n
      have hk1 : halfN n < n := halfN_lt hn2
      have hq0 : ((q.length : Int) + 1 == 0) = false := by simp; omega
      have CE0 := lid ce0
      have CE1 := lid ce1
      clear ih hpcs ce0 ce1 hs hp h2
      by_cases hi : i < halfN n
      · have HC : Hid (∀ w1, DSl w1 (some ⟨pb, po, none⟩) q → Calls Try.prog 17 #[.int .i64 ((halfN n : Nat) : Int), .int .i64 ((i : Nat) : Int), rv (t, a, b, d), .slice (some ⟨pb, po, none⟩) q.length pcap] w1 fun e w' => ∃ v', e = .returned v' ∧ w'.ownsRow w1.heap.size 9 1 v' (pathB (halfN n) i tx q).length (bcells (pathB (halfN n) i tx q)) ∧ Below w1.heap.size w1 w') := lid fun w1 h1 => by
          have h := IH.out q (halfN n) i (some ⟨pb, po, none⟩) q.length pcap w1 rfl (by omega) (by omega) (by omega) (by omega) (by omega) (by omega) h1
          exact h
        have HL2 := pathB_len q.length q (halfN n) i tx (Nat.le_refl _)
        have HZ0 := pathB_size tx HS q.length q (halfN n) i (Nat.le_refl _)
        have HV0 := pathB_lo hn2 hi tx q e
        obtain ⟨P, hP⟩ : ∃ P, pathB (halfN n) i tx q = P := ⟨_, rfl⟩
        rw [hP] at HC HL2 HV0 HZ0
        clear hP
        rcases List.eq_nil_or_concat P with rfl | ⟨P, z, hPz⟩
        · exfalso
          have := HL2.1
          simp at this
        rw [List.concat_eq_append] at hPz
        subst hPz
        rw [List.getLastD_concat] at HV0
        have HV := lid HV0
        have CZ := lid (fun w => of_b z w (HZ0 z (by simp)))
        have HPL : Hid (P.length + 1 ≤ q.length + 2) := lid (by have := HL2.2; simpa using this)
        have hP10 : P.length ≤ 1000001 := by have := HPL.out; omega
        clear HV0 HZ0 HL2
        have hik : (i : Int) < ((halfN n : Nat) : Int) := by omega
        have hik' : decide (i < halfN n) = true := by simpa using hi
        clear hi
        go_enter Try.func17, Try.ntmps17
        go_wp2_with fail
        obtain ⟨W0, hW0⟩ : ∃ W0, w.alloc (Obj.cells #[.int .i64 t, .string a, .string b, .string d] 30) = W0 := ⟨_, rfl⟩
        have r0 : W0.cell? ⟨w.heap.size, 0, none⟩ = some (.int .i64 t) := by rw [← hW0]; simp
        have r1 : W0.cell? ⟨w.heap.size, 1, none⟩ = some (.string a) := by rw [← hW0]; simp
        have r2 : W0.cell? ⟨w.heap.size, 2, none⟩ = some (.string b) := by rw [← hW0]; simp
        have r3 : W0.cell? ⟨w.heap.size, 3, none⟩ = some (.string d) := by rw [← hW0]; simp
        have l0 : w.heap.size < W0.heap.size := by rw [← hW0]; simp
        rw [hW0] at hw0 ⊢
        clear hW0
        (with_reducible refine (HT.out _).mono ?_); rintro e w1 ⟨rfl, hb1⟩
        have hw1 := hw0.trans (hb1.mono hw0.size)
        have c0 := (bc hw1 hpb (po + q.length * 2)).trans CE0.out
        have c1 := (bc hw1 hpb (po + q.length * 2 + 1)).trans CE1.out
        replace r0 := (bc hb1 l0 0).trans r0
        replace r1 := (bc hb1 l0 1).trans r1
        replace r2 := (bc hb1 l0 2).trans r2
        replace r3 := (bc hb1 l0 3).trans r3
        replace l0 : w.heap.size < w1.heap.size := by have := hb1.size; omega
        clear hw0 hb1
        go_wp2_with fail
        obtain ⟨W1, hW1⟩ : ∃ W1, w1.alloc (Obj.cells #[.int .u64 e.1.toNat, .int .u64 e.2.toNat] 37) = W1 := ⟨_, rfl⟩
        have hb1 : Below w1.heap.size w1 W1 := by rw [← hW1]; exact ba _ _
        have e0 : W1.cell? ⟨w1.heap.size, 0, none⟩ = some (.int .u64 e.1.toNat) := by rw [← hW1]; simp
        have e1 : W1.cell? ⟨w1.heap.size, 1, none⟩ = some (.int .u64 e.2.toNat) := by rw [← hW1]; simp
        have le : w1.heap.size < W1.heap.size := by rw [← hW1]; simp
        rw [hW1]
        clear hW1 c0 c1
        (with_reducible refine (refLeft56_any n _ hn2 hn6).mono ?_); rintro e w2 ⟨rfl, rfl⟩
        have q0 := (bc hb1 l0 0).trans r0
        have q1 := (bc hb1 l0 1).trans r1
        have q2 := (bc hb1 l0 2).trans r2
        have q3 := (bc hb1 l0 3).trans r3
        have l0' : w.heap.size < W1.heap.size := by have := hb1.size; omega
        have hw2 := hw1.trans (hb1.mono hw1.size)
        have HSQ := lid (hsq.below hw2)
        clear r0 r1 r2 r3 hsq
        go_wp2_with fail
        refine wp_region_seq (fun w' => ∃ s : Since W1.heap.size W1, w' = s.world) [(0, true), (1, true), (2, true), (3, true), (4, true), (5, true), (6, true), (7, true), (8, false), (9, false)] (by kernel_rfl) (by kernel_rfl) (by intro c d v a w h; cases d <;> exact h) (since (Below.refl _ _).drew) ?_
        repeat (first | (refine seq_skip (by rfl) (by rfl) ?_; simp only [Act.put, List.setIfInBounds_toArray, List.set_cons_succ, List.set_cons_zero]) | (refine seq_float (by rfl) (by rfl) (by rfl) ?_; intro K hK; go_big_quiet_op; go_big_quiet_on))
        refine seq_chain (by rfl) ?_
        intro K hK
        go_wp2_with fail
        (with_reducible refine (HC.out _ (HSQ.out.below (Below.refl _ _).drew)).mono ?_); rintro e w3 ⟨v3, rfl, hown, hb3⟩
        have h3 : Below W1.heap.size W1 w3 := (Below.refl _ _).drew.trans hb3
        go_wp2_with fail
        refine hK.out _ _ (since h3) ?_
        clear hK K
        repeat (first | (refine seq_skip (by rfl) (by rfl) ?_; simp only [Act.put, List.setIfInBounds_toArray, List.set_cons_succ, List.set_cons_zero]) | (refine seq_float (by rfl) (by rfl) (by rfl) ?_; intro K hK; go_big_quiet_op; go_big_quiet_on))
        refine seq_chain (by rfl) ?_
        intro K hK
        go_wp2_with fail
        refine hK.out _ _ (since h3) ?_
        clear hK K
        repeat (first | (refine seq_skip (by rfl) (by rfl) ?_; simp only [Act.put, List.setIfInBounds_toArray, List.set_cons_succ, List.set_cons_zero]) | (refine seq_float (by rfl) (by rfl) (by rfl) ?_; intro K hK; go_big_quiet_op; go_big_quiet_on))
        refine seq_nil ?_
        have hw3 := hw2.trans (h3.mono hw2.size)
        rw [List.length_append, show ([z] : List (List UInt8)).length = 1 from rfl] at hown
        have HOWN := lid (ownsRow_base hown hw2.size)
        obtain ⟨ao3, cap3, rfl, hcap3, hmax3, hsl3⟩ := Sl.of_own hown
        obtain ⟨b3, o3, rfl, hlz, hcell⟩ := hsl3.at_ (k := P.length) (by omega)
        have z3 := hcell P.length _ (bcells_at (L := P ++ [z]) (k := P.length) (a := z) (by simp))
        have e30 := (bc h3 le 0).trans e0
        have e31 := (bc h3 le 1).trans e1
        have hle : w1.heap.size < w3.heap.size := by have := h3.size; omega
        clear hcell hsl3 hown q0 q1 q2 q3 l0 l0' e0 e1
        go_wp2_with fail
        refine wp_region_mix (fun w' => ∃ s : Since w.heap.size w, w' = s.world) [(0, true), (1, true), (2, true), (3, true), (4, true), (5, true)] [(6, []), (7, [6]), (8, [])] [(9, false), (10, false), (11, false), (12, false)] (by kernel_rfl) (by kernel_rfl) (by intro c d v a w h; cases d <;> exact h) (since hw3.drew) ?_
        repeat (first | (refine seq_skip (by rfl) (by rfl) ?_; simp only [Act.put, List.setIfInBounds_toArray, List.set_cons_succ, List.set_cons_zero]) | (refine seq_float (by rfl) (by rfl) (by rfl) ?_; intro K hK; go_big_quiet_op; go_big_quiet_on))
        refine seq_nil (mix_go [54, 55, 56] [undef, undef, undef] (RT 6 7 8 (.string (bstr z)) (dv (ofU z)) (dv e) w3) rfl (by simp only [putAll, Act.put, List.setIfInBounds_toArray, List.set_cons_succ, List.set_cons_zero]) (fun s h => RT.start _ _ _ _ _ _ _ s (h (6, []) (by simp)) (h (7, [6]) (by simp)) (h (8, []) (by simp))) ⟨?_, ?_, ?_, trivial⟩ ?_)
        · intro s vs w5 _ _ hneed _ hR
          have hR' := lid hR
          obtain ⟨x, y, u, rfl, hB1, hx, -, -⟩ := hR
          have z4 := (bc hB1 hlz _).trans z3
          have lz4 : b3 < w5.heap.size := by have := hB1.size; omega
          clear hx
          simp only [putAll, Act.put, List.setIfInBounds_toArray, List.set_cons_succ, List.set_cons_zero]
          refine mix_op (by rfl) ?_
          intro K hK
          go_wp2_with fail
          exact hK.out _ _ ⟨since (hw3.trans (hB1.mono hw3.size)), [.string (bstr z), y, u], rfl, by simp only [putAll, Act.put, List.setIfInBounds_toArray, List.set_cons_succ, List.set_cons_zero], hR'.out.one (by decide) (by decide)⟩
        · intro s vs w5 _ _ hneed _ hR
          have hR' := lid hR
          obtain ⟨x, y, u, rfl, hB1, hx, -, -⟩ := hR
          obtain rfl := hx (hneed 6 (by simp))
          simp only [putAll, Act.put, List.setIfInBounds_toArray, List.set_cons_succ, List.set_cons_zero]
          refine mix_op (by rfl) ?_
          intro K hK
          go_wp2_with fail
          (with_reducible refine (CZ.out _).mono ?_); rintro e w6 ⟨rfl, hb6⟩
          go_wp2_with fail
          exact hK.out _ _ ⟨since (hw3.trans ((hB1.trans (hb6.mono hB1.size)).mono hw3.size)), [.string (bstr z), dv (ofU z), u], rfl, by simp only [putAll, Act.put, List.setIfInBounds_toArray, List.set_cons_succ, List.set_cons_zero], hR'.out.two (by decide) (by decide) hb6⟩
        · intro s vs w5 _ _ hneed _ hR
          have hR' := lid hR
          obtain ⟨x, y, u, rfl, hB1, hx, -, -⟩ := hR
          have e4 := (bc hB1 hle 0).trans e30
          have e5 := (bc hB1 hle 1).trans e31
          have le4 : w1.heap.size < w5.heap.size := by have := hB1.size; omega
          clear hx
          simp only [putAll, Act.put, List.setIfInBounds_toArray, List.set_cons_succ, List.set_cons_zero]
          refine mix_op (by rfl) ?_
          intro K hK
          go_wp2_with fail
          exact hK.out _ _ ⟨since (hw3.trans (hB1.mono hw3.size)), [x, y, dv e], rfl, by simp only [putAll, Act.put, List.setIfInBounds_toArray, List.set_cons_succ, List.set_cons_zero], hR'.out.three (by decide) (by decide)⟩
        · intro s vs w5 _ hall _ hR
          obtain ⟨x, y, u, rfl, hB1, hx, hy, hu⟩ := hR
          obtain rfl := hx (hall (6, []) (by simp))
          obtain rfl := hy (hall (7, [6]) (by simp))
          obtain rfl := hu (hall (8, []) (by simp))
          clear hall hx hy hu z3 e30 e31
          simp only [putAll, Act.put, List.setIfInBounds_toArray, List.set_cons_succ, List.set_cons_zero]
          have hw5 := hw3.trans (hB1.mono hw3.size)
          refine seq_chain (by rfl) ?_
          intro K hK
          go_wp2_with fail
          (with_reducible refine (node_b (ofU z) e _).mono ?_); rintro e w6 ⟨rfl, hb6⟩
          have hw6 := hw5.trans (hb6.mono hw5.size)
          have hown6 := ownsRow_below (ownsRow_below HOWN.out hB1) hb6
          go_wp2_with fail
          refine hK.out _ _ (since hw6) ?_
          clear hK K
          repeat (first | (refine seq_skip (by rfl) (by rfl) ?_; simp only [Act.put, List.setIfInBounds_toArray, List.set_cons_succ, List.set_cons_zero]) | (refine seq_float (by rfl) (by rfl) (by rfl) ?_; intro K hK; go_big_quiet_op; go_big_quiet_on))
          refine seq_chain (by rfl) ?_
          intro K hK
          go_wp2_with fail
          refine hK.out _ _ (since (hw6.alloc hw6.size _)) ?_
          clear hK K
          repeat (first | (refine seq_skip (by rfl) (by rfl) ?_; simp only [Act.put, List.setIfInBounds_toArray, List.set_cons_succ, List.set_cons_zero]) | (refine seq_float (by rfl) (by rfl) (by rfl) ?_; intro K hK; go_big_quiet_op; go_big_quiet_on))
          refine seq_chain (by rfl) ?_
          intro K hK
          go_wp2_with (at_builtin; go_must (refine wpList_append_new #[.string (bstr (nodeS (ofU z) e))] rfl _ _ 39 rfl w.heap.size 9 (.string ⟨#[]⟩) 1 16 info_txt Try.underlying39 rfl (by decide) _ _ _ hown6 rfl rfl rfl (by simp [Value.oneCell']) (by simp only [maxLen]; omega) (by omega) hw6.size ?_))
          intro v7 w7 hown7 hb7 _
          have hw7 := hw6.trans hb7
          go_wp2_with fail
          refine hK.out _ _ (since hw7) ?_
          clear hK K
          repeat (first | (refine seq_skip (by rfl) (by rfl) ?_; simp only [Act.put, List.setIfInBounds_toArray, List.set_cons_succ, List.set_cons_zero]) | (refine seq_float (by rfl) (by rfl) (by rfl) ?_; intro K hK; go_big_quiet_op; go_big_quiet_on))
          refine seq_chain (by rfl) ?_
          intro K hK
          go_wp2_with fail
          refine hK.out _ _ (since hw7) ?_
          clear hK K
          repeat (first | (refine seq_skip (by rfl) (by rfl) ?_; simp only [Act.put, List.setIfInBounds_toArray, List.set_cons_succ, List.set_cons_zero]) | (refine seq_float (by rfl) (by rfl) (by rfl) ?_; intro K hK; go_big_quiet_op; go_big_quiet_on))
          refine seq_nil ?_
          go_wp2_with fail
          go_ret
          refine ⟨_, rfl, ?_, hw7⟩
          rw [HV.out, bcells_append, List.length_append, List.length_append]
          exact hown7
      · have HC : Hid (∀ w1, DSl w1 (some ⟨pb, po, none⟩) q → Calls Try.prog 17 #[.int .i64 ((n : Int) - ((halfN n : Nat) : Int)), .int .i64 ((i : Int) - ((halfN n : Nat) : Int)), rv (t, a, b, d), .slice (some ⟨pb, po, none⟩) q.length pcap] w1 fun e w' => ∃ v', e = .returned v' ∧ w'.ownsRow w1.heap.size 9 1 v' (pathB (n - halfN n) (i - halfN n) tx q).length (bcells (pathB (n - halfN n) (i - halfN n) tx q)) ∧ Below w1.heap.size w1 w') := lid fun w1 h1 => by
          have h := IH.out q (n - halfN n) (i - halfN n) (some ⟨pb, po, none⟩) q.length pcap w1 rfl (by omega) (by omega) (by omega) (by omega) (by omega) (by omega) h1
          simpa [Int.natCast_sub (Nat.le_of_lt hk1), Int.natCast_sub (Nat.le_of_not_lt hi)] using h
        have HL2 := pathB_len q.length q (n - halfN n) (i - halfN n) tx (Nat.le_refl _)
        have HZ0 := pathB_size tx HS q.length q (n - halfN n) (i - halfN n) (Nat.le_refl _)
        have HV0 := pathB_hi hn2 hi tx q e
        obtain ⟨P, hP⟩ : ∃ P, pathB (n - halfN n) (i - halfN n) tx q = P := ⟨_, rfl⟩
        rw [hP] at HC HL2 HV0 HZ0
        clear hP
        rcases List.eq_nil_or_concat P with rfl | ⟨P, z, hPz⟩
        · exfalso
          have := HL2.1
          simp at this
        rw [List.concat_eq_append] at hPz
        subst hPz
        rw [List.getLastD_concat] at HV0
        have HV := lid HV0
        have CZ := lid (fun w => of_b z w (HZ0 z (by simp)))
        have HPL : Hid (P.length + 1 ≤ q.length + 2) := lid (by have := HL2.2; simpa using this)
        have hP10 : P.length ≤ 1000001 := by have := HPL.out; omega
        clear HV0 HZ0 HL2
        have hik : ((halfN n : Nat) : Int) ≤ (i : Int) := by omega
        have hik' : decide (i < halfN n) = false := by simpa using hi
        clear hi
        go_enter Try.func17, Try.ntmps17
        go_wp2_with fail
        obtain ⟨W0, hW0⟩ : ∃ W0, w.alloc (Obj.cells #[.int .i64 t, .string a, .string b, .string d] 30) = W0 := ⟨_, rfl⟩
        have r0 : W0.cell? ⟨w.heap.size, 0, none⟩ = some (.int .i64 t) := by rw [← hW0]; simp
        have r1 : W0.cell? ⟨w.heap.size, 1, none⟩ = some (.string a) := by rw [← hW0]; simp
        have r2 : W0.cell? ⟨w.heap.size, 2, none⟩ = some (.string b) := by rw [← hW0]; simp
        have r3 : W0.cell? ⟨w.heap.size, 3, none⟩ = some (.string d) := by rw [← hW0]; simp
        have l0 : w.heap.size < W0.heap.size := by rw [← hW0]; simp
        rw [hW0] at hw0 ⊢
        clear hW0
        (with_reducible refine (HT.out _).mono ?_); rintro e w1 ⟨rfl, hb1⟩
        have hw1 := hw0.trans (hb1.mono hw0.size)
        have c0 := (bc hw1 hpb (po + q.length * 2)).trans CE0.out
        have c1 := (bc hw1 hpb (po + q.length * 2 + 1)).trans CE1.out
        replace r0 := (bc hb1 l0 0).trans r0
        replace r1 := (bc hb1 l0 1).trans r1
        replace r2 := (bc hb1 l0 2).trans r2
        replace r3 := (bc hb1 l0 3).trans r3
        replace l0 : w.heap.size < w1.heap.size := by have := hb1.size; omega
        clear hw0 hb1
        go_wp2_with fail
        obtain ⟨W1, hW1⟩ : ∃ W1, w1.alloc (Obj.cells #[.int .u64 e.1.toNat, .int .u64 e.2.toNat] 37) = W1 := ⟨_, rfl⟩
        have hb1 : Below w1.heap.size w1 W1 := by rw [← hW1]; exact ba _ _
        have e0 : W1.cell? ⟨w1.heap.size, 0, none⟩ = some (.int .u64 e.1.toNat) := by rw [← hW1]; simp
        have e1 : W1.cell? ⟨w1.heap.size, 1, none⟩ = some (.int .u64 e.2.toNat) := by rw [← hW1]; simp
        have le : w1.heap.size < W1.heap.size := by rw [← hW1]; simp
        rw [hW1]
        clear hW1 c0 c1
        (with_reducible refine (refLeft56_any n _ hn2 hn6).mono ?_); rintro e w2 ⟨rfl, rfl⟩
        have q0 := (bc hb1 l0 0).trans r0
        have q1 := (bc hb1 l0 1).trans r1
        have q2 := (bc hb1 l0 2).trans r2
        have q3 := (bc hb1 l0 3).trans r3
        have l0' : w.heap.size < W1.heap.size := by have := hb1.size; omega
        have hw2 := hw1.trans (hb1.mono hw1.size)
        have HSQ := lid (hsq.below hw2)
        clear r0 r1 r2 r3 hsq
        go_wp2_with fail
        refine wp_region_seq (fun w' => ∃ s : Since W1.heap.size W1, w' = s.world) [(0, true), (1, true), (2, true), (3, true), (4, true), (5, true), (6, true), (7, true), (8, true), (9, true), (10, true), (11, true), (12, false), (13, false)] (by kernel_rfl) (by kernel_rfl) (by intro c d v a w h; cases d <;> exact h) (since (Below.refl _ _).drew) ?_
        repeat (first | (refine seq_skip (by rfl) (by rfl) ?_; simp only [Act.put, List.setIfInBounds_toArray, List.set_cons_succ, List.set_cons_zero]) | (refine seq_float (by rfl) (by rfl) (by rfl) ?_; intro K hK; go_big_quiet_op; go_big_quiet_on))
        refine seq_chain (by rfl) ?_
        intro K hK
        go_wp2_with fail
        (with_reducible refine (HC.out _ (HSQ.out.below (Below.refl _ _).drew)).mono ?_); rintro e w3 ⟨v3, rfl, hown, hb3⟩
        have h3 : Below W1.heap.size W1 w3 := (Below.refl _ _).drew.trans hb3
        go_wp2_with fail
        refine hK.out _ _ (since h3) ?_
        clear hK K
        repeat (first | (refine seq_skip (by rfl) (by rfl) ?_; simp only [Act.put, List.setIfInBounds_toArray, List.set_cons_succ, List.set_cons_zero]) | (refine seq_float (by rfl) (by rfl) (by rfl) ?_; intro K hK; go_big_quiet_op; go_big_quiet_on))
        refine seq_chain (by rfl) ?_
        intro K hK
        go_wp2_with fail
        refine hK.out _ _ (since h3) ?_
        clear hK K
        repeat (first | (refine seq_skip (by rfl) (by rfl) ?_; simp only [Act.put, List.setIfInBounds_toArray, List.set_cons_succ, List.set_cons_zero]) | (refine seq_float (by rfl) (by rfl) (by rfl) ?_; intro K hK; go_big_quiet_op; go_big_quiet_on))
        refine seq_nil ?_
        have hw3 := hw2.trans (h3.mono hw2.size)
        rw [List.length_append, show ([z] : List (List UInt8)).length = 1 from rfl] at hown
        have HOWN := lid (ownsRow_base hown hw2.size)
        obtain ⟨ao3, cap3, rfl, hcap3, hmax3, hsl3⟩ := Sl.of_own hown
        obtain ⟨b3, o3, rfl, hlz, hcell⟩ := hsl3.at_ (k := P.length) (by omega)
        have z3 := hcell P.length _ (bcells_at (L := P ++ [z]) (k := P.length) (a := z) (by simp))
        have e30 := (bc h3 le 0).trans e0
        have e31 := (bc h3 le 1).trans e1
        have hle : w1.heap.size < w3.heap.size := by have := h3.size; omega
        clear hcell hsl3 hown q0 q1 q2 q3 l0 l0' e0 e1
        go_wp2_with fail
        refine wp_region_mix (fun w' => ∃ s : Since w.heap.size w, w' = s.world) [(0, true), (2, true), (3, true), (4, true), (5, true), (6, true)] [(1, []), (7, []), (8, [7])] [(9, false), (10, false), (11, false), (12, false)] (by kernel_rfl) (by kernel_rfl) (by intro c d v a w h; cases d <;> exact h) (since hw3.drew) ?_
        repeat (first | (refine seq_skip (by rfl) (by rfl) ?_; simp only [Act.put, List.setIfInBounds_toArray, List.set_cons_succ, List.set_cons_zero]) | (refine seq_float (by rfl) (by rfl) (by rfl) ?_; intro K hK; go_big_quiet_op; go_big_quiet_on))
        refine seq_nil (mix_go [80, 81, 74] [undef, undef, undef] (RT 7 8 1 (.string (bstr z)) (dv (ofU z)) (dv e) w3) rfl (by simp only [putAll, Act.put, List.setIfInBounds_toArray, List.set_cons_succ, List.set_cons_zero]) (fun s h => RT.start _ _ _ _ _ _ _ s (h (7, []) (by simp)) (h (8, [7]) (by simp)) (h (1, []) (by simp))) ⟨?_, ?_, ?_, trivial⟩ ?_)
        · intro s vs w5 _ _ hneed _ hR
          have hR' := lid hR
          obtain ⟨x, y, u, rfl, hB1, hx, -, -⟩ := hR
          have e4 := (bc hB1 hle 0).trans e30
          have e5 := (bc hB1 hle 1).trans e31
          have le4 : w1.heap.size < w5.heap.size := by have := hB1.size; omega
          clear hx
          simp only [putAll, Act.put, List.setIfInBounds_toArray, List.set_cons_succ, List.set_cons_zero]
          refine mix_op (by rfl) ?_
          intro K hK
          go_wp2_with fail
          exact hK.out _ _ ⟨since (hw3.trans (hB1.mono hw3.size)), [x, y, dv e], rfl, by simp only [putAll, Act.put, List.setIfInBounds_toArray, List.set_cons_succ, List.set_cons_zero], hR'.out.three (by decide) (by decide)⟩
        · intro s vs w5 _ _ hneed _ hR
          have hR' := lid hR
          obtain ⟨x, y, u, rfl, hB1, hx, -, -⟩ := hR
          have z4 := (bc hB1 hlz _).trans z3
          have lz4 : b3 < w5.heap.size := by have := hB1.size; omega
          clear hx
          simp only [putAll, Act.put, List.setIfInBounds_toArray, List.set_cons_succ, List.set_cons_zero]
          refine mix_op (by rfl) ?_
          intro K hK
          go_wp2_with fail
          exact hK.out _ _ ⟨since (hw3.trans (hB1.mono hw3.size)), [.string (bstr z), y, u], rfl, by simp only [putAll, Act.put, List.setIfInBounds_toArray, List.set_cons_succ, List.set_cons_zero], hR'.out.one (by decide) (by decide)⟩
        · intro s vs w5 _ _ hneed _ hR
          have hR' := lid hR
          obtain ⟨x, y, u, rfl, hB1, hx, -, -⟩ := hR
          obtain rfl := hx (hneed 7 (by simp))
          simp only [putAll, Act.put, List.setIfInBounds_toArray, List.set_cons_succ, List.set_cons_zero]
          refine mix_op (by rfl) ?_
          intro K hK
          go_wp2_with fail
          (with_reducible refine (CZ.out _).mono ?_); rintro e w6 ⟨rfl, hb6⟩
          go_wp2_with fail
          exact hK.out _ _ ⟨since (hw3.trans ((hB1.trans (hb6.mono hB1.size)).mono hw3.size)), [.string (bstr z), dv (ofU z), u], rfl, by simp only [putAll, Act.put, List.setIfInBounds_toArray, List.set_cons_succ, List.set_cons_zero], hR'.out.two (by decide) (by decide) hb6⟩
        · intro s vs w5 _ hall _ hR
          obtain ⟨x, y, u, rfl, hB1, hx, hy, hu⟩ := hR
          obtain rfl := hx (hall (7, []) (by simp))
          obtain rfl := hy (hall (8, [7]) (by simp))
          obtain rfl := hu (hall (1, []) (by simp))
          clear hall hx hy hu z3 e30 e31
          simp only [putAll, Act.put, List.setIfInBounds_toArray, List.set_cons_succ, List.set_cons_zero]
          have hw5 := hw3.trans (hB1.mono hw3.size)
          refine seq_chain (by rfl) ?_
          intro K hK
          go_wp2_with fail
          (with_reducible refine (node_b e (ofU z) _).mono ?_); rintro e w6 ⟨rfl, hb6⟩
          have hw6 := hw5.trans (hb6.mono hw5.size)
          have hown6 := ownsRow_below (ownsRow_below HOWN.out hB1) hb6
          go_wp2_with fail
          refine hK.out _ _ (since hw6) ?_
          clear hK K
          repeat (first | (refine seq_skip (by rfl) (by rfl) ?_; simp only [Act.put, List.setIfInBounds_toArray, List.set_cons_succ, List.set_cons_zero]) | (refine seq_float (by rfl) (by rfl) (by rfl) ?_; intro K hK; go_big_quiet_op; go_big_quiet_on))
          refine seq_chain (by rfl) ?_
          intro K hK
          go_wp2_with fail
          refine hK.out _ _ (since (hw6.alloc hw6.size _)) ?_
          clear hK K
          repeat (first | (refine seq_skip (by rfl) (by rfl) ?_; simp only [Act.put, List.setIfInBounds_toArray, List.set_cons_succ, List.set_cons_zero]) | (refine seq_float (by rfl) (by rfl) (by rfl) ?_; intro K hK; go_big_quiet_op; go_big_quiet_on))
          refine seq_chain (by rfl) ?_
          intro K hK
          go_wp2_with (at_builtin; go_must (refine wpList_append_new #[.string (bstr (nodeS e (ofU z)))] rfl _ _ 39 rfl w.heap.size 9 (.string ⟨#[]⟩) 1 16 info_txt Try.underlying39 rfl (by decide) _ _ _ hown6 rfl rfl rfl (by simp [Value.oneCell']) (by simp only [maxLen]; omega) (by omega) hw6.size ?_))
          intro v7 w7 hown7 hb7 _
          have hw7 := hw6.trans hb7
          go_wp2_with fail
          refine hK.out _ _ (since hw7) ?_
          clear hK K
          repeat (first | (refine seq_skip (by rfl) (by rfl) ?_; simp only [Act.put, List.setIfInBounds_toArray, List.set_cons_succ, List.set_cons_zero]) | (refine seq_float (by rfl) (by rfl) (by rfl) ?_; intro K hK; go_big_quiet_op; go_big_quiet_on))
          refine seq_chain (by rfl) ?_
          intro K hK
          go_wp2_with fail
          refine hK.out _ _ (since hw7) ?_
          clear hK K
          repeat (first | (refine seq_skip (by rfl) (by rfl) ?_; simp only [Act.put, List.setIfInBounds_toArray, List.set_cons_succ, List.set_cons_zero]) | (refine seq_float (by rfl) (by rfl) (by rfl) ?_; intro K hK; go_big_quiet_op; go_big_quiet_on))
          refine seq_nil ?_
          go_wp2_with fail
          go_ret
          refine ⟨_, rfl, ?_, hw7⟩
          rw [HV.out, bcells_append, List.length_append, List.length_append]
          exact hown7
end Go.Proofs.Ytnfekadnjblciaa

namespace Go.Proofs.Ytnfekadnjblciaa
open Go.RowKit

theorem bstr_ne {a b : List UInt8} (h : ¬ a = b) : ((bstr a).toList == (bstr b).toList) = false := str_ne (fun e => h (bstr_inj e))

set_option maxRecDepth 100000 in
set_option maxHeartbeats 16000000 in
theorem LawSound_any (l : List Rec) (i : Int) (r : Rec) (p : List Dg) (n cap : Nat) (ao : Option Addr) (po : Option Addr) (len pcap : Nat) (w : World) (h : LedA w ao n cap l) (hr : RecS r) (hp : p.length = len) (hpc : len ≤ pcap) (hpm : pcap ≤ maxLen) (hs : DSl w po p) :
    Calls Try.prog 4 #[.agg #[.slice ao n cap], .int .i64 i, rv r, .slice po len pcap] w fun e w' => e = .returned (.bool true) ∧ Below w.heap.size w w' := by
  obtain ⟨t, a, b, d⟩ := r
  have HR := lid hr
  have HP := lid hp
  have HN := lid h.len
  have hnm : n ≤ 9223372036854775807 := h.max
  have hlm : len ≤ 9223372036854775807 := Nat.le_trans hpc hpm
  obtain ⟨W, hW⟩ : ∃ W, (w.alloc (Obj.cells #[.slice ao n cap] 24)).alloc (Obj.cells #[.int .i64 t, .string a, .string b, .string d] 30) = W := ⟨_, rfl⟩
  have hw0 : Below w.heap.size w W := by rw [← hW]; exact ((Below.refl _ _).alloc (Nat.le_refl _) _).alloc (by simp) _
  have q0 : W.cell? ⟨w.heap.size, 0, none⟩ = some (.slice ao n cap) := by rw [← hW, cell_old_at (by simp), cell_new_at rfl]; rfl
  have r0 : W.cell? ⟨w.heap.size + 1, 0, none⟩ = some (.int .i64 t) := by rw [← hW, cell_new_at (by simp)]; rfl
  have r1 : W.cell? ⟨w.heap.size + 1, 1, none⟩ = some (.string a) := by rw [← hW, cell_new_at (by simp)]; rfl
  have r2 : W.cell? ⟨w.heap.size + 1, 2, none⟩ = some (.string b) := by rw [← hW, cell_new_at (by simp)]; rfl
  have r3 : W.cell? ⟨w.heap.size + 1, 3, none⟩ = some (.string d) := by rw [← hW, cell_new_at (by simp)]; rfl
  have hsz : w.heap.size + 2 = W.heap.size := by rw [← hW, World.size_alloc, World.size_alloc]
  have HA := lid (h.below hw0)
  have HS := lid (hs.below hw0)
  have HW := lid hW
  clear hW h hr hp hs hpm
  go_enter Try.func4, Try.ntmps4
  go_wp2_with fail
  rw [HW.out]
  clear HW
  go_wp2_with fail
  (with_reducible refine (Great_any l n cap ao _ HA.out.len HA.out.sl HA.out.max HA.out.sizes).mono ?_); rintro e w1 ⟨rfl, hb1⟩
  have hw1 := hw0.trans (hb1.mono hw0.size)
  have l0 : w.heap.size < w1.heap.size := by have := hb1.size; omega
  have l1 : w.heap.size + 1 < w1.heap.size := by have := hb1.size; omega
  replace q0 := (bc hb1 (by omega) 0).trans q0
  replace r0 := (bc hb1 (by omega) 0).trans r0
  replace r1 := (bc hb1 (by omega) 1).trans r1
  replace r2 := (bc hb1 (by omega) 2).trans r2
  replace r3 := (bc hb1 (by omega) 3).trans r3
  replace HA := lid (HA.out.below hb1)
  replace HS := lid (HS.out.below hb1)
  clear hb1 hw0 hsz
  cases hG : greatB l with
  | true =>
    clear hG
    go_wp2_with fail
    (with_reducible refine (awake_any _).mono ?_); rintro e w2 ⟨rfl, hb2⟩
    go_wp2_with fail
    go_ret
    exact ⟨rfl, hw1.trans (hb2.mono hw1.size)⟩
  | false =>
  clear hG
  go_wp2_with fail
  obtain ⟨W1, hW1⟩ : ∃ W1, w1.alloc (Obj.cells #[.int .i64 t, .string a, .string b, .string d] 30) = W1 := ⟨_, rfl⟩
  have hb1 : Below w1.heap.size w1 W1 := by rw [← hW1]; exact ba _ _
  have hSl : Sl W1 4 (some ⟨w1.heap.size, 0, none⟩) 1 (rcells [(t, a, b, d)]) := by
    rw [← hW1]
    exact ⟨rfl, .inr ⟨_, 0, rfl, by simp, fun j u h => by rw [Nat.zero_add, cell_new_at rfl, List.getElem?_toArray]; exact h⟩⟩
  rw [hW1]
  clear hW1
  (with_reducible refine (Great_any [(t, a, b, d)] 1 1 (some ⟨w1.heap.size, 0, none⟩) W1 rfl hSl (by decide) (fun x hx => by rw [List.mem_singleton.1 hx]; exact HR.out)).mono ?_); rintro e w2 ⟨rfl, hb2⟩
  have hb12 := hb1.trans (hb2.mono hb1.size)
  have hw2 := hw1.trans (hb12.mono hw1.size)
  replace q0 := (bc hb12 l0 0).trans q0
  replace r0 := (bc hb12 l1 0).trans r0
  replace r1 := (bc hb12 l1 1).trans r1
  replace r2 := (bc hb12 l1 2).trans r2
  replace r3 := (bc hb12 l1 3).trans r3
  replace l0 : w.heap.size < w2.heap.size := by have := hb12.size; omega
  replace l1 : w.heap.size + 1 < w2.heap.size := by have := hb12.size; omega
  replace HA := lid (HA.out.below hb12)
  replace HS := lid (HS.out.below hb12)
  clear hSl hb1 hb2 hb12 hw1
  cases hG : greatB [(t, a, b, d)] with
  | true =>
    clear hG
    go_wp2_with fail
    (with_reducible refine (awake_any _).mono ?_); rintro e w3 ⟨rfl, hb3⟩
    go_wp2_with fail
    go_ret
    exact ⟨rfl, hw2.trans (hb3.mono hw2.size)⟩
  | false =>
  clear hG
  by_cases h20 : 20 < len
  · have h20' : decide ((20 : Int) < (len : Int)) = true := by simp; omega
    have h20'' : decide (20 < len) = true := by simp; omega
    go_wp2_with fail
    (with_reducible refine (awake_any _).mono ?_); rintro e w3 ⟨rfl, hb3⟩
    go_wp2_with fail
    go_ret
    exact ⟨rfl, hw2.trans (hb3.mono hw2.size)⟩
  have h20' : decide ((20 : Int) < (len : Int)) = false := by simp; omega
  have h20'' : decide (20 < len) = false := by simp; omega
  have hl : len ≤ 20 := by omega
  clear h20
  have CC := lid (refCheck_any l n cap ao w2 HA.out.len HA.out.sl HA.out.sizes HA.out.max)
  go_wp2_with fail
  (with_reducible refine (CC.out).mono ?_); rintro e w3 ⟨rfl, hb3⟩
  have hw3 := hw2.trans (hb3.mono hw2.size)
  replace q0 := (bc hb3 l0 0).trans q0
  replace r0 := (bc hb3 l1 0).trans r0
  replace r1 := (bc hb3 l1 1).trans r1
  replace r2 := (bc hb3 l1 2).trans r2
  replace r3 := (bc hb3 l1 3).trans r3
  replace l0 : w.heap.size < w3.heap.size := by have := hb3.size; omega
  replace l1 : w.heap.size + 1 < w3.heap.size := by have := hb3.size; omega
  replace HA := lid (HA.out.below hb3)
  replace HS := lid (HS.out.below hb3)
  clear CC hb3 hw2
  by_cases hc : checkL l = 0
  case neg =>
    have hc' : (checkL l != 0) = true := by simpa using hc
    generalize checkL l = C at *
    clear hc
    go_wp2_with fail
    (with_reducible refine (awake_any _).mono ?_); rintro e w4 ⟨rfl, hb4⟩
    go_wp2_with fail
    go_ret
    exact ⟨rfl, hw3.trans (hb4.mono hw3.size)⟩
  have HC := lid hc
  rw [hc]
  clear hc
  by_cases hi0 : i < 0
  · have di : decide (i < 0) = true := by simpa using hi0
    go_wp2_with fail
    (with_reducible refine (awake_any _).mono ?_); rintro e w4 ⟨rfl, hb4⟩
    go_wp2_with fail
    go_ret
    exact ⟨rfl, hw3.trans (hb4.mono hw3.size)⟩
  have di : decide (i < 0) = false := by simpa using hi0
  by_cases hi1 : (n : Int) ≤ i
  · have dj : decide ((n : Int) ≤ i) = true := by simpa using hi1
    go_wp2_with fail
    (with_reducible refine (awake_any _).mono ?_); rintro e w4 ⟨rfl, hb4⟩
    go_wp2_with fail
    go_ret
    exact ⟨rfl, hw3.trans (hb4.mono hw3.size)⟩
  have dj : decide ((n : Int) ≤ i) = false := by simpa using hi1
  obtain ⟨k, rfl⟩ : ∃ k : Nat, i = (k : Int) := ⟨i.toNat, by omega⟩
  have hkn : k < n := by omega
  have dj' : decide (n ≤ k) = false := by simpa using hkn
  have h10 : n ≤ 10000 := by have := check_len HC.out; rw [HN.out] at this; exact this
  have hkl : k < l.length := by rw [HN.out]; exact hkn
  clear hi0 hi1
  go_wp2_with fail
  obtain ⟨b1, o1, rfl, hlb, hcell⟩ := HA.out.sl.at_ hkn
  have x0 := hcell (k * 4 + 0) _ (rcells_at hkl).1
  have x1 := hcell (k * 4 + 1) _ (rcells_at hkl).2.1
  have x2 := hcell (k * 4 + 2) _ (rcells_at hkl).2.2.1
  have x3 := hcell (k * 4 + 3) _ (rcells_at hkl).2.2.2
  rw [← Nat.add_assoc] at x1 x2 x3
  rw [Nat.add_zero] at x0
  have HRK := lid (HA.out.sizes _ (List.getElem_mem hkl))
  have HCL := lid (fun hh hne => holds_clash HC.out hkl (r := (t, a, b, d)) (p := p) hh hne)
  obtain ⟨rk, hrk⟩ : ∃ rk, l[k] = rk := ⟨_, rfl⟩
  rw [hrk] at x0 x1 x2 x3 HRK HCL
  rw [HN.out] at HCL
  obtain ⟨t', a', b', d'⟩ := rk
  simp only at x0 x1 x2 x3
  clear hrk hcell
  have CH := lid (fun w' (h : Below w3.heap.size w3 w') => Head_any l n cap _ w' (HA.out.below h))
  have CV := lid (fun w' (h : Below w3.heap.size w3 w') => Holds_any (headD l) n k (t, a, b, d) p po len pcap w' HR.out HP.out hpc (by omega) (HS.out.below h))
  have PL := lid (prove_len HC.out (k : Int))
  generalize headD l = D at *
  cases hV : holdsB D n k (t, a, b, d) p with
  | false =>
    rw [hV] at CV
    clear hV HCL
    refine wp_region_seq (fun w' => ∃ s : Since w3.heap.size w3, w' = s.world) [(0, true), (2, true), (3, true), (4, true), (5, true), (1, false), (6, false), (7, true), (8, true), (9, true), (10, true), (11, true), (12, true), (13, true), (14, true), (15, true), (16, true)] (by kernel_rfl) (by kernel_rfl) (by intro c d v a w h; cases d <;> exact h) (since (Below.refl _ _).drew) ?_
    repeat (first | (refine seq_skip (by rfl) (by rfl) ?_; simp only [Act.put, List.setIfInBounds_toArray, List.set_cons_succ, List.set_cons_zero]) | (refine seq_float (by rfl) (by rfl) (by rfl) ?_; intro K hK; go_big_quiet_op; go_big_quiet_on))
    refine seq_chain (by rfl) ?_
    intro K hK
    go_wp2_with fail
    (with_reducible refine (CH.out _ (Below.refl _ _).drew).mono ?_); rintro e w4 ⟨rfl, hb4⟩
    have h4 : Below w3.heap.size w3 w4 := (Below.refl _ _).drew.trans hb4
    go_wp2_with fail
    refine hK.out _ _ (since h4) ?_
    clear hK K
    repeat (first | (refine seq_skip (by rfl) (by rfl) ?_; simp only [Act.put, List.setIfInBounds_toArray, List.set_cons_succ, List.set_cons_zero]) | (refine seq_float (by rfl) (by rfl) (by rfl) ?_; intro K hK; go_big_quiet_op; go_big_quiet_on))
    refine seq_chain (by rfl) ?_
    intro K hK
    go_wp2_with fail
    (with_reducible refine (CV.out _ h4).mono ?_); rintro e w5 ⟨rfl, hb5⟩
    have h5 := h4.trans (hb5.mono h4.size)
    go_wp2_with fail
    refine hK.out _ _ (since h5) ?_
    clear hK K
    repeat (first | (refine seq_skip (by rfl) (by rfl) ?_; simp only [Act.put, List.setIfInBounds_toArray, List.set_cons_succ, List.set_cons_zero]) | (refine seq_float (by rfl) (by rfl) (by rfl) ?_; intro K hK; go_big_quiet_op; go_big_quiet_on))
    refine seq_nil ?_
    go_wp2_with fail
    (with_reducible refine (awake_any _).mono ?_); rintro e w6 ⟨rfl, hb6⟩
    have hw5 := hw3.trans (h5.mono hw3.size)
    go_wp2_with fail
    go_ret
    exact ⟨rfl, hw5.trans (hb6.mono hw5.size)⟩
  | true =>
    rw [hV] at CV
    by_cases hrk : (t, a, b, d) = (t', a', b', d')
    · have HQ := lid (decide_eq_true hrk)
      clear hrk hV HCL
      refine wp_region_seq (fun w' => ∃ s : Since w3.heap.size w3, w' = s.world) [(0, true), (2, true), (3, true), (4, true), (5, true), (1, false), (6, false), (7, true), (8, true), (9, true), (10, true), (11, true), (12, true), (13, true), (14, true), (15, true), (16, true)] (by kernel_rfl) (by kernel_rfl) (by intro c d v a w h; cases d <;> exact h) (since (Below.refl _ _).drew) ?_
      repeat (first | (refine seq_skip (by rfl) (by rfl) ?_; simp only [Act.put, List.setIfInBounds_toArray, List.set_cons_succ, List.set_cons_zero]) | (refine seq_float (by rfl) (by rfl) (by rfl) ?_; intro K hK; go_big_quiet_op; go_big_quiet_on))
      refine seq_chain (by rfl) ?_
      intro K hK
      go_wp2_with fail
      (with_reducible refine (CH.out _ (Below.refl _ _).drew).mono ?_); rintro e w4 ⟨rfl, hb4⟩
      have h4 : Below w3.heap.size w3 w4 := (Below.refl _ _).drew.trans hb4
      go_wp2_with fail
      refine hK.out _ _ (since h4) ?_
      clear hK K
      repeat (first | (refine seq_skip (by rfl) (by rfl) ?_; simp only [Act.put, List.setIfInBounds_toArray, List.set_cons_succ, List.set_cons_zero]) | (refine seq_float (by rfl) (by rfl) (by rfl) ?_; intro K hK; go_big_quiet_op; go_big_quiet_on))
      refine seq_chain (by rfl) ?_
      intro K hK
      go_wp2_with fail
      (with_reducible refine (CV.out _ h4).mono ?_); rintro e w5 ⟨rfl, hb5⟩
      have h5 := h4.trans (hb5.mono h4.size)
      go_wp2_with fail
      refine hK.out _ _ (since h5) ?_
      clear hK K
      iterate 8 (first | (refine seq_skip (by rfl) (by rfl) ?_; simp only [Act.put, List.setIfInBounds_toArray, List.set_cons_succ, List.set_cons_zero]) | (refine seq_float (by rfl) (by rfl) (by rfl) ?_; intro K hK; go_big_quiet_op; go_big_quiet_on))
      refine seq_float (by rfl) (by rfl) (by rfl) ?_; intro K hK
      refine quiet_eq_rec (t, a, b, d) (t', a', b', d') true _ _ rfl rfl rfl HQ.out ?_
      simp only [Act.put, List.setIfInBounds_toArray, List.set_cons_succ, List.set_cons_zero]
      go_big_quiet_on
      repeat (first | (refine seq_skip (by rfl) (by rfl) ?_; simp only [Act.put, List.setIfInBounds_toArray, List.set_cons_succ, List.set_cons_zero]) | (refine seq_float (by rfl) (by rfl) (by rfl) ?_; intro K hK; go_big_quiet_op; go_big_quiet_on))
      refine seq_nil ?_
      go_wp2_with fail
      (with_reducible refine (awake_any _).mono ?_); rintro e w6 ⟨rfl, hb6⟩
      have hw5 := hw3.trans (h5.mono hw3.size)
      go_wp2_with fail
      go_ret
      exact ⟨rfl, hw5.trans (hb6.mono hw5.size)⟩
    · have HQ := lid (decide_eq_false hrk)
      have HX := lid (HCL.out hV hrk)
      clear hrk hV HCL
      have CP := lid (fun w' (h : Below w3.heap.size w3 w') => Prove_any l k n cap _ w' (HA.out.below h))
      generalize proveE l (k : Int) = P at *
      refine wp_region_seq (fun w' => ∃ s : Since w3.heap.size w3, w' = s.world) [(0, true), (2, true), (3, true), (4, true), (5, true), (1, false), (6, false), (7, true), (8, true), (9, true), (10, true), (11, true), (12, true), (13, true), (14, true), (15, true), (16, true)] (by kernel_rfl) (by kernel_rfl) (by intro c d v a w h; cases d <;> exact h) (since (Below.refl _ _).drew) ?_
      repeat (first | (refine seq_skip (by rfl) (by rfl) ?_; simp only [Act.put, List.setIfInBounds_toArray, List.set_cons_succ, List.set_cons_zero]) | (refine seq_float (by rfl) (by rfl) (by rfl) ?_; intro K hK; go_big_quiet_op; go_big_quiet_on))
      refine seq_chain (by rfl) ?_
      intro K hK
      go_wp2_with fail
      (with_reducible refine (CH.out _ (Below.refl _ _).drew).mono ?_); rintro e w4 ⟨rfl, hb4⟩
      have h4 : Below w3.heap.size w3 w4 := (Below.refl _ _).drew.trans hb4
      go_wp2_with fail
      refine hK.out _ _ (since h4) ?_
      clear hK K
      repeat (first | (refine seq_skip (by rfl) (by rfl) ?_; simp only [Act.put, List.setIfInBounds_toArray, List.set_cons_succ, List.set_cons_zero]) | (refine seq_float (by rfl) (by rfl) (by rfl) ?_; intro K hK; go_big_quiet_op; go_big_quiet_on))
      refine seq_chain (by rfl) ?_
      intro K hK
      go_wp2_with fail
      (with_reducible refine (CV.out _ h4).mono ?_); rintro e w5 ⟨rfl, hb5⟩
      have h5 := h4.trans (hb5.mono h4.size)
      go_wp2_with fail
      refine hK.out _ _ (since h5) ?_
      clear hK K
      iterate 8 (first | (refine seq_skip (by rfl) (by rfl) ?_; simp only [Act.put, List.setIfInBounds_toArray, List.set_cons_succ, List.set_cons_zero]) | (refine seq_float (by rfl) (by rfl) (by rfl) ?_; intro K hK; go_big_quiet_op; go_big_quiet_on))
      refine seq_float (by rfl) (by rfl) (by rfl) ?_; intro K hK
      refine quiet_eq_rec (t, a, b, d) (t', a', b', d') false _ _ rfl rfl rfl HQ.out ?_
      simp only [Act.put, List.setIfInBounds_toArray, List.set_cons_succ, List.set_cons_zero]
      go_big_quiet_on
      repeat (first | (refine seq_skip (by rfl) (by rfl) ?_; simp only [Act.put, List.setIfInBounds_toArray, List.set_cons_succ, List.set_cons_zero]) | (refine seq_float (by rfl) (by rfl) (by rfl) ?_; intro K hK; go_big_quiet_op; go_big_quiet_on))
      refine seq_nil ?_
      have y0 := (bc h5 l0 0).trans q0
      have j0 : w.heap.size < w5.heap.size := by have := h5.size; omega
      go_wp2_with fail
      (with_reducible refine (CP.out _ h5).mono ?_); rintro e w6 ⟨a6, n6, c6, rfl, g1, g2, g3, hb6⟩
      have h6 := h5.trans (hb6.mono h5.size)
      have hP2 : P.2 = 0 := HX.out.1
      rw [hP2]
      replace q0 := (bc h6 l0 0).trans q0
      replace r0 := (bc h6 l1 0).trans r0
      replace r1 := (bc h6 l1 1).trans r1
      replace r2 := (bc h6 l1 2).trans r2
      replace r3 := (bc h6 l1 3).trans r3
      replace x0 := (bc h6 hlb _).trans x0
      replace x1 := (bc h6 hlb _).trans x1
      replace x2 := (bc h6 hlb _).trans x2
      replace x3 := (bc h6 hlb _).trans x3
      replace l0 : w.heap.size < w6.heap.size := by have := h6.size; omega
      replace l1 : w.heap.size + 1 < w6.heap.size := by have := h6.size; omega
      replace hlb : b1 < w6.heap.size := by have := h6.size; omega
      have hw6 := hw3.trans (h6.mono hw3.size)
      have g10 : n6 ≤ 1000000 := by have := PL.out; omega
      have CA := lid (fun w' (h : Below w6.heap.size w6 w') => path_any (t, a, b, d) HR.out len p n k po len pcap w' HP.out (Nat.le_refl _) hpc (by omega) (by omega) h10 hkn ((HS.out.below h6).below h))
      have CB := lid (fun w' (h : Below w6.heap.size w6 w') => path_any (t', a', b', d') HRK.out n6 P.1 n k a6 n6 c6 w' g1 (Nat.le_refl _) g2 g10 (by omega) h10 hkn (g3.below h))
      have HLN : Hid ((pathB n k (recL (t, a, b, d)) p).length ≤ 100) := lid (by have := (pathB_len p.length p n k (recL (t, a, b, d)) (Nat.le_refl _)).2; have := HP.out; omega)
      have SA := lid (pathB_size (recL (t, a, b, d)) (recL_len _) p.length p n k (Nat.le_refl _))
      have SB := lid (pathB_size (recL (t', a', b', d')) (recL_len _) P.1.length P.1 n k (Nat.le_refl _))
      have HLE := lid HX.out.2.1
      have HCX := lid HX.out.2.2
      generalize pathB n k (recL (t, a, b, d)) p = A at *
      generalize pathB n k (recL (t', a', b', d')) P.1 = B at *
      clear HX hP2 g1 g3 y0 j0 h4 h5 hb4 hb5 hb6 CH CV CP
      go_wp2_with fail
      refine wp_region_seq (fun w' => ∃ s : Since w6.heap.size w6, w' = s.world) [(0, true), (1, true), (2, true), (3, true), (5, true), (6, true), (7, true), (8, true), (9, true), (10, true), (11, true), (12, true), (4, false), (13, false), (14, false), (15, false)] (by kernel_rfl) (by kernel_rfl) (by intro c d v a w h; cases d <;> exact h) (since (Below.refl _ _).drew) ?_
      repeat (first | (refine seq_skip (by rfl) (by rfl) ?_; simp only [Act.put, List.setIfInBounds_toArray, List.set_cons_succ, List.set_cons_zero]) | (refine seq_float (by rfl) (by rfl) (by rfl) ?_; intro K hK; go_big_quiet_op; go_big_quiet_on))
      refine seq_chain (by rfl) ?_
      intro K hK
      go_wp2_with fail
      (with_reducible refine (CA.out _ (Below.refl _ _).drew).mono ?_); rintro e w7 ⟨v7, rfl, own7, hb7⟩
      have h7 : Below w6.heap.size w6 w7 := (Below.refl _ _).drew.trans hb7
      go_wp2_with fail
      refine hK.out _ _ (since h7) ?_
      clear hK K
      repeat (first | (refine seq_skip (by rfl) (by rfl) ?_; simp only [Act.put, List.setIfInBounds_toArray, List.set_cons_succ, List.set_cons_zero]) | (refine seq_float (by rfl) (by rfl) (by rfl) ?_; intro K hK; go_big_quiet_op; go_big_quiet_on))
      refine seq_chain (by rfl) ?_
      intro K hK
      go_wp2_with fail
      (with_reducible refine (CB.out _ h7).mono ?_); rintro e w8 ⟨v8, rfl, own8, hb8⟩
      have h8 := h7.trans (hb8.mono h7.size)
      go_wp2_with fail
      refine hK.out _ _ (since h8) ?_
      clear hK K
      repeat (first | (refine seq_skip (by rfl) (by rfl) ?_; simp only [Act.put, List.setIfInBounds_toArray, List.set_cons_succ, List.set_cons_zero]) | (refine seq_float (by rfl) (by rfl) (by rfl) ?_; intro K hK; go_big_quiet_op; go_big_quiet_on))
      refine seq_chain (by rfl) ?_
      intro K hK
      go_wp2_with fail
      refine hK.out _ _ (since h8) ?_
      clear hK K
      repeat (first | (refine seq_skip (by rfl) (by rfl) ?_; simp only [Act.put, List.setIfInBounds_toArray, List.set_cons_succ, List.set_cons_zero]) | (refine seq_float (by rfl) (by rfl) (by rfl) ?_; intro K hK; go_big_quiet_op; go_big_quiet_on))
      refine seq_chain (by rfl) ?_
      intro K hK
      go_wp2_with fail
      refine hK.out _ _ (since h8) ?_
      clear hK K
      repeat (first | (refine seq_skip (by rfl) (by rfl) ?_; simp only [Act.put, List.setIfInBounds_toArray, List.set_cons_succ, List.set_cons_zero]) | (refine seq_float (by rfl) (by rfl) (by rfl) ?_; intro K hK; go_big_quiet_op; go_big_quiet_on))
      refine seq_nil ?_
      obtain ⟨aA, cA, rfl, _, _, sA⟩ := Sl.of_own own7
      obtain ⟨aB, cB, rfl, _, _, sB⟩ := Sl.of_own own8
      have SLA := lid (sA.below hb8)
      have SLB := lid sB
      have hw8 := hw6.trans (h8.mono hw6.size)
      obtain ⟨K, ka, kb, hKa, hKb, hne, heq⟩ := HCX.out
      have HKA := lid hKa
      have HKB := lid hKb
      have HNE := lid hne
      have HEQ := lid heq
      have hKL : K < A.length := (List.getElem?_eq_some_iff.1 hKa).1
      have hA9 : A.length ≤ 100 := HLN.out
      have hBL : B.length = A.length := HLE.out.symm
      obtain ⟨LA, hLA⟩ : ∃ LA, A.length = LA := ⟨_, rfl⟩
      rw [hBL]
      rw [hBL] at SLB
      rw [hLA] at hKL hA9 SLA SLB ⊢
      have HLA := lid hLA
      have HLB := lid (hBL.trans hLA)
      clear own7 own8 sA sB hKa hKb hne heq q0 r0 r1 r2 r3 x0 x1 x2 x3 hb7 hb8 h7 h8 hLA hBL
      go_wp2_with fail
      go_loopw [14] (fun j wr => ∃ (c : Nat), c ≤ K ∧ j = .int .i64 c ∧ Below w8.heap.size w8 wr) (fun j _ => K + 1 - (intOf j).toNat)
      case atStart => exact ⟨0, Nat.zero_le _, rfl, Below.refl _ _⟩
      case round =>
        obtain ⟨c, hcK, rfl, hb⟩ := hrel
        have hcL : c < LA := by omega
        obtain ⟨bA, oA, rfl, hlA, hcA⟩ := (SLA.out.below hb).at_ hcL
        obtain ⟨bB, oB, rfl, hlB, hcB⟩ := (SLB.out.below hb).at_ hcL
        obtain ⟨xa, hxa⟩ : ∃ xa, A[c]? = some xa := ⟨A[c]'(by rw [HLA.out]; exact hcL), by simp⟩
        obtain ⟨xb, hxb⟩ : ∃ xb, B[c]? = some xb := ⟨B[c]'(by rw [HLB.out]; exact hcL), by simp⟩
        have u0 := hcA c _ (bcells_at hxa)
        have v0 := hcB c _ (bcells_at hxb)
        have HXA := lid hxa
        have HXB := lid hxb
        have MA := lid (SA.out xa (List.mem_of_getElem? hxa))
        have MB := lid (SB.out xb (List.mem_of_getElem? hxb))
        have hcd : decide ((c : Int) < (LA : Int)) = true := by simp; omega
        have hcd' : decide (c < LA) = true := by simpa using hcL
        clear hcA hcB hxa hxb
        by_cases hab : xa = xb
        · have HS1 := str_eq (congrArg bstr hab)
          have hcK' : c < K := by
            rcases Nat.lt_or_eq_of_le hcK with h | h
            · exact h
            · exfalso
              subst h
              have e1 := HXA.out.symm.trans HKA.out
              have e2 := HXB.out.symm.trans HKB.out
              cases e1
              cases e2
              exact HNE.out hab
          clear hab
          go_wp2_with fail
          refine wp_region_seq (fun w' => ∃ s : Since wr.heap.size wr, w' = s.world) [(0, true), (1, true), (2, true), (3, true), (4, true), (5, true), (6, true), (7, true), (8, true), (9, true), (10, true), (11, true), (12, true), (13, true), (15, true), (16, true), (17, true), (18, true), (14, false), (19, false), (20, true), (21, true)] (by kernel_rfl) (by kernel_rfl) (by intro c d v a w h; cases d <;> exact h) (since (Below.refl _ _).drew) ?_
          repeat (first | (refine seq_skip (by rfl) (by rfl) ?_; simp only [Act.put, List.setIfInBounds_toArray, List.set_cons_succ, List.set_cons_zero]) | (refine seq_float (by rfl) (by rfl) (by rfl) ?_; intro K hK; go_big_quiet_op; go_big_quiet_on))
          refine seq_chain (by rfl) ?_
          intro K hK
          go_wp2_with fail
          refine hK.out _ _ (since (Below.refl _ _).drew) ?_
          clear hK K
          repeat (first | (refine seq_skip (by rfl) (by rfl) ?_; simp only [Act.put, List.setIfInBounds_toArray, List.set_cons_succ, List.set_cons_zero]) | (refine seq_float (by rfl) (by rfl) (by rfl) ?_; intro K hK; go_big_quiet_op; go_big_quiet_on))
          refine seq_chain (by rfl) ?_
          intro K hK
          go_wp2_with fail
          refine hK.out _ _ (since (Below.refl _ _).drew) ?_
          clear hK K
          repeat (first | (refine seq_skip (by rfl) (by rfl) ?_; simp only [Act.put, List.setIfInBounds_toArray, List.set_cons_succ, List.set_cons_zero]) | (refine seq_float (by rfl) (by rfl) (by rfl) ?_; intro K hK; go_big_quiet_op; go_big_quiet_on))
          refine seq_nil ?_
          go_wp2_with fail
          go_roundw
          case rel => exact ⟨c + 1, by omega, by go_num, hb.drew⟩
          case measure => simp [intOf]; omega
        · have HS1 := bstr_ne hab
          have CE := lid (fun w => of_b xa w MA.out)
          have CF := lid (fun w => of_b xb w MB.out)
          by_cases hoo : ofU xa = ofU xb
          · have HO := lid (decide_eq_true hoo)
            clear hab hoo
            go_wp2_with fail
            refine wp_region_seq (fun w' => ∃ s : Since wr.heap.size wr, w' = s.world) [(0, true), (1, true), (2, true), (3, true), (4, true), (5, true), (6, true), (7, true), (8, true), (9, true), (10, true), (11, true), (12, true), (13, true), (15, true), (16, true), (17, true), (18, true), (14, false), (19, false), (20, true), (21, true)] (by kernel_rfl) (by kernel_rfl) (by intro c d v a w h; cases d <;> exact h) (since (Below.refl _ _).drew) ?_
            repeat (first | (refine seq_skip (by rfl) (by rfl) ?_; simp only [Act.put, List.setIfInBounds_toArray, List.set_cons_succ, List.set_cons_zero]) | (refine seq_float (by rfl) (by rfl) (by rfl) ?_; intro K hK; go_big_quiet_op; go_big_quiet_on))
            refine seq_chain (by rfl) ?_
            intro K hK
            go_wp2_with fail
            (with_reducible refine (CE.out _).mono ?_); rintro e w9 ⟨rfl, hb9⟩
            have h9 : Below wr.heap.size wr w9 := (Below.refl _ _).drew.trans hb9
            go_wp2_with fail
            refine hK.out _ _ (since h9) ?_
            clear hK K
            repeat (first | (refine seq_skip (by rfl) (by rfl) ?_; simp only [Act.put, List.setIfInBounds_toArray, List.set_cons_succ, List.set_cons_zero]) | (refine seq_float (by rfl) (by rfl) (by rfl) ?_; intro K hK; go_big_quiet_op; go_big_quiet_on))
            refine seq_chain (by rfl) ?_
            intro K hK
            go_wp2_with fail
            (with_reducible refine (CF.out _).mono ?_); rintro e w10 ⟨rfl, hb10⟩
            have h10' := h9.trans (hb10.mono h9.size)
            go_wp2_with fail
            refine hK.out _ _ (since h10') ?_
            clear hK
            refine seq_float (by rfl) (by rfl) (by rfl) ?_; intro K hK
            refine quiet_eq_dg2 (ofU xa) (ofU xb) true _ _ rfl rfl rfl HO.out ?_
            simp only [Act.put, List.setIfInBounds_toArray, List.set_cons_succ, List.set_cons_zero]
            go_big_quiet_on
            repeat (first | (refine seq_skip (by rfl) (by rfl) ?_; simp only [Act.put, List.setIfInBounds_toArray, List.set_cons_succ, List.set_cons_zero]) | (refine seq_float (by rfl) (by rfl) (by rfl) ?_; intro K hK; go_big_quiet_op; go_big_quiet_on))
            refine seq_nil ?_
            have hwr := hw8.trans ((hb.trans (h10'.mono hb.size)).mono hw8.size)
            go_wp2_with fail
            (with_reducible refine (awake_any _).mono ?_); rintro e w11 ⟨rfl, hb11⟩
            go_wp2_with fail
            go_ret
            exact ⟨rfl, hwr.trans (hb11.mono hwr.size)⟩
          · have HO := lid (decide_eq_false hoo)
            have hcK' : c < K := by
              rcases Nat.lt_or_eq_of_le hcK with h | h
              · exact h
              · exfalso
                subst h
                have e1 := HXA.out.symm.trans HKA.out
                have e2 := HXB.out.symm.trans HKB.out
                cases e1
                cases e2
                exact hoo HEQ.out
            clear hab hoo
            go_wp2_with fail
            refine wp_region_seq (fun w' => ∃ s : Since wr.heap.size wr, w' = s.world) [(0, true), (1, true), (2, true), (3, true), (4, true), (5, true), (6, true), (7, true), (8, true), (9, true), (10, true), (11, true), (12, true), (13, true), (15, true), (16, true), (17, true), (18, true), (14, false), (19, false), (20, true), (21, true)] (by kernel_rfl) (by kernel_rfl) (by intro c d v a w h; cases d <;> exact h) (since (Below.refl _ _).drew) ?_
            repeat (first | (refine seq_skip (by rfl) (by rfl) ?_; simp only [Act.put, List.setIfInBounds_toArray, List.set_cons_succ, List.set_cons_zero]) | (refine seq_float (by rfl) (by rfl) (by rfl) ?_; intro K hK; go_big_quiet_op; go_big_quiet_on))
            refine seq_chain (by rfl) ?_
            intro K hK
            go_wp2_with fail
            (with_reducible refine (CE.out _).mono ?_); rintro e w9 ⟨rfl, hb9⟩
            have h9 : Below wr.heap.size wr w9 := (Below.refl _ _).drew.trans hb9
            go_wp2_with fail
            refine hK.out _ _ (since h9) ?_
            clear hK K
            repeat (first | (refine seq_skip (by rfl) (by rfl) ?_; simp only [Act.put, List.setIfInBounds_toArray, List.set_cons_succ, List.set_cons_zero]) | (refine seq_float (by rfl) (by rfl) (by rfl) ?_; intro K hK; go_big_quiet_op; go_big_quiet_on))
            refine seq_chain (by rfl) ?_
            intro K hK
            go_wp2_with fail
            (with_reducible refine (CF.out _).mono ?_); rintro e w10 ⟨rfl, hb10⟩
            have h10' := h9.trans (hb10.mono h9.size)
            go_wp2_with fail
            refine hK.out _ _ (since h10') ?_
            clear hK
            refine seq_float (by rfl) (by rfl) (by rfl) ?_; intro K' hK
            refine quiet_eq_dg2 (ofU xa) (ofU xb) false _ _ rfl rfl rfl HO.out ?_
            simp only [Act.put, List.setIfInBounds_toArray, List.set_cons_succ, List.set_cons_zero]
            go_big_quiet_on
            repeat (first | (refine seq_skip (by rfl) (by rfl) ?_; simp only [Act.put, List.setIfInBounds_toArray, List.set_cons_succ, List.set_cons_zero]) | (refine seq_float (by rfl) (by rfl) (by rfl) ?_; intro K hK; go_big_quiet_op; go_big_quiet_on))
            refine seq_nil ?_
            go_wp2_with fail
            go_roundw
            case rel => exact ⟨c + 1, by omega, by go_num, hb.trans (h10'.mono hb.size)⟩
            case measure => simp [intOf]; omega
end Go.Proofs.Ytnfekadnjblciaa

namespace Go.Proofs.Ytnfekadnjblciaa
open Go.ChangeShapes Go.WideShapes Go.ChangeAt Go.RowKit

set_option maxRecDepth 100000 in
theorem ledgerSoundness_lifted (os : Os) (started : os.Started) (H : Type) (enc : TypeId × Value → H) :
    ReturnsInHanded {} Try.checked os 4 .any (Rows.ledgerSoundnessSpec.pre6 enc Try.prog Try.f4 Rows.ledgerSoundnessRow.domain false) (Rows.ledgerSoundnessSpec.post enc Try.prog Try.f4 false true false false) := by
  refine law_lift started (by kernel_rfl) Try.func4 rfl rfl (by kernel_rfl) ?_ (ChangeSpec.witness6 (enc := enc) (C := Try.checked) false ⟨#[], #[.agg #[.slice none 0 0], .int .i64 0, .agg #[.int .i64 0, .string ⟨#[]⟩, .string ⟨#[]⟩, .string ⟨#[]⟩], .slice none 0 0], []⟩ 8 (by kernel_rfl) (by kernel_rfl) (by kernel_rfl) (by kernel_rfl)) ?_
  · intro ds h
    rw [Try.params4] at h
    match ds, h with
    | [_, _, _, _], _ => exact ⟨rfl, rfl, rfl⟩
  · intro W vs h
    rw [Try.params4] at h
    match vs, h with
    | [v0, v1, v2, v3], ⟨h0, h1, h2, h3, _⟩ =>
      obtain ⟨ao, n, cap, l, rfl, hc, _, hs⟩ := h0.led
      obtain ⟨i, rfl, _⟩ := h1.int Try.underlying3
      obtain ⟨r, rfl, hr, _⟩ := h2.rec_
      obtain ⟨po, len, pcap, p, rfl, hp, hpc, hm, hps⟩ := h3.dgs
      exact LawSound_any l i r p n cap ao po len pcap W hs hr hp hpc hm hps

theorem ledgerSoundness_holds : Rows.LedgerSoundnessSaid :=
  OpenClaim.holds_of_wide 4 Try.f4 rfl rfl rfl rfl rfl rfl rfl ⟨rfl, rfl, rfl, rfl, rfl⟩ rfl rfl rfl rfl rfl (by kernel_rfl) Try.func4 (by kernel_rfl)
    (of_decide_eq_true (by kernel_rfl)) (by unfold Func.isWrapper; first | (rw [if_pos (by decide +kernel)]; kernel_rfl) | (rw [if_neg (by decide +kernel)]; exact ⟨rfl, rfl⟩))
    (fun os started H enc _ => ledgerSoundness_lifted os started H enc)
#print axioms ledgerSoundness_holds
end Go.Proofs.Ytnfekadnjblciaa
