/-
  sprt.product: the digits of a product.
-/
import Derived.Test.YtmlkegopbdfiaaaSprMul
import Derived.Test.YtmlkegopbdfiaaaSl
namespace Go.Proofs.Ytmlkegopbdfiaaa
open Go.RowKit

/-- A long number times f, so many times. -/
def powL (B : Nat) (l : List Nat) (f : Nat) : Nat → List Nat
  | 0 => l
  | e + 1 => mulL B (powL B l f e) f
def prodL (B : Nat) (l : List Nat) : List (Nat × Nat) → List Nat
  | [] => l
  | p :: ps => prodL B (powL B l p.1 p.2) ps
theorem prodL_snoc (B : Nat) (l : List Nat) (ps : List (Nat × Nat)) (p : Nat × Nat) : prodL B l (ps ++ [p]) = powL B (prodL B l ps) p.1 p.2 := by
  induction ps generalizing l with
  | nil => rfl
  | cons q ps ih => rw [List.cons_append, prodL, ih, prodL]
theorem powL_val {B : Nat} (hB : 0 < B) (l : List Nat) (f e : Nat) : lval B (powL B l f e) = lval B l * f ^ e := by
  induction e with
  | zero => simp [powL]
  | succ e ih => rw [powL, mulL_val hB, ih, Nat.pow_succ, Nat.mul_assoc]
theorem powL_norm {B : Nat} (hB : 1 < B) {l : List Nat} {f : Nat} (hl : Norm B l) (hf : 1 ≤ f) (hfB : f < B) (e : Nat) : Norm B (powL B l f e) := by
  induction e with
  | zero => exact hl
  | succ e ih => exact mulL_norm hB ih hf hfB
theorem powL_length {B : Nat} (l : List Nat) (f e : Nat) : (powL B l f e).length ≤ l.length + e := by
  induction e with
  | zero => exact Nat.le_refl _
  | succ e ih => have := mulL_length (B := B) (powL B l f e) f; rw [powL]; omega
theorem prodL_val {B : Nat} (hB : 0 < B) (ps : List (Nat × Nat)) : ∀ l, lval B (prodL B l ps) = lval B l * (ps.map fun p => p.1 ^ p.2).prod := by
  induction ps with
  | nil => intro l; simp [prodL]
  | cons p ps ih => intro l; rw [prodL, ih, powL_val hB, List.map_cons, List.prod_cons, Nat.mul_assoc]
theorem prodL_norm {B : Nat} (hB : 1 < B) (ps : List (Nat × Nat)) (hp : ∀ p ∈ ps, 1 ≤ p.1 ∧ p.1 < B) : ∀ l, Norm B l → Norm B (prodL B l ps) := by
  induction ps with
  | nil => intro l h; exact h
  | cons p ps ih =>
    intro l h
    have := hp p (by simp)
    exact ih (fun q hq => hp q (by simp [hq])) _ (powL_norm hB h this.1 this.2 _)
theorem prodL_length {B : Nat} (ps : List (Nat × Nat)) : ∀ l, (prodL B l ps).length ≤ l.length + (ps.map (·.2)).sum := by
  induction ps with
  | nil => intro l; simp [prodL]
  | cons p ps ih =>
    intro l
    have h1 := ih (powL B l p.1 p.2)
    have h2 := powL_length (B := B) l p.1 p.2
    rw [prodL, List.map_cons, List.sum_cons]
    omega
theorem norm_one {B : Nat} (hB : 1 < B) : Norm B [1] := ⟨by simp; omega, [], 1, rfl, by decide⟩

/-- Powers as cells. -/
def pvals (l : List (Nat × Nat)) : List Value := l.flatMap fun p => [.int .i64 (p.1 : Int), .int .i64 (p.2 : Int)]
theorem pvals_at {l : List (Nat × Nat)} {j : Nat} (h : j < l.length) : (pvals l)[j * 2]? = some (.int .i64 (l[j].1 : Nat)) ∧ (pvals l)[j * 2 + 1]? = some (.int .i64 (l[j].2 : Nat)) := by
  induction l generalizing j with
  | nil => simp at h
  | cons d l ih =>
    cases j with
    | zero => simp [pvals]
    | succ j =>
      have := ih (j := j) (by simpa using h)
      rw [show (j + 1) * 2 = j * 2 + 2 by omega]
      simpa [pvals] using this

set_option maxRecDepth 100000 in
set_option maxHeartbeats 4000000 in
theorem product_any (ps : List (Nat × Nat)) (n cap : Nat) (ao : Option Addr) (w : World) (hn : ps.length = n) (hn3 : n ≤ 3) (hp : ∀ p ∈ ps, 1 ≤ p.1 ∧ p.1 ≤ 1000 ∧ p.2 ≤ 40) (hs : Sl w 2 ao n (pvals ps)) :
    Calls Try.prog 30 #[.slice ao n cap] w fun e w' => ∃ v', e = .returned v' ∧ w'.ownsRow w.heap.size 66 1 v' (prodL B32 [1] ps).length (dvals (prodL B32 [1] ps)) ∧ Below w.heap.size w w' := by
  have HN := lid hn
  have HS := lid hs
  have HP := lid hp
  clear hn hs hp
  go_enter Try.func30, Try.ntmps30
  go_wp2_with fail
  have hX0 : Boxed ((w.alloc (Obj.cells #[Value.int .u32 1] 66)).alloc (Obj.cells #[Value.slice (some ⟨w.heap.size, 0, none⟩) 1 1] 59)) (w.heap.size + 1) 59 (.slice (some ⟨w.heap.size, 0, none⟩) 1 1) := by
    have := Boxed.new (w.alloc (Obj.cells #[Value.int .u32 1] 66)) 59 (.slice (some ⟨w.heap.size, 0, none⟩) 1 1)
    rwa [World.size_alloc] at this
  have hR0 := (World.ownsRow_lit (base := w.heap.size) (e := 66) (size := 1) w #[Value.int .u32 1] 1 (Nat.le_refl _) (by simp [maxLen]) (by simp)).alloc (Obj.cells #[Value.slice (some ⟨w.heap.size, 0, none⟩) 1 1] 59)
  have hsum : ∀ k, (prodL B32 [1] (ps.take k)).length ≤ 1 + 40 * n := fun k => by
    have h1 := prodL_length (B := B32) (ps.take k) [1]
    have h2 : ((ps.take k).map (·.2)).sum ≤ 40 * (ps.take k).length := by
      have key : ∀ l : List (Nat × Nat), (∀ p ∈ l, p.2 ≤ 40) → (l.map (·.2)).sum ≤ 40 * l.length := by
        intro l
        induction l with
        | nil => intro _; simp
        | cons p l ih =>
          intro h
          have := ih (fun q hq => h q (by simp [hq]))
          have := h p (by simp)
          simp only [List.map_cons, List.sum_cons, List.length_cons]
          omega
      exact key _ (fun p hp => (HP.out p (List.mem_of_mem_take hp)).2.2)
    have h3 : (ps.take k).length ≤ n := by rw [List.length_take, HN.out]; omega
    simp only [List.length_cons, List.length_nil] at h1
    omega
  have HSM := lid hsum
  have HNM : Hid (∀ k, Norm B32 (prodL B32 [1] (ps.take k))) := lid fun k => prodL_norm (by decide) _ (fun p hp => by have := HP.out p (List.mem_of_mem_take hp); exact ⟨this.1, by show p.1 < 4294967296; omega⟩) _ (norm_one (by decide))
  clear hsum
  go_loopw [6, 11] (fun _ i wr => ∃ (k : Nat) (v' : Value), k ≤ n ∧ i = .int .i64 k ∧ Boxed wr (w.heap.size + 1) 59 v' ∧ wr.ownsRow w.heap.size 66 1 v' (prodL B32 [1] (ps.take k)).length (dvals (prodL B32 [1] (ps.take k))) ∧ Below w.heap.size w wr) (fun _ i _ => n - (intOf i).toNat)
  case atStart => exact ⟨0, _, Nat.zero_le _, rfl, hX0, hR0, ((Below.refl _ _).alloc (Nat.le_refl _) _).alloc (by simp) _⟩
  case round =>
    clear hX0 hR0
    obtain ⟨k, v', hk, rfl, hbx, hown, hb⟩ := hrel
    have hbc := hbx.cell
    have hXlt := hbx.lt
    by_cases hlt : k < n
    · have hlp : k < ps.length := by rw [HN.out]; exact hlt
      obtain ⟨b1, o1, rfl, hlb, hcell⟩ := (HS.out.below hb).at_ hlt
      have x0 := hcell (k * 2) _ (pvals_at hlp).1
      have x1 := hcell (k * 2 + 1) _ (pvals_at hlp).2
      rw [← Nat.add_assoc] at x1
      obtain ⟨hq1, hq2, hq3⟩ := HP.out ps[k] (List.getElem_mem hlp)
      have HT : Hid (prodL B32 [1] (ps.take (k + 1)) = powL B32 (prodL B32 [1] (ps.take k)) (ps[k]).1 (ps[k]).2) := lid (by rw [List.take_succ_eq_append_getElem hlp, prodL_snoc])
      have hl0 := HSM.out k
      have hnorm := HNM.out k
      have HNorm := lid hnorm
      generalize hpk : ps[k] = pk at *
      obtain ⟨f, c⟩ := pk
      simp only at x0 x1 hq1 hq2 hq3 HT
      generalize prodL B32 [1] (ps.take k) = L at *
      have hf0 : (0 : Int) ≤ f := by omega
      have hf1 : (f : Int) ≤ 1000 := by omega
      have hc1 : (c : Int) ≤ 40 := by omega
      clear hcell hnorm hpk
      go_wp2_with fail
      obtain ⟨wp, rfl⟩ : ∃ wp : World, wp = wr := ⟨_, rfl⟩
      obtain ⟨wo, hwo⟩ : ∃ wo, wp.alloc (Obj.cells #[Value.int .i64 f, .int .i64 c] 56) = wo := ⟨_, rfl⟩
      have hTb : wo.heap[wp.heap.size]? = some (.cells #[.int .i64 f, .int .i64 c] 56 (0, 0)) := by rw [← hwo]; exact heap_alloc_new wp _
      have hbx0 : Boxed wo (w.heap.size + 1) 59 v' := by rw [← hwo]; exact hbx.alloc _
      have hown0 : wo.ownsRow w.heap.size 66 1 v' L.length (dvals L) := by rw [← hwo]; exact hown.alloc _
      have hb0 : Below w.heap.size w wo := by rw [← hwo]; exact hb.alloc hb.size _
      have hTlt : w.heap.size + 1 < wp.heap.size := hXlt
      have hzo : wp.heap.size < wo.heap.size := by rw [← hwo]; simp
      rw [hwo]
      clear hwo hbx hown hb hbc x0 x1
      go_loopw [17] (fun j w2 => ∃ (e : Nat) (v'' : Value), e ≤ c ∧ j = .int .i64 e ∧ Boxed w2 (w.heap.size + 1) 59 v'' ∧ w2.ownsRow w.heap.size 66 1 v'' (powL B32 L f e).length (dvals (powL B32 L f e)) ∧ Below w.heap.size w w2 ∧
        w2.heap[wp.heap.size]? = some (.cells #[.int .i64 f, .int .i64 c] 56 (0, 0))) (fun j _ => c - (intOf j).toNat)
      case atStart => exact ⟨0, v', Nat.zero_le _, rfl, hbx0, hown0, hb0, hTb⟩
      case round =>
        clear hbx0 hown0 hb0 hTb
        obtain ⟨e, v'', he, rfl, hbx, hown, hb, hTb⟩ := hrel
        have hbc := hbx.cell
        have hTc : wr.cell? ⟨wp.heap.size, 0, none⟩ = some (.int .i64 f) := cell_of_row _ _ _ _ _ (0, 0) hTb
        have hTlt2 : wp.heap.size < wr.heap.size := (Array.getElem?_eq_some_iff.1 hTb).1
        have hlen := powL_length (B := B32) L f e
        have hnm := powL_norm (B := B32) (by decide) HNorm.out hq1 (by show f < 4294967296; omega) e
        have hn1 := (norm_ge hnm).1
        have HNM2 : Hid (∀ d ∈ powL B32 L f e, d < B32) := lid hnm.1
        by_cases hlt2 : e < c
        · clear hnm
          go_wp2_with fail
          with_reducible refine (mul_any f (w.heap.size + 1) w.heap.size v'' (powL B32 L f e) _ wr hq2 hn1 (by omega) hbx hown (by omega) (by omega) HNM2.out).mono ?_
          rintro e2 w3 ⟨⟨x, rfl⟩, v3, hbx3, hown3, hb3, hk3, hz3⟩
          have hTb3 : w3.heap[wp.heap.size]? = some (.cells #[.int .i64 f, .int .i64 c] 56 (0, 0)) := (hk3 _ hTlt2 (by omega) (by
            intro e'
            rcases hown.2 with ⟨h1, _⟩ | ⟨g, cap', cur, h1, _, h3, _⟩
            · rw [h1] at e'; cases e'
            · rw [h1] at e'
              have : wp.heap.size = g := Option.some.inj e'
              rw [← this, hTb] at h3
              simp at h3)).trans hTb
          go_wp2_with fail
          go_roundw
          case rel => exact ⟨e + 1, v3, by omega, by go_num, hbx3, hown3, hb.trans hb3, hTb3⟩
          case measure => simp [intOf]; omega
        · obtain rfl : e = c := by omega
          go_wp2_with fail
          go_roundw
          case rel => exact ⟨k + 1, v'', by omega, by go_num, hbx, by rw [HT.out]; exact hown, hb⟩
          case measure => simp [intOf]; omega
    · obtain rfl : k = n := by omega
      go_wp2_with fail
      go_ret
      rw [List.take_of_length_le (by rw [HN.out]; exact Nat.le_refl _)] at hown
      exact ⟨v', rfl, hown, hb⟩
end Go.Proofs.Ytmlkegopbdfiaaa
