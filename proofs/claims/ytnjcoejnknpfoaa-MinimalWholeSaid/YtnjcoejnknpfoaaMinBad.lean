/-
  bad of an oracle.
-/
import Derived.Test.YtnjcoejnknpfoaaMinExam
namespace Go.Proofs.Ytnjcoejnknpfoaa
open Go.RowKit Go.Shelf
theorem wrap_u64_nonneg (x : Int) : 0 ≤ IntKind.u64.wrap x := by
  show 0 ≤ x % 18446744073709551616
  omega
/-- The number of a set. -/
def codeStep (c x : Int) : Int := IntKind.u64.wrap (c + IntKind.u64.wrap (2 ^ min ((IntKind.u64.wrap x).tmod 64).toNat 64))
def codeL (l : List Int) : Int := l.foldl codeStep 0
theorem codeL_succ {l : List Int} {j : Nat} (h : j < l.length) : codeL (l.take (j + 1)) = codeStep (codeL (l.take j)) l[j] := by
  unfold codeL
  rw [List.take_succ_eq_append_getElem h, List.foldl_append]
  rfl
/-- The bit that an oracle looks at. -/
def oddB (c q r : Int) : Bool := bits BinOp.and IntKind.u64 (IntKind.u64.wrap (c * q) / 2 ^ (r % 64).toNat) 1 == 1
theorem oddB_zero (c : Int) : oddB c 0 0 = false := by
  unfold oddB
  rw [Int.mul_zero]
  decide
/-- What an oracle answers. -/
def badB (L : List (List Int)) (q r : Int) (N : Int) (xs : List Int) : Bool := decide ((xs.length : Int) = N) || (!oddB (codeL xs) q r && L.any fun b => contI xs b)
set_option maxRecDepth 100000 in
set_option maxHeartbeats 4000000 in
theorem bad_any (L : List Sw) (k cap : Nat) (ao : Option Addr) (q r : Int) (xs : List Int) (n2 c2 : Nat) (a2 : Option Addr) (N : Int) (w : World) (h : GA w ao k cap L) (hx : IA w a2 n2 c2 xs) (hr : 0 ≤ r) (hn2 : n2 ≤ 1000000) (hk : k ≤ 1000000) (hlen : ∀ s ∈ L, s.vs.length ≤ 1000000) :
    Calls Try.prog 27 #[.agg #[.slice ao k cap, .int .u64 q, .int .u8 r], .slice a2 n2 c2, .int .i64 N] w fun e w' => e = .returned (.bool (badB (L.map Sw.vs) q r N xs)) ∧ Below w.heap.size w w' := by
  have HG := lid h
  have HX := lid hx
  have HL := lid hlen
  clear h hx hlen
  by_cases hN : (n2 : Int) = N
  · have dN : ((n2 : Int) == N) = true := by simpa using hN
    have HV : Hid (badB (L.map Sw.vs) q r N xs = true) := lid (by unfold badB; rw [HX.out.len, decide_eq_true hN]; rfl)
    clear hN
    go_enter Try.func27, Try.ntmps27
    go_wp2_with fail
    go_ret
    exact ⟨ret_bool HV.out.symm, ba _ _⟩
  · have dN : ((n2 : Int) == N) = false := by simpa using hN
    have HV : Hid (badB (L.map Sw.vs) q r N xs = (!oddB (codeL xs) q r && (L.map Sw.vs).any fun b => contI xs b)) := lid (by unfold badB; rw [HX.out.len, decide_eq_false hN]; rfl)
    clear hN
    go_enter Try.func27, Try.ntmps27
    go_wp2_with fail
    obtain ⟨W0, hW0⟩ : ∃ y, w.alloc (.cells #[.slice ao k cap, .int .u64 q, .int .u8 r] 42) = y := ⟨_, rfl⟩
    have g0 : Below w.heap.size w W0 := by rw [← hW0]; exact ba _ _
    have HO : Hid (W0.heap[w.heap.size]? = some (.cells #[.slice ao k cap, .int .u64 q, .int .u8 r] 42 (0, 0))) := lid (by rw [← hW0]; exact h_new rfl _)
    rw [hW0]
    clear hW0
    go_loopw [7, 18] (fun vc vi wr => ∃ (j : Nat) (c : Int), j ≤ n2 ∧ vi = .int .i64 j ∧ vc = .int .u64 c ∧ Hid (c = codeL (xs.take j)) ∧ Hid (W0 = wr)) (fun _ vi _ => n2 - (intOf vi).toNat)
    case atStart => exact ⟨0, 0, Nat.zero_le _, rfl, rfl, lid rfl, lid rfl⟩
    case round =>
      obtain ⟨j, c, hj, rfl, rfl, HC, HW⟩ := hrel
      have hW := HW.out
      subst hW
      by_cases hlt : j < n2
      · have dj : decide ((j : Int) < (n2 : Int)) = true := by simp; omega
        obtain ⟨b1, o1, rfl, hlw, hcell⟩ := HX.out.sl.at_ hlt
        have hjl : j < xs.length := by rw [HX.out.len]; exact hlt
        have x0 := (bc g0 hlw _).trans (hcell j _ (ivals_at hjl))
        have hlb := Nat.lt_of_lt_of_le hlw g0.size
        have HC2 := lid (codeL_succ hjl)
        obtain ⟨x, hxx⟩ : ∃ x, xs[j] = x := ⟨_, rfl⟩
        rw [hxx] at x0 HC2
        clear hcell hxx
        have hsh : 0 ≤ (IntKind.u64.wrap x).tmod 64 := Int.tmod_nonneg _ (wrap_u64_nonneg x)
        go_wp2_with fail
        go_roundw
        case rel => exact ⟨j + 1, _, by omega, by go_num, rfl, lid (by rw [HC2.out, ← HC.out]; rfl), lid trivial⟩
        case measure => simp [intOf]; omega
      · obtain rfl : j = n2 := by omega
        have dj : decide ((j : Int) < (j : Int)) = false := by simp
        have hsh : 0 ≤ r.tmod 64 := Int.tmod_nonneg _ hr
        have c0 := row_cell HO.out 0
        have c1 := row_cell HO.out 1
        have c2 := row_cell HO.out 2
        have lO := row_lt HO.out
        have HCC : Hid (codeL xs = c) := lid (by rw [HC.out, List.take_of_length_le (Nat.le_of_eq HX.out.len)])
        cases hodd : oddB c q r with
        | true =>
          have HV2 : Hid (badB (L.map Sw.vs) q r N xs = false) := lid (by rw [HV.out, HCC.out, hodd]; rfl)
          have dodd : (bits BinOp.and IntKind.u64 (IntKind.u64.wrap (c * q) / 2 ^ (r % 64).toNat) 1 == 1) = true := hodd
          clear hodd
          go_wp2_with fail
          go_ret
          exact ⟨ret_bool HV2.out.symm, g0⟩
        | false =>
          have HV2 : Hid (badB (L.map Sw.vs) q r N xs = (L.map Sw.vs).any fun b => contI xs b) := lid (by rw [HV.out, HCC.out, hodd]; rfl)
          have dodd : (bits BinOp.and IntKind.u64 (IntKind.u64.wrap (c * q) / 2 ^ (r % 64).toNat) 1 == 1) = false := hodd
          clear hodd
          go_wp2_with fail
          go_loopw [11, 42] (fun _ vi wr => ∃ (p : Nat), p ≤ k ∧ vi = .int .i64 p ∧ Hid (((L.map Sw.vs).take p).any (fun b => contI xs b) = false) ∧ Hid (W0 = wr)) (fun _ vi _ => k - (intOf vi).toNat)
          case atStart => exact ⟨0, Nat.zero_le _, rfl, lid rfl, lid rfl⟩
          case round =>
            obtain ⟨p, hp, rfl, HT, HW⟩ := hrel
            have hW := HW.out
            subst hW
            by_cases hlt : p < k
            · have dp : decide ((p : Int) < (k : Int)) = true := by simp; omega
              have hkl : p < L.length := by rw [HG.out.len]; exact hlt
              obtain ⟨b1, o1, rfl, hlw, hcell⟩ := HG.out.sl.at_ hlt
              have x0 := (bc g0 hlw _).trans (hcell p _ (gcells_at hkl))
              have hlb := Nat.lt_of_lt_of_le hlw g0.size
              have HI := lid ((HG.out.ok _ (List.getElem_mem hkl)).below g0)
              have HLN := lid (HL.out _ (List.getElem_mem hkl))
              have hkm : p < (L.map Sw.vs).length := by rw [List.length_map]; exact hkl
              have HY : Hid (contI xs (L[p]).vs = true → (L.map Sw.vs).any (fun b => contI xs b) = true) := lid (fun e => List.any_eq_true.2 ⟨_, List.mem_map.2 ⟨_, List.getElem_mem hkl, rfl⟩, e⟩)
              have HZ : Hid (contI xs (L[p]).vs = false → ((L.map Sw.vs).take (p + 1)).any (fun b => contI xs b) = false) := lid (fun e => any_take_succ hkm HT.out (by rw [List.getElem_map]; exact e))
              obtain ⟨x, hxx⟩ : ∃ x, L[p] = x := ⟨_, rfl⟩
              rw [hxx] at x0 HI HLN HY HZ
              obtain ⟨m, hm⟩ : ∃ m, x.vs.length = m := ⟨_, rfl⟩
              rw [hm] at HI HLN
              replace x0 : W0.cell? ⟨b1, o1 + p, none⟩ = some (.slice x.ao m x.cap) := by rw [x0, ← hm]
              clear hcell hxx hm hkm
              go_wp2_with fail
              (with_reducible refine (contains_any xs x.vs j _ m x.cap _ x.ao W0 (by omega) HLN.out (HX.out.below g0) HI.out).mono ?_); rintro e w4 ⟨rfl, rfl⟩
              cases hc : contI xs x.vs with
              | true =>
                have HF := lid (HY.out hc)
                clear hc HY HZ
                go_wp2_with fail
                go_ret
                exact ⟨ret_bool (by rw [HV2.out, HF.out]), g0⟩
              | false =>
                have HF := lid (HZ.out hc)
                clear hc HY HZ
                go_wp2_with fail
                go_roundw
                case rel => exact ⟨p + 1, by omega, by go_num, HF, lid trivial⟩
                case measure => simp [intOf]; omega
            · obtain rfl : p = k := by omega
              have dp : decide ((p : Int) < (p : Int)) = false := by simp
              have HF : Hid ((L.map Sw.vs).any (fun b => contI xs b) = false) := lid (by have := HT.out; rwa [List.take_of_length_le (by rw [List.length_map]; exact Nat.le_of_eq HG.out.len)] at this)
              go_wp2_with fail
              go_ret
              exact ⟨ret_bool (by rw [HV2.out, HF.out]), g0⟩
end Go.Proofs.Ytnjcoejnknpfoaa
