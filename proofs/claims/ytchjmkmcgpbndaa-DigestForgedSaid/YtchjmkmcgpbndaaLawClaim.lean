/-
  How a claim (an argument list of Verify) comes in.
-/
import Derived.Test.YtchjmkmcgpbndaaLawDig
import Derived.Test.YtchjmkmcgpbndaaDigLawVerify
namespace Go.Proofs.Ytchjmkmcgpbndaa
open Go.ChangeShapes Go.WideShapes Go.ChangeAt Go.RowKit Go.Deep
theorem cells_claim : Try.prog.cellsOf 33 = 7 := by kernel_rfl
section
variable {H : Type} {enc : TypeId × Value → H} {W : World}

theorem Arg.claim {v : Value} (h : Arg enc W 33 v) : ∃ (root d : Dg) (n i : Int) (ao : Option Addr) (len cap : Nat) (p : List Dg),
    v = .agg #[.int .u64 root.1.toNat, .int .u64 root.2.toNat, .int .i64 n, .int .i64 i, .int .u64 d.1.toNat, .int .u64 d.2.toNat, .slice ao len cap] ∧ p.length = len ∧ len ≤ cap ∧ cap ≤ maxLen ∧ DSl W ao p := by
  obtain ⟨⟨base, hv⟩, d, p, ⟨fuel, hf⟩, _⟩ := h
  unfold Value.okWide at hv
  rw [Try.underlying33] at hv
  obtain ⟨cs, rfl, _⟩ := hv
  have hf' : DataW.trod enc Try.prog W 0 (fun _ => true) true fuel 33 cs.toList = some (d, p) := hf
  clear hf
  obtain ⟨xs, m, rfl, _, hl, hn, hi⟩ := DataW.trod_struct Try.underlying33 hf'
  rw [cells_claim] at hl
  generalize hcs : cs.toList = l at *
  match l, hl with
  | [c0, c1, c2, c3, c4, c5, c6], _ =>
    have h0 := hi 0 _ rfl
    have h1 := hi 1 _ rfl
    have h2 := hi 2 _ rfl
    have h3 := hi 3 _ rfl
    have h4 := hi 4 _ rfl
    match xs, hn with
    | [x0, x1, x2, x3, x4], _ =>
      simp [cells_dg, show Try.prog.cellsOf 3 = 1 from by kernel_rfl, show Try.prog.cellsOf 31 = 1 from by kernel_rfl] at h0 h1 h2 h3 h4
      obtain ⟨r, er⟩ := trod_dg h0
      obtain ⟨n, en, _, _⟩ := DataW.trod_int Try.underlying3 h1
      obtain ⟨i, ei, _, _⟩ := DataW.trod_int Try.underlying3 h2
      obtain ⟨dd, ed⟩ := trod_dg h3
      obtain ⟨ao, len, cap, q, eq, k1, k2, k3, k4⟩ := dgs_of_trod h4
      simp at er en ei ed eq
      obtain ⟨rfl, rfl⟩ := er
      obtain ⟨rfl, rfl⟩ := ed
      subst en ei eq
      exact ⟨r, dd, n, i, ao, len, cap, q, congrArg Value.agg (Array.toList_inj.1 hcs), k1, k2, k3, k4⟩
end
end Go.Proofs.Ytchjmkmcgpbndaa
