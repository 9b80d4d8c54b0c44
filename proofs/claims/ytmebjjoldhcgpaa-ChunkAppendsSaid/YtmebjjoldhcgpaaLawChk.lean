/-
  How the parameters of chunks come in.
-/
import Derived.Test.YtmebjjoldhcgpaaLaw
namespace Go.Proofs.Ytmebjjoldhcgpaa
open Go.ChangeShapes Go.WideShapes Go.ChangeAt Go.RowKit
theorem cells_chunking : Try.prog.cellsOf 23 = 4 := by kernel_rfl
section
variable {H : Type} {enc : TypeId × Value → H} {W : World}
theorem Arg.chunking {v : Value} (h : Arg enc W 23 v) : ∃ l m u b : Int, v = .agg #[.int .i64 l, .int .i64 m, .int .i64 u, .int .i64 b] := by
  obtain ⟨⟨base, hv⟩, d, p, ⟨fuel, hf⟩, _⟩ := h
  unfold Value.okWide at hv
  rw [Try.underlying23] at hv
  obtain ⟨cs, rfl, _⟩ := hv
  have hf' : DataW.trod enc Try.prog W 0 (fun _ => true) true fuel 23 cs.toList = some (d, p) := hf
  clear hf
  obtain ⟨xs, m, rfl, _, hl, hn, hi⟩ := DataW.trod_struct Try.underlying23 hf'
  rw [cells_chunking] at hl
  generalize hcs : cs.toList = l at *
  match l, hl with
  | [c0, c1, c2, c3], _ =>
    have h0 := hi 0 _ rfl
    have h1 := hi 1 _ rfl
    have h2 := hi 2 _ rfl
    have h3 := hi 3 _ rfl
    match xs, hn with
    | [x0, x1, x2, x3], _ =>
      simp [show Try.prog.cellsOf 3 = 1 from by kernel_rfl] at h0 h1 h2 h3
      obtain ⟨a0, e0, _, _⟩ := DataW.trod_int Try.underlying3 h0
      obtain ⟨a1, e1, _, _⟩ := DataW.trod_int Try.underlying3 h1
      obtain ⟨a2, e2, _, _⟩ := DataW.trod_int Try.underlying3 h2
      obtain ⟨a3, e3, _, _⟩ := DataW.trod_int Try.underlying3 h3
      simp at e0 e1 e2 e3
      subst e0 e1 e2 e3
      exact ⟨a0, a1, a2, a3, congrArg Value.agg (Array.toList_inj.1 hcs)⟩
end
end Go.Proofs.Ytmebjjoldhcgpaa
