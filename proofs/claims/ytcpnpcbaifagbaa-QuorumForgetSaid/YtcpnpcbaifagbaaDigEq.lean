/-
  '==' on digests: both numbers are equal.
-/
import Derived.Test.YtcpnpcbaifagbaaRows
import Derived.WalkKit
import Derived.ChangeKeysEq
namespace Go.Proofs.Ytcpnpcbaifagbaa
theorem info_u64 : ∃ i, Try.prog.info? 23 = some i := by
  have h : (Try.prog.info? 23).map (fun i => i.size) = some 1 := by kernel_rfl
  cases hi : Try.prog.info? 23 with
  | none => rw [hi] at h; cases h
  | some i => exact ⟨i, rfl⟩
theorem cells_u64 : Try.prog.cellsOf 23 = 1 := by kernel_rfl
theorem plain_u64 : Try.prog.plainKey 23 = true := by kernel_rfl

@[go_sem] theorem run_eq_digest (d : Nat) (w : World) (a b c e : Int) :
    (Op.equalIn (d + 2) 25 (.agg #[.int .u64 a, .int .u64 b]) (.agg #[.int .u64 c, .int .u64 e])).run Try.prog w = .ok (a == c && b == e) w := by
  obtain ⟨i, hi⟩ := info_u64
  rw [run_equalIn_array (w := w) (d + 1) _ _ Try.underlying25 hi, cells_u64]
  simp only [show List.range 2 = [0, 1] from rfl, Op.eqItems, Sem.run_bind, run_part_plain plain_u64 (w := w) (v := .int .u64 a) (off := 0 * 1) (xs := #[.int .u64 a, .int .u64 b]) rfl,
    run_part_plain plain_u64 (w := w) (v := .int .u64 c) (off := 0 * 1) (xs := #[.int .u64 c, .int .u64 e]) rfl, Result.andThen_ok, run_equalIn_int _ _ _ _ _ _ _ Try.underlying23]
  cases a == c
  · simp
  · simp only [Bool.not_true, Bool.false_eq_true, if_false, Sem.run_bind, run_part_plain plain_u64 (w := w) (v := .int .u64 b) (off := 1 * 1) (xs := #[.int .u64 a, .int .u64 b]) rfl,
      run_part_plain plain_u64 (w := w) (v := .int .u64 e) (off := 1 * 1) (xs := #[.int .u64 c, .int .u64 e]) rfl, Result.andThen_ok, run_equalIn_int _ _ _ _ _ _ _ Try.underlying23]
    cases b == e <;> simp
theorem eq_digest_10000 (w : World) (a b c e : Int) :
    (Op.equalIn 10000 25 (.agg #[.int .u64 a, .int .u64 b]) (.agg #[.int .u64 c, .int .u64 e])).run Try.prog w = .ok (a == c && b == e) w := run_eq_digest 9998 w a b c e
attribute [go_sem] eq_digest_10000
end Go.Proofs.Ytcpnpcbaifagbaa
