/-
  Plain laws: the arithmetic of 32-bit numbers, as the model reckons it.
-/
import Derived.WalkKit
import Derived.Laws.BitsAllLaws
import Derived.Test.YtmebjjoldhcgpaaChkSpec
namespace Go.Proofs.Ytmebjjoldhcgpaa

theorem u32_lt (x : UInt32) : x.toNat < 4294967296 := x.toNat_lt
theorem mulW (x y : UInt32) : IntKind.u32.wrap ((x.toNat : Int) * (y.toNat : Int)) = ((x * y).toNat : Int) := by
  rw [IntKind.wrap_u32, UInt32.toNat_mul]; simp [Int.natCast_mul]
theorem addW (x y : UInt32) : IntKind.u32.wrap ((x.toNat : Int) + (y.toNat : Int)) = ((x + y).toNat : Int) := by
  rw [IntKind.wrap_u32, UInt32.toNat_add]; simp
theorem subW (x y : UInt32) : IntKind.u32.wrap ((x.toNat : Int) - (y.toNat : Int)) = ((x - y).toNat : Int) := by
  have hx := u32_lt x
  have hy := u32_lt y
  rw [IntKind.wrap_u32, UInt32.toNat_sub]
  omega
theorem xorW (x y : UInt32) : bits .xor .u32 (x.toNat : Int) (y.toNat : Int) = ((x ^^^ y).toNat : Int) := by
  rw [u32_xor_nat _ _ (u32_lt x) (u32_lt y)]; simp
theorem andW (x y : UInt32) : bits .and .u32 (x.toNat : Int) (y.toNat : Int) = ((x &&& y).toNat : Int) := by
  rw [u32_and_nat _ _ (u32_lt x) (u32_lt y)]; simp
theorem shrW (x : UInt32) : (x.toNat : Int) / (32768 : Int) = ((x >>> 15).toNat : Int) := by
  rw [UInt32.toNat_shiftRight]
  simp [Nat.shiftRight_eq_div_pow]
theorem byteW_val (c : UInt8) : ((byteW c).toNat : Int) = (c.toNat : Int) := by
  have : c.toNat < 256 := c.toNat_lt
  unfold byteW
  rw [UInt32.toNat_ofNat_of_lt' (by simp [UInt32.size]; omega)]
theorem step_in (hh T : UInt32) (c d : UInt8) : ((hh.toNat : Int) * 16777619 + c.toNat + 1 - ((d.toNat : Int) + 1) % 4294967296 * (T.toNat : Int)) % 4294967296 = ((hh * 16777619 + byteW c + 1 - (byteW d + 1) * T).toNat : Int) := by
  rw [← subW, ← addW, ← addW, ← mulW, ← mulW, ← addW, byteW_val, byteW_val]
  simp only [IntKind.wrap_u32, show ((16777619 : UInt32).toNat : Int) = 16777619 from rfl, show ((1 : UInt32).toNat : Int) = 1 from rfl]
  generalize ((d.toNat : Int) + 1) % 4294967296 * (T.toNat : Int) = P
  omega
theorem step_out (hh : UInt32) (c : UInt8) : ((hh.toNat : Int) * 16777619 + c.toNat + 1) % 4294967296 = ((hh * 16777619 + byteW c + 1).toNat : Int) := by
  rw [← addW, ← addW, ← mulW, byteW_val]
  simp only [IntKind.wrap_u32, show ((16777619 : UInt32).toNat : Int) = 16777619 from rfl, show ((1 : UInt32).toNat : Int) = 1 from rfl]
  omega
def maskW (b : Nat) : UInt32 := 1 <<< UInt32.ofNat b - 1
theorem maskW_val {b : Nat} (h : b ≤ 16) : (((2 : Int) ^ b % 4294967296 - 1) % 4294967296) = ((maskW b).toNat : Int) := by
  have : ∀ b : Fin 17, (((2 : Int) ^ b.1 % 4294967296 - 1) % 4294967296) = ((maskW b.1).toNat : Int) := by decide
  exact this ⟨b, by omega⟩
theorem div_val (b : Nat) (g : UInt32) : bits .and .u32 (bits .xor .u32 (g.toNat : Int) ((g.toNat : Int) / (32768 : Int))) ((maskW b).toNat : Int) = (((g ^^^ (g >>> 15)) &&& maskW b).toNat : Int) := by
  rw [shrW, xorW, andW]
theorem div_true {b : Nat} {g : UInt32} (h : divB b g = true) : bits .and .u32 (bits .xor .u32 (g.toNat : Int) ((g.toNat : Int) / (32768 : Int))) ((maskW b).toNat : Int) = 0 := by
  rw [div_val]
  have h' : (g ^^^ (g >>> 15)) &&& maskW b = 0 := by simpa [divB, maskW] using h
  rw [h']
  rfl
theorem div_false {b : Nat} {g : UInt32} (h : divB b g = false) : (bits .and .u32 (bits .xor .u32 (g.toNat : Int) ((g.toNat : Int) / (32768 : Int))) ((maskW b).toNat : Int) == 0) = false := by
  rw [div_val, beq_eq_false_iff_ne]
  have h' : ¬ (g ^^^ (g >>> 15)) &&& maskW b = 0 := by simpa [divB, maskW] using h
  intro e
  exact h' (UInt32.toNat_inj.1 (by simpa using Int.ofNat_inj.1 (by simpa using e)))
end Go.Proofs.Ytmebjjoldhcgpaa
