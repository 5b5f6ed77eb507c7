/- Part of a proof about the given program: BdecA. -/
import Derived.Test.YtdakkfohpjjhkaaDecNum
import Derived.Test.YtdakkfohpjjhkaaF
namespace Go.Ev.Box
open Go.Ev.Dec

/-! # The machine's numbers of two words -/
theorem wrap_u64 (n : Nat) : IntKind.wrap .u64 (n : Int) = ((n % 18446744073709551616 : Nat) : Int) := by
  unfold IntKind.wrap
  simp [IntKind.bits, IntKind.signed]
theorem wrap_u64' {n : Nat} (h : n < 18446744073709551616) : IntKind.wrap .u64 (n : Int) = (n : Int) := by
  rw [wrap_u64, Nat.mod_eq_of_lt h]
theorem fdiv_32 (v : Nat) : Int.fdiv (v : Int) 4294967296 = ((v / 4294967296 : Nat) : Int) := by
  rw [Int.fdiv_eq_ediv_of_nonneg _ (by omega)]; simp
theorem and_32 (v : Nat) : (BitVec.ofInt 64 (v : Int) &&& BitVec.ofInt 64 4294967295).toNat = v % 4294967296 := by
  rw [BitVec.toNat_and, show (BitVec.ofInt 64 4294967295).toNat = 2 ^ 32 - 1 by decide, Nat.and_two_pow_sub_one_eq_mod]
  simp only [BitVec.toNat_ofInt]
  omega
theorem mod_mod32 (v : Nat) : v % 4294967296 % 18446744073709551616 = v % 4294967296 := Nat.mod_eq_of_lt (by omega)
theorem natCast_mul' (a b : Nat) : (a : Int) * (b : Int) = ((a * b : Nat) : Int) := by simp
theorem natCast_add' (a b : Nat) : (a : Int) + (b : Int) = ((a + b : Nat) : Int) := by simp

theorem mul_le32 {a b : Nat} (ha : a < 4294967296) (hb : b < 4294967296) : a * b ≤ 18446744065119617025 := by
  have := Nat.mul_le_mul (show a ≤ 4294967295 by omega) (show b ≤ 4294967295 by omega)
  omega
/-- The halves of a product. -/
theorem mul_halves (x0 x1 y0 y1 : Nat) (h0 : x0 < 4294967296) (h1 : x1 < 4294967296) (h2 : y0 < 4294967296) (h3 : y1 < 4294967296) :
    x1 * y1 + ((x1 * y0 + x0 * y0 / 4294967296) % 18446744073709551616) / 4294967296 + ((((x1 * y0 + x0 * y0 / 4294967296) % 18446744073709551616) % 4294967296 + x0 * y1) % 18446744073709551616) / 4294967296
      = ((x1 * 4294967296 + x0) * (y1 * 4294967296 + y0)) / 18446744073709551616 := by
  have b1 := mul_le32 h1 h2
  have b2 := mul_le32 h0 h3
  have b3 := mul_le32 h0 h2
  have e : (x1 * 4294967296 + x0) * (y1 * 4294967296 + y0) = x1 * y1 * 18446744073709551616 + (x1 * y0 + x0 * y1) * 4294967296 + x0 * y0 := by grind
  rw [e]
  generalize x1 * y1 = p
  generalize x1 * y0 = q at b1 ⊢
  generalize x0 * y1 = r at b2 ⊢
  generalize x0 * y0 = s at b3 ⊢
  omega
theorem f50_eqn {x y : Nat} (hx : x < 18446744073709551616) (hy : y < 18446744073709551616) : f50 ((x : Int), (y : Int), ()) = some (((x * y / 18446744073709551616 : Nat) : Int), ((x * y % 18446744073709551616 : Nat) : Int), ()) := by
  unfold f50
  simp only [fdiv_32, and_32, natCast_mul', natCast_add', wrap_u64, mod_mod32]
  have hx0 : x % 4294967296 < 4294967296 := Nat.mod_lt _ (by omega)
  have hy0 : y % 4294967296 < 4294967296 := Nat.mod_lt _ (by omega)
  have hx1 : x / 4294967296 < 4294967296 := by omega
  have hy1 : y / 4294967296 < 4294967296 := by omega
  have ex : x / 4294967296 * 4294967296 + x % 4294967296 = x := Nat.div_add_mod' x _
  have ey : y / 4294967296 * 4294967296 + y % 4294967296 = y := Nat.div_add_mod' y _
  have key := mul_halves (x % 4294967296) (x / 4294967296) (y % 4294967296) (y / 4294967296) hx0 hx1 hy0 hy1
  rw [ex, ey] at key
  have b1 := mul_le32 hx1 hy0
  have b2 := mul_le32 hx0 hy1
  have b3 := mul_le32 hx0 hy0
  have b4 := mul_le32 hx1 hy1
  have hq : x * y / 18446744073709551616 < 18446744073709551616 := by
    have := Nat.mul_lt_mul'' hx hy
    omega
  rw [← key] at hq ⊢
  generalize x / 4294967296 * (y / 4294967296) = p at *
  generalize x / 4294967296 * (y % 4294967296) = q at *
  generalize x % 4294967296 * (y / 4294967296) = r at *
  generalize x % 4294967296 * (y % 4294967296) = s at *
  congr 3
  omega
end Go.Ev.Box
