/- Part of a proof about the given program: Num. -/
import Derived.Test.YtbgbplacpjcmfaaEvBB
namespace Go.Ev

/-! # Numbers -/
theorem wrap_i64 {n : Int} (h : -9223372036854775808 ≤ n ∧ n ≤ 9223372036854775807) : IntKind.wrap .i64 n = n := by
  unfold IntKind.wrap
  simp only [IntKind.bits, IntKind.signed]
  simp
  omega
theorem wrap_u8 (n : Int) : IntKind.wrap .u8 n = n % 256 := by
  unfold IntKind.wrap
  simp [IntKind.bits, IntKind.signed]

theorem ofInt_toNat {a : Nat} (h : a < 18446744073709551616) : (BitVec.ofInt 64 (a : Int)).toNat = a := by
  simp only [BitVec.toNat_ofInt]
  omega
theorem or64 {a b : Nat} (ha : a < 18446744073709551616) (hb : b < 18446744073709551616) : (BitVec.ofInt 64 (a : Int) ||| BitVec.ofInt 64 (b : Int)).toNat = a ||| b := by
  rw [BitVec.toNat_or, ofInt_toNat ha, ofInt_toNat hb]
theorem and64 {a b : Nat} (ha : a < 18446744073709551616) (hb : b < 18446744073709551616) : (BitVec.ofInt 64 (a : Int) &&& BitVec.ofInt 64 (b : Int)).toNat = a &&& b := by
  rw [BitVec.toNat_and, ofInt_toNat ha, ofInt_toNat hb]
theorem or_split {w m : Nat} (v : Nat) (hw : w < 2 ^ m) : w ||| v * 2 ^ m = w + v * 2 ^ m := by
  rw [Nat.or_comm, Nat.mul_comm, ← Nat.two_pow_add_eq_or_of_lt hw]; omega

theorem minN {n : Nat} (h : n ≤ 64) : Min.min (Int.toNat (n : Int)) 64 = n := by
  rw [Int.toNat_natCast]; omega

theorem fdiv_pow (v n : Nat) : Int.fdiv (v : Int) ((2 : Int) ^ n) = ((v / 2 ^ n : Nat) : Int) := by
  rw [show ((2 : Int) ^ n) = ((2 ^ n : Nat) : Int) by simp]
  rw [Int.fdiv_eq_ediv_of_nonneg _ (Int.natCast_nonneg _)]
  rfl
theorem fdiv_256 (v : Nat) : Int.fdiv (v : Int) 256 = ((v / 256 : Nat) : Int) := by
  rw [Int.fdiv_eq_ediv_of_nonneg _ (by omega)]
  simp

/-! ## Bytes as one number, the first one least -/
def IsB (bs : List Int) : Prop := ∀ x ∈ bs, 0 ≤ x ∧ x < 256
def valB : List Int → Nat
  | [] => 0
  | x :: l => x.toNat + 256 * valB l

theorem valB_append : ∀ (a b : List Int), valB (a ++ b) = valB a + 256 ^ a.length * valB b
  | [], b => by simp [valB]
  | x :: a, b => by
    simp only [List.cons_append, valB, List.length_cons]
    rw [valB_append a b, Nat.pow_succ]
    rw [Nat.mul_add, ← Nat.mul_assoc, Nat.mul_comm 256 (256 ^ a.length)]
    omega
theorem valB_lt : ∀ {a : List Int}, IsB a → valB a < 256 ^ a.length
  | [], _ => by simp [valB]
  | x :: a, h => by
    have h1 := h x (List.mem_cons_self ..)
    have h2 := valB_lt (a := a) (fun y hy => h y (List.mem_cons_of_mem _ hy))
    simp only [valB, List.length_cons, Nat.pow_succ]
    omega
theorem IsB.append {a b : List Int} (ha : IsB a) (hb : IsB b) : IsB (a ++ b) := fun x hx => by
  rcases List.mem_append.1 hx with h | h
  · exact ha x h
  · exact hb x h
theorem pow256 (n : Nat) : 256 ^ n = 2 ^ (8 * n) := by rw [Nat.pow_mul]
end Go.Ev
