/- Part of a proof about the given program: BdecB. -/
import Derived.Test.YtdakkfohpjjhkaaBdecA
import Derived.KernelRfl
namespace Go.Ev.Box
open Go.Ev.Dec

theorem lead_ten : f65 ((10 : Int), ()) = some (60, ()) := by kernel_rfl
theorem cond_false {p : Prop} [Decidable p] {α : Type} {a b : α} (h : ¬ p) : (if p then a else b) = b := if_neg h
theorem wrap_u64i (n : Int) : IntKind.wrap .u64 n = n % 18446744073709551616 := by
  unfold IntKind.wrap
  simp [IntKind.bits, IntKind.signed]
theorem wrap_wadd (a b : Int) : IntKind.wrap .u64 (IntKind.wrap .u64 a + b) = IntKind.wrap .u64 (a + b) := by
  simp only [wrap_u64i, Int.emod_add_emod]
theorem wrap_wsub (a b : Int) : IntKind.wrap .u64 (IntKind.wrap .u64 a - IntKind.wrap .u64 b) = IntKind.wrap .u64 (a - b) := by
  simp only [wrap_u64i]
  exact (Int.sub_emod a b _).symm
theorem wrap_wrap (a : Int) : IntKind.wrap .u64 (IntKind.wrap .u64 a) = IntKind.wrap .u64 a := by
  simp only [wrap_u64i, Int.emod_emod]
theorem l64_1_out (y s yn1 un32 un1 un0 : Int) {q : Nat} (hq : q < 4294967296) (rhat : Int) : l64_1 (y, s, yn1, 0, un32, un1, un0, (q : Int), rhat, ()) = some (.inl (y, s, yn1, 0, un32, un1, un0, (q : Int), ())) := by
  rw [show l64_1 = loopN g64_1 o64_1 b64_1 (18446744073709551615 + 1) from rfl, loopN_succ]
  generalize loopN g64_1 o64_1 b64_1 18446744073709551615 = L
  unfold b64_1
  dsimp only
  rw [if_neg (by rw [decide_eq_true_eq]; omega), if_neg (by
    rw [decide_eq_true_eq, Int.mul_zero, wrap_u64i, wrap_u64i]
    omega)]
  rfl
theorem l64_2_out (y s yn1 un0 q1 rhat un21 : Int) {q : Nat} (hq : q < 4294967296) : l64_2 (y, s, yn1, 0, un0, q1, rhat, un21, (q : Int), ()) = some (.inl (y, s, un0, q1, un21, (q : Int), ())) := by
  rw [show l64_2 = loopN g64_2 o64_2 b64_2 (18446744073709551615 + 1) from rfl, loopN_succ]
  generalize loopN g64_2 o64_2 b64_2 18446744073709551615 = L
  unfold b64_2
  dsimp only
  rw [if_neg (by rw [decide_eq_true_eq]; omega), if_neg (by
    rw [decide_eq_true_eq, Int.mul_zero, wrap_u64i, wrap_u64i]
    omega)]
  rfl
theorem f64_ten {hi lo : Nat} (hhi : hi < 10) (hlo : lo < 18446744073709551616) : f64 ((hi : Int), (lo : Int), (10 : Int), ()) = some ((((hi * 18446744073709551616 + lo) / 10 : Nat) : Int), (((hi * 18446744073709551616 + lo) % 10 : Nat) : Int), ()) := by
  unfold f64
  dsimp only
  rw [if_neg (by decide), if_neg (by rw [decide_eq_true_eq]; omega)]
  by_cases h0 : hi = 0
  · subst h0
    rw [if_pos (by decide), if_neg (by decide), if_neg (by decide)]
    simp only [Nat.zero_mul, Nat.zero_add]
    have e1 : Int.tdiv (lo : Int) 10 = ((lo / 10 : Nat) : Int) := rfl
    have e2 : Int.tmod (lo : Int) 10 = ((lo % 10 : Nat) : Int) := rfl
    rw [e1, e2, wrap_u64' (by omega)]
  · rw [if_neg (by rw [beq_iff_eq]; omega), lead_ten, Option.bind_some]
    dsimp only
    have k1 : IntKind.wrap .u64 (60 : Int) = 60 := by decide
    have k2 : IntKind.wrap .u64 ((64 : Int) - 60) = 4 := by decide
    have k3 : Min.min (Int.toNat (60 : Int)) 64 = 60 := by decide
    have k3' : Min.min (Int.toNat (4 : Int)) 64 = 4 := by decide
    have k4 : IntKind.wrap .u64 ((10 : Int) * 2 ^ 60) = 11529215046068469760 := by decide
    have k5 : Int.fdiv (11529215046068469760 : Int) 4294967296 = 2684354560 := by decide
    have k6 : IntKind.wrap .u64 (((BitVec.ofInt 64 (11529215046068469760 : Int) &&& BitVec.ofInt 64 4294967295).toNat : Nat) : Int) = 0 := by decide
    rw [k1, k2, k3, k3', k4, k5, k6]
    rw [if_neg (by decide), if_neg (by decide), if_neg (by decide), if_neg (by decide), if_neg (by decide)]
    have hU : IntKind.wrap .u64 (((BitVec.ofInt 64 (IntKind.wrap .u64 ((hi : Int) * 2 ^ 60)) ||| BitVec.ofInt 64 (Int.fdiv (lo : Int) (2 ^ 4))).toNat : Nat) : Int) = ((hi * 2 ^ 60 + lo / 16 : Nat) : Int) := by
      have e1 : IntKind.wrap .u64 ((hi : Int) * 2 ^ 60) = ((hi * 2 ^ 60 : Nat) : Int) := by
        rw [show ((hi : Int) * 2 ^ 60) = ((hi * 2 ^ 60 : Nat) : Int) by simp, wrap_u64' (by omega)]
      rw [e1, fdiv_pow, or64 (by omega) (by omega), Nat.or_comm, or_split _ (by omega), wrap_u64' (by omega)]
      congr 1
      omega
    have hN : Int.fdiv (IntKind.wrap .u64 ((lo : Int) * 2 ^ 60)) 4294967296 = (((lo % 16) * 268435456 : Nat) : Int) := by
      rw [show ((lo : Int) * 2 ^ 60) = ((lo * 2 ^ 60 : Nat) : Int) by simp, wrap_u64, fdiv_32]
      congr 1
      omega
    have h0' : IntKind.wrap .u64 (((BitVec.ofInt 64 (IntKind.wrap .u64 ((lo : Int) * 2 ^ 60)) &&& BitVec.ofInt 64 4294967295).toNat : Nat) : Int) = 0 := by
      rw [show ((lo : Int) * 2 ^ 60) = ((lo * 2 ^ 60 : Nat) : Int) by simp]
      simp only [wrap_u64, and_32]
      have : lo * 2 ^ 60 % 18446744073709551616 % 4294967296 % 18446744073709551616 = 0 := by omega
      rw [this]; rfl
    rw [hU, hN, h0']
    have hUlt : hi * 2 ^ 60 + lo / 16 < 11529215046068469760 := by omega
    have hall : hi * 18446744073709551616 + lo = (hi * 2 ^ 60 + lo / 16) * 16 + lo % 16 := by omega
    rw [hall]
    have hNlt : lo % 16 < 16 := by omega
    generalize hi * 2 ^ 60 + lo / 16 = U at hUlt ⊢
    generalize lo % 16 = N at hNlt ⊢
    have hq1 : IntKind.wrap .u64 (Int.tdiv (U : Int) 2684354560) = ((U / 2684354560 : Nat) : Int) := by
      rw [show Int.tdiv (U : Int) 2684354560 = ((U / 2684354560 : Nat) : Int) from rfl, wrap_u64' (by omega)]
    rw [hq1, l64_1_out _ _ _ _ _ _ (by omega), Option.bind_some, Sum.elim_inl]
    dsimp only
    rw [if_neg (by decide)]
    have hR : IntKind.wrap .u64 (IntKind.wrap .u64 (IntKind.wrap .u64 ((U : Int) * 4294967296) + ((N * 268435456 : Nat) : Int)) - IntKind.wrap .u64 (((U / 2684354560 : Nat) : Int) * 11529215046068469760)) = ((U % 2684354560 * 4294967296 + N * 268435456 : Nat) : Int) := by
      rw [wrap_wadd, wrap_wsub]
      rw [← wrap_u64' (n := U % 2684354560 * 4294967296 + N * 268435456) (by omega)]
      congr 1
      omega
    rw [hR]
    have hq0 : IntKind.wrap .u64 (Int.tdiv ((U % 2684354560 * 4294967296 + N * 268435456 : Nat) : Int) 2684354560) = (((U % 2684354560 * 4294967296 + N * 268435456) / 2684354560 : Nat) : Int) := by
      rw [show Int.tdiv ((U % 2684354560 * 4294967296 + N * 268435456 : Nat) : Int) 2684354560 = (((U % 2684354560 * 4294967296 + N * 268435456) / 2684354560 : Nat) : Int) from rfl, wrap_u64' (by omega)]
    rw [hq0, l64_2_out _ _ _ _ _ _ _ (by omega), Option.bind_some, Sum.elim_inl]
    dsimp only
    rw [if_neg (by decide), k3]
    have e1 : IntKind.wrap .u64 (IntKind.wrap .u64 (((U / 2684354560 : Nat) : Int) * 4294967296) + (((U % 2684354560 * 4294967296 + N * 268435456) / 2684354560 : Nat) : Int)) = (((U * 16 + N) / 10 : Nat) : Int) := by
      rw [wrap_wadd, ← wrap_u64' (n := (U * 16 + N) / 10) (by omega)]
      congr 1
      omega
    have e2 : IntKind.wrap .u64 (IntKind.wrap .u64 (IntKind.wrap .u64 (((U % 2684354560 * 4294967296 + N * 268435456 : Nat) : Int) * 4294967296) + 0) - IntKind.wrap .u64 ((((U % 2684354560 * 4294967296 + N * 268435456) / 2684354560 : Nat) : Int) * 11529215046068469760)) = (((U * 16 + N) % 10 * 1152921504606846976 : Nat) : Int) := by
      rw [Int.add_zero, wrap_wrap, wrap_wsub, ← wrap_u64' (n := (U * 16 + N) % 10 * 1152921504606846976) (by omega)]
      congr 1
      omega
    rw [e1, e2, fdiv_pow]
    congr 4
    omega
end Go.Ev.Box
