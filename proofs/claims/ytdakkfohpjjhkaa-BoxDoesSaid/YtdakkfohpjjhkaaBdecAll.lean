/- Part of a proof about the given program: BdecAll. -/
import Derived.Test.YtdakkfohpjjhkaaDecNum
import Derived.Test.YtdakkfohpjjhkaaF
import Derived.KernelRfl
namespace Go.Ev.Box
open Go.Ev.Dec

/-! # The machine's numbers of two words -/
theorem wrap_u64 (n : Nat) : IntKind.wrap .u64 (n : Int) = ((n % 18446744073709551616 : Nat) : Int) := by
  unfold IntKind.wrap
  simp [IntKind.bits, IntKind.signed]
theorem wrap_u64' {n : Nat} (h : n < 18446744073709551616) : IntKind.wrap .u64 (n : Int) = (n : Int) := by
  rw [wrap_u64, Nat.mod_eq_of_lt h]
theorem fdiv_32 (v : Nat) : Int.fdiv (v : Int) 4294967296 = ((v / 4294967296 : Nat) : Int) := by
  rw [Int.fdiv_eq_ediv_of_nonneg _ (by omega)]; simp
theorem and_32 (v : Nat) : (BitVec.ofInt 64 (v : Int) &&& BitVec.ofInt 64 4294967295).toNat = v % 4294967296 := by
  rw [BitVec.toNat_and, show (BitVec.ofInt 64 4294967295).toNat = 2 ^ 32 - 1 by decide, Nat.and_two_pow_sub_one_eq_mod]
  simp only [BitVec.toNat_ofInt]
  omega
theorem mod_mod32 (v : Nat) : v % 4294967296 % 18446744073709551616 = v % 4294967296 := Nat.mod_eq_of_lt (by omega)
theorem natCast_mul' (a b : Nat) : (a : Int) * (b : Int) = ((a * b : Nat) : Int) := by simp
theorem natCast_add' (a b : Nat) : (a : Int) + (b : Int) = ((a + b : Nat) : Int) := by simp

theorem mul_le32 {a b : Nat} (ha : a < 4294967296) (hb : b < 4294967296) : a * b ≤ 18446744065119617025 := by
  have := Nat.mul_le_mul (show a ≤ 4294967295 by omega) (show b ≤ 4294967295 by omega)
  omega
/-- The halves of a product. -/
theorem mul_halves (x0 x1 y0 y1 : Nat) (h0 : x0 < 4294967296) (h1 : x1 < 4294967296) (h2 : y0 < 4294967296) (h3 : y1 < 4294967296) :
    x1 * y1 + ((x1 * y0 + x0 * y0 / 4294967296) % 18446744073709551616) / 4294967296 + ((((x1 * y0 + x0 * y0 / 4294967296) % 18446744073709551616) % 4294967296 + x0 * y1) % 18446744073709551616) / 4294967296
      = ((x1 * 4294967296 + x0) * (y1 * 4294967296 + y0)) / 18446744073709551616 := by
  have b1 := mul_le32 h1 h2
  have b2 := mul_le32 h0 h3
  have b3 := mul_le32 h0 h2
  have e : (x1 * 4294967296 + x0) * (y1 * 4294967296 + y0) = x1 * y1 * 18446744073709551616 + (x1 * y0 + x0 * y1) * 4294967296 + x0 * y0 := by grind
  rw [e]
  generalize x1 * y1 = p
  generalize x1 * y0 = q at b1 ⊢
  generalize x0 * y1 = r at b2 ⊢
  generalize x0 * y0 = s at b3 ⊢
  omega
theorem f50_eqn {x y : Nat} (hx : x < 18446744073709551616) (hy : y < 18446744073709551616) : f50 ((x : Int), (y : Int), ()) = some (((x * y / 18446744073709551616 : Nat) : Int), ((x * y % 18446744073709551616 : Nat) : Int), ()) := by
  unfold f50
  simp only [fdiv_32, and_32, natCast_mul', natCast_add', wrap_u64, mod_mod32]
  have hx0 : x % 4294967296 < 4294967296 := Nat.mod_lt _ (by omega)
  have hy0 : y % 4294967296 < 4294967296 := Nat.mod_lt _ (by omega)
  have hx1 : x / 4294967296 < 4294967296 := by omega
  have hy1 : y / 4294967296 < 4294967296 := by omega
  have ex : x / 4294967296 * 4294967296 + x % 4294967296 = x := Nat.div_add_mod' x _
  have ey : y / 4294967296 * 4294967296 + y % 4294967296 = y := Nat.div_add_mod' y _
  have key := mul_halves (x % 4294967296) (x / 4294967296) (y % 4294967296) (y / 4294967296) hx0 hx1 hy0 hy1
  rw [ex, ey] at key
  have b1 := mul_le32 hx1 hy0
  have b2 := mul_le32 hx0 hy1
  have b3 := mul_le32 hx0 hy0
  have b4 := mul_le32 hx1 hy1
  have hq : x * y / 18446744073709551616 < 18446744073709551616 := by
    have := Nat.mul_lt_mul'' hx hy
    omega
  rw [← key] at hq ⊢
  generalize x / 4294967296 * (y / 4294967296) = p at *
  generalize x / 4294967296 * (y % 4294967296) = q at *
  generalize x % 4294967296 * (y / 4294967296) = r at *
  generalize x % 4294967296 * (y % 4294967296) = s at *
  congr 3
  omega
end Go.Ev.Box
namespace Go.Ev.Box
open Go.Ev.Dec

theorem lead_ten : f65 ((10 : Int), ()) = some (60, ()) := by kernel_rfl
theorem cond_false {p : Prop} [Decidable p] {α : Type} {a b : α} (h : ¬ p) : (if p then a else b) = b := if_neg h
theorem wrap_u64i (n : Int) : IntKind.wrap .u64 n = n % 18446744073709551616 := by
  unfold IntKind.wrap
  simp [IntKind.bits, IntKind.signed]
theorem wrap_wadd (a b : Int) : IntKind.wrap .u64 (IntKind.wrap .u64 a + b) = IntKind.wrap .u64 (a + b) := by
  simp only [wrap_u64i, Int.emod_add_emod]
theorem wrap_wsub (a b : Int) : IntKind.wrap .u64 (IntKind.wrap .u64 a - IntKind.wrap .u64 b) = IntKind.wrap .u64 (a - b) := by
  simp only [wrap_u64i]
  exact (Int.sub_emod a b _).symm
theorem wrap_wrap (a : Int) : IntKind.wrap .u64 (IntKind.wrap .u64 a) = IntKind.wrap .u64 a := by
  simp only [wrap_u64i, Int.emod_emod]
theorem l64_1_out (y s yn1 un32 un1 un0 : Int) {q : Nat} (hq : q < 4294967296) (rhat : Int) : l64_1 (y, s, yn1, 0, un32, un1, un0, (q : Int), rhat, ()) = some (.inl (y, s, yn1, 0, un32, un1, un0, (q : Int), ())) := by
  rw [show l64_1 = loopN g64_1 o64_1 b64_1 (18446744073709551615 + 1) from rfl, loopN_succ]
  generalize loopN g64_1 o64_1 b64_1 18446744073709551615 = L
  unfold b64_1
  dsimp only
  rw [if_neg (by rw [decide_eq_true_eq]; omega), if_neg (by
    rw [decide_eq_true_eq, Int.mul_zero, wrap_u64i, wrap_u64i]
    omega)]
  rfl
theorem l64_2_out (y s yn1 un0 q1 rhat un21 : Int) {q : Nat} (hq : q < 4294967296) : l64_2 (y, s, yn1, 0, un0, q1, rhat, un21, (q : Int), ()) = some (.inl (y, s, un0, q1, un21, (q : Int), ())) := by
  rw [show l64_2 = loopN g64_2 o64_2 b64_2 (18446744073709551615 + 1) from rfl, loopN_succ]
  generalize loopN g64_2 o64_2 b64_2 18446744073709551615 = L
  unfold b64_2
  dsimp only
  rw [if_neg (by rw [decide_eq_true_eq]; omega), if_neg (by
    rw [decide_eq_true_eq, Int.mul_zero, wrap_u64i, wrap_u64i]
    omega)]
  rfl
theorem f64_ten {hi lo : Nat} (hhi : hi < 10) (hlo : lo < 18446744073709551616) : f64 ((hi : Int), (lo : Int), (10 : Int), ()) = some ((((hi * 18446744073709551616 + lo) / 10 : Nat) : Int), (((hi * 18446744073709551616 + lo) % 10 : Nat) : Int), ()) := by
  unfold f64
  dsimp only
  rw [if_neg (by decide), if_neg (by rw [decide_eq_true_eq]; omega)]
  by_cases h0 : hi = 0
  · subst h0
    rw [if_pos (by decide), if_neg (by decide), if_neg (by decide)]
    simp only [Nat.zero_mul, Nat.zero_add]
    have e1 : Int.tdiv (lo : Int) 10 = ((lo / 10 : Nat) : Int) := rfl
    have e2 : Int.tmod (lo : Int) 10 = ((lo % 10 : Nat) : Int) := rfl
    rw [e1, e2, wrap_u64' (by omega)]
  · rw [if_neg (by rw [beq_iff_eq]; omega), lead_ten, Option.bind_some]
    dsimp only
    have k1 : IntKind.wrap .u64 (60 : Int) = 60 := by decide
    have k2 : IntKind.wrap .u64 ((64 : Int) - 60) = 4 := by decide
    have k3 : Min.min (Int.toNat (60 : Int)) 64 = 60 := by decide
    have k3' : Min.min (Int.toNat (4 : Int)) 64 = 4 := by decide
    have k4 : IntKind.wrap .u64 ((10 : Int) * 2 ^ 60) = 11529215046068469760 := by decide
    have k5 : Int.fdiv (11529215046068469760 : Int) 4294967296 = 2684354560 := by decide
    have k6 : IntKind.wrap .u64 (((BitVec.ofInt 64 (11529215046068469760 : Int) &&& BitVec.ofInt 64 4294967295).toNat : Nat) : Int) = 0 := by decide
    rw [k1, k2, k3, k3', k4, k5, k6]
    rw [if_neg (by decide), if_neg (by decide), if_neg (by decide), if_neg (by decide), if_neg (by decide)]
    have hU : IntKind.wrap .u64 (((BitVec.ofInt 64 (IntKind.wrap .u64 ((hi : Int) * 2 ^ 60)) ||| BitVec.ofInt 64 (Int.fdiv (lo : Int) (2 ^ 4))).toNat : Nat) : Int) = ((hi * 2 ^ 60 + lo / 16 : Nat) : Int) := by
      have e1 : IntKind.wrap .u64 ((hi : Int) * 2 ^ 60) = ((hi * 2 ^ 60 : Nat) : Int) := by
        rw [show ((hi : Int) * 2 ^ 60) = ((hi * 2 ^ 60 : Nat) : Int) by simp, wrap_u64' (by omega)]
      rw [e1, fdiv_pow, or64 (by omega) (by omega), Nat.or_comm, or_split _ (by omega), wrap_u64' (by omega)]
      congr 1
      omega
    have hN : Int.fdiv (IntKind.wrap .u64 ((lo : Int) * 2 ^ 60)) 4294967296 = (((lo % 16) * 268435456 : Nat) : Int) := by
      rw [show ((lo : Int) * 2 ^ 60) = ((lo * 2 ^ 60 : Nat) : Int) by simp, wrap_u64, fdiv_32]
      congr 1
      omega
    have h0' : IntKind.wrap .u64 (((BitVec.ofInt 64 (IntKind.wrap .u64 ((lo : Int) * 2 ^ 60)) &&& BitVec.ofInt 64 4294967295).toNat : Nat) : Int) = 0 := by
      rw [show ((lo : Int) * 2 ^ 60) = ((lo * 2 ^ 60 : Nat) : Int) by simp]
      simp only [wrap_u64, and_32]
      have : lo * 2 ^ 60 % 18446744073709551616 % 4294967296 % 18446744073709551616 = 0 := by omega
      rw [this]; rfl
    rw [hU, hN, h0']
    have hUlt : hi * 2 ^ 60 + lo / 16 < 11529215046068469760 := by omega
    have hall : hi * 18446744073709551616 + lo = (hi * 2 ^ 60 + lo / 16) * 16 + lo % 16 := by omega
    rw [hall]
    have hNlt : lo % 16 < 16 := by omega
    generalize hi * 2 ^ 60 + lo / 16 = U at hUlt ⊢
    generalize lo % 16 = N at hNlt ⊢
    have hq1 : IntKind.wrap .u64 (Int.tdiv (U : Int) 2684354560) = ((U / 2684354560 : Nat) : Int) := by
      rw [show Int.tdiv (U : Int) 2684354560 = ((U / 2684354560 : Nat) : Int) from rfl, wrap_u64' (by omega)]
    rw [hq1, l64_1_out _ _ _ _ _ _ (by omega), Option.bind_some, Sum.elim_inl]
    dsimp only
    rw [if_neg (by decide)]
    have hR : IntKind.wrap .u64 (IntKind.wrap .u64 (IntKind.wrap .u64 ((U : Int) * 4294967296) + ((N * 268435456 : Nat) : Int)) - IntKind.wrap .u64 (((U / 2684354560 : Nat) : Int) * 11529215046068469760)) = ((U % 2684354560 * 4294967296 + N * 268435456 : Nat) : Int) := by
      rw [wrap_wadd, wrap_wsub]
      rw [← wrap_u64' (n := U % 2684354560 * 4294967296 + N * 268435456) (by omega)]
      congr 1
      omega
    rw [hR]
    have hq0 : IntKind.wrap .u64 (Int.tdiv ((U % 2684354560 * 4294967296 + N * 268435456 : Nat) : Int) 2684354560) = (((U % 2684354560 * 4294967296 + N * 268435456) / 2684354560 : Nat) : Int) := by
      rw [show Int.tdiv ((U % 2684354560 * 4294967296 + N * 268435456 : Nat) : Int) 2684354560 = (((U % 2684354560 * 4294967296 + N * 268435456) / 2684354560 : Nat) : Int) from rfl, wrap_u64' (by omega)]
    rw [hq0, l64_2_out _ _ _ _ _ _ _ (by omega), Option.bind_some, Sum.elim_inl]
    dsimp only
    rw [if_neg (by decide), k3]
    have e1 : IntKind.wrap .u64 (IntKind.wrap .u64 (((U / 2684354560 : Nat) : Int) * 4294967296) + (((U % 2684354560 * 4294967296 + N * 268435456) / 2684354560 : Nat) : Int)) = (((U * 16 + N) / 10 : Nat) : Int) := by
      rw [wrap_wadd, ← wrap_u64' (n := (U * 16 + N) / 10) (by omega)]
      congr 1
      omega
    have e2 : IntKind.wrap .u64 (IntKind.wrap .u64 (IntKind.wrap .u64 (((U % 2684354560 * 4294967296 + N * 268435456 : Nat) : Int) * 4294967296) + 0) - IntKind.wrap .u64 ((((U % 2684354560 * 4294967296 + N * 268435456) / 2684354560 : Nat) : Int) * 11529215046068469760)) = (((U * 16 + N) % 10 * 1152921504606846976 : Nat) : Int) := by
      rw [Int.add_zero, wrap_wrap, wrap_wsub, ← wrap_u64' (n := (U * 16 + N) % 10 * 1152921504606846976) (by omega)]
      congr 1
      omega
    rw [e1, e2, fdiv_pow]
    congr 4
    omega
end Go.Ev.Box
namespace Go.Ev.Box
open Go.Ev.Dec

abbrev B64 : Nat := 18446744073709551616
theorem f63_eqn {hi lo : Nat} (hhi : hi < 18446744073709551616) (hlo : lo < 18446744073709551616) : ∃ hi' lo' : Nat, hi' < 18446744073709551616 ∧ lo' < 18446744073709551616 ∧ hi' * 18446744073709551616 + lo' = (hi * 18446744073709551616 + lo) / 10 ∧
    f63 ((hi : Int), (lo : Int), ()) = some ((hi' : Int), (lo' : Int), (((hi * 18446744073709551616 + lo) % 10 : Nat) : Int), ()) := by
  refine ⟨hi / 10, ((hi % 10) * 18446744073709551616 + lo) / 10, by omega, by omega, by omega, ?_⟩
  unfold f63
  dsimp only
  rw [show Int.tmod (hi : Int) 10 = ((hi % 10 : Nat) : Int) from rfl, f64_ten (Nat.mod_lt _ (by omega)) hlo, Option.bind_some]
  dsimp only
  rw [show Int.tdiv (hi : Int) 10 = ((hi / 10 : Nat) : Int) from rfl, wrap_u64' (by omega)]
  have : (hi % 10 * 18446744073709551616 + lo) % 10 = (hi * 18446744073709551616 + lo) % 10 := by omega
  rw [this]

theorem l57_1_spec (below : Bool) (a b : Int) : ∀ (k s hi lo : Nat), s < k → s < 1000 → hi < 18446744073709551616 → lo < 18446744073709551616 → ∃ hi' lo' s' : Nat, hi' < 18446744073709551616 ∧ lo' < 18446744073709551616 ∧
    strip (hi * 18446744073709551616 + lo) s = (hi' * 18446744073709551616 + lo', s') ∧
    loopN g57_1 o57_1 b57_1 k (below, (s : Int), (hi : Int), (lo : Int), a, b, ()) = some (.inl (below, (s' : Int), (hi' : Int), (lo' : Int), a, b, ())) := by
  intro k
  induction k with
  | zero => intro s hi lo h; omega
  | succ k ih =>
    intro s hi lo h1 h2 h3 h4
    rw [loopN_succ]
    generalize hL : loopN g57_1 o57_1 b57_1 k = L at ih ⊢
    unfold b57_1
    dsimp only
    cases s with
    | zero =>
      refine ⟨hi, lo, 0, h3, h4, rfl, ?_⟩
      rw [if_neg (by rw [decide_eq_true_eq]; omega)]
      rfl
    | succ s =>
      obtain ⟨hi', lo', h5, h6, h7, h8⟩ := f63_eqn h3 h4
      rw [if_pos (by rw [decide_eq_true_eq]; omega), h8, Option.bind_some]
      dsimp only
      unfold strip
      by_cases h9 : (hi * 18446744073709551616 + lo) % 10 = 0
      · rw [if_pos h9, if_neg (by rw [h9]; decide), ← h7]
        rw [Option.bind_some, Sum.elim_inl, show IntKind.wrap .i64 (((s + 1 : Nat) : Int) - 1) = ((s : Nat) : Int) by rw [wrap_i64 (by omega)]; omega]
        exact ih s hi' lo' (by omega) (by omega) h5 h6
      · rw [if_neg h9, if_pos (by rw [bne_iff_ne]; omega)]
        exact ⟨hi, lo, s + 1, h3, h4, rfl, rfl⟩

theorem f57_eqn (below : Bool) {hi lo s : Nat} (h2 : s < 1000) (h3 : hi < 18446744073709551616) (h4 : lo < 18446744073709551616) : f57 (below, (hi : Int), (lo : Int), (s : Int), ()) = some (told below (hi * 18446744073709551616 + lo) s) := by
  unfold f57
  dsimp only
  obtain ⟨hi', lo', s', h5, h6, h7, h8⟩ := l57_1_spec below 0 0 18446744073709551616 s hi lo (by omega) h2 h3 h4
  rw [show l57_1 = loopN g57_1 o57_1 b57_1 18446744073709551616 from rfl]
  generalize loopN g57_1 o57_1 b57_1 18446744073709551616 (below, (s : Int), (hi : Int), (lo : Int), 0, 0, ()) = X at h8 ⊢
  subst h8
  rw [Option.bind_some, Sum.elim_inl]
  dsimp only
  unfold told
  rw [h7]
  dsimp only
  by_cases g1 : hi' = 0
  · subst g1
    rw [if_neg (by decide), Nat.zero_mul, Nat.zero_add]
    by_cases g2 : 999999999999999999 < lo'
    · rw [if_pos (by rw [decide_eq_true_eq]; omega), if_pos (.inl g2)]
    · rw [if_neg (by rw [decide_eq_true_eq]; omega)]
      by_cases g3 : 9 < s'
      · rw [if_pos (by rw [decide_eq_true_eq]; omega), if_pos (.inr g3)]
      · rw [if_neg (by rw [decide_eq_true_eq]; omega), if_neg (show ¬ (999999999999999999 < lo' ∨ 9 < s') by omega)]
        have e1 : IntKind.wrap .i64 (lo' : Int) = (lo' : Int) := wrap_i64 (by omega)
        have e2 : IntKind.wrap .i64 (0 - (lo' : Int)) = -(lo' : Int) := by rw [wrap_i64 (by omega)]; omega
        rw [e1, e2]
        cases below <;> rfl
  · rw [if_pos (by rw [bne_iff_ne]; omega), if_pos (.inl (by omega))]

theorem f49_eqn {m : Int} (h : -999999999999999999 ≤ m ∧ m ≤ 999999999999999999) : f49 (m, ()) = some ((m.natAbs : Int), ()) := by
  unfold f49
  dsimp only
  have e : IntKind.wrap .i64 (0 - m) = -m := by rw [wrap_i64 (by omega)]; omega
  rw [e, show max m (-m) = (m.natAbs : Int) by omega, wrap_u64' (by omega)]

theorem l38_1_spec (a b : Int) (S : Nat) (hS : S < 1000) : ∀ (k s hi lo : Nat), S < s + k → s ≤ S → (hi * 18446744073709551616 + lo) * 10 ^ (S - s) < 340282366920938463463374607431768211456 → lo < 18446744073709551616 → ∃ hi' lo' : Nat, hi' < 18446744073709551616 ∧ lo' < 18446744073709551616 ∧
    hi' * 18446744073709551616 + lo' = (hi * 18446744073709551616 + lo) * 10 ^ (S - s) ∧
    loopN g38_1 o38_1 b38_1 k ((S : Int), (s : Int), a, b, (hi : Int), (lo : Int), ()) = some (.inl (a, b, (hi' : Int), (lo' : Int), ())) := by
  intro k
  induction k with
  | zero => intro s hi lo h1 h2; omega
  | succ k ih =>
    intro s hi lo h1 h2 h3 h4
    rw [loopN_succ]
    generalize hL : loopN g38_1 o38_1 b38_1 k = L at ih ⊢
    unfold b38_1
    dsimp only
    rcases Nat.lt_or_ge s S with h | h
    · have h41 : f50 ((lo : Int), 10, ()) = _ := f50_eqn (y := 10) h4 (by omega)
      rw [if_pos (by rw [decide_eq_true_eq]; omega), h41, Option.bind_some]
      dsimp only
      have hp : S - s = (S - (s + 1)) + 1 := by omega
      have hle : (hi * 18446744073709551616 + lo) * 10 ≤ (hi * 18446744073709551616 + lo) * 10 ^ (S - s) := by
        rw [hp, Nat.pow_succ]
        refine Nat.mul_le_mul (Nat.le_refl _) ?_
        have := Nat.pow_pos (n := S - (s + 1)) (show 0 < 10 by omega)
        omega
      have hb : (hi * 18446744073709551616 + lo) * 10 < 340282366920938463463374607431768211456 := by omega
      have e1 : IntKind.wrap .u64 (IntKind.wrap .u64 ((hi : Int) * 10) + ((lo * 10 / 18446744073709551616 : Nat) : Int)) = ((hi * 10 + lo * 10 / 18446744073709551616 : Nat) : Int) := by
        rw [wrap_wadd, ← wrap_u64' (n := hi * 10 + lo * 10 / 18446744073709551616) (by omega)]
        congr 1
      have e2 : IntKind.wrap .i64 ((s : Int) + 1) = ((s + 1 : Nat) : Int) := by rw [wrap_i64 (by omega)]; omega
      rw [e1, e2, Option.bind_some, Sum.elim_inl]
      have e3 : (hi * 10 + lo * 10 / 18446744073709551616) * 18446744073709551616 + lo * 10 % 18446744073709551616 = (hi * 18446744073709551616 + lo) * 10 := by omega
      have e4 : (hi * 18446744073709551616 + lo) * 10 * 10 ^ (S - (s + 1)) = (hi * 18446744073709551616 + lo) * 10 ^ (S - s) := by rw [hp, Nat.pow_succ, Nat.mul_assoc, Nat.mul_comm 10]
      obtain ⟨hi', lo', h5, h6, h7, h8⟩ := ih (s + 1) (hi * 10 + lo * 10 / 18446744073709551616) (lo * 10 % 18446744073709551616) (by omega) (by omega) (by rw [e3, e4]; exact h3) (Nat.mod_lt _ (by omega))
      exact ⟨hi', lo', h5, h6, by rw [h7, e3, e4], h8⟩
    · rw [if_neg (by rw [decide_eq_true_eq]; omega), show S - s = 0 by omega]
      rw [show S - s = 0 by omega] at h3
      refine ⟨hi, lo, by omega, h4, by omega, rfl⟩

theorem f38_eqn {m : Int} {s S : Nat} (hm : -999999999999999999 ≤ m ∧ m ≤ 999999999999999999) (hs : s ≤ S) (hS : S ≤ 9) : ∃ hi lo : Nat, hi < 18446744073709551616 ∧ lo < 18446744073709551616 ∧ hi * 18446744073709551616 + lo = m.natAbs * 10 ^ (S - s) ∧
    f38 (m, (s : Int), (S : Int), ()) = some ((hi : Int), (lo : Int), ()) := by
  have hp : 10 ^ (S - s) ≤ 10 ^ 9 := Nat.pow_le_pow_right (by omega) (by omega)
  have hle : m.natAbs * 10 ^ (S - s) ≤ 999999999999999999 * 10 ^ 9 := Nat.mul_le_mul (by omega) hp
  obtain ⟨hi', lo', h5, h6, h7, h8⟩ := l38_1_spec 0 0 S (by omega) 18446744073709551616 s 0 m.natAbs (by omega) hs (by rw [Nat.zero_mul, Nat.zero_add]; omega) (by omega)
  refine ⟨hi', lo', h5, h6, by rw [h7, Nat.zero_mul, Nat.zero_add], ?_⟩
  unfold f38
  dsimp only
  rw [f49_eqn hm, Option.bind_some]
  dsimp only
  have h8' : loopN g38_1 o38_1 b38_1 18446744073709551616 ((S : Int), (s : Int), 0, 0, 0, (m.natAbs : Int), ()) = _ := h8
  rw [show l38_1 = loopN g38_1 o38_1 b38_1 18446744073709551616 from rfl]
  generalize loopN g38_1 o38_1 b38_1 18446744073709551616 ((S : Int), (s : Int), 0, 0, 0, (m.natAbs : Int), ()) = X at h8' ⊢
  subst h8'
  rw [Option.bind_some, Sum.elim_inl]

theorem f40_eqn (a b : Int) : f40 (a, b, ()) = some ((if a < b then -1 else if b < a then 1 else 0), ()) := by
  unfold f40 f51
  dsimp only
  rw [Option.bind_some, Option.bind_some]
  dsimp only
  rw [if_neg (by simp), if_neg (by simp)]
  by_cases h : a < b
  · rw [if_pos (by simpa using h), if_pos h]
  · rw [if_neg (by simpa using h), if_neg h]
    by_cases h2 : b < a
    · rw [if_pos (by simpa using h2), if_pos h2]
    · rw [if_neg (by simpa using h2), if_neg h2]
theorem f39_eqn (a b : Int) : f39 ([a, b], ()) = some ((if a ≠ 0 then a else b), ()) := by
  unfold f39
  dsimp only
  rw [show l39_1 = loopN g39_1 o39_1 b39_1 (18446744073709551613 + 1 + 1 + 1) from rfl, loopN_succ]
  have s1 : ∀ i : Nat, i < 2 → [a, b].getD i 0 = 0 → b39_1 (0, [a, b], ((List.length [a, b] : Nat) : Int), (i : Int), ()) = some (.inl (0, [a, b], 2, ((i + 1 : Nat) : Int), ())) := fun i hi h => by
    unfold b39_1
    dsimp only
    rw [if_pos (by rw [decide_eq_true_eq]; simp; omega), if_pos (by omega), if_pos (by simp; omega), Int.toNat_natCast]
    rw [if_neg (by rw [bne_iff_ne]; exact fun e => e h), wrap_i64 (by omega)]
    rfl
  have s2 : ∀ i : Nat, i < 2 → [a, b].getD i 0 ≠ 0 → b39_1 (0, [a, b], ((List.length [a, b] : Nat) : Int), (i : Int), ()) = some (.inr (.inr (.inl ([a, b].getD i 0, ())))) := fun i hi h => by
    unfold b39_1
    dsimp only
    rw [if_pos (by rw [decide_eq_true_eq]; simp; omega), if_pos (by omega), if_pos (by simp; omega), Int.toNat_natCast]
    rw [if_pos (by rw [bne_iff_ne]; exact h)]
  by_cases ha : a = 0
  · have h0 : b39_1 (0, [a, b], ((List.length [a, b] : Nat) : Int), 0, ()) = _ := s1 0 (by omega) ha
    rw [h0, if_neg (show ¬ a ≠ 0 from fun h => h ha), Option.bind_some, Sum.elim_inl, loopN_succ]
    by_cases hb : b = 0
    · have h1 : b39_1 (0, [a, b], 2, ((0 + 1 : Nat) : Int), ()) = _ := s1 1 (by omega) hb
      rw [h1, Option.bind_some, Sum.elim_inl, loopN_succ]
      generalize loopN g39_1 o39_1 b39_1 18446744073709551613 = L
      unfold b39_1
      dsimp only
      have hd : ¬ ((decide (((1 + 1 : Nat) : Int) < 2)) = true) := by decide
      rw [if_neg hd]
      subst hb
      rfl
    · have h1 : b39_1 (0, [a, b], 2, ((0 + 1 : Nat) : Int), ()) = _ := s2 1 (by omega) hb
      rw [h1]
      rfl
  · have h0 : b39_1 (0, [a, b], ((List.length [a, b] : Nat) : Int), 0, ()) = _ := s2 0 (by omega) ha
    rw [h0, if_pos (show a ≠ 0 from ha)]
    rfl
theorem f25_eqn {hi lo hi' lo' : Nat} (h2 : lo < 18446744073709551616) (h4 : lo' < 18446744073709551616) :
    f25 ((hi : Int), (lo : Int), (hi' : Int), (lo' : Int), ()) = some ((if hi * 18446744073709551616 + lo < hi' * 18446744073709551616 + lo' then -1 else if hi' * 18446744073709551616 + lo' < hi * 18446744073709551616 + lo then 1 else 0), ()) := by
  unfold f25
  dsimp only
  rw [f40_eqn, Option.bind_some, f40_eqn, Option.bind_some]
  dsimp only
  have e : ∀ a b : Int, List.take 2 (List.drop 0 (List.set (List.set (List.replicate 2 (0 : Int)) 0 a) 1 b)) = [a, b] := fun a b => rfl
  rw [e, f39_eqn, Option.bind_some]
  congr 2
  have n1 : ¬ ((0 : Int) ≠ 0) := by decide
  have n2 : ((-1 : Int) ≠ 0) := by decide
  have n3 : ((1 : Int) ≠ 0) := by decide
  rcases Nat.lt_trichotomy hi hi' with h | h | h
  · have c1 : (if (hi : Int) < hi' then (-1 : Int) else if (hi' : Int) < hi then 1 else 0) = -1 := if_pos (by omega)
    rw [c1, if_pos n2, if_pos (by omega)]
  · subst h
    have c1 : (if (hi : Int) < hi then (-1 : Int) else if (hi : Int) < hi then 1 else 0) = 0 := by rw [if_neg (by omega), if_neg (by omega)]
    rw [c1, if_neg n1]
    rcases Nat.lt_trichotomy lo lo' with h | h | h
    · rw [if_pos (show (lo : Int) < lo' by omega), if_pos (by omega)]
    · subst h
      have c2 : (if (lo : Int) < lo then (-1 : Int) else if (lo : Int) < lo then 1 else 0) = 0 := by rw [if_neg (by omega), if_neg (by omega)]
      rw [c2, if_neg (by omega), if_neg (by omega)]
    · have c2 : (if (lo : Int) < lo' then (-1 : Int) else if (lo' : Int) < lo then 1 else 0) = 1 := by rw [if_neg (by omega), if_pos (by omega)]
      rw [c2, if_neg (by omega), if_pos (by omega)]
  · have c1 : (if (hi : Int) < hi' then (-1 : Int) else if (hi' : Int) < hi then 1 else 0) = 1 := by rw [if_neg (by omega), if_pos (by omega)]
    rw [c1, if_pos n3, if_neg (by omega), if_pos (by omega)]
end Go.Ev.Box
namespace Go.Ev.Box
open Go.Ev.Dec

theorem f23_eqn (m s : Int) : f23 (m, s, ()) = some ((if Rt m s then 0 else 1), ()) := by
  unfold f23
  dsimp only
  by_cases h1 : m < -999999999999999999
  · rw [if_pos (by rw [decide_eq_true_eq]; exact h1), if_neg (fun h : Rt m s => by have := h.1; omega)]
  · rw [if_neg (by rw [decide_eq_true_eq]; exact h1)]
    by_cases h2 : m > 999999999999999999
    · rw [if_pos (by rw [decide_eq_true_eq]; exact h2), if_neg (fun h : Rt m s => by have := h.2.1; omega)]
    · rw [if_neg (by rw [decide_eq_true_eq]; exact h2)]
      by_cases h3 : s < 0
      · rw [if_pos (by rw [decide_eq_true_eq]; exact h3), if_neg (fun h : Rt m s => by have := h.2.2.1; omega)]
      · rw [if_neg (by rw [decide_eq_true_eq]; exact h3)]
        by_cases h4 : s > 9
        · rw [if_pos (by rw [decide_eq_true_eq]; exact h4), if_neg (fun h : Rt m s => by have := h.2.2.2.1; omega)]
        · rw [if_neg (by rw [decide_eq_true_eq]; exact h4)]
          by_cases h5 : s > 0
          · rw [if_pos (by rw [decide_eq_true_eq]; exact h5)]
            have e : Int.tmod m 10 = 0 ↔ m % 10 = 0 := by
              rw [← Int.dvd_iff_tmod_eq_zero, Int.dvd_iff_emod_eq_zero]
            by_cases h6 : m % 10 = 0
            · rw [if_pos (by rw [beq_iff_eq]; exact e.2 h6), if_neg (fun h : Rt m s => by rcases h.2.2.2.2 with h | h; omega; exact h h6)]
            · rw [if_neg (by rw [beq_iff_eq]; exact fun h => h6 (e.1 h)), if_pos (show Rt m s from ⟨by omega, by omega, by omega, by omega, .inr h6⟩)]
          · rw [if_neg (by rw [decide_eq_true_eq]; exact h5), if_pos (show Rt m s from ⟨by omega, by omega, by omega, by omega, .inl (by omega)⟩)]

/-- A product, and a sum. -/
def mul (m s m' s' : Int) : Int × Int × Int × Unit := if Rt m s ∧ Rt m' s' then T (val m s * val m' s') 18 else (0, 0, 1, ())
def add (m s m' s' : Int) : Int × Int × Int × Unit := if Rt m s ∧ Rt m' s' then T (val m s + val m' s') 9 else (0, 0, 1, ())

theorem f46_eqn (m s m' s' : Int) : f46 (m, s, m', s', ()) = some (mul m s m' s') := by
  unfold f46 mul
  dsimp only
  rw [f23_eqn, Option.bind_some]
  dsimp only
  by_cases h : Rt m s
  · rw [if_pos h, if_neg (by decide), f23_eqn, Option.bind_some]
    dsimp only
    by_cases h' : Rt m' s'
    · rw [if_pos h', if_neg (by decide), if_pos ⟨h, h'⟩, f49_eqn ⟨h.1, h.2.1⟩, Option.bind_some, f49_eqn ⟨h'.1, h'.2.1⟩, Option.bind_some]
      dsimp only
      have b1 := h.1; have b2 := h.2.1; have b3 := h.2.2.1; have b4 := h.2.2.2.1
      have c1 := h'.1; have c2 := h'.2.1; have c3 := h'.2.2.1; have c4 := h'.2.2.2.1
      rw [f50_eqn (by omega) (by omega), Option.bind_some]
      dsimp only
      have es : IntKind.wrap .i64 (s + s') = ((s.toNat + s'.toNat : Nat) : Int) := by rw [wrap_i64 (by omega)]; omega
      have hle : m.natAbs * m'.natAbs ≤ 999999999999999999 * 999999999999999999 := Nat.mul_le_mul (by omega) (by omega)
      rw [es, f57_eqn _ (by omega) (by omega) (Nat.mod_lt _ (by omega)), Option.bind_some]
      rw [show m.natAbs * m'.natAbs / 18446744073709551616 * 18446744073709551616 + m.natAbs * m'.natAbs % 18446744073709551616 = m.natAbs * m'.natAbs from Nat.div_add_mod' _ _]
      rw [told_T (z := m * m') (by rw [Int.natAbs_mul]) ?_]
      · rw [mul_T m m' s.toNat s'.toNat (by omega) (by omega)]
        rfl
      · rcases Int.lt_trichotomy m 0 with hm | hm | hm
        · rcases Int.lt_trichotomy m' 0 with hn | hn | hn
          · refine .inr ?_
            have : ¬ m * m' < 0 := Int.not_lt.2 (Int.le_of_lt (Int.mul_pos_of_neg_of_neg hm hn))
            simp [hm, hn, this]
          · exact .inl (by rw [hn, Int.mul_zero])
          · refine .inr ?_
            have : m * m' < 0 := Int.mul_neg_of_neg_of_pos hm hn
            have hn' : ¬ m' < 0 := by omega
            simp [hm, hn', this]
        · exact .inl (by rw [hm, Int.zero_mul])
        · rcases Int.lt_trichotomy m' 0 with hn | hn | hn
          · refine .inr ?_
            have : m * m' < 0 := Int.mul_neg_of_pos_of_neg hm hn
            have hm' : ¬ m < 0 := by omega
            simp [hm', hn, this]
          · exact .inl (by rw [hn, Int.mul_zero])
          · refine .inr ?_
            have : ¬ m * m' < 0 := Int.not_lt.2 (Int.le_of_lt (Int.mul_pos hm hn))
            have hm' : ¬ m < 0 := by omega
            have hn' : ¬ m' < 0 := by omega
            simp [hm', hn', this]
    · rw [if_neg h', if_pos (by decide), if_neg (fun h => h' h.2)]
  · rw [if_neg h, if_pos (by decide), if_neg (fun h' => h h'.1)]

theorem nat01_of (p : Prop) [Decidable p] : ((Go.Ev.nat01 (decide p) : Nat) : Int) = if p then 1 else 0 := by
  by_cases h : p
  · rw [if_pos h, show decide p = true from decide_eq_true h]; rfl
  · rw [if_neg h, show decide p = false from decide_eq_false h]; rfl

theorem add_hi {hi hi' lo lo' : Nat} (h : hi * 18446744073709551616 + lo < 170141183460469231731687303715884105728) (h' : hi' * 18446744073709551616 + lo' < 170141183460469231731687303715884105728) :
    IntKind.wrap .u64 (IntKind.wrap .u64 ((hi : Int) + (hi' : Int)) + ((lo : Int) + (lo' : Int) + 0) / 18446744073709551616) = ((hi + hi' + (lo + lo') / 18446744073709551616 : Nat) : Int) ∧
    hi + hi' + (lo + lo') / 18446744073709551616 < 18446744073709551616 := by
  have hlt : hi + hi' + (lo + lo') / 18446744073709551616 < 18446744073709551616 := by omega
  refine ⟨?_, hlt⟩
  rw [wrap_wadd, ← wrap_u64' hlt]
  congr 1
theorem add_lo (lo lo' : Nat) : ((lo : Int) + (lo' : Int) + 0) % 18446744073709551616 = (((lo + lo') % 18446744073709551616 : Nat) : Int) := by omega
theorem add_W (hi hi' lo lo' : Nat) : (hi + hi' + (lo + lo') / 18446744073709551616) * 18446744073709551616 + (lo + lo') % 18446744073709551616 = (hi * 18446744073709551616 + lo) + (hi' * 18446744073709551616 + lo') := by omega
theorem sub_hi {hi hi' lo lo' : Nat} (h : hi < 18446744073709551616) (g : lo < 18446744073709551616) (g' : lo' < 18446744073709551616) (hle : hi' * 18446744073709551616 + lo' ≤ hi * 18446744073709551616 + lo) :
    IntKind.wrap .u64 (IntKind.wrap .u64 ((hi : Int) - (hi' : Int)) - (if (lo : Int) < (lo' : Int) + 0 then 1 else 0)) = ((hi - hi' - (if lo < lo' then 1 else 0) : Nat) : Int) ∧ hi - hi' - (if lo < lo' then 1 else 0) < 18446744073709551616 ∧
    (hi - hi' - (if lo < lo' then 1 else 0)) * 18446744073709551616 + (lo + 18446744073709551616 - lo') % 18446744073709551616 = (hi * 18446744073709551616 + lo) - (hi' * 18446744073709551616 + lo') := by
  have hh : hi' ≤ hi := by omega
  have e1 : IntKind.wrap .u64 ((hi : Int) - (hi' : Int)) = ((hi - hi' : Nat) : Int) := by rw [← wrap_u64' (n := hi - hi') (by omega)]; congr 1; omega
  rw [e1]
  by_cases hb : lo < lo'
  · have c : (lo : Int) < (lo' : Int) + 0 := by omega
    rw [if_pos hb, if_pos c]
    have : 1 ≤ hi - hi' := by omega
    refine ⟨?_, by omega, by omega⟩
    rw [← wrap_u64' (n := hi - hi' - 1) (by omega)]; congr 1; omega
  · have c : ¬ (lo : Int) < (lo' : Int) + 0 := by omega
    rw [if_neg hb, if_neg c]
    refine ⟨?_, by omega, by omega⟩
    rw [← wrap_u64' (n := hi - hi' - 0) (by omega)]; congr 1
theorem sub_lo {lo lo' : Nat} (h : lo' < 18446744073709551616) : ((lo : Int) + 18446744073709551616 - (lo' : Int) - 0) % 18446744073709551616 = (((lo + 18446744073709551616 - lo') % 18446744073709551616 : Nat) : Int) := by omega

theorem f47_eqn (m s m' s' : Int) : f47 (m, s, m', s', ()) = some (add m s m' s') := by
  unfold f47 f24 add
  dsimp only
  rw [f23_eqn, Option.bind_some]
  dsimp only
  by_cases h : Rt m s
  · rw [if_pos h, if_neg (by decide), f23_eqn, Option.bind_some]
    dsimp only
    by_cases h' : Rt m' s'
    · rw [if_pos h', if_neg (by decide), if_pos ⟨h, h'⟩]
      have b1 := h.1; have b2 := h.2.1; have b3 := h.2.2.1; have b4 := h.2.2.2.1
      have c1 := h'.1; have c2 := h'.2.1; have c3 := h'.2.2.1; have c4 := h'.2.2.2.1
      have es : s = (s.toNat : Int) := by omega
      have es' : s' = (s'.toNat : Int) := by omega
      have eS : Max.max s s' = ((Max.max s.toNat s'.toNat : Nat) : Int) := by omega
      unfold val
      rw [← sum_T m m' s.toNat s'.toNat (Max.max s.toNat s'.toNat) (by omega) (by omega) (by omega)]
      rw [eS]
      generalize hSd : Max.max s.toNat s'.toNat = S
      have hS9 : S ≤ 9 := by omega
      have hsS : s.toNat ≤ S := by omega
      have hsS' : s'.toNat ≤ S := by omega
      obtain ⟨hi, lo, g1, g2, g3, g4⟩ := f38_eqn (m := m) ⟨b1, b2⟩ hsS hS9
      obtain ⟨hi', lo', k1, k2, k3, k4⟩ := f38_eqn (m := m') ⟨c1, c2⟩ hsS' hS9
      rw [← es] at g4
      rw [← es'] at k4
      rw [g4, Option.bind_some, k4, Option.bind_some, Option.bind_some]
      dsimp only
      rw [if_neg (by decide)]
      have hp : 10 ^ (S - s.toNat) ≤ 10 ^ 9 := Nat.pow_le_pow_right (by omega) (by omega)
      have hp' : 10 ^ (S - s'.toNat) ≤ 10 ^ 9 := Nat.pow_le_pow_right (by omega) (by omega)
      have hW : m.natAbs * 10 ^ (S - s.toNat) ≤ 999999999999999999 * 10 ^ 9 := Nat.mul_le_mul (by omega) hp
      have hW' : m'.natAbs * 10 ^ (S - s'.toNat) ≤ 999999999999999999 * 10 ^ 9 := Nat.mul_le_mul (by omega) hp'
      have q1 : 0 < (10 : Int) ^ (S - s.toNat) := Int.pow_pos (by omega)
      have q2 : 0 < (10 : Int) ^ (S - s'.toNat) := Int.pow_pos (by omega)
      have ea : ((m * 10 ^ (S - s.toNat)).natAbs) = m.natAbs * 10 ^ (S - s.toNat) := by
        rw [Int.natAbs_mul, Int.natAbs_pow]; rfl
      have eb : ((m' * 10 ^ (S - s'.toNat)).natAbs) = m'.natAbs * 10 ^ (S - s'.toNat) := by
        rw [Int.natAbs_mul, Int.natAbs_pow]; rfl
      have sa : m < 0 ↔ m * 10 ^ (S - s.toNat) < 0 := by
        constructor
        · exact fun h => Int.mul_neg_of_neg_of_pos h q1
        · intro h
          exact Int.not_le.1 fun h0 => absurd (Int.mul_nonneg h0 (Int.le_of_lt q1)) (by omega)
      have sb : m' < 0 ↔ m' * 10 ^ (S - s'.toNat) < 0 := by
        constructor
        · exact fun h => Int.mul_neg_of_neg_of_pos h q2
        · intro h
          exact Int.not_le.1 fun h0 => absurd (Int.mul_nonneg h0 (Int.le_of_lt q2)) (by omega)
      rw [← ea] at g3 hW
      rw [← eb] at k3 hW'
      rw [show decide (m < 0) = decide (m * 10 ^ (S - s.toNat) < 0) by rw [decide_eq_decide]; exact sa, show decide (m' < 0) = decide (m' * 10 ^ (S - s'.toNat) < 0) by rw [decide_eq_decide]; exact sb]
      generalize m * 10 ^ (S - s.toNat) = a at g3 hW ⊢
      generalize m' * 10 ^ (S - s'.toNat) = b at k3 hW' ⊢
      clear ea eb sa sb q1 q2 hp hp' es es' eS hSd g4 k4
      by_cases hsg : (decide (a < 0) == decide (b < 0)) = true
      · rw [if_pos hsg, if_pos ⟨Int.natCast_nonneg _, Int.natCast_nonneg _, Int.le_refl _, by decide⟩]
        obtain ⟨e1, e3⟩ := add_hi (hi := hi) (hi' := hi') (lo := lo) (lo' := lo') (by omega) (by omega)
        rw [e1, add_lo, f57_eqn _ (by omega) e3 (Nat.mod_lt _ (by omega)), Option.bind_some, add_W, g3, k3]
        simp only [beq_iff_eq, decide_eq_decide] at hsg
        clear g3 k3 hW hW' e1 e3
        rw [told_T (z := a + b) (by omega) (.inr (by rw [decide_eq_decide]; omega))]
      · rw [if_neg hsg, f25_eqn g2 k2, Option.bind_some]
        dsimp only
        simp only [beq_iff_eq, decide_eq_decide] at hsg
        by_cases hlt : hi * 18446744073709551616 + lo < hi' * 18446744073709551616 + lo'
        · rw [if_pos hlt, if_pos (by decide), if_pos ⟨Int.natCast_nonneg _, Int.natCast_nonneg _, Int.le_refl _, by decide, by omega⟩, nat01_of]
          obtain ⟨e1, e2, e3⟩ := sub_hi k1 k2 g2 (Nat.le_of_lt hlt)
          rw [e1, sub_lo g2, f57_eqn _ (by omega) e2 (Nat.mod_lt _ (by omega)), Option.bind_some, e3, g3, k3]
          rw [g3, k3] at hlt
          clear g3 k3 hW hW' e1 e2 e3
          rw [told_T (z := a + b) (by omega) (.inr (by rw [← decide_not, decide_eq_decide]; omega))]
        · have hnn : ¬ (decide ((if hi * 18446744073709551616 + lo < hi' * 18446744073709551616 + lo' then (-1 : Int) else if hi' * 18446744073709551616 + lo' < hi * 18446744073709551616 + lo then 1 else 0) < 0) = true) := by
            rw [if_neg hlt]
            split <;> decide
          rw [if_neg hnn, if_pos ⟨Int.natCast_nonneg _, Int.natCast_nonneg _, Int.le_refl _, by decide, by omega⟩, nat01_of]
          obtain ⟨e1, e2, e3⟩ := sub_hi g1 g2 k2 (Nat.not_lt.1 hlt)
          rw [e1, sub_lo k2, f57_eqn _ (by omega) e2 (Nat.mod_lt _ (by omega)), Option.bind_some, e3, g3, k3]
          rw [g3, k3] at hlt
          clear g3 k3 hW hW' e1 e2 e3 hnn
          by_cases hz : a + b = 0
          · rw [told_T (z := a + b) (by omega) (.inl hz)]
          · rw [told_T (z := a + b) (by omega) (.inr (by rw [decide_eq_decide]; omega))]
    · rw [if_neg h', if_pos (by decide), if_neg (fun h => h' h.2), Option.bind_some]
      rfl
  · rw [if_neg h, if_pos (by decide), if_neg (fun h' => h h'.1), Option.bind_some]
    rfl
end Go.Ev.Box
namespace Go.Ev.Box
open Go.Ev.Dec

/-! # Matrices of decimals -/
structure Mt where
  A : Int × Int
  B : Int × Int
  C : Int × Int
  D : Int × Int
  E : Int × Int
  F : Int × Int

def RtD (d : Int × Int) : Prop := Rt d.1 d.2
instance (d : Int × Int) : Decidable (RtD d) := by unfold RtD; infer_instance
def vD (d : Int × Int) : Int := val d.1 d.2
def Mt.ok (m : Mt) : Prop := RtD m.A ∧ RtD m.B ∧ RtD m.C ∧ RtD m.D ∧ RtD m.E ∧ RtD m.F
instance (m : Mt) : Decidable m.ok := by unfold Mt.ok; infer_instance
theorem vD_inj {a b : Int × Int} (ha : RtD a) (hb : RtD b) (h : vD a = vD b) : a = b := by
  obtain ⟨h1, h2⟩ := val_inj ha hb h
  exact Prod.ext h1 h2

theorem l36_1_spec (l : List (Int × Int)) (hl : l.length < 1000) : ∀ (k i : Nat), l.length < i + k → i ≤ l.length → (∀ j, j < i → RtD (l.getD j (0, 0))) →
    ((∀ d ∈ l, RtD d) ∧ loopN g36_1 o36_1 b36_1 k (l, ((l.length : Nat) : Int), (i : Int), ()) = some (.inl ())) ∨
    (¬ (∀ d ∈ l, RtD d) ∧ loopN g36_1 o36_1 b36_1 k (l, ((l.length : Nat) : Int), (i : Int), ()) = some (.inr (.inl (false, ())))) := by
  intro k
  induction k with
  | zero => intro i h1 h2; omega
  | succ k ih =>
    intro i h1 h2 h3
    rw [loopN_succ]
    generalize hL : loopN g36_1 o36_1 b36_1 k = L at ih ⊢
    unfold b36_1
    dsimp only
    rw [Int.toNat_natCast]
    rcases Nat.lt_or_ge i l.length with h | h
    · rw [if_pos (by rw [decide_eq_true_eq]; omega), if_pos (by omega), if_pos (by omega), f23_eqn, Option.bind_some]
      dsimp only
      by_cases hr : RtD (l.getD i (0, 0))
      · have hr' : Rt (l.getD i (0, 0)).1 (l.getD i (0, 0)).2 := hr
        rw [if_pos hr', if_neg (by decide), Option.bind_some, Sum.elim_inl]
        rw [show IntKind.wrap .i64 ((i : Int) + 1) = ((i + 1 : Nat) : Int) by rw [wrap_i64 (by omega)]; omega]
        refine ih (i + 1) (by omega) (by omega) (fun j hj => ?_)
        by_cases e : j = i
        · rw [e]; exact hr
        · exact h3 j (by omega)
      · have hr' : ¬ Rt (l.getD i (0, 0)).1 (l.getD i (0, 0)).2 := hr
        rw [if_neg hr', if_pos (by decide)]
        refine .inr ⟨fun hall => hr (hall _ ?_), rfl⟩
        rw [List.getD_eq_getElem?_getD, List.getElem?_eq_getElem h]
        exact List.getElem_mem _
    · rw [if_neg (by rw [decide_eq_true_eq]; omega)]
      refine .inl ⟨fun d hd => ?_, rfl⟩
      obtain ⟨j, hj, rfl⟩ := List.mem_iff_getElem.1 hd
      have := h3 j (by omega)
      rw [List.getD_eq_getElem?_getD, List.getElem?_eq_getElem hj] at this
      exact this
theorem f36_eqn (l : List (Int × Int)) (hl : l.length < 1000) : f36 (l, ()) = some (decide (∀ d ∈ l, RtD d), ()) := by
  unfold f36
  dsimp only
  rw [show l36_1 = loopN g36_1 o36_1 b36_1 18446744073709551616 from rfl]
  have h := l36_1_spec l hl 18446744073709551616 0 (by omega) (by omega) (fun j hj => by omega)
  have h' : ((∀ d ∈ l, RtD d) ∧ loopN g36_1 o36_1 b36_1 18446744073709551616 (l, ((l.length : Nat) : Int), 0, ()) = some (.inl ())) ∨
    (¬ (∀ d ∈ l, RtD d) ∧ loopN g36_1 o36_1 b36_1 18446744073709551616 (l, ((l.length : Nat) : Int), 0, ()) = some (.inr (.inl (false, ())))) := h
  generalize loopN g36_1 o36_1 b36_1 18446744073709551616 (l, ((l.length : Nat) : Int), 0, ()) = X at h' ⊢
  rcases h' with ⟨h1, h2⟩ | ⟨h1, h2⟩
  · subst h2
    rw [decide_eq_true h1]; rfl
  · subst h2
    rw [decide_eq_false h1]; rfl
theorem f33_eqn (m : Mt) : f33 (m.A.1, m.A.2, m.B.1, m.B.2, m.C.1, m.C.2, m.D.1, m.D.2, m.E.1, m.E.2, m.F.1, m.F.2, ()) = some ((if m.ok then 0 else 1), ()) := by
  unfold f33
  dsimp only
  have e : List.take 6 (List.drop 0 (List.set (List.set (List.set (List.set (List.set (List.set (List.replicate 6 ((0 : Int), (0 : Int))) 0 (m.A.1, m.A.2)) 1 (m.B.1, m.B.2)) 2 (m.C.1, m.C.2)) 3 (m.D.1, m.D.2)) 4 (m.E.1, m.E.2)) 5 (m.F.1, m.F.2))) = [m.A, m.B, m.C, m.D, m.E, m.F] := rfl
  rw [e, f36_eqn _ (by simp), Option.bind_some]
  dsimp only
  have e2 : (∀ d ∈ [m.A, m.B, m.C, m.D, m.E, m.F], RtD d) ↔ m.ok := by
    unfold Mt.ok
    simp
  by_cases h : m.ok
  · rw [if_pos (decide_eq_true (e2.2 h)), if_pos h]
  · rw [if_neg (by rw [decide_eq_true_eq]; exact fun hh => h (e2.1 hh)), if_neg h]
theorem f36_two (p q : Int × Int) : f36 (List.take 2 (List.drop 0 (List.set (List.set (List.replicate 2 ((0 : Int), (0 : Int))) 0 (p.1, p.2)) 1 (q.1, q.2))), ()) = some (decide (RtD p ∧ RtD q), ()) := by
  have e : List.take 2 (List.drop 0 (List.set (List.set (List.replicate 2 ((0 : Int), (0 : Int))) 0 (p.1, p.2)) 1 (q.1, q.2))) = [p, q] := rfl
  rw [e, f36_eqn _ (by simp)]
  congr 2
  rw [decide_eq_decide]
  simp

/-! ## Tied -/
def keep (w e : Int) : Int := if w = 0 then e else w
def tied (a b c d e : Int × Int) (w : Int) : (Int × Int) × Int :=
  let x := mul a.1 a.2 b.1 b.2
  let y := mul c.1 c.2 d.1 d.2
  let z := add x.1 x.2.1 y.1 y.2.1
  let u := add z.1 z.2.1 e.1 e.2
  ((u.1, u.2.1), keep (keep (keep (keep w x.2.2.1) y.2.2.1) z.2.2.1) u.2.2.1)
theorem f44_eqn (x s e w : Int) : f44 (x, s, e, w, ()) = some (x, s, keep w e, ()) := by
  unfold f44 keep
  dsimp only
  by_cases h : w = 0
  · rw [if_pos (by rw [beq_iff_eq]; exact h), if_pos h]
  · rw [if_neg (by rw [beq_iff_eq]; exact h), if_neg h]
theorem f45_eqn (a b c d e : Int × Int) (w : Int) : f45 (a.1, a.2, b.1, b.2, c.1, c.2, d.1, d.2, e.1, e.2, w, ()) = some ((tied a b c d e w).1.1, (tied a b c d e w).1.2, (tied a b c d e w).2, ()) := by
  unfold f45
  dsimp only
  rw [f46_eqn, Option.bind_some, f44_eqn, Option.bind_some, f46_eqn, Option.bind_some, f44_eqn, Option.bind_some]
  dsimp only
  rw [f47_eqn, Option.bind_some, f44_eqn, Option.bind_some, f47_eqn, Option.bind_some, f44_eqn, Option.bind_some]
  rfl

theorem mul_cases {a b : Int × Int} (ha : RtD a) (hb : RtD b) : (mul a.1 a.2 b.1 b.2 = (0, 0, 5, ())) ∨ ((mul a.1 a.2 b.1 b.2).2.2.1 = 0 ∧ RtD ((mul a.1 a.2 b.1 b.2).1, (mul a.1 a.2 b.1 b.2).2.1) ∧ vD ((mul a.1 a.2 b.1 b.2).1, (mul a.1 a.2 b.1 b.2).2.1) * 1000000000 = vD a * vD b) := by
  unfold mul
  rw [if_pos ⟨ha, hb⟩]
  rcases T_err (val a.1 a.2 * val b.1 b.2) 18 with h | h
  · exact .inr ⟨h, (T_val18 h).1, (T_val18 h).2⟩
  · exact .inl h
theorem add_cases {a b : Int × Int} (ha : RtD a) (hb : RtD b) : (add a.1 a.2 b.1 b.2 = (0, 0, 5, ())) ∨ ((add a.1 a.2 b.1 b.2).2.2.1 = 0 ∧ RtD ((add a.1 a.2 b.1 b.2).1, (add a.1 a.2 b.1 b.2).2.1) ∧ vD ((add a.1 a.2 b.1 b.2).1, (add a.1 a.2 b.1 b.2).2.1) = vD a + vD b) := by
  unfold add
  rw [if_pos ⟨ha, hb⟩]
  rcases T_err (val a.1 a.2 + val b.1 b.2) 9 with h | h
  · exact .inr ⟨h, (T_val9 h).1, (T_val9 h).2⟩
  · exact .inl h
theorem RtD_zero : RtD (0, 0) := Rt_zero

theorem tied_spec {a b c d e : Int × Int} (ha : RtD a) (hb : RtD b) (hc : RtD c) (hd : RtD d) (he : RtD e) {w : Int} (h : (tied a b c d e w).2 = 0) :
    w = 0 ∧ RtD (tied a b c d e w).1 ∧ vD (tied a b c d e w).1 * 1000000000 = vD a * vD b + vD c * vD d + vD e * 1000000000 := by
  unfold tied at h ⊢
  dsimp only at h ⊢
  have hk : ∀ w e, keep w e = 0 → w = 0 ∧ e = 0 := fun w e h => by
    unfold keep at h
    split at h
    · rename_i h1; exact ⟨h1, h⟩
    · rename_i h1; exact absurd h h1
  obtain ⟨h, h4⟩ := hk _ _ h
  obtain ⟨h, h3⟩ := hk _ _ h
  obtain ⟨h, h2⟩ := hk _ _ h
  obtain ⟨h, h1⟩ := hk _ _ h
  refine ⟨h, ?_⟩
  rcases mul_cases ha hb with k1 | ⟨_, r1, v1⟩
  · rw [k1] at h1; cases h1
  rcases mul_cases hc hd with k2 | ⟨_, r2, v2⟩
  · rw [k2] at h2; cases h2
  generalize mul a.1 a.2 b.1 b.2 = x at *
  generalize mul c.1 c.2 d.1 d.2 = y at *
  rcases add_cases r1 r2 with k3 | ⟨_, r3, v3⟩
  · rw [k3] at h3; cases h3
  dsimp only at v3 r3
  generalize add x.1 x.2.1 y.1 y.2.1 = z at *
  rcases add_cases r3 he with k4 | ⟨_, r4, v4⟩
  · rw [k4] at h4; cases h4
  dsimp only at v4 r4
  refine ⟨r4, ?_⟩
  rw [v4, v3, Int.add_mul, Int.add_mul, v1, v2]

theorem mul_one {a : Int × Int} (ha : RtD a) : mul a.1 a.2 1 0 = (a.1, a.2, 0, ()) := by
  unfold mul
  rw [if_pos ⟨ha, Rt_one⟩, val_one, Int.mul_comm, T_one, T_right ha]
theorem one_mul {a : Int × Int} (ha : RtD a) : mul 1 0 a.1 a.2 = (a.1, a.2, 0, ()) := by
  unfold mul
  rw [if_pos ⟨Rt_one, ha⟩, val_one, T_one, T_right ha]
theorem T_zero (s : Nat) : T 0 s = (0, 0, 0, ()) := told_zero _ _
theorem mul_zero {a : Int × Int} (ha : RtD a) : mul a.1 a.2 0 0 = (0, 0, 0, ()) := by
  unfold mul
  rw [if_pos ⟨ha, Rt_zero⟩, val_zero, Int.mul_zero, T_zero]
theorem zero_mul {a : Int × Int} (ha : RtD a) : mul 0 0 a.1 a.2 = (0, 0, 0, ()) := by
  unfold mul
  rw [if_pos ⟨Rt_zero, ha⟩, val_zero, Int.zero_mul, T_zero]
theorem add_zero {a : Int × Int} (ha : RtD a) : add a.1 a.2 0 0 = (a.1, a.2, 0, ()) := by
  unfold add
  rw [if_pos ⟨ha, Rt_zero⟩, val_zero, Int.add_zero, T_right ha]
theorem zero_add {a : Int × Int} (ha : RtD a) : add 0 0 a.1 a.2 = (a.1, a.2, 0, ()) := by
  unfold add
  rw [if_pos ⟨Rt_zero, ha⟩, val_zero, Int.zero_add, T_right ha]
theorem keep_zero (w : Int) : keep w 0 = w := by
  unfold keep
  split
  · rename_i h; exact h.symm
  · rfl

theorem tied_10 {a b e : Int × Int} (ha : RtD a) (hb : RtD b) (w : Int) : tied a (1, 0) b (0, 0) e w = (((add a.1 a.2 e.1 e.2).1, (add a.1 a.2 e.1 e.2).2.1), keep w (add a.1 a.2 e.1 e.2).2.2.1) := by
  unfold tied
  dsimp only
  rw [mul_one ha, mul_zero hb]
  dsimp only
  rw [add_zero ha]
  dsimp only
  rw [keep_zero, keep_zero, keep_zero]
theorem tied_01 {a b e : Int × Int} (ha : RtD a) (hb : RtD b) (w : Int) : tied a (0, 0) b (1, 0) e w = (((add b.1 b.2 e.1 e.2).1, (add b.1 b.2 e.1 e.2).2.1), keep w (add b.1 b.2 e.1 e.2).2.2.1) := by
  unfold tied
  dsimp only
  rw [mul_one hb, mul_zero ha]
  dsimp only
  rw [zero_add hb]
  dsimp only
  rw [keep_zero, keep_zero, keep_zero]
theorem tied_00 {a b e : Int × Int} (ha : RtD a) (hb : RtD b) (he : RtD e) (w : Int) : tied a (0, 0) b (0, 0) e w = (e, w) := by
  unfold tied
  dsimp only
  rw [mul_zero hb, mul_zero ha]
  dsimp only
  rw [show add 0 0 0 0 = (0, 0, 0, ()) from zero_add RtD_zero]
  dsimp only
  rw [zero_add he]
  dsimp only
  rw [keep_zero, keep_zero, keep_zero, keep_zero]
theorem tied_x1 {a b e : Int × Int} (ha : RtD a) (hb : RtD b) (w : Int) : tied (1, 0) a (0, 0) b e w = (((add a.1 a.2 e.1 e.2).1, (add a.1 a.2 e.1 e.2).2.1), keep w (add a.1 a.2 e.1 e.2).2.2.1) := by
  unfold tied
  dsimp only
  rw [one_mul ha, zero_mul hb]
  dsimp only
  rw [add_zero ha]
  dsimp only
  rw [keep_zero, keep_zero, keep_zero]
theorem tied_x2 {a b e : Int × Int} (ha : RtD a) (hb : RtD b) (w : Int) : tied (0, 0) a (1, 0) b e w = (((add b.1 b.2 e.1 e.2).1, (add b.1 b.2 e.1 e.2).2.1), keep w (add b.1 b.2 e.1 e.2).2.2.1) := by
  unfold tied
  dsimp only
  rw [one_mul hb, zero_mul ha]
  dsimp only
  rw [zero_add hb]
  dsimp only
  rw [keep_zero, keep_zero, keep_zero]
end Go.Ev.Box
namespace Go.Ev.Box
open Go.Ev.Dec

def mapM (m : Mt) (p q : Int × Int) : (Int × Int) × (Int × Int) × Int :=
  if m.ok ∧ RtD p ∧ RtD q then
    (if (tied m.B p m.D q m.F (tied m.A p m.C q m.E 0).2).2 = 0 then ((tied m.A p m.C q m.E 0).1, (tied m.B p m.D q m.F (tied m.A p m.C q m.E 0).2).1, 0) else ((0, 0), (0, 0), (tied m.B p m.D q m.F (tied m.A p m.C q m.E 0).2).2))
  else ((0, 0), (0, 0), 1)
def thenS (m n : Mt) : Mt × Int :=
  let a := tied m.A n.A m.B n.C (0, 0) 0
  let b := tied m.A n.B m.B n.D (0, 0) a.2
  let c := tied m.C n.A m.D n.C (0, 0) b.2
  let d := tied m.C n.B m.D n.D (0, 0) c.2
  let e := tied m.E n.A m.F n.C n.E d.2
  let f := tied m.E n.B m.F n.D n.F e.2
  (⟨a.1, b.1, c.1, d.1, e.1, f.1⟩, f.2)
def Mt.zero : Mt := ⟨(0, 0), (0, 0), (0, 0), (0, 0), (0, 0), (0, 0)⟩
def Mt.one : Mt := ⟨(1, 0), (0, 0), (0, 0), (1, 0), (0, 0), (0, 0)⟩
def thenM (m n : Mt) : Mt × Int := if m.ok ∧ n.ok then (if (thenS m n).2 = 0 then ((thenS m n).1, 0) else (Mt.zero, (thenS m n).2)) else (Mt.zero, 1)
def stepM (x y : Int × Int) : Mt × Int := if RtD x ∧ RtD y then (⟨(1, 0), (0, 0), (0, 0), (1, 0), x, y⟩, 0) else (Mt.zero, 1)

theorem f19_eqn (m : Mt) (p q : Int × Int) : f19 (m.A.1, m.A.2, m.B.1, m.B.2, m.C.1, m.C.2, m.D.1, m.D.2, m.E.1, m.E.2, m.F.1, m.F.2, p.1, p.2, q.1, q.2, ()) =
    some ((mapM m p q).1.1, (mapM m p q).1.2, (mapM m p q).2.1.1, (mapM m p q).2.1.2, (mapM m p q).2.2, ()) := by
  unfold f19 mapM
  dsimp only
  rw [f33_eqn, Option.bind_some]
  dsimp only
  by_cases h : m.ok
  · rw [if_pos h, if_neg (by decide), f36_two, Option.bind_some]
    dsimp only
    by_cases h2 : RtD p ∧ RtD q
    · rw [if_neg (by rw [decide_eq_true h2]; decide), if_pos (show m.ok ∧ RtD p ∧ RtD q from ⟨h, h2⟩)]
      unfold f37 f48
      rw [Option.bind_some]
      dsimp only
      rw [f45_eqn, Option.bind_some]
      dsimp only
      rw [f45_eqn, Option.bind_some, Option.bind_some]
      dsimp only
      by_cases h3 : (tied m.B p m.D q m.F (tied m.A p m.C q m.E 0).2).2 = 0
      · rw [if_neg (by rw [bne_iff_ne]; exact fun hh => hh h3), if_pos h3]
      · rw [if_pos (by rw [bne_iff_ne]; exact h3), if_neg h3]
    · rw [if_pos (by rw [decide_eq_false h2]; decide), if_neg (fun hh : m.ok ∧ RtD p ∧ RtD q => h2 hh.2)]
  · rw [if_neg h, if_pos (by decide), if_neg (fun hh : m.ok ∧ RtD p ∧ RtD q => h hh.1)]

theorem ok_one : Mt.one.ok := by decide
theorem ok_zero : Mt.zero.ok := by decide

/-! ## What they do with values -/
theorem mapM_ok {m : Mt} {p q : Int × Int} (h : (mapM m p q).2.2 = 0) : m.ok ∧ RtD p ∧ RtD q ∧ RtD (mapM m p q).1 ∧ RtD (mapM m p q).2.1 ∧
    vD (mapM m p q).1 * 1000000000 = vD m.A * vD p + vD m.C * vD q + vD m.E * 1000000000 ∧ vD (mapM m p q).2.1 * 1000000000 = vD m.B * vD p + vD m.D * vD q + vD m.F * 1000000000 := by
  unfold mapM at h ⊢
  by_cases h1 : m.ok ∧ RtD p ∧ RtD q
  · rw [if_pos h1] at h ⊢
    by_cases h2 : (tied m.B p m.D q m.F (tied m.A p m.C q m.E 0).2).2 = 0
    · rw [if_pos h2]
      obtain ⟨⟨oA, oB, oC, oD, oE, oF⟩, hp, hq⟩ := h1
      obtain ⟨h3, r2, v2⟩ := tied_spec oB hp oD hq oF h2
      obtain ⟨_, r1, v1⟩ := tied_spec oA hp oC hq oE h3
      exact ⟨⟨oA, oB, oC, oD, oE, oF⟩, hp, hq, r1, r2, v1, v2⟩
    · rw [if_neg h2] at h; exact absurd h h2
  · rw [if_neg h1] at h; cases h
theorem thenM_ok {m n : Mt} (h : (thenM m n).2 = 0) : m.ok ∧ n.ok ∧ (thenM m n).1.ok ∧
    vD (thenM m n).1.A * 1000000000 = vD m.A * vD n.A + vD m.B * vD n.C ∧ vD (thenM m n).1.B * 1000000000 = vD m.A * vD n.B + vD m.B * vD n.D ∧
    vD (thenM m n).1.C * 1000000000 = vD m.C * vD n.A + vD m.D * vD n.C ∧ vD (thenM m n).1.D * 1000000000 = vD m.C * vD n.B + vD m.D * vD n.D ∧
    vD (thenM m n).1.E * 1000000000 = vD m.E * vD n.A + vD m.F * vD n.C + vD n.E * 1000000000 ∧ vD (thenM m n).1.F * 1000000000 = vD m.E * vD n.B + vD m.F * vD n.D + vD n.F * 1000000000 := by
  unfold thenM at h ⊢
  by_cases h1 : m.ok ∧ n.ok
  · rw [if_pos h1] at h ⊢
    by_cases h2 : (thenS m n).2 = 0
    · rw [if_pos h2]
      obtain ⟨⟨oA, oB, oC, oD, oE, oF⟩, ⟨nA, nB, nC, nD, nE, nF⟩⟩ := h1
      unfold thenS at h2 ⊢
      dsimp only at h2 ⊢
      obtain ⟨h2, r6, v6⟩ := tied_spec oE nB oF nD nF h2
      obtain ⟨h2, r5, v5⟩ := tied_spec oE nA oF nC nE h2
      obtain ⟨h2, r4, v4⟩ := tied_spec oC nB oD nD RtD_zero h2
      obtain ⟨h2, r3, v3⟩ := tied_spec oC nA oD nC RtD_zero h2
      obtain ⟨h2, r2, v2⟩ := tied_spec oA nB oB nD RtD_zero h2
      obtain ⟨_, r1, v1⟩ := tied_spec oA nA oB nC RtD_zero h2
      have z : vD (0, 0) * 1000000000 = 0 := by decide
      rw [z, Int.add_zero] at v1 v2 v3 v4
      exact ⟨⟨oA, oB, oC, oD, oE, oF⟩, ⟨nA, nB, nC, nD, nE, nF⟩, ⟨r1, r2, r3, r4, r5, r6⟩, v1, v2, v3, v4, v5, v6⟩
    · rw [if_neg h2] at h; exact absurd h h2
  · rw [if_neg h1] at h; cases h
theorem Mt.ext {m n : Mt} (h1 : m.A = n.A) (h2 : m.B = n.B) (h3 : m.C = n.C) (h4 : m.D = n.D) (h5 : m.E = n.E) (h6 : m.F = n.F) : m = n := by
  cases m; cases n
  simp only at h1 h2 h3 h4 h5 h6
  subst h1 h2 h3 h4 h5 h6
  rfl

/-- Two maps one behind the other are one. -/
theorem maps {m n : Mt} {p q : Int × Int} (h1 : (thenM m n).2 = 0) (h2 : (mapM (thenM m n).1 p q).2.2 = 0) (h3 : (mapM m p q).2.2 = 0) (h4 : (mapM n (mapM m p q).1 (mapM m p q).2.1).2.2 = 0) :
    (mapM (thenM m n).1 p q).1 = (mapM n (mapM m p q).1 (mapM m p q).2.1).1 ∧ (mapM (thenM m n).1 p q).2.1 = (mapM n (mapM m p q).1 (mapM m p q).2.1).2.1 := by
  obtain ⟨_, _, _, a1, a2, a3, a4, a5, a6⟩ := thenM_ok h1
  obtain ⟨_, _, _, r1, r2, b1, b2⟩ := mapM_ok h2
  obtain ⟨_, _, _, _, _, c1, c2⟩ := mapM_ok h3
  obtain ⟨_, _, _, r3, r4, d1, d2⟩ := mapM_ok h4
  generalize mapM (thenM m n).1 p q = X at *
  generalize (thenM m n).1 = t at *
  generalize mapM n (mapM m p q).1 (mapM m p q).2.1 = Z at *
  generalize mapM m p q = Y at *
  refine ⟨vD_inj r1 r3 ?_, vD_inj r2 r4 ?_⟩
  · clear b2 d2 r1 r2 r3 r4 h1 h2 h3 h4 a2 a4 a6
    grind
  · clear b1 d1 r1 r2 r3 r4 h1 h2 h3 h4 a1 a3 a5
    grind
theorem hold_a {x ta tb na nc la lb ma mb mc md z ua uc : Int} (h1 : ta * 1000000000 = la * ma + lb * mc) (h2 : tb * 1000000000 = la * mb + lb * md) (h3 : x * 1000000000 = ta * na + tb * nc)
    (h4 : ua * 1000000000 = ma * na + mb * nc) (h5 : uc * 1000000000 = mc * na + md * nc) (h6 : z * 1000000000 = la * ua + lb * uc) : x = z := by
  have e1 : x * 1000000000 * 1000000000 = (ta * 1000000000) * na + (tb * 1000000000) * nc := by rw [h3]; grind
  have e2 : z * 1000000000 * 1000000000 = la * (ua * 1000000000) + lb * (uc * 1000000000) := by rw [h6]; grind
  rw [h1, h2] at e1
  rw [h4, h5] at e2
  have e3 : (la * ma + lb * mc) * na + (la * mb + lb * md) * nc = la * (ma * na + mb * nc) + lb * (mc * na + md * nc) := by grind
  omega
theorem hold_e {x te tf na nc ne le lf ma mb mc md me mf z ua uc ue : Int} (h1 : te * 1000000000 = le * ma + lf * mc + me * 1000000000) (h2 : tf * 1000000000 = le * mb + lf * md + mf * 1000000000) (h3 : x * 1000000000 = te * na + tf * nc + ne * 1000000000)
    (h4 : ua * 1000000000 = ma * na + mb * nc) (h5 : uc * 1000000000 = mc * na + md * nc) (h7 : ue * 1000000000 = me * na + mf * nc + ne * 1000000000) (h6 : z * 1000000000 = le * ua + lf * uc + ue * 1000000000) : x = z := by
  have e1 : x * 1000000000 * 1000000000 = (te * 1000000000) * na + (tf * 1000000000) * nc + ne * 1000000000 * 1000000000 := by rw [h3]; grind
  have e2 : z * 1000000000 * 1000000000 = le * (ua * 1000000000) + lf * (uc * 1000000000) + (ue * 1000000000) * 1000000000 := by rw [h6]; grind
  rw [h1, h2] at e1
  rw [h4, h5, h7] at e2
  have e3 : (le * ma + lf * mc + me * 1000000000) * na + (le * mb + lf * md + mf * 1000000000) * nc + ne * 1000000000 * 1000000000 = le * (ma * na + mb * nc) + lf * (mc * na + md * nc) + (me * na + mf * nc + ne * 1000000000) * 1000000000 := by grind
  omega
/-- Three hold together. -/
theorem holds {l m n : Mt} (h1 : (thenM l m).2 = 0) (h2 : (thenM (thenM l m).1 n).2 = 0) (h3 : (thenM m n).2 = 0) (h4 : (thenM l (thenM m n).1).2 = 0) :
    (thenM (thenM l m).1 n).1 = (thenM l (thenM m n).1).1 := by
  obtain ⟨_, _, _, a1, a2, a3, a4, a5, a6⟩ := thenM_ok h1
  obtain ⟨_, _, r, b1, b2, b3, b4, b5, b6⟩ := thenM_ok h2
  obtain ⟨_, _, _, c1, c2, c3, c4, c5, c6⟩ := thenM_ok h3
  obtain ⟨_, _, s, d1, d2, d3, d4, d5, d6⟩ := thenM_ok h4
  generalize (thenM (thenM l m).1 n).1 = X at *
  generalize (thenM l m).1 = t at *
  generalize (thenM l (thenM m n).1).1 = Z at *
  generalize (thenM m n).1 = u at *
  obtain ⟨r1, r2, r3, r4, r5, r6⟩ := r
  obtain ⟨s1, s2, s3, s4, s5, s6⟩ := s
  exact Mt.ext (vD_inj r1 s1 (hold_a a1 a2 b1 c1 c3 d1)) (vD_inj r2 s2 (hold_a a1 a2 b2 c2 c4 d2)) (vD_inj r3 s3 (hold_a a3 a4 b3 c1 c3 d3)) (vD_inj r4 s4 (hold_a a3 a4 b4 c2 c4 d4))
    (vD_inj r5 s5 (hold_e a5 a6 b5 c1 c3 c5 d5)) (vD_inj r6 s6 (hold_e a5 a6 b6 c2 c4 c6 d6))
/-- One turns nothing. -/
theorem map_one {p q : Int × Int} (hp : RtD p) (hq : RtD q) : mapM Mt.one p q = (p, q, 0) := by
  unfold mapM
  rw [if_pos ⟨ok_one, hp, hq⟩]
  unfold Mt.one
  dsimp only
  rw [tied_x1 hp hq]
  dsimp only
  rw [add_zero hp]
  dsimp only
  rw [keep_zero, tied_x2 hp hq]
  dsimp only
  rw [add_zero hq]
  dsimp only
  rw [keep_zero, if_pos rfl]
theorem then_one {m : Mt} (h : m.ok) : thenM m Mt.one = (m, 0) := by
  unfold thenM
  rw [if_pos ⟨h, ok_one⟩]
  obtain ⟨oA, oB, oC, oD, oE, oF⟩ := h
  have e : thenS m Mt.one = (m, 0) := by
    unfold thenS Mt.one
    dsimp only
    simp only [tied_10 oA oB, tied_01 oA oB, tied_10 oC oD, tied_01 oC oD, tied_10 oE oF, tied_01 oE oF, add_zero oA, add_zero oB, add_zero oC, add_zero oD, add_zero oE, add_zero oF, keep_zero]
  rw [e, if_pos rfl]
theorem one_then {m : Mt} (h : m.ok) : thenM Mt.one m = (m, 0) := by
  unfold thenM
  rw [if_pos ⟨ok_one, h⟩]
  obtain ⟨oA, oB, oC, oD, oE, oF⟩ := h
  have e : thenS Mt.one m = (m, 0) := by
    unfold thenS Mt.one
    dsimp only
    have t00 : ∀ {a b e : Int × Int}, RtD a → RtD b → RtD e → ∀ w, tied (0, 0) a (0, 0) b e w = (e, w) := fun {a b e} ha hb he w => by
      unfold tied
      dsimp only
      rw [zero_mul hb, zero_mul ha]
      dsimp only
      rw [show add 0 0 0 0 = (0, 0, 0, ()) from zero_add RtD_zero]
      dsimp only
      rw [zero_add he]
      dsimp only
      rw [keep_zero, keep_zero, keep_zero, keep_zero]
    simp only [tied_x1 oA oC, tied_x1 oB oD, tied_x2 oA oC, tied_x2 oB oD, t00 oA oC oE, t00 oB oD oF, add_zero oA, add_zero oB, add_zero oC, add_zero oD, keep_zero]
  rw [e, if_pos rfl]
theorem allEq_one (a b : Int × Int) (h : a = b) (l : List (Int × Int)) : allEq ((((a.1, b.1) :: []) ++ (((a.2, b.2) :: []) ++ [])) ++ l) = allEq l := by
  subst h
  simp [allEq]
end Go.Ev.Box
