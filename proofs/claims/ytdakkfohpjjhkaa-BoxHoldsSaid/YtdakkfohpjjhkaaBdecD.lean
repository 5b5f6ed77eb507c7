/- Part of a proof about the given program: BdecD. -/
import Derived.Test.YtdakkfohpjjhkaaBdecC
namespace Go.Ev.Box
open Go.Ev.Dec

theorem f23_eqn (m s : Int) : f23 (m, s, ()) = some ((if Rt m s then 0 else 1), ()) := by
  unfold f23
  dsimp only
  by_cases h1 : m < -999999999999999999
  · rw [if_pos (by rw [decide_eq_true_eq]; exact h1), if_neg (fun h : Rt m s => by have := h.1; omega)]
  · rw [if_neg (by rw [decide_eq_true_eq]; exact h1)]
    by_cases h2 : m > 999999999999999999
    · rw [if_pos (by rw [decide_eq_true_eq]; exact h2), if_neg (fun h : Rt m s => by have := h.2.1; omega)]
    · rw [if_neg (by rw [decide_eq_true_eq]; exact h2)]
      by_cases h3 : s < 0
      · rw [if_pos (by rw [decide_eq_true_eq]; exact h3), if_neg (fun h : Rt m s => by have := h.2.2.1; omega)]
      · rw [if_neg (by rw [decide_eq_true_eq]; exact h3)]
        by_cases h4 : s > 9
        · rw [if_pos (by rw [decide_eq_true_eq]; exact h4), if_neg (fun h : Rt m s => by have := h.2.2.2.1; omega)]
        · rw [if_neg (by rw [decide_eq_true_eq]; exact h4)]
          by_cases h5 : s > 0
          · rw [if_pos (by rw [decide_eq_true_eq]; exact h5)]
            have e : Int.tmod m 10 = 0 ↔ m % 10 = 0 := by
              rw [← Int.dvd_iff_tmod_eq_zero, Int.dvd_iff_emod_eq_zero]
            by_cases h6 : m % 10 = 0
            · rw [if_pos (by rw [beq_iff_eq]; exact e.2 h6), if_neg (fun h : Rt m s => by rcases h.2.2.2.2 with h | h; omega; exact h h6)]
            · rw [if_neg (by rw [beq_iff_eq]; exact fun h => h6 (e.1 h)), if_pos (show Rt m s from ⟨by omega, by omega, by omega, by omega, .inr h6⟩)]
          · rw [if_neg (by rw [decide_eq_true_eq]; exact h5), if_pos (show Rt m s from ⟨by omega, by omega, by omega, by omega, .inl (by omega)⟩)]

/-- A product, and a sum. -/
def mul (m s m' s' : Int) : Int × Int × Int × Unit := if Rt m s ∧ Rt m' s' then T (val m s * val m' s') 18 else (0, 0, 1, ())
def add (m s m' s' : Int) : Int × Int × Int × Unit := if Rt m s ∧ Rt m' s' then T (val m s + val m' s') 9 else (0, 0, 1, ())

theorem f46_eqn (m s m' s' : Int) : f46 (m, s, m', s', ()) = some (mul m s m' s') := by
  unfold f46 mul
  dsimp only
  rw [f23_eqn, Option.bind_some]
  dsimp only
  by_cases h : Rt m s
  · rw [if_pos h, if_neg (by decide), f23_eqn, Option.bind_some]
    dsimp only
    by_cases h' : Rt m' s'
    · rw [if_pos h', if_neg (by decide), if_pos ⟨h, h'⟩, f49_eqn ⟨h.1, h.2.1⟩, Option.bind_some, f49_eqn ⟨h'.1, h'.2.1⟩, Option.bind_some]
      dsimp only
      have b1 := h.1; have b2 := h.2.1; have b3 := h.2.2.1; have b4 := h.2.2.2.1
      have c1 := h'.1; have c2 := h'.2.1; have c3 := h'.2.2.1; have c4 := h'.2.2.2.1
      rw [f50_eqn (by omega) (by omega), Option.bind_some]
      dsimp only
      have es : IntKind.wrap .i64 (s + s') = ((s.toNat + s'.toNat : Nat) : Int) := by rw [wrap_i64 (by omega)]; omega
      have hle : m.natAbs * m'.natAbs ≤ 999999999999999999 * 999999999999999999 := Nat.mul_le_mul (by omega) (by omega)
      rw [es, f57_eqn _ (by omega) (by omega) (Nat.mod_lt _ (by omega)), Option.bind_some]
      rw [show m.natAbs * m'.natAbs / 18446744073709551616 * 18446744073709551616 + m.natAbs * m'.natAbs % 18446744073709551616 = m.natAbs * m'.natAbs from Nat.div_add_mod' _ _]
      rw [told_T (z := m * m') (by rw [Int.natAbs_mul]) ?_]
      · rw [mul_T m m' s.toNat s'.toNat (by omega) (by omega)]
        rfl
      · rcases Int.lt_trichotomy m 0 with hm | hm | hm
        · rcases Int.lt_trichotomy m' 0 with hn | hn | hn
          · refine .inr ?_
            have : ¬ m * m' < 0 := Int.not_lt.2 (Int.le_of_lt (Int.mul_pos_of_neg_of_neg hm hn))
            simp [hm, hn, this]
          · exact .inl (by rw [hn, Int.mul_zero])
          · refine .inr ?_
            have : m * m' < 0 := Int.mul_neg_of_neg_of_pos hm hn
            have hn' : ¬ m' < 0 := by omega
            simp [hm, hn', this]
        · exact .inl (by rw [hm, Int.zero_mul])
        · rcases Int.lt_trichotomy m' 0 with hn | hn | hn
          · refine .inr ?_
            have : m * m' < 0 := Int.mul_neg_of_pos_of_neg hm hn
            have hm' : ¬ m < 0 := by omega
            simp [hm', hn, this]
          · exact .inl (by rw [hn, Int.mul_zero])
          · refine .inr ?_
            have : ¬ m * m' < 0 := Int.not_lt.2 (Int.le_of_lt (Int.mul_pos hm hn))
            have hm' : ¬ m < 0 := by omega
            have hn' : ¬ m' < 0 := by omega
            simp [hm', hn', this]
    · rw [if_neg h', if_pos (by decide), if_neg (fun h => h' h.2)]
  · rw [if_neg h, if_pos (by decide), if_neg (fun h' => h h'.1)]

theorem nat01_of (p : Prop) [Decidable p] : ((Go.Ev.nat01 (decide p) : Nat) : Int) = if p then 1 else 0 := by
  by_cases h : p
  · rw [if_pos h, show decide p = true from decide_eq_true h]; rfl
  · rw [if_neg h, show decide p = false from decide_eq_false h]; rfl

theorem add_hi {hi hi' lo lo' : Nat} (h : hi * 18446744073709551616 + lo < 170141183460469231731687303715884105728) (h' : hi' * 18446744073709551616 + lo' < 170141183460469231731687303715884105728) :
    IntKind.wrap .u64 (IntKind.wrap .u64 ((hi : Int) + (hi' : Int)) + ((lo : Int) + (lo' : Int) + 0) / 18446744073709551616) = ((hi + hi' + (lo + lo') / 18446744073709551616 : Nat) : Int) ∧
    hi + hi' + (lo + lo') / 18446744073709551616 < 18446744073709551616 := by
  have hlt : hi + hi' + (lo + lo') / 18446744073709551616 < 18446744073709551616 := by omega
  refine ⟨?_, hlt⟩
  rw [wrap_wadd, ← wrap_u64' hlt]
  congr 1
theorem add_lo (lo lo' : Nat) : ((lo : Int) + (lo' : Int) + 0) % 18446744073709551616 = (((lo + lo') % 18446744073709551616 : Nat) : Int) := by omega
theorem add_W (hi hi' lo lo' : Nat) : (hi + hi' + (lo + lo') / 18446744073709551616) * 18446744073709551616 + (lo + lo') % 18446744073709551616 = (hi * 18446744073709551616 + lo) + (hi' * 18446744073709551616 + lo') := by omega
theorem sub_hi {hi hi' lo lo' : Nat} (h : hi < 18446744073709551616) (g : lo < 18446744073709551616) (g' : lo' < 18446744073709551616) (hle : hi' * 18446744073709551616 + lo' ≤ hi * 18446744073709551616 + lo) :
    IntKind.wrap .u64 (IntKind.wrap .u64 ((hi : Int) - (hi' : Int)) - (if (lo : Int) < (lo' : Int) + 0 then 1 else 0)) = ((hi - hi' - (if lo < lo' then 1 else 0) : Nat) : Int) ∧ hi - hi' - (if lo < lo' then 1 else 0) < 18446744073709551616 ∧
    (hi - hi' - (if lo < lo' then 1 else 0)) * 18446744073709551616 + (lo + 18446744073709551616 - lo') % 18446744073709551616 = (hi * 18446744073709551616 + lo) - (hi' * 18446744073709551616 + lo') := by
  have hh : hi' ≤ hi := by omega
  have e1 : IntKind.wrap .u64 ((hi : Int) - (hi' : Int)) = ((hi - hi' : Nat) : Int) := by rw [← wrap_u64' (n := hi - hi') (by omega)]; congr 1; omega
  rw [e1]
  by_cases hb : lo < lo'
  · have c : (lo : Int) < (lo' : Int) + 0 := by omega
    rw [if_pos hb, if_pos c]
    have : 1 ≤ hi - hi' := by omega
    refine ⟨?_, by omega, by omega⟩
    rw [← wrap_u64' (n := hi - hi' - 1) (by omega)]; congr 1; omega
  · have c : ¬ (lo : Int) < (lo' : Int) + 0 := by omega
    rw [if_neg hb, if_neg c]
    refine ⟨?_, by omega, by omega⟩
    rw [← wrap_u64' (n := hi - hi' - 0) (by omega)]; congr 1
theorem sub_lo {lo lo' : Nat} (h : lo' < 18446744073709551616) : ((lo : Int) + 18446744073709551616 - (lo' : Int) - 0) % 18446744073709551616 = (((lo + 18446744073709551616 - lo') % 18446744073709551616 : Nat) : Int) := by omega

theorem f47_eqn (m s m' s' : Int) : f47 (m, s, m', s', ()) = some (add m s m' s') := by
  unfold f47 f24 add
  dsimp only
  rw [f23_eqn, Option.bind_some]
  dsimp only
  by_cases h : Rt m s
  · rw [if_pos h, if_neg (by decide), f23_eqn, Option.bind_some]
    dsimp only
    by_cases h' : Rt m' s'
    · rw [if_pos h', if_neg (by decide), if_pos ⟨h, h'⟩]
      have b1 := h.1; have b2 := h.2.1; have b3 := h.2.2.1; have b4 := h.2.2.2.1
      have c1 := h'.1; have c2 := h'.2.1; have c3 := h'.2.2.1; have c4 := h'.2.2.2.1
      have es : s = (s.toNat : Int) := by omega
      have es' : s' = (s'.toNat : Int) := by omega
      have eS : Max.max s s' = ((Max.max s.toNat s'.toNat : Nat) : Int) := by omega
      unfold val
      rw [← sum_T m m' s.toNat s'.toNat (Max.max s.toNat s'.toNat) (by omega) (by omega) (by omega)]
      rw [eS]
      generalize hSd : Max.max s.toNat s'.toNat = S
      have hS9 : S ≤ 9 := by omega
      have hsS : s.toNat ≤ S := by omega
      have hsS' : s'.toNat ≤ S := by omega
      obtain ⟨hi, lo, g1, g2, g3, g4⟩ := f38_eqn (m := m) ⟨b1, b2⟩ hsS hS9
      obtain ⟨hi', lo', k1, k2, k3, k4⟩ := f38_eqn (m := m') ⟨c1, c2⟩ hsS' hS9
      rw [← es] at g4
      rw [← es'] at k4
      rw [g4, Option.bind_some, k4, Option.bind_some, Option.bind_some]
      dsimp only
      rw [if_neg (by decide)]
      have hp : 10 ^ (S - s.toNat) ≤ 10 ^ 9 := Nat.pow_le_pow_right (by omega) (by omega)
      have hp' : 10 ^ (S - s'.toNat) ≤ 10 ^ 9 := Nat.pow_le_pow_right (by omega) (by omega)
      have hW : m.natAbs * 10 ^ (S - s.toNat) ≤ 999999999999999999 * 10 ^ 9 := Nat.mul_le_mul (by omega) hp
      have hW' : m'.natAbs * 10 ^ (S - s'.toNat) ≤ 999999999999999999 * 10 ^ 9 := Nat.mul_le_mul (by omega) hp'
      have q1 : 0 < (10 : Int) ^ (S - s.toNat) := Int.pow_pos (by omega)
      have q2 : 0 < (10 : Int) ^ (S - s'.toNat) := Int.pow_pos (by omega)
      have ea : ((m * 10 ^ (S - s.toNat)).natAbs) = m.natAbs * 10 ^ (S - s.toNat) := by
        rw [Int.natAbs_mul, Int.natAbs_pow]; rfl
      have eb : ((m' * 10 ^ (S - s'.toNat)).natAbs) = m'.natAbs * 10 ^ (S - s'.toNat) := by
        rw [Int.natAbs_mul, Int.natAbs_pow]; rfl
      have sa : m < 0 ↔ m * 10 ^ (S - s.toNat) < 0 := by
        constructor
        · exact fun h => Int.mul_neg_of_neg_of_pos h q1
        · intro h
          exact Int.not_le.1 fun h0 => absurd (Int.mul_nonneg h0 (Int.le_of_lt q1)) (by omega)
      have sb : m' < 0 ↔ m' * 10 ^ (S - s'.toNat) < 0 := by
        constructor
        · exact fun h => Int.mul_neg_of_neg_of_pos h q2
        · intro h
          exact Int.not_le.1 fun h0 => absurd (Int.mul_nonneg h0 (Int.le_of_lt q2)) (by omega)
      rw [← ea] at g3 hW
      rw [← eb] at k3 hW'
      rw [show decide (m < 0) = decide (m * 10 ^ (S - s.toNat) < 0) by rw [decide_eq_decide]; exact sa, show decide (m' < 0) = decide (m' * 10 ^ (S - s'.toNat) < 0) by rw [decide_eq_decide]; exact sb]
      generalize m * 10 ^ (S - s.toNat) = a at g3 hW ⊢
      generalize m' * 10 ^ (S - s'.toNat) = b at k3 hW' ⊢
      clear ea eb sa sb q1 q2 hp hp' es es' eS hSd g4 k4
      by_cases hsg : (decide (a < 0) == decide (b < 0)) = true
      · rw [if_pos hsg, if_pos ⟨Int.natCast_nonneg _, Int.natCast_nonneg _, Int.le_refl _, by decide⟩]
        obtain ⟨e1, e3⟩ := add_hi (hi := hi) (hi' := hi') (lo := lo) (lo' := lo') (by omega) (by omega)
        rw [e1, add_lo, f57_eqn _ (by omega) e3 (Nat.mod_lt _ (by omega)), Option.bind_some, add_W, g3, k3]
        simp only [beq_iff_eq, decide_eq_decide] at hsg
        clear g3 k3 hW hW' e1 e3
        rw [told_T (z := a + b) (by omega) (.inr (by rw [decide_eq_decide]; omega))]
      · rw [if_neg hsg, f25_eqn g2 k2, Option.bind_some]
        dsimp only
        simp only [beq_iff_eq, decide_eq_decide] at hsg
        by_cases hlt : hi * 18446744073709551616 + lo < hi' * 18446744073709551616 + lo'
        · rw [if_pos hlt, if_pos (by decide), if_pos ⟨Int.natCast_nonneg _, Int.natCast_nonneg _, Int.le_refl _, by decide, by omega⟩, nat01_of]
          obtain ⟨e1, e2, e3⟩ := sub_hi k1 k2 g2 (Nat.le_of_lt hlt)
          rw [e1, sub_lo g2, f57_eqn _ (by omega) e2 (Nat.mod_lt _ (by omega)), Option.bind_some, e3, g3, k3]
          rw [g3, k3] at hlt
          clear g3 k3 hW hW' e1 e2 e3
          rw [told_T (z := a + b) (by omega) (.inr (by rw [← decide_not, decide_eq_decide]; omega))]
        · have hnn : ¬ (decide ((if hi * 18446744073709551616 + lo < hi' * 18446744073709551616 + lo' then (-1 : Int) else if hi' * 18446744073709551616 + lo' < hi * 18446744073709551616 + lo then 1 else 0) < 0) = true) := by
            rw [if_neg hlt]
            split <;> decide
          rw [if_neg hnn, if_pos ⟨Int.natCast_nonneg _, Int.natCast_nonneg _, Int.le_refl _, by decide, by omega⟩, nat01_of]
          obtain ⟨e1, e2, e3⟩ := sub_hi g1 g2 k2 (Nat.not_lt.1 hlt)
          rw [e1, sub_lo k2, f57_eqn _ (by omega) e2 (Nat.mod_lt _ (by omega)), Option.bind_some, e3, g3, k3]
          rw [g3, k3] at hlt
          clear g3 k3 hW hW' e1 e2 e3 hnn
          by_cases hz : a + b = 0
          · rw [told_T (z := a + b) (by omega) (.inl hz)]
          · rw [told_T (z := a + b) (by omega) (.inr (by rw [decide_eq_decide]; omega))]
    · rw [if_neg h', if_pos (by decide), if_neg (fun h => h' h.2), Option.bind_some]
      rfl
  · rw [if_neg h, if_pos (by decide), if_neg (fun h' => h h'.1), Option.bind_some]
    rfl
end Go.Ev.Box
