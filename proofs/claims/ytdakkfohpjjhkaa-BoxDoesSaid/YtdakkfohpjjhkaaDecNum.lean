/- Part of a proof about the given program: DecNum. -/
import Derived.Test.YtdakkfohpjjhkaaNum
namespace Go.Ev.Dec

/-! # Decimals: a whole number, and how many digits stand behind the point -/
def strip (W : Nat) : Nat → Nat × Nat
  | 0 => (W, 0)
  | s + 1 => if W % 10 = 0 then strip (W / 10) s else (W, s + 1)

theorem strip_spec : ∀ (s W : Nat), (strip W s).2 ≤ s ∧ W = (strip W s).1 * 10 ^ (s - (strip W s).2) ∧ ((strip W s).2 = 0 ∨ (strip W s).1 % 10 ≠ 0)
  | 0, W => ⟨Nat.le_refl _, by simp [strip], .inl rfl⟩
  | s + 1, W => by
    unfold strip
    by_cases h : W % 10 = 0
    · rw [if_pos h]
      obtain ⟨h1, h2, h3⟩ := strip_spec s (W / 10)
      refine ⟨by omega, ?_, h3⟩
      rw [show s + 1 - (strip (W / 10) s).2 = (s - (strip (W / 10) s).2) + 1 by omega, Nat.pow_succ, ← Nat.mul_assoc, ← h2]
      omega
    · rw [if_neg h]
      exact ⟨Nat.le_refl _, by simp, .inr h⟩
theorem strip_pow (W s : Nat) : ∀ k, strip (W * 10 ^ k) (s + k) = strip W s
  | 0 => by simp
  | k + 1 => by
    rw [show s + (k + 1) = (s + k) + 1 by omega, strip, Nat.pow_succ, ← Nat.mul_assoc, if_pos (by omega), Nat.mul_div_cancel _ (by omega), strip_pow W s k]
theorem strip_self {W s : Nat} (h : s = 0 ∨ W % 10 ≠ 0) : strip W s = (W, s) := by
  cases s with
  | zero => rfl
  | succ s =>
    unfold strip
    rw [if_neg (h.resolve_left (by omega))]
theorem strip_zero : ∀ s, strip 0 s = (0, 0)
  | 0 => rfl
  | s + 1 => by unfold strip; rw [if_pos (by omega)]; exact strip_zero s

/-- A number is told, if it can be. -/
def told (below : Bool) (W s : Nat) : Int × Int × Int × Unit :=
  if 999999999999999999 < (strip W s).1 ∨ 9 < (strip W s).2 then (0, 0, 5, ()) else ((if below = true then -((strip W s).1 : Int) else ((strip W s).1 : Int)), ((strip W s).2 : Int), 0, ())
theorem told_zero (b : Bool) (s : Nat) : told b 0 s = (0, 0, 0, ()) := by
  unfold told
  rw [strip_zero, if_neg (by omega)]
  cases b <;> rfl

def T (z : Int) (s : Nat) : Int × Int × Int × Unit := told (decide (z < 0)) z.natAbs s
theorem told_T {b : Bool} {z : Int} {W s : Nat} (hW : W = z.natAbs) (h : z = 0 ∨ b = decide (z < 0)) : told b W s = T z s := by
  subst hW
  rcases h with h | h
  · subst h; rw [show (0 : Int).natAbs = 0 from rfl, told_zero]; unfold T; rw [show (0 : Int).natAbs = 0 from rfl, told_zero]
  · rw [h]; rfl
theorem T_pow (z : Int) (s k : Nat) : T (z * 10 ^ k) (s + k) = T z s := by
  have hp : 0 < (10 : Int) ^ k := Int.pow_pos (by omega)
  have h1 : (z * 10 ^ k).natAbs = z.natAbs * 10 ^ k := by
    rw [Int.natAbs_mul]; congr 1
  have h2 : decide (z * 10 ^ k < 0) = decide (z < 0) := by
    congr 1
    exact propext (by
      constructor
      · intro h
        exact Int.not_le.1 fun h0 => absurd (Int.mul_nonneg h0 (Int.le_of_lt hp)) (by omega)
      · intro h
        exact Int.mul_neg_of_neg_of_pos h hp)
  unfold T told
  rw [h1, h2, strip_pow]

/-- Is it right? -/
def Rt (m s : Int) : Prop := -999999999999999999 ≤ m ∧ m ≤ 999999999999999999 ∧ 0 ≤ s ∧ s ≤ 9 ∧ (s = 0 ∨ m % 10 ≠ 0)
instance (m s : Int) : Decidable (Rt m s) := by unfold Rt; infer_instance
/-- What it is, in parts of 10 ^ 9. -/
def val (m s : Int) : Int := m * 10 ^ (9 - s.toNat)

theorem T_err (z : Int) (s : Nat) : (T z s).2.2.1 = 0 ∨ T z s = (0, 0, 5, ()) := by
  unfold T told
  split
  · exact .inr rfl
  · exact .inl rfl
theorem T_ok {z : Int} {s : Nat} (h : (T z s).2.2.1 = 0) : Rt (T z s).1 (T z s).2.1 ∧ (T z s).1 * 10 ^ s = z * 10 ^ (T z s).2.1.toNat := by
  unfold T told at h ⊢
  split at h
  · cases h
  · rename_i hn
    rw [if_neg hn]
    obtain ⟨h1, h2, h3⟩ := strip_spec s z.natAbs
    generalize strip z.natAbs s = p at hn h1 h2 h3 ⊢
    obtain ⟨V, t⟩ := p
    simp only at hn h1 h2 h3 ⊢
    have hV : (if decide (z < 0) = true then -(V : Int) else V) = if z < 0 then -(V : Int) else V := by
      by_cases hz : z < 0
      · rw [if_pos hz, if_pos (by simpa using hz)]
      · rw [if_neg hz, if_neg (by simpa using hz)]
    rw [hV]
    refine ⟨⟨by split <;> omega, by split <;> omega, by omega, by omega, ?_⟩, ?_⟩
    · rcases h3 with h3 | h3
      · exact .inl (by omega)
      · refine .inr ?_
        split <;> omega
    · have e : s = (s - t) + t := by omega
      have hz : z = (if z < 0 then -(V : Int) else V) * 10 ^ (s - t) := by
        have h4 : (z.natAbs : Int) = (V : Int) * 10 ^ (s - t) := by rw [h2]; push_cast; rfl
        split
        · rw [Int.neg_mul, ← h4]; omega
        · rw [← h4]; omega
      rw [Int.toNat_natCast]
      generalize (if z < 0 then -(V : Int) else V) = y at hz ⊢
      rw [hz]
      conv => lhs; rw [e, Int.pow_add]
      rw [Int.mul_assoc]
theorem pow_ne (n : Nat) : (10 : Int) ^ n ≠ 0 := Int.ne_of_gt (Int.pow_pos (by omega))
theorem T_val9 {z : Int} (h : (T z 9).2.2.1 = 0) : Rt (T z 9).1 (T z 9).2.1 ∧ val (T z 9).1 (T z 9).2.1 = z := by
  obtain ⟨h1, h2⟩ := T_ok h
  refine ⟨h1, ?_⟩
  unfold val
  have h3 := h1.2.2
  refine Int.eq_of_mul_eq_mul_right (pow_ne (T z 9).2.1.toNat) ?_
  rw [Int.mul_assoc, ← Int.pow_add, show 9 - (T z 9).2.1.toNat + (T z 9).2.1.toNat = 9 by omega, h2]
theorem T_val18 {z : Int} (h : (T z 18).2.2.1 = 0) : Rt (T z 18).1 (T z 18).2.1 ∧ val (T z 18).1 (T z 18).2.1 * 1000000000 = z := by
  obtain ⟨h1, h2⟩ := T_ok h
  refine ⟨h1, ?_⟩
  unfold val
  have h3 := h1.2.2
  refine Int.eq_of_mul_eq_mul_right (pow_ne (T z 18).2.1.toNat) ?_
  rw [← h2]
  generalize hk : (T z 18).2.1.toNat = k
  have hk9 : k ≤ 9 := by omega
  generalize (T z 18).1 = y
  rw [show (18 : Nat) = (9 - k) + 9 + k by omega, Int.pow_add, Int.pow_add]
  rw [show ((10 : Int) ^ 9) = 1000000000 by decide]
  simp only [Int.mul_assoc]
theorem T_right {m s : Int} (h : Rt m s) : T (val m s) 9 = (m, s, 0, ()) := by
  obtain ⟨h1, h2, h3, h4, h5⟩ := h
  unfold val
  have e : (9 : Nat) = s.toNat + (9 - s.toNat) := by omega
  have e2 := T_pow m s.toNat (9 - s.toNat)
  rw [← e] at e2
  rw [e2]
  unfold T told
  rw [strip_self (by rcases h5 with h5 | h5; exact .inl (by omega); exact .inr (by omega))]
  rw [if_neg (by omega)]
  have hm : (if decide (m < 0) = true then -(m.natAbs : Int) else (m.natAbs : Int)) = m := by
    by_cases hz : m < 0
    · rw [if_pos (by simpa using hz)]; omega
    · rw [if_neg (by simpa using hz)]; omega
  rw [hm]
  have : ((s.toNat : Nat) : Int) = s := by omega
  rw [this]
theorem val_inj {m s m' s' : Int} (h : Rt m s) (h' : Rt m' s') (he : val m s = val m' s') : m = m' ∧ s = s' := by
  have h1 := T_right h
  rw [he, T_right h'] at h1
  simp only [Prod.mk.injEq] at h1
  exact ⟨h1.1.symm, h1.2.1.symm⟩
theorem T_one (z : Int) : T (1000000000 * z) 18 = T z 9 := by
  have := T_pow z 9 9
  rw [show ((10 : Int) ^ 9) = 1000000000 by decide] at this
  rw [Int.mul_comm]; exact this
theorem val_zero : val 0 0 = 0 := rfl
theorem val_one : val 1 0 = 1000000000 := by decide
theorem Rt_zero : Rt 0 0 := by decide
theorem Rt_one : Rt 1 0 := by decide
/-- The sum of two, and their product. -/
theorem sum_T (a b : Int) (s t S : Nat) (hs : s ≤ S) (ht : t ≤ S) (hS : S ≤ 9) : T (a * 10 ^ (S - s) + b * 10 ^ (S - t)) S = T (a * 10 ^ (9 - s) + b * 10 ^ (9 - t)) 9 := by
  have h := T_pow (a * 10 ^ (S - s) + b * 10 ^ (S - t)) S (9 - S)
  rw [show S + (9 - S) = 9 by omega] at h
  rw [← h]
  congr 1
  rw [Int.add_mul, Int.mul_assoc, Int.mul_assoc, ← Int.pow_add, ← Int.pow_add, show S - s + (9 - S) = 9 - s by omega, show S - t + (9 - S) = 9 - t by omega]
theorem mul_T (a b : Int) (s t : Nat) (hs : s ≤ 9) (ht : t ≤ 9) : T (a * b) (s + t) = T (a * 10 ^ (9 - s) * (b * 10 ^ (9 - t))) 18 := by
  have h := T_pow (a * b) (s + t) (9 - s + (9 - t))
  rw [show s + t + (9 - s + (9 - t)) = 18 by omega] at h
  rw [← h]
  congr 1
  rw [Int.pow_add]
  generalize (10 : Int) ^ (9 - s) = p
  generalize (10 : Int) ^ (9 - t) = q
  rw [Int.mul_assoc, Int.mul_assoc, ← Int.mul_assoc b p q, Int.mul_comm b p, Int.mul_assoc]
end Go.Ev.Dec
