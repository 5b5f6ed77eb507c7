/- Part of a proof about the given program: BoxA. -/
import Derived.Test.YtdakkfohpjjhkaaBdecF
namespace Go.Ev.Box
open Go.Ev.Dec

/-! # Numbers held against one another -/
def cmpD (a b : Int × Int) : Int := if vD a < vD b then -1 else if vD b < vD a then 1 else 0

theorem f24_eqn {a b : Int × Int} (ha : RtD a) (hb : RtD b) : ∃ hi lo hi' lo' S : Nat, lo < 18446744073709551616 ∧ lo' < 18446744073709551616 ∧ S ≤ 9 ∧
    (vD a).natAbs = (hi * 18446744073709551616 + lo) * 10 ^ (9 - S) ∧ (vD b).natAbs = (hi' * 18446744073709551616 + lo') * 10 ^ (9 - S) ∧
    f24 (a.1, a.2, b.1, b.2, ()) = some ((hi : Int), (lo : Int), (hi' : Int), (lo' : Int), (S : Int), 0, ()) := by
  have h1 : Rt a.1 a.2 := ha
  have h2 : Rt b.1 b.2 := hb
  unfold f24
  dsimp only
  rw [f23_eqn, Option.bind_some]
  dsimp only
  rw [if_pos h1, if_neg (by decide), f23_eqn, Option.bind_some]
  dsimp only
  rw [if_pos h2, if_neg (by decide)]
  have b3 := h1.2.2.1; have b4 := h1.2.2.2.1
  have c3 := h2.2.2.1; have c4 := h2.2.2.2.1
  have es : a.2 = (a.2.toNat : Int) := by omega
  have es' : b.2 = (b.2.toNat : Int) := by omega
  have eS : Max.max a.2 b.2 = ((Max.max a.2.toNat b.2.toNat : Nat) : Int) := by omega
  rw [eS]
  have k1 : a.2.toNat ≤ Max.max a.2.toNat b.2.toNat := Nat.le_max_left _ _
  have k2 : b.2.toNat ≤ Max.max a.2.toNat b.2.toNat := Nat.le_max_right _ _
  have k3 : Max.max a.2.toNat b.2.toNat ≤ 9 := by omega
  generalize Max.max a.2.toNat b.2.toNat = S at k1 k2 k3 ⊢
  obtain ⟨hi, lo, _, g2, g3, g4⟩ := f38_eqn (m := a.1) ⟨h1.1, h1.2.1⟩ k1 k3
  obtain ⟨hi', lo', _, l2, l3, l4⟩ := f38_eqn (m := b.1) ⟨h2.1, h2.2.1⟩ k2 k3
  rw [← es] at g4
  rw [← es'] at l4
  refine ⟨hi, lo, hi', lo', S, g2, l2, k3, ?_, ?_, ?_⟩
  · rw [g3]; unfold vD val
    rw [Int.natAbs_mul, Int.natAbs_pow, Nat.mul_assoc, ← Nat.pow_add, show S - a.2.toNat + (9 - S) = 9 - a.2.toNat by omega]; rfl
  · rw [l3]; unfold vD val
    rw [Int.natAbs_mul, Int.natAbs_pow, Nat.mul_assoc, ← Nat.pow_add, show S - b.2.toNat + (9 - S) = 9 - b.2.toNat by omega]; rfl
  · rw [g4, Option.bind_some, l4, Option.bind_some]
theorem sgn_v (a : Int × Int) : (a.1 < 0 ↔ vD a < 0) := by
  have q1 : 0 < (10 : Int) ^ (9 - a.2.toNat) := Int.pow_pos (by omega)
  unfold vD val
  constructor
  · exact fun h => Int.mul_neg_of_neg_of_pos h q1
  · intro h
    exact Int.not_le.1 fun h0 => absurd (Int.mul_nonneg h0 (Int.le_of_lt q1)) (by omega)
theorem sgn_v' (a : Int × Int) : (0 < a.1 ↔ 0 < vD a) := by
  have q1 : 0 < (10 : Int) ^ (9 - a.2.toNat) := Int.pow_pos (by omega)
  unfold vD val
  constructor
  · exact fun h => Int.mul_pos h q1
  · intro h
    exact Int.not_le.1 fun h0 => absurd (Int.mul_nonpos_of_nonpos_of_nonneg h0 (Int.le_of_lt q1)) (by omega)
theorem f26_eqn (a b : Int) : f26 (a, b, ()) = some ((if a < b then -1 else if b < a then 1 else 0), ()) := by
  unfold f26 f41
  dsimp only
  rw [Option.bind_some, Option.bind_some]
  dsimp only
  rw [if_neg (by simp), if_neg (by simp)]
  by_cases h : a < b
  · rw [if_pos (by simpa using h), if_pos h]
  · rw [if_neg (by simpa using h), if_neg h]
    by_cases h2 : b < a
    · rw [if_pos (by simpa using h2), if_pos h2]
    · rw [if_neg (by simpa using h2), if_neg h2]
theorem f10_no {a b : Int × Int} (h : ¬ (RtD a ∧ RtD b)) : f10 (a.1, a.2, b.1, b.2, ()) = some (0, 1, ()) := by
  unfold f10 f24
  dsimp only
  rw [f23_eqn, Option.bind_some]
  dsimp only
  by_cases h1 : Rt a.1 a.2
  · have h2 : ¬ Rt b.1 b.2 := fun h2 => h ⟨h1, h2⟩
    rw [if_pos h1, if_neg (by decide), f23_eqn, Option.bind_some]
    dsimp only
    rw [if_neg h2, if_pos (by decide)]
    rfl
  · rw [if_neg h1, if_pos (by decide)]
    rfl
theorem f10_eqn {a b : Int × Int} (ha : RtD a) (hb : RtD b) : f10 (a.1, a.2, b.1, b.2, ()) = some (cmpD a b, 0, ()) := by
  obtain ⟨hi, lo, hi', lo', S, h1, h2, h3, h4, h5, h6⟩ := f24_eqn ha hb
  unfold f10 cmpD
  dsimp only
  rw [h6, Option.bind_some]
  dsimp only
  rw [if_neg (by decide)]
  have hq : 0 < 10 ^ (9 - S) := Nat.pow_pos (by omega)
  have lt1 : ∀ x y : Nat, x * 10 ^ (9 - S) < y * 10 ^ (9 - S) ↔ x < y := fun x y => Nat.mul_lt_mul_right hq
  have sa := sgn_v a
  have sb := sgn_v b
  have sa' := sgn_v' a
  have sb' := sgn_v' b
  have w1 := lt1 (hi * 18446744073709551616 + lo) (hi' * 18446744073709551616 + lo')
  have w2 := lt1 (hi' * 18446744073709551616 + lo') (hi * 18446744073709551616 + lo)
  rw [← h4, ← h5] at w1 w2
  unfold b10_1
  dsimp only
  by_cases n1 : a.1 < 0
  · rw [if_pos (by rw [decide_eq_true_eq]; exact n1), Option.bind_some, Sum.elim_inl]
    dsimp only
    by_cases n2 : b.1 < 0
    · rw [if_pos (by rw [decide_eq_true_eq]; exact n2), f25_eqn h2 h1, Option.bind_some]
      congr 2
      by_cases c1 : vD a < vD b
      · rw [if_pos c1, if_pos (w2.1 (by omega))]
      · rw [if_neg c1, if_neg (fun hh => by have := w2.2 hh; omega)]
        by_cases c2 : vD b < vD a
        · rw [if_pos c2, if_pos (w1.1 (by omega))]
        · rw [if_neg c2, if_neg (fun hh => by have := w1.2 hh; omega)]
    · rw [if_neg (by rw [decide_eq_true_eq]; exact n2), if_pos (by simp [n1, n2]), f26_eqn, Option.bind_some]
      congr 2
      rw [if_pos (by omega), if_pos (by omega)]
  · rw [if_neg (by rw [decide_eq_true_eq]; exact n1), Option.bind_some, Sum.elim_inl]
    dsimp only
    rw [if_neg (by decide)]
    by_cases n2 : b.1 < 0
    · rw [if_pos (by simp [n1, n2]), f26_eqn, Option.bind_some]
      congr 2
      rw [if_neg (by omega), if_pos (by omega), if_neg (by omega), if_pos (by omega)]
    · rw [if_neg (by simp [n1, n2]), f25_eqn h1 h2, Option.bind_some]
      congr 2
      by_cases c1 : vD a < vD b
      · rw [if_pos c1, if_pos (w1.1 (by omega))]
      · rw [if_neg c1, if_neg (fun hh => by have := w1.2 hh; omega)]
        by_cases c2 : vD b < vD a
        · rw [if_pos c2, if_pos (w2.1 (by omega))]
        · rw [if_neg c2, if_neg (fun hh => by have := w2.2 hh; omega)]
theorem f20_eqn2 {a b : Int × Int} (ha : RtD a) (hb : RtD b) : f20 (a.1, a.2, b.1, b.2, ()) = some (decide (vD b < vD a), ()) := by
  unfold f20
  dsimp only
  rw [f10_eqn ha hb, Option.bind_some]
  congr 2
  unfold cmpD
  rw [decide_eq_decide]
  dsimp only
  by_cases c1 : vD a < vD b
  · rw [if_pos c1]; omega
  · rw [if_neg c1]
    by_cases c2 : vD b < vD a
    · rw [if_pos c2]; omega
    · rw [if_neg c2]; omega
end Go.Ev.Box
