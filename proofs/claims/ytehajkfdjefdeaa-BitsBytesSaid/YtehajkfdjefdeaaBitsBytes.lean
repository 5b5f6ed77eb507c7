/- Part of a proof about the given program: BitsBytes. -/
import Derived.Test.YtehajkfdjefdeaaBitsBack
namespace Go.Ev.Bits

theorem f23_all {b : List Int} (hl : b.length ≤ 90000) : f23 ((b.length : Int), b, 0, 0, 0, ()) = some (0, b, (b.length : Int), 0, 0, b, ()) := by
  unfold f23
  simp only []
  rw [if_neg (by simp)]
  have h21 : f21 (b, 0, 0, 0, ()) = some (0, b, 0, 0, 0, ()) := by kernel_rfl
  rw [h21]
  simp only [Option.bind_some]
  have e1 : IntKind.wrap IntKind.i64 ((b.length : Int) - 0) = (b.length : Int) := by rw [wrap_i64 (by omega)]; omega
  have e2 : IntKind.wrap IntKind.i64 ((0 : Int) + (b.length : Int)) = (b.length : Int) := by rw [wrap_i64 (by omega)]; omega
  have e3 : IntKind.wrap IntKind.i64 ((b.length : Int) - (b.length : Int)) = 0 := by rw [wrap_i64 (by omega)]; omega
  rw [e1, e2, e3]
  rw [if_neg (by simp), if_pos (by omega), if_pos (by omega), if_pos (by omega), if_pos (by omega)]
  simp only [Int.toNat_natCast, Int.toNat_zero, List.drop_zero, List.take_length]
  rw [f25_eqn (by omega)]
  simp only [Option.bind_some, if_true]

theorem f13_byte {b : List Int} (hb : IsB b) (hl : b.length ≤ 90000) {j : Nat} (hj : j < b.length) : f13 (8, b, (j : Int), 0, 0, ()) = some (b.getD j 0, 0, b, ((j + 1 : Nat) : Int), 0, 0, ()) := by
  obtain ⟨a', w', m', h1, h2, h3, h4, h5, h6⟩ := f13_good (n := 8) (a := j) (w := 0) (m := 0) hb (by omega) (by omega) (by simp) (by omega) (by omega) (by omega)
  have hm : m' = 0 := by omega
  subst hm
  have ha : a' = j + 1 := by omega
  subst ha
  have hw : w' = 0 := by simpa using h3
  subst hw
  have hx := hb (b.getD j 0) (by rw [List.getD_eq_getElem?_getD, List.getElem?_eq_getElem hj]; exact List.getElem_mem _)
  have hrv : RV b j 0 0 % 2 ^ 8 = (b.getD j 0).toNat := by
    unfold RV
    rw [drop_cons hj]
    simp only [valB, Nat.pow_zero, Nat.one_mul, Nat.zero_add]
    omega
  rw [hrv] at h1
  have e : (((b.getD j 0).toNat : Nat) : Int) = b.getD j 0 := by omega
  rw [e] at h1
  exact h1

theorem f13_none {b : List Int} (hl : b.length ≤ 90000) : f13 (1, b, (b.length : Int), 0, 0, ()) = some (0, 6, b, (b.length : Int), 0, 0, ()) := by
  unfold f13
  simp only []
  rw [if_neg (by simp), if_neg (by simp), show f14 (b, (b.length : Int), 0, 0, ()) = _ from f14_eqn (w := 0) (m := 0) (Nat.le_refl _) (by omega) (by omega)]
  simp only [Option.bind_some]
  rw [if_pos (by simp)]
  rfl

theorem l6_spec (b : List Int) (hb : IsB b) (hl : b.length ≤ 500) (e a1 w1 m1 : Int) (b1 all : List Int) : ∀ (k j : Nat), b.length < j + k → j ≤ b.length →
    loopN g6_1 o6_1 b6_1 k (b, e, (j : Int), b1, a1, w1, m1, b, (j : Int), 0, 0, all, ()) = some (.inl (b, e, (b.length : Int), b1, a1, w1, m1, b, (b.length : Int), 0, 0, all, ())) := by
  intro k
  induction k with
  | zero => intro j h1 h2; omega
  | succ k ih =>
    intro j hk hj
    rw [loopN_succ]
    generalize hL : loopN g6_1 o6_1 b6_1 k = L at ih ⊢
    unfold b6_1
    simp only [if_true, Int.toNat_natCast]
    rcases Nat.lt_or_ge j b.length with hlt | hge
    · have c1 : (0 : Int) ≤ (j : Int) := by omega
      have c2 : (j : Int) < (b.length : Int) := by omega
      simp only [c1, c2, decide_true, if_true]
      rw [f13_byte hb (by omega) hlt]
      simp only [Option.bind_some]
      have hx := hb (b.getD j 0) (by rw [List.getD_eq_getElem?_getD, List.getElem?_eq_getElem hlt]; exact List.getElem_mem _)
      rw [wrap_i64 (n := b.getD j 0) (by omega)]
      rw [if_neg (by decide), if_neg (by simp)]
      rw [show f14 (b, ((j + 1 : Nat) : Int), 0, 0, ()) = _ from f14_eqn (w := 0) (m := 0) (by omega) (by omega) (by omega)]
      simp only [Option.bind_some]
      have e1 : IntKind.wrap IntKind.i64 (8 * IntKind.wrap IntKind.i64 (IntKind.wrap IntKind.i64 ((b.length : Int) - j) - 1)) = ((8 * (b.length - (j + 1)) + 0 : Nat) : Int) := by
        rw [wrap_i64 (n := (b.length : Int) - j) (by omega), wrap_i64 (n := (b.length : Int) - j - 1) (by omega), wrap_i64 (by omega)]
        omega
      rw [e1, if_neg (by simp), wrap_i64 (by omega)]
      simp only [Option.bind_some, Sum.elim_inl]
      exact ih (j + 1) (by omega) (by omega)
    · have : j = b.length := by omega
      subst this
      rw [if_neg (by simp)]
      rfl

theorem bitsBytes_pure (b : List Int) (h : Wf (.slice (.int .u8)) b) : f6 (b, ()) = some (true, ()) := by
  have hb : IsB b := fun x hx => by
    have h1 : IntKind.u8.min ≤ x ∧ x ≤ IntKind.u8.max := h.2 x hx
    rw [show IntKind.u8.min = 0 by decide, show IntKind.u8.max = 255 by decide] at h1
    omega
  unfold f6
  simp only []
  by_cases h500 : 500 < b.length
  · rw [if_pos (by simp <;> omega)]
  · rw [if_neg (by simp <;> omega), f12_eqn (by omega)]
    simp only [Option.bind_some]
    rw [f23_all (by omega)]
    simp only [Option.bind_some, if_true]
    rw [show l6_1 = loopN g6_1 o6_1 b6_1 18446744073709551616 from rfl]
    have h1 := l6_spec b hb (by omega) 0 (b.length : Int) 0 0 b b 18446744073709551616 0 (by omega) (by omega)
    have h1' : loopN g6_1 o6_1 b6_1 18446744073709551616 (b, 0, 0, b, (b.length : Int), 0, 0, b, 0, 0, 0, b, ()) = _ := h1
    rw [h1']
    simp only [Option.bind_some, Sum.elim_inl]
    rw [f13_none (by omega), awake_true]
    simp only [Option.bind_some, if_true, List.drop_zero, List.take_length]
    rw [show f14 (b, (b.length : Int), 0, 0, ()) = _ from f14_eqn (w := 0) (m := 0) (Nat.le_refl _) (by omega) (by omega)]
    simp
end Go.Ev.Bits
