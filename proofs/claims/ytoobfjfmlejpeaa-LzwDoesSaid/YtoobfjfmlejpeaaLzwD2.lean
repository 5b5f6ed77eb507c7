/- Part of a proof about the given program: LzwD2. -/
import Derived.Test.YtoobfjfmlejpeaaLzwD
namespace Go.Ev.Lzw

/-! ## A number's bits, as the reference puts them -/
theorem l16b1_spec (v : Int) (n : Nat) (hn : n ≤ 20) (l : List Bool) : ∀ (k j : Nat), n + 1 < j + k → 1 ≤ j → j ≤ n →
    loopN g16_b_1 o16_b_1 b16_b_1 k (v, (n : Int), ((2 ^ (j - 1) : Nat) : Int), (j : Int), l, ()) = some (.inl (v, (n : Int), ((2 ^ (n - 1) : Nat) : Int), l, ())) := by
  intro k
  induction k with
  | zero => intro j h1 h2 h3; omega
  | succ k ih =>
    intro j h1 h2 h3
    rw [loopN_succ]
    generalize hL : loopN g16_b_1 o16_b_1 b16_b_1 k = L at ih ⊢
    unfold b16_b_1
    simp only [if_true]
    rcases Nat.lt_or_ge j n with h | h
    · rw [if_pos (by simp; omega)]
      simp only [Option.bind_some, Sum.elim_inl]
      have hp : (2 : Nat) ^ (j - 1) ≤ 1048576 := by
        have : (2 : Nat) ^ (j - 1) ≤ 2 ^ 20 := Nat.pow_le_pow_right (by omega) (by omega)
        simpa using this
      have e1 : IntKind.wrap IntKind.i64 (2 * ((2 ^ (j - 1) : Nat) : Int)) = ((2 ^ (j + 1 - 1) : Nat) : Int) := by
        have : (2 : Nat) ^ (j + 1 - 1) = 2 * 2 ^ (j - 1) := by rw [← Nat.pow_succ']; congr 1; omega
        rw [this]
        generalize (2 : Nat) ^ (j - 1) = p at hp
        rw [wrap_i64 (by omega)]; omega
      rw [e1, wrap_i64 (by omega), show ((j : Int) + 1) = ((j + 1 : Nat) : Int) by omega]
      exact ih (j + 1) (by omega) (by omega) (by omega)
    · rw [if_neg (by simp; omega)]
      have : j = n := by omega
      subst this
      rfl

theorem l16b2_spec (v n : Nat) (hv : v < 1048576) (hn : n ≤ 20) : ∀ (k j p : Nat) (l : List Bool), n < j + k → j ≤ n → (j < n → p = 2 ^ (n - 1 - j)) → l.length + n ≤ j + 100000000 →
    loopN g16_b_2 o16_b_2 b16_b_2 k ((v : Int), (n : Int), (p : Int), (j : Int), l, ()) = some (.inl (l ++ bitsM v (n - j), ())) := by
  intro k
  induction k with
  | zero => intro j p l h1 h2; omega
  | succ k ih =>
    intro j p l h1 h2 h3 hl
    rw [loopN_succ]
    generalize hL : loopN g16_b_2 o16_b_2 b16_b_2 k = L at ih ⊢
    unfold b16_b_2
    simp only [if_true, List.drop_zero, List.take_length, one_of, List.length_cons, List.length_nil]
    rcases Nat.lt_or_ge j n with h | h
    · have hp := h3 h
      have hp1 := Nat.two_pow_pos (n - 1 - j)
      have hp2 : (2 : Nat) ^ (n - 1 - j) ≤ 1048576 := by
        have : (2 : Nat) ^ (n - 1 - j) ≤ 2 ^ 20 := Nat.pow_le_pow_right (by omega) (by omega)
        simpa using this
      rw [← hp] at hp1 hp2
      rw [if_pos (by simp; omega), if_neg (by omega), if_pos (by omega)]
      simp only [Option.bind_some, Sum.elim_inl]
      have e1 : IntKind.wrap IntKind.i64 ((v : Int).tdiv (p : Int)) = ((v / p : Nat) : Int) := by
        rw [Int.tdiv_eq_ediv_of_nonneg (by omega), ← Int.natCast_ediv]
        have := Nat.div_le_self v p
        generalize v / p = q at this
        exact wrap_i64 (by omega)
      have e2 : ((((v / p : Nat) : Int).tmod 2) == 1) = decide (v / p % 2 = 1) := by
        generalize v / p = q
        rw [Int.tmod_eq_emod_of_nonneg (by omega)]
        by_cases hb : q % 2 = 1
        · rw [decide_eq_true hb, beq_iff_eq]; omega
        · rw [decide_eq_false hb, Bool.eq_false_iff]; simp only [ne_eq, beq_iff_eq]; omega
      have e3 : Max.max (IntKind.wrap IntKind.i64 ((p : Int).tdiv 2)) 1 = ((max (p / 2) 1 : Nat) : Int) := by
        rw [Int.tdiv_eq_ediv_of_nonneg (by omega), wrap_i64 (by omega)]
        omega
      rw [e1, e2, e3, wrap_i64 (by omega), show ((j : Int) + 1) = ((j + 1 : Nat) : Int) by omega]
      have hbits : bitsM v (n - j) = decide (v / p % 2 = 1) :: bitsM v (n - (j + 1)) := by
        rw [show n - j = (n - (j + 1)) + 1 by omega, hp, show n - 1 - j = n - (j + 1) by omega]
        rfl
      rw [ih (j + 1) (max (p / 2) 1) (l ++ [decide (v / p % 2 = 1)]) (by omega) (by omega) (fun hj => ?_) (by simp; omega), hbits]
      · simp
      · rw [hp, show n - 1 - j = (n - 1 - (j + 1)) + 1 by omega, Nat.pow_succ, Nat.mul_div_cancel _ (by omega)]
        have := Nat.two_pow_pos (n - 1 - (j + 1))
        omega
    · rw [if_neg (by simp; omega)]
      have : j = n := by omega
      subst this
      simp [bitsM]

theorem f16b_eqn {v n : Nat} (hv : v < 1048576) (hn : n ≤ 20) (h1 : 1 ≤ n) {l : List Bool} (hl : l.length ≤ 90000000) : f16_b ((v : Int), (n : Int), l, ()) = some (l ++ bitsM v n, ()) := by
  unfold f16_b
  simp only [if_true]
  have g := l16b1_spec (v : Int) n hn l 18446744073709551616 1 (by omega) (by omega) h1
  have g' : loopN g16_b_1 o16_b_1 b16_b_1 18446744073709551616 ((v : Int), (n : Int), 1, 1, l, ()) = _ := g
  rw [show l16_b_1 = loopN g16_b_1 o16_b_1 b16_b_1 18446744073709551616 from rfl, g']
  simp only [Option.bind_some, Sum.elim_inl]
  have q := l16b2_spec v n hv hn 18446744073709551616 0 (2 ^ (n - 1)) l (by omega) (by omega) (fun _ => by rw [Nat.sub_zero]) (by omega)
  have q' : loopN g16_b_2 o16_b_2 b16_b_2 18446744073709551616 ((v : Int), (n : Int), ((2 ^ (n - 1) : Nat) : Int), 0, l, ()) = _ := q
  rw [show l16_b_2 = loopN g16_b_2 o16_b_2 b16_b_2 18446744073709551616 from rfl, q']
  rfl
theorem l16_1_eq : ∀ (k : Nat) (x : g16_1.D), loopN g16_1 o16_1 b16_1 k x = loopN g16_b_1 o16_b_1 b16_b_1 k x := by
  intro k
  induction k with
  | zero => intro x; rfl
  | succ k ih =>
    intro x
    rw [loopN_succ, loopN_succ, show (loopN g16_1 o16_1 b16_1 k) = (loopN g16_b_1 o16_b_1 b16_b_1 k) from funext ih]
    rfl
theorem l16_2_eq : ∀ (k : Nat) (x : g16_2.D), loopN g16_2 o16_2 b16_2 k x = loopN g16_b_2 o16_b_2 b16_b_2 k x := by
  intro k
  induction k with
  | zero => intro x; rfl
  | succ k ih =>
    intro x
    rw [loopN_succ, loopN_succ, show (loopN g16_2 o16_2 b16_2 k) = (loopN g16_b_2 o16_b_2 b16_b_2 k) from funext ih]
    rfl
theorem f16_eqn {v n : Nat} (hv : v < 1048576) (hn : n ≤ 20) (h1 : 1 ≤ n) : f16 ((v : Int), (n : Int), ()) = some (bitsM v n, ()) := by
  have h := f16b_eqn hv hn h1 (l := []) (by simp)
  rw [List.nil_append] at h
  rw [← h]
  unfold f16 f16_b
  rw [show l16_1 = l16_b_1 from funext (l16_1_eq _), show l16_2 = l16_b_2 from funext (l16_2_eq _)]
  rfl

/-! ## Bits as bytes, as the reference makes them -/
theorem l19_2_spec (l : List Bool) (t : Nat) (out : List Int) : ∀ (k j : Nat), t % 8 < j + k → j ≤ t % 8 →
    loopN g19_2 o19_2 b19_2 k (l, (t : Int), ((2 ^ (7 - j) : Nat) : Int), (j : Int), out, ()) = some (.inl (l, (t : Int), ((2 ^ (7 - t % 8) : Nat) : Int), out, ())) := by
  intro k
  induction k with
  | zero => intro j h1 h2; omega
  | succ k ih =>
    intro j h1 h2
    rw [loopN_succ]
    generalize hL : loopN g19_2 o19_2 b19_2 k = L at ih ⊢
    unfold b19_2
    simp only [if_true]
    rw [Int.tmod_eq_emod_of_nonneg (by omega)]
    rcases Nat.lt_or_ge j (t % 8) with h | h
    · rw [if_pos (by simp; omega)]
      simp only [Option.bind_some, Sum.elim_inl]
      have hp : (2 : Nat) ^ (7 - j) ≤ 128 := by
        have : (2 : Nat) ^ (7 - j) ≤ 2 ^ 7 := Nat.pow_le_pow_right (by omega) (by omega)
        simpa using this
      have e1 : IntKind.wrap IntKind.i64 (((2 ^ (7 - j) : Nat) : Int).tdiv 2) = ((2 ^ (7 - (j + 1)) : Nat) : Int) := by
        have e : (2 : Nat) ^ (7 - j) = 2 ^ (7 - (j + 1)) * 2 := by rw [← Nat.pow_succ]; congr 1; omega
        rw [e] at hp ⊢
        generalize (2 : Nat) ^ (7 - (j + 1)) = p at hp
        rw [Int.tdiv_eq_ediv_of_nonneg (by omega), wrap_i64 (by omega)]; omega
      rw [e1, wrap_i64 (by omega), show ((j : Int) + 1) = ((j + 1 : Nat) : Int) by omega]
      exact ih (j + 1) (by omega) (by omega)
    · rw [if_neg (by simp; omega)]
      have : j = t % 8 := by omega
      subst this
      rfl

theorem nm_take_succ {l : List Bool} {t : Nat} (h : t < l.length) : nm (l.take (t + 1)) = 2 * nm (l.take t) + (l.getD t false).toNat := by
  rw [List.take_add_one, List.getElem?_eq_getElem h, nm_append]
  simp [nm, List.getD_eq_getElem?_getD, h]
  omega

theorem l19_1_spec (l : List Bool) (hl : l.length ≤ 100000000) : ∀ (k t : Nat) (out : List Int), l.length < t + k → t ≤ l.length → IsB out → out.length = (l.length + 7) / 8 → be out = nm (l.take t) * 2 ^ (8 * out.length - t) →
    ∃ B, loopN g19_1 o19_1 b19_1 k (l, (t : Int), out, ()) = some (.inl (B, ())) ∧ IsB B ∧ B.length = (l.length + 7) / 8 ∧ be B = nm l * 2 ^ (8 * B.length - l.length) := by
  intro k
  induction k with
  | zero => intro t out h1 h2; omega
  | succ k ih =>
    intro t out h1 h2 hb ho hv
    rw [loopN_succ]
    generalize hL : loopN g19_1 o19_1 b19_1 k = L at ih ⊢
    unfold b19_1
    simp only [if_true]
    rcases Nat.lt_or_ge t l.length with h | h
    · rw [if_pos (by simp; omega)]
      have g := l19_2_spec l t out 18446744073709551616 0 (by omega) (by omega)
      have g' : loopN g19_2 o19_2 b19_2 18446744073709551616 (l, (t : Int), 128, 0, out, ()) = _ := g
      rw [show l19_2 = loopN g19_2 o19_2 b19_2 18446744073709551616 from rfl, g']
      simp only [Option.bind_some, Sum.elim_inl]
      have e1 : IntKind.wrap IntKind.i64 ((t : Int).tdiv 8) = ((t / 8 : Nat) : Int) := by
        rw [Int.tdiv_eq_ediv_of_nonneg (by omega), wrap_i64 (by omega)]; omega
      have e3 : IntKind.wrap IntKind.i64 ((t : Int) + 1) = ((t + 1 : Nat) : Int) := by rw [wrap_i64 (by omega)]; omega
      rw [e1, e3, if_pos (by omega), if_pos (by omega)]
      simp only [Int.toNat_natCast, Nat.zero_add, List.length_set, if_true]
      have hns := nm_take_succ h
      cases hbit : l.getD t false with
      | true =>
        rw [if_pos rfl, if_pos (by omega), if_pos (by omega), if_pos (by omega), if_pos (by omega)]
        simp only [Option.bind_some, Sum.elim_inl]
        obtain ⟨s1, s2⟩ := be_setbit hb (t := t) (by omega) hv
        have h0 := hb.get (t / 8)
        have hpp := Nat.two_pow_pos (7 - t % 8)
        have e4 : IntKind.wrap IntKind.u8 (out.getD (t / 8) 0 + IntKind.wrap IntKind.u8 ((2 ^ (7 - t % 8) : Nat) : Int)) = out.getD (t / 8) 0 + ((2 ^ (7 - t % 8) : Nat) : Int) := by
          generalize (2 : Nat) ^ (7 - t % 8) = p at s1 hpp
          rw [wrap_u8, wrap_u8]
          omega
        rw [e4]
        refine ih (t + 1) _ (by omega) (by omega) (hb.set ?_) (by simpa using ho) ?_
        · generalize (2 : Nat) ^ (7 - t % 8) = p at s1 hpp
          omega
        · rw [s2, hns, hbit, List.length_set]
          rfl
      | false =>
        rw [if_neg (by simp)]
        simp only [Option.bind_some, Sum.elim_inl]
        refine ih (t + 1) out (by omega) (by omega) hb ho ?_
        rw [hv, hns, hbit, show 8 * out.length - t = 8 * out.length - (t + 1) + 1 by omega, Nat.pow_succ]
        simp only [Bool.toNat_false, Nat.add_zero]
        rw [Nat.mul_comm 2 (nm _), Nat.mul_assoc, Nat.mul_comm 2]
    · rw [if_neg (by simp; omega)]
      have : t = l.length := by omega
      subst this
      rw [List.take_length] at hv
      exact ⟨out, rfl, hb, ho, hv⟩

theorem f19_eqn (l : List Bool) (hl : l.length ≤ 100000000) : ∃ B, f19 (l, ()) = some (B, ()) ∧ IsB B ∧ B.length = (l.length + 7) / 8 ∧ be B = nm l * 2 ^ (8 * B.length - l.length) := by
  obtain ⟨B, h1, h2⟩ := l19_1_spec l hl 18446744073709551616 0 (List.replicate ((l.length + 7) / 8) 0) (by omega) (by omega) (IsB.replicate _) (by simp) (by simp [be_replicate, nm])
  refine ⟨B, ?_, h2⟩
  have e1 : IntKind.wrap IntKind.i64 (Int.tdiv (IntKind.wrap IntKind.i64 (((l.length : Nat) : Int) + 7)) 8) = (((l.length + 7) / 8 : Nat) : Int) := by
    rw [wrap_i64 (n := ((l.length : Nat) : Int) + 7) (by omega), Int.tdiv_eq_ediv_of_nonneg (by omega), wrap_i64 (by omega)]; omega
  unfold f19
  simp only []
  rw [e1]
  simp only [Int.toNat_natCast, List.length_replicate, if_true]
  rw [if_pos (by omega), if_pos (by omega), if_pos (by omega)]
  have h1' : loopN g19_1 o19_1 b19_1 18446744073709551616 (l, 0, List.replicate ((l.length + 7) / 8) 0, ()) = _ := h1
  rw [show l19_1 = loopN g19_1 o19_1 b19_1 18446744073709551616 from rfl, h1']
  rfl
end Go.Ev.Lzw
