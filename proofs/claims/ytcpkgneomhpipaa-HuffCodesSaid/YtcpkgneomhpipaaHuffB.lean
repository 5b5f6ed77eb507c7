/- Part of a proof about the given program: HuffB. -/
import Derived.Test.YtcpkgneomhpipaaHuffA
namespace Go.Ev.Huff

theorem f27_eqn (l : List Int) : ∃ c, f27 (l, ()) = some (c, err l, ()) ∧ (err l = 0 → c = C l ∧ l.length ≤ 320 ∧ Ok l ∧ shr l ≤ 32768) := by
  unfold f27 err
  simp only []
  by_cases hl : 320 < l.length
  · rw [if_pos (by rw [decide_eq_true_eq]; omega), if_pos hl]
    exact ⟨_, rfl, fun h => by cases h⟩
  · rw [if_neg (by rw [decide_eq_true_eq]; omega), if_neg hl]
    have h := l27_spec (l := l) (by omega) (List.replicate 16 0) 18446744073709551616 0 (by omega) (by omega) (fun j hj => by omega)
    have hC : C [] = List.replicate 16 0 := by decide
    rw [List.take_zero, hC] at h
    rw [show l27_1 = loopN g27_1 o27_1 b27_1 18446744073709551616 from rfl]
    rcases h with ⟨hk, h1⟩ | ⟨hk, c, h1⟩
    · have h1' : loopN g27_1 o27_1 b27_1 18446744073709551616 (0, l, (l.length : Int), 0, List.replicate 16 0, List.replicate 16 0, ()) = _ := h1
      rw [h1', if_pos hk]
      simp only [Option.bind_some, Sum.elim_inl]
      by_cases hs : 32768 < shr l
      · rw [if_pos (by rw [decide_eq_true_eq]; omega), if_pos hs]
        exact ⟨_, rfl, fun h => by cases h⟩
      · rw [if_neg (by rw [decide_eq_true_eq]; omega), if_neg hs]
        exact ⟨_, rfl, fun _ => ⟨rfl, by omega, hk, by omega⟩⟩
    · have h1' : loopN g27_1 o27_1 b27_1 18446744073709551616 (0, l, (l.length : Int), 0, List.replicate 16 0, List.replicate 16 0, ()) = _ := h1
      rw [h1', if_neg hk]
      exact ⟨_, rfl, fun h => by cases h⟩

theorem l36_spec (n : Nat) (hn : n ≤ 15) : ∀ (k i : Nat), n < i + k → i ≤ n → loopN g36_1 o36_1 b36_1 k ((n : Int), ((2 ^ i : Nat) : Int), (i : Int), ()) = some (.inl (((2 ^ n : Nat) : Int), ())) := by
  intro k
  induction k with
  | zero => intro i h1 h2; omega
  | succ k ih =>
    intro i h1 h2
    rw [loopN_succ]
    generalize hL : loopN g36_1 o36_1 b36_1 k = L at ih ⊢
    unfold b36_1
    simp only []
    rcases Nat.lt_or_ge i n with h | h
    · rw [if_pos (by rw [decide_eq_true_eq]; omega)]
      simp only [Option.bind_some, Sum.elim_inl]
      have hp : (2 : Nat) ^ i ≤ 32768 := by
        have : (2 : Nat) ^ i ≤ 2 ^ 15 := Nat.pow_le_pow_right (by omega) (by omega)
        simpa using this
      have e1 : IntKind.wrap IntKind.i64 (2 * ((2 ^ i : Nat) : Int)) = ((2 ^ (i + 1) : Nat) : Int) := by
        rw [Nat.pow_succ]
        generalize (2 : Nat) ^ i = p at hp
        rw [wrap_i64 (by omega)]; omega
      rw [e1, wrap_i64 (by omega), show ((i : Int) + 1) = ((i + 1 : Nat) : Int) by omega]
      exact ih (i + 1) (by omega) (by omega)
    · rw [if_neg (by rw [decide_eq_true_eq]; omega)]
      have : i = n := by omega
      subst this
      rfl
theorem f36_eqn {n : Nat} (hn : n ≤ 15) : f36 ((n : Int), ()) = some (((2 ^ n : Nat) : Int), ()) := by
  unfold f36
  simp only []
  have h := l36_spec n hn 18446744073709551616 0 (by omega) (by omega)
  have h' : loopN g36_1 o36_1 b36_1 18446744073709551616 ((n : Int), 1, 0, ()) = _ := h
  rw [show l36_1 = loopN g36_1 o36_1 b36_1 18446744073709551616 from rfl, h']
  rfl

theorem l28_spec {l : List Int} (hl : l.length ≤ 320) : ∀ (k i : Nat), l.length < i + k → i ≤ l.length → (∀ j, j < i → 0 ≤ l.getD j 0 ∧ l.getD j 0 ≤ 15) →
    (Ok l ∧ loopN g28_1 o28_1 b28_1 k (l, (shr (l.take i) : Int), (i : Int), ()) = some (.inl ((shr l : Int), ()))) ∨
    (¬ Ok l ∧ loopN g28_1 o28_1 b28_1 k (l, (shr (l.take i) : Int), (i : Int), ()) = some (.inr (.inl (-1, ())))) := by
  intro k
  induction k with
  | zero => intro i h1 h2; omega
  | succ k ih =>
    intro i h1 h2 hb
    rw [loopN_succ]
    generalize hL : loopN g28_1 o28_1 b28_1 k = L at ih ⊢
    unfold b28_1
    simp only [Int.toNat_natCast]
    rcases Nat.lt_or_ge i l.length with h | h
    · have hi0 : (0 : Int) ≤ (i : Int) := by omega
      have hi1 : (i : Int) < (l.length : Int) := by omega
      rw [if_pos (by rw [decide_eq_true_eq]; exact hi1), if_pos hi0, if_pos hi1]
      by_cases hx : 0 ≤ l.getD i 0 ∧ l.getD i 0 ≤ 15
      · rw [if_neg (by rw [decide_eq_true_eq]; exact Int.not_lt.2 hx.1), if_pos hi0, if_pos hi1, if_neg (by rw [decide_eq_true_eq]; exact Int.not_lt.2 hx.2), if_pos hi0, if_pos hi1]
        have hs1 := shr_take_succ h
        have hs2 := shr_le (l.take (i + 1))
        have hlt : (l.take (i + 1)).length ≤ 320 := by rw [List.length_take]; omega
        have hb' : ∀ j, j < i + 1 → 0 ≤ l.getD j 0 ∧ l.getD j 0 ≤ 15 := fun j hj => by
          by_cases e : j = i
          · rw [e]; exact hx
          · exact hb j (by omega)
        have e3 : IntKind.wrap IntKind.i64 ((i : Int) + 1) = ((i + 1 : Nat) : Int) := by rw [wrap_i64 (by omega)]; omega
        have hI := ih (i + 1) (by omega) (by omega) hb'
        by_cases hp : 0 < l.getD i 0
        · rw [if_pos (by rw [decide_eq_true_eq]; exact hp), if_pos hi0, if_pos hi1]
          rw [if_pos hp] at hs1
          have e0 : IntKind.wrap IntKind.i64 (15 - l.getD i 0) = ((15 - (l.getD i 0).toNat : Nat) : Int) := by rw [wrap_i64 (by omega)]; omega
          rw [e0, f36_eqn (by omega)]
          simp only [Option.bind_some, Sum.elim_inl]
          have e1 : IntKind.wrap IntKind.i64 ((shr (l.take i) : Int) + ((2 ^ (15 - (l.getD i 0).toNat) : Nat) : Int)) = ((shr (l.take (i + 1)) : Nat) : Int) := by
            rw [hs1]
            generalize (2 : Nat) ^ (15 - (l.getD i 0).toNat) = p at hs1
            rw [wrap_i64 (by omega)]; omega
          rw [e1, e3]
          exact hI
        · rw [if_neg (by rw [decide_eq_true_eq]; exact hp)]
          simp only [Option.bind_some, Sum.elim_inl]
          rw [if_neg hp, Nat.add_zero] at hs1
          rw [e3]
          rw [hs1] at hI
          exact hI
      · refine .inr ⟨not_ok h hx, ?_⟩
        by_cases h0 : l.getD i 0 < 0
        · rw [if_pos (by rw [decide_eq_true_eq]; exact h0)]; rfl
        · have h15 : 15 < l.getD i 0 := by omega
          rw [if_neg (by rw [decide_eq_true_eq]; exact h0), if_pos hi0, if_pos hi1, if_pos (by rw [decide_eq_true_eq]; exact h15)]; rfl
    · rw [if_neg (by rw [decide_eq_true_eq]; omega)]
      have : i = l.length := by omega
      subst this
      rw [List.take_length]
      refine .inl ⟨fun x hx => ?_, rfl⟩
      obtain ⟨j, hj, rfl⟩ := List.mem_iff_getElem.1 hx
      have := hb j hj
      rwa [List.getD_eq_getElem?_getD, List.getElem?_eq_getElem hj] at this

/-- The reference's share. -/
theorem f28_eqn (l : List Int) : (320 < l.length ∧ f28 (l, ()) = some (-1, ())) ∨ (l.length ≤ 320 ∧ ¬ Ok l ∧ f28 (l, ()) = some (-1, ())) ∨ (l.length ≤ 320 ∧ Ok l ∧ f28 (l, ()) = some ((shr l : Int), ())) := by
  unfold f28
  simp only []
  by_cases hl : 320 < l.length
  · rw [if_pos (by rw [decide_eq_true_eq]; omega)]
    exact .inl ⟨hl, rfl⟩
  · rw [if_neg (by rw [decide_eq_true_eq]; omega)]
    have h := l28_spec (l := l) (by omega) 18446744073709551616 0 (by omega) (by omega) (fun j hj => by omega)
    rw [List.take_zero] at h
    rw [show l28_1 = loopN g28_1 o28_1 b28_1 18446744073709551616 from rfl]
    rcases h with ⟨hk, h1⟩ | ⟨hk, h1⟩
    · have h1' : loopN g28_1 o28_1 b28_1 18446744073709551616 (l, 0, 0, ()) = _ := h1
      rw [h1']
      exact .inr (.inr ⟨by omega, hk, rfl⟩)
    · have h1' : loopN g28_1 o28_1 b28_1 18446744073709551616 (l, 0, 0, ()) = _ := h1
      rw [h1']
      exact .inr (.inl ⟨by omega, hk, rfl⟩)
end Go.Ev.Huff
