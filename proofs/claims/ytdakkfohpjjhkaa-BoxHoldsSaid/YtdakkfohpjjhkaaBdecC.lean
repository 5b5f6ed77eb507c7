/- Part of a proof about the given program: BdecC. -/
import Derived.Test.YtdakkfohpjjhkaaBdecB
namespace Go.Ev.Box
open Go.Ev.Dec

abbrev B64 : Nat := 18446744073709551616
theorem f63_eqn {hi lo : Nat} (hhi : hi < 18446744073709551616) (hlo : lo < 18446744073709551616) : ∃ hi' lo' : Nat, hi' < 18446744073709551616 ∧ lo' < 18446744073709551616 ∧ hi' * 18446744073709551616 + lo' = (hi * 18446744073709551616 + lo) / 10 ∧
    f63 ((hi : Int), (lo : Int), ()) = some ((hi' : Int), (lo' : Int), (((hi * 18446744073709551616 + lo) % 10 : Nat) : Int), ()) := by
  refine ⟨hi / 10, ((hi % 10) * 18446744073709551616 + lo) / 10, by omega, by omega, by omega, ?_⟩
  unfold f63
  dsimp only
  rw [show Int.tmod (hi : Int) 10 = ((hi % 10 : Nat) : Int) from rfl, f64_ten (Nat.mod_lt _ (by omega)) hlo, Option.bind_some]
  dsimp only
  rw [show Int.tdiv (hi : Int) 10 = ((hi / 10 : Nat) : Int) from rfl, wrap_u64' (by omega)]
  have : (hi % 10 * 18446744073709551616 + lo) % 10 = (hi * 18446744073709551616 + lo) % 10 := by omega
  rw [this]

theorem l57_1_spec (below : Bool) (a b : Int) : ∀ (k s hi lo : Nat), s < k → s < 1000 → hi < 18446744073709551616 → lo < 18446744073709551616 → ∃ hi' lo' s' : Nat, hi' < 18446744073709551616 ∧ lo' < 18446744073709551616 ∧
    strip (hi * 18446744073709551616 + lo) s = (hi' * 18446744073709551616 + lo', s') ∧
    loopN g57_1 o57_1 b57_1 k (below, (s : Int), (hi : Int), (lo : Int), a, b, ()) = some (.inl (below, (s' : Int), (hi' : Int), (lo' : Int), a, b, ())) := by
  intro k
  induction k with
  | zero => intro s hi lo h; omega
  | succ k ih =>
    intro s hi lo h1 h2 h3 h4
    rw [loopN_succ]
    generalize hL : loopN g57_1 o57_1 b57_1 k = L at ih ⊢
    unfold b57_1
    dsimp only
    cases s with
    | zero =>
      refine ⟨hi, lo, 0, h3, h4, rfl, ?_⟩
      rw [if_neg (by rw [decide_eq_true_eq]; omega)]
      rfl
    | succ s =>
      obtain ⟨hi', lo', h5, h6, h7, h8⟩ := f63_eqn h3 h4
      rw [if_pos (by rw [decide_eq_true_eq]; omega), h8, Option.bind_some]
      dsimp only
      unfold strip
      by_cases h9 : (hi * 18446744073709551616 + lo) % 10 = 0
      · rw [if_pos h9, if_neg (by rw [h9]; decide), ← h7]
        rw [Option.bind_some, Sum.elim_inl, show IntKind.wrap .i64 (((s + 1 : Nat) : Int) - 1) = ((s : Nat) : Int) by rw [wrap_i64 (by omega)]; omega]
        exact ih s hi' lo' (by omega) (by omega) h5 h6
      · rw [if_neg h9, if_pos (by rw [bne_iff_ne]; omega)]
        exact ⟨hi, lo, s + 1, h3, h4, rfl, rfl⟩

theorem f57_eqn (below : Bool) {hi lo s : Nat} (h2 : s < 1000) (h3 : hi < 18446744073709551616) (h4 : lo < 18446744073709551616) : f57 (below, (hi : Int), (lo : Int), (s : Int), ()) = some (told below (hi * 18446744073709551616 + lo) s) := by
  unfold f57
  dsimp only
  obtain ⟨hi', lo', s', h5, h6, h7, h8⟩ := l57_1_spec below 0 0 18446744073709551616 s hi lo (by omega) h2 h3 h4
  rw [show l57_1 = loopN g57_1 o57_1 b57_1 18446744073709551616 from rfl]
  generalize loopN g57_1 o57_1 b57_1 18446744073709551616 (below, (s : Int), (hi : Int), (lo : Int), 0, 0, ()) = X at h8 ⊢
  subst h8
  rw [Option.bind_some, Sum.elim_inl]
  dsimp only
  unfold told
  rw [h7]
  dsimp only
  by_cases g1 : hi' = 0
  · subst g1
    rw [if_neg (by decide), Nat.zero_mul, Nat.zero_add]
    by_cases g2 : 999999999999999999 < lo'
    · rw [if_pos (by rw [decide_eq_true_eq]; omega), if_pos (.inl g2)]
    · rw [if_neg (by rw [decide_eq_true_eq]; omega)]
      by_cases g3 : 9 < s'
      · rw [if_pos (by rw [decide_eq_true_eq]; omega), if_pos (.inr g3)]
      · rw [if_neg (by rw [decide_eq_true_eq]; omega), if_neg (show ¬ (999999999999999999 < lo' ∨ 9 < s') by omega)]
        have e1 : IntKind.wrap .i64 (lo' : Int) = (lo' : Int) := wrap_i64 (by omega)
        have e2 : IntKind.wrap .i64 (0 - (lo' : Int)) = -(lo' : Int) := by rw [wrap_i64 (by omega)]; omega
        rw [e1, e2]
        cases below <;> rfl
  · rw [if_pos (by rw [bne_iff_ne]; omega), if_pos (.inl (by omega))]

theorem f49_eqn {m : Int} (h : -999999999999999999 ≤ m ∧ m ≤ 999999999999999999) : f49 (m, ()) = some ((m.natAbs : Int), ()) := by
  unfold f49
  dsimp only
  have e : IntKind.wrap .i64 (0 - m) = -m := by rw [wrap_i64 (by omega)]; omega
  rw [e, show max m (-m) = (m.natAbs : Int) by omega, wrap_u64' (by omega)]

theorem l38_1_spec (a b : Int) (S : Nat) (hS : S < 1000) : ∀ (k s hi lo : Nat), S < s + k → s ≤ S → (hi * 18446744073709551616 + lo) * 10 ^ (S - s) < 340282366920938463463374607431768211456 → lo < 18446744073709551616 → ∃ hi' lo' : Nat, hi' < 18446744073709551616 ∧ lo' < 18446744073709551616 ∧
    hi' * 18446744073709551616 + lo' = (hi * 18446744073709551616 + lo) * 10 ^ (S - s) ∧
    loopN g38_1 o38_1 b38_1 k ((S : Int), (s : Int), a, b, (hi : Int), (lo : Int), ()) = some (.inl (a, b, (hi' : Int), (lo' : Int), ())) := by
  intro k
  induction k with
  | zero => intro s hi lo h1 h2; omega
  | succ k ih =>
    intro s hi lo h1 h2 h3 h4
    rw [loopN_succ]
    generalize hL : loopN g38_1 o38_1 b38_1 k = L at ih ⊢
    unfold b38_1
    dsimp only
    rcases Nat.lt_or_ge s S with h | h
    · have h41 : f50 ((lo : Int), 10, ()) = _ := f50_eqn (y := 10) h4 (by omega)
      rw [if_pos (by rw [decide_eq_true_eq]; omega), h41, Option.bind_some]
      dsimp only
      have hp : S - s = (S - (s + 1)) + 1 := by omega
      have hle : (hi * 18446744073709551616 + lo) * 10 ≤ (hi * 18446744073709551616 + lo) * 10 ^ (S - s) := by
        rw [hp, Nat.pow_succ]
        refine Nat.mul_le_mul (Nat.le_refl _) ?_
        have := Nat.pow_pos (n := S - (s + 1)) (show 0 < 10 by omega)
        omega
      have hb : (hi * 18446744073709551616 + lo) * 10 < 340282366920938463463374607431768211456 := by omega
      have e1 : IntKind.wrap .u64 (IntKind.wrap .u64 ((hi : Int) * 10) + ((lo * 10 / 18446744073709551616 : Nat) : Int)) = ((hi * 10 + lo * 10 / 18446744073709551616 : Nat) : Int) := by
        rw [wrap_wadd, ← wrap_u64' (n := hi * 10 + lo * 10 / 18446744073709551616) (by omega)]
        congr 1
      have e2 : IntKind.wrap .i64 ((s : Int) + 1) = ((s + 1 : Nat) : Int) := by rw [wrap_i64 (by omega)]; omega
      rw [e1, e2, Option.bind_some, Sum.elim_inl]
      have e3 : (hi * 10 + lo * 10 / 18446744073709551616) * 18446744073709551616 + lo * 10 % 18446744073709551616 = (hi * 18446744073709551616 + lo) * 10 := by omega
      have e4 : (hi * 18446744073709551616 + lo) * 10 * 10 ^ (S - (s + 1)) = (hi * 18446744073709551616 + lo) * 10 ^ (S - s) := by rw [hp, Nat.pow_succ, Nat.mul_assoc, Nat.mul_comm 10]
      obtain ⟨hi', lo', h5, h6, h7, h8⟩ := ih (s + 1) (hi * 10 + lo * 10 / 18446744073709551616) (lo * 10 % 18446744073709551616) (by omega) (by omega) (by rw [e3, e4]; exact h3) (Nat.mod_lt _ (by omega))
      exact ⟨hi', lo', h5, h6, by rw [h7, e3, e4], h8⟩
    · rw [if_neg (by rw [decide_eq_true_eq]; omega), show S - s = 0 by omega]
      rw [show S - s = 0 by omega] at h3
      refine ⟨hi, lo, by omega, h4, by omega, rfl⟩

theorem f38_eqn {m : Int} {s S : Nat} (hm : -999999999999999999 ≤ m ∧ m ≤ 999999999999999999) (hs : s ≤ S) (hS : S ≤ 9) : ∃ hi lo : Nat, hi < 18446744073709551616 ∧ lo < 18446744073709551616 ∧ hi * 18446744073709551616 + lo = m.natAbs * 10 ^ (S - s) ∧
    f38 (m, (s : Int), (S : Int), ()) = some ((hi : Int), (lo : Int), ()) := by
  have hp : 10 ^ (S - s) ≤ 10 ^ 9 := Nat.pow_le_pow_right (by omega) (by omega)
  have hle : m.natAbs * 10 ^ (S - s) ≤ 999999999999999999 * 10 ^ 9 := Nat.mul_le_mul (by omega) hp
  obtain ⟨hi', lo', h5, h6, h7, h8⟩ := l38_1_spec 0 0 S (by omega) 18446744073709551616 s 0 m.natAbs (by omega) hs (by rw [Nat.zero_mul, Nat.zero_add]; omega) (by omega)
  refine ⟨hi', lo', h5, h6, by rw [h7, Nat.zero_mul, Nat.zero_add], ?_⟩
  unfold f38
  dsimp only
  rw [f49_eqn hm, Option.bind_some]
  dsimp only
  have h8' : loopN g38_1 o38_1 b38_1 18446744073709551616 ((S : Int), (s : Int), 0, 0, 0, (m.natAbs : Int), ()) = _ := h8
  rw [show l38_1 = loopN g38_1 o38_1 b38_1 18446744073709551616 from rfl]
  generalize loopN g38_1 o38_1 b38_1 18446744073709551616 ((S : Int), (s : Int), 0, 0, 0, (m.natAbs : Int), ()) = X at h8' ⊢
  subst h8'
  rw [Option.bind_some, Sum.elim_inl]

theorem f40_eqn (a b : Int) : f40 (a, b, ()) = some ((if a < b then -1 else if b < a then 1 else 0), ()) := by
  unfold f40 f51
  dsimp only
  rw [Option.bind_some, Option.bind_some]
  dsimp only
  rw [if_neg (by simp), if_neg (by simp)]
  by_cases h : a < b
  · rw [if_pos (by simpa using h), if_pos h]
  · rw [if_neg (by simpa using h), if_neg h]
    by_cases h2 : b < a
    · rw [if_pos (by simpa using h2), if_pos h2]
    · rw [if_neg (by simpa using h2), if_neg h2]
theorem f39_eqn (a b : Int) : f39 ([a, b], ()) = some ((if a ≠ 0 then a else b), ()) := by
  unfold f39
  dsimp only
  rw [show l39_1 = loopN g39_1 o39_1 b39_1 (18446744073709551613 + 1 + 1 + 1) from rfl, loopN_succ]
  have s1 : ∀ i : Nat, i < 2 → [a, b].getD i 0 = 0 → b39_1 (0, [a, b], ((List.length [a, b] : Nat) : Int), (i : Int), ()) = some (.inl (0, [a, b], 2, ((i + 1 : Nat) : Int), ())) := fun i hi h => by
    unfold b39_1
    dsimp only
    rw [if_pos (by rw [decide_eq_true_eq]; simp; omega), if_pos (by omega), if_pos (by simp; omega), Int.toNat_natCast]
    rw [if_neg (by rw [bne_iff_ne]; exact fun e => e h), wrap_i64 (by omega)]
    rfl
  have s2 : ∀ i : Nat, i < 2 → [a, b].getD i 0 ≠ 0 → b39_1 (0, [a, b], ((List.length [a, b] : Nat) : Int), (i : Int), ()) = some (.inr (.inr (.inl ([a, b].getD i 0, ())))) := fun i hi h => by
    unfold b39_1
    dsimp only
    rw [if_pos (by rw [decide_eq_true_eq]; simp; omega), if_pos (by omega), if_pos (by simp; omega), Int.toNat_natCast]
    rw [if_pos (by rw [bne_iff_ne]; exact h)]
  by_cases ha : a = 0
  · have h0 : b39_1 (0, [a, b], ((List.length [a, b] : Nat) : Int), 0, ()) = _ := s1 0 (by omega) ha
    rw [h0, if_neg (show ¬ a ≠ 0 from fun h => h ha), Option.bind_some, Sum.elim_inl, loopN_succ]
    by_cases hb : b = 0
    · have h1 : b39_1 (0, [a, b], 2, ((0 + 1 : Nat) : Int), ()) = _ := s1 1 (by omega) hb
      rw [h1, Option.bind_some, Sum.elim_inl, loopN_succ]
      generalize loopN g39_1 o39_1 b39_1 18446744073709551613 = L
      unfold b39_1
      dsimp only
      have hd : ¬ ((decide (((1 + 1 : Nat) : Int) < 2)) = true) := by decide
      rw [if_neg hd]
      subst hb
      rfl
    · have h1 : b39_1 (0, [a, b], 2, ((0 + 1 : Nat) : Int), ()) = _ := s2 1 (by omega) hb
      rw [h1]
      rfl
  · have h0 : b39_1 (0, [a, b], ((List.length [a, b] : Nat) : Int), 0, ()) = _ := s2 0 (by omega) ha
    rw [h0, if_pos (show a ≠ 0 from ha)]
    rfl
theorem f25_eqn {hi lo hi' lo' : Nat} (h2 : lo < 18446744073709551616) (h4 : lo' < 18446744073709551616) :
    f25 ((hi : Int), (lo : Int), (hi' : Int), (lo' : Int), ()) = some ((if hi * 18446744073709551616 + lo < hi' * 18446744073709551616 + lo' then -1 else if hi' * 18446744073709551616 + lo' < hi * 18446744073709551616 + lo then 1 else 0), ()) := by
  unfold f25
  dsimp only
  rw [f40_eqn, Option.bind_some, f40_eqn, Option.bind_some]
  dsimp only
  have e : ∀ a b : Int, List.take 2 (List.drop 0 (List.set (List.set (List.replicate 2 (0 : Int)) 0 a) 1 b)) = [a, b] := fun a b => rfl
  rw [e, f39_eqn, Option.bind_some]
  congr 2
  have n1 : ¬ ((0 : Int) ≠ 0) := by decide
  have n2 : ((-1 : Int) ≠ 0) := by decide
  have n3 : ((1 : Int) ≠ 0) := by decide
  rcases Nat.lt_trichotomy hi hi' with h | h | h
  · have c1 : (if (hi : Int) < hi' then (-1 : Int) else if (hi' : Int) < hi then 1 else 0) = -1 := if_pos (by omega)
    rw [c1, if_pos n2, if_pos (by omega)]
  · subst h
    have c1 : (if (hi : Int) < hi then (-1 : Int) else if (hi : Int) < hi then 1 else 0) = 0 := by rw [if_neg (by omega), if_neg (by omega)]
    rw [c1, if_neg n1]
    rcases Nat.lt_trichotomy lo lo' with h | h | h
    · rw [if_pos (show (lo : Int) < lo' by omega), if_pos (by omega)]
    · subst h
      have c2 : (if (lo : Int) < lo then (-1 : Int) else if (lo : Int) < lo then 1 else 0) = 0 := by rw [if_neg (by omega), if_neg (by omega)]
      rw [c2, if_neg (by omega), if_neg (by omega)]
    · have c2 : (if (lo : Int) < lo' then (-1 : Int) else if (lo' : Int) < lo then 1 else 0) = 1 := by rw [if_neg (by omega), if_pos (by omega)]
      rw [c2, if_neg (by omega), if_pos (by omega)]
  · have c1 : (if (hi : Int) < hi' then (-1 : Int) else if (hi' : Int) < hi then 1 else 0) = 1 := by rw [if_neg (by omega), if_pos (by omega)]
    rw [c1, if_pos n3, if_neg (by omega), if_pos (by omega)]
end Go.Ev.Box
