/- Part of a proof about the given program: LzwOften. -/
import Derived.Test.YtoobfjfmlejpeaaLzwB
namespace Go.Ev.Lzw

theorem l5_1_spec (b : List Int) (hb : IsB b) (hl : b.length ≤ 40) (n : Nat) (hn : n ≤ 300) : ∀ (k j x : Nat) (all : List Int), j ≤ n → n < j + k → x < 65537 → IsB all → all.length ≤ 41 * j →
    ∃ all2 : List Int, loopN g5_1 o5_1 b5_1 k (b, (n : Int), (x : Int), (j : Int), all, ()) = some (.inl (all2, ())) ∧ IsB all2 ∧ all2.length ≤ 41 * n := by
  intro k
  induction k with
  | zero => intro j x all h1 h2; omega
  | succ k ih =>
    intro j x all h1 h2 hx ha hal
    rw [loopN_succ]
    generalize hL : loopN g5_1 o5_1 b5_1 k = L at ih ⊢
    unfold b5_1
    simp only [if_true, List.drop_zero, List.take_length, one_of]
    simp only [List.length_append, List.length_cons, List.length_nil]
    rcases Nat.lt_or_ge j n with h | h
    · rw [if_pos (by simp; omega), if_pos (by omega), if_pos (by omega), wrap_i64 (n := (x : Int) * 75) (by omega), wrap_i64 (n := (x : Int) * 75 + 74) (by omega), wrap_i64 (n := (j : Int) + 1) (by omega), wrap_u8]
      have e : Int.tmod ((x : Int) * 75 + 74) 65537 = (((x * 75 + 74) % 65537 : Nat) : Int) := by rw [Int.tmod_eq_emod_of_nonneg (by omega)]; omega
      rw [e]
      simp only [Option.bind_some, Sum.elim_inl]
      exact ih (j + 1) ((x * 75 + 74) % 65537) _ (by omega) (by omega) (by omega) ((ha.append hb).append (IsB.one (by omega))) (by simp; omega)
    · rw [if_neg (by simp; omega)]
      exact ⟨all, rfl, ha, by omega⟩

/-- How many bits the numbers of a text have. -/
theorem cl_enc : ∀ (k : Nat) (T : List (List Int)) (told : Nat) (s : List Int), (s ≠ [] → T.length = told ∧ told ≤ 3836) → 3837 * cl (enc k T told s) ≤ 12 * (3838 * s.length + told) + 3837 * 12 := by
  intro k
  induction k with
  | zero => intro T told s _; simp [enc, cl]
  | succ k ih =>
    intro T told s h
    have hs1 := sz_le (told - 1)
    unfold enc
    by_cases hs : s = []
    · rw [if_pos hs]
      simp only [cl]
      omega
    · rw [if_neg hs]
      obtain ⟨hT, h3⟩ := h hs
      obtain ⟨m1, m2, _, _⟩ := lm_spec (T := T) hs
      have hd : (s.drop (lm T s)).length = s.length - lm T s := by simp
      simp only [cl]
      by_cases hlt : lm T s < s.length
      · rw [if_pos hlt]
        by_cases hf : T.length + 1 = 3837
        · rw [if_pos hf]
          have := ih [] 0 (s.drop (lm T s)) (fun _ => ⟨rfl, by omega⟩)
          have hs2 := sz_le told
          simp only [cl]
          omega
        · rw [if_neg hf]
          have := ih (T ++ [s.take (lm T s + 1)]) (told + 1) (s.drop (lm T s)) (fun _ => ⟨by simp; omega, by omega⟩)
          omega
      · rw [if_neg hlt]
        have hdn : s.drop (lm T s) = [] := by apply List.eq_nil_of_length_eq_zero; omega
        have := ih T (told + 1) (s.drop (lm T s)) (fun h => absurd hdn h)
        omega

theorem f10_at {B all : List Int} (e2 : IsB B) (hl : B.length ≤ 100000000) (most : Nat) (hm : most ≤ 1048576) (h : dec most 18446744073709551616 (be B) (8 * B.length) [] [] [] = (0, all)) (i : Int) (hi : i = (most : Int)) : f10 (B, i, ()) = some (0, all, ()) := by
  rw [hi, f10_eqn e2 hl hm, h]

theorem lzwOften_pure (b : List Int) (n : Int) (hb : IsB b) : f5 (b, n, ()) = some (true, ()) := by
  unfold f5
  simp only []
  by_cases h1 : 40 < b.length
  · rw [if_pos (by simp; omega)]
  · rw [if_neg (by simp; omega)]
    by_cases h2 : n < 0
    · rw [if_pos (by simpa using h2)]
    · rw [if_neg (by simpa using h2)]
      by_cases h3 : n > 300
      · rw [if_pos (by simpa using h3)]
      · rw [if_neg (by simpa using h3)]
        obtain ⟨nn, rfl⟩ : ∃ nn : Nat, n = (nn : Int) := ⟨n.toNat, by omega⟩
        obtain ⟨all, g1, g2, g3⟩ := l5_1_spec b hb (by omega) nn (by omega) 18446744073709551616 0 7 [] (by omega) (by omega) (by omega) IsB.nil (by simp)
        have g1' : loopN g5_1 o5_1 b5_1 18446744073709551616 (b, (nn : Int), 7, 0, [], ()) = _ := g1
        rw [show l5_1 = loopN g5_1 o5_1 b5_1 18446744073709551616 from rfl, g1']
        simp only [Option.bind_some, Sum.elim_inl, List.drop_zero, List.take_length]
        obtain ⟨B, e1, e2, e3, e4, e5, e6⟩ := f8_eqn g2 (by omega)
        rw [e1]
        simp only [Option.bind_some]
        have hbk := back g2 IsB.nil e3 (by omega) e5 e6 20000
        rw [List.append_nil] at hbk
        rw [if_neg (by omega)] at hbk
        rw [f10_at e2 (by omega) 20000 (by omega) hbk _ (by omega), awake_true]
        have hcl := cl_enc 18446744073709551616 [] 0 all (fun _ => ⟨rfl, by omega⟩)
        have hcl2 : cl (codes all) = 9 + cl (enc 18446744073709551616 [] 0 all) := rfl
        simp only [Option.bind_some, if_true, beq_self_eq_true]
        congr 2
        rw [decide_eq_true_eq, wrap_i64 (n := 2 * (all.length : Int)) (by omega), wrap_i64 (by omega)]
        omega
end Go.Ev.Lzw
