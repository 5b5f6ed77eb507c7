/- Part of a proof about the given program: HuffG. -/
import Derived.Test.YtcpkgneomhpipaaHuffE
namespace Go.Ev.Huff

def cntU (l : List Int) (n : Nat) : List Int := tab 16 (fun j => if j = 0 then 0 else if j ≤ n then (cnt l j : Int) else 0)
theorem sgs_length (l : List Int) : ∀ n, (sgs l n).length ≤ n * l.length
  | 0 => by simp [sgs]
  | n + 1 => by
    have h1 := sgs_length l n
    have h2 := cnt_le l (n + 1)
    simp only [sgs, List.length_append, sgn_length l (n + 1) l.length (Nat.le_refl _), List.take_length, Nat.add_mul, Nat.one_mul]
    omega
theorem shN_le (l : List Int) (hl : l.length ≤ 320) : ∀ n, n ≤ 15 → shN l n ≤ n * 5242880
  | 0, _ => by simp [shN]
  | n + 1, h => by
    have h1 := shN_le l hl n (by omega)
    have h2 := cnt_le l (n + 1)
    have h3 : cnt l (n + 1) * 2 ^ (15 - (n + 1)) ≤ 320 * 16384 := Nat.mul_le_mul (by omega) (pow15 (by omega))
    simp only [shN, Nat.add_mul]
    omega

theorem l11_1_spec {l : List Int} (hl : l.length ≤ 320) (lens cds : List Int) : ∀ (k n : Nat), 15 < n + k → n ≤ 15 →
    loopN g11_1 o11_1 b11_1 k (l, (shN l n : Int), (n : Int), cntU l n, lens, cds, sgs l n, ()) = some (.inl ((shN l 15 : Int), cntU l 15, lens, cds, sgs l 15, ())) := by
  intro k
  induction k with
  | zero => intro n h1 h2; omega
  | succ k ih =>
    intro n h1 h2
    rw [loopN_succ]
    generalize hL : loopN g11_1 o11_1 b11_1 k = L at ih ⊢
    unfold b11_1
    simp only [if_true]
    rcases Nat.lt_or_ge n 15 with h | h
    · rw [if_pos (by rw [decide_eq_true_eq]; omega)]
      have hsl := sgs_length l n
      have hshl := shN_le l hl n (by omega)
      have hm : n * l.length ≤ 15 * 320 := Nat.mul_le_mul (by omega) hl
      have g := l11_2_spec hl h (n : Int) lens cds (sgs l n) (shN l n) (by omega) (by omega) 18446744073709551616 0 (by omega) (by omega)
      have e0 : cnt (l.take 0) (n + 1) = 0 := by simp [cnt]
      have e1 : sgn l (n + 1) 0 = [] := by simp [sgn]
      have e2 : cntT l n 0 = cntU l n := by
        unfold cntT cntU
        refine tab_ext fun j hj => ?_
        by_cases h0 : j = 0
        · rw [if_pos h0, if_pos h0]
        · rw [if_neg h0, if_neg h0]
          by_cases h1 : j ≤ n
          · rw [if_pos h1, if_pos h1]
          · rw [if_neg h1, if_neg h1, List.take_zero]; simp [cnt]
      rw [e0, Nat.zero_mul, Nat.add_zero, e1, List.append_nil, e2] at g
      have g' : loopN g11_2 o11_2 b11_2 18446744073709551616 (l, (shN l n : Int), (n : Int), (n : Int), l, (l.length : Int), 0, cntU l n, lens, cds, sgs l n, ()) = _ := g
      rw [show l11_2 = loopN g11_2 o11_2 b11_2 18446744073709551616 from rfl, g']
      simp only [Option.bind_some, Sum.elim_inl]
      have e3 : IntKind.wrap IntKind.i64 ((n : Int) + 1) = ((n + 1 : Nat) : Int) := by rw [wrap_i64 (by omega)]; omega
      have e4 : cntT l n l.length = cntU l (n + 1) := by
        unfold cntT cntU
        refine tab_ext fun j hj => ?_
        by_cases h0 : j = 0
        · rw [if_pos h0, if_pos h0]
        · rw [if_neg h0, if_neg h0, List.take_length]
          by_cases h1 : j ≤ n
          · rw [if_pos h1, if_pos (by omega)]
          · rw [if_neg h1]
            by_cases h2 : j = n + 1
            · rw [if_pos h2, if_pos (by omega)]
            · rw [if_neg h2, if_neg (by omega)]
      rw [e3, e4]
      exact ih (n + 1) (by omega) (by omega)
    · rw [if_neg (by rw [decide_eq_true_eq]; omega)]
      have : n = 15 := by omega
      subst this
      rfl
end Go.Ev.Huff
