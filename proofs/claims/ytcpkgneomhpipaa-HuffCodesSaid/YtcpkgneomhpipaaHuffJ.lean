/- Part of a proof about the given program: HuffJ. -/
import Derived.Test.YtcpkgneomhpipaaHuffI
namespace Go.Ev.Huff

/-! ## The reference's Make, and rows held against one another -/
def pos (l : List Int) : Nat := l.countP (fun x => decide (0 < x))
theorem sgsLen_succ (l : List Int) (n : Nat) : (sgs l (n + 1)).length = (sgs l n).length + cnt l (n + 1) := by
  simp only [sgs, List.length_append]
  rw [sgn_length l (n + 1) l.length (Nat.le_refl _), List.take_length]
theorem sgsLen_cons (x : Int) (l : List Int) (hx : 0 ≤ x ∧ x ≤ 15) : ∀ n, (sgs (x :: l) n).length = (sgs l n).length + (if 0 < x ∧ x ≤ (n : Int) then 1 else 0)
  | 0 => by
    rw [if_neg (by omega)]; simp [sgs]
  | n + 1 => by
    rw [sgsLen_succ, sgsLen_succ, sgsLen_cons x l hx n]
    have hc : cnt (x :: l) (n + 1) = cnt l (n + 1) + if x = ((n + 1 : Nat) : Int) then 1 else 0 := by
      unfold cnt
      rw [List.count_cons]
      by_cases h : x = ((n + 1 : Nat) : Int)
      · rw [if_pos h, if_pos (by simpa using h)]
      · rw [if_neg h, if_neg (by simpa using h)]
    rw [hc]
    by_cases h : x = ((n + 1 : Nat) : Int)
    · rw [if_pos h, if_neg (by omega), if_pos (by omega)]; omega
    · rw [if_neg h]
      by_cases h2 : 0 < x ∧ x ≤ (n : Int)
      · rw [if_pos h2, if_pos (by omega)]; omega
      · rw [if_neg h2, if_neg (by omega)]; omega
theorem words_pos : ∀ {l : List Int}, Ok l → words l = pos l
  | [], _ => rfl
  | x :: l, h => by
    have hx := h x (List.mem_cons_self ..)
    have ih := words_pos (l := l) (fun y hy => h y (List.mem_cons_of_mem _ hy))
    unfold words at ih ⊢
    rw [sgsLen_cons x l hx 15, ih]
    unfold pos
    rw [List.countP_cons]
    by_cases h2 : 0 < x
    · rw [if_pos (by omega), if_pos (by simpa using h2)]
    · rw [if_neg (by omega), if_neg (by simpa using h2)]
theorem pos_take_succ {l : List Int} {i : Nat} (h : i < l.length) : pos (l.take (i + 1)) = pos (l.take i) + (if 0 < l.getD i 0 then 1 else 0) := by
  unfold pos
  rw [List.take_add_one, List.getElem?_eq_getElem h, List.countP_append]
  have e : l.getD i 0 = l[i] := by rw [List.getD_eq_getElem?_getD, List.getElem?_eq_getElem h]; rfl
  rw [e]
  congr 1
  simp [List.countP_cons]
theorem l14_1_spec {l : List Int} (hl : l.length ≤ 320) : ∀ (k i : Nat), l.length < i + k → i ≤ l.length →
    loopN g14_1 o14_1 b14_1 k (l, (pos (l.take i) : Int), (cnt (l.take i) 1 : Int), (i : Int), ()) = some (.inl (l, (pos l : Int), (cnt l 1 : Int), ())) := by
  intro k
  induction k with
  | zero => intro i h1 h2; omega
  | succ k ih =>
    intro i h1 h2
    rw [loopN_succ]
    generalize hL : loopN g14_1 o14_1 b14_1 k = L at ih ⊢
    unfold b14_1
    simp only [Int.toNat_natCast]
    rcases Nat.lt_or_ge i l.length with h | h
    · have hp : pos (l.take i) ≤ 320 := Nat.le_trans List.countP_le_length (by rw [List.length_take]; omega)
      have hc : cnt (l.take i) 1 ≤ 320 := Nat.le_trans List.count_le_length (by rw [List.length_take]; omega)
      have e3 : IntKind.wrap IntKind.i64 ((i : Int) + 1) = ((i + 1 : Nat) : Int) := by rw [wrap_i64 (by omega)]; omega
      have e4 : IntKind.wrap IntKind.i64 ((pos (l.take i) : Int) + 1) = ((pos (l.take i) + 1 : Nat) : Int) := by rw [wrap_i64 (by omega)]; omega
      have e5 : IntKind.wrap IntKind.i64 ((cnt (l.take i) 1 : Int) + 1) = ((cnt (l.take i) 1 + 1 : Nat) : Int) := by rw [wrap_i64 (by omega)]; omega
      have hps := pos_take_succ h
      have hcs : cnt (l.take (i + 1)) 1 = cnt (l.take i) 1 + (if l.getD i 0 = (1 : Int) then 1 else 0) := by
        unfold cnt; exact count_take_succ h 1
      have hI := ih (i + 1) (by omega) (by omega)
      rw [if_pos (by simp; omega), if_pos (by omega), if_pos (by omega)]
      by_cases hx : 0 < l.getD i 0
      · rw [if_pos (by rw [decide_eq_true_eq]; exact hx), if_pos (by omega), if_pos (by omega)]
        rw [if_pos hx] at hps
        by_cases h1' : l.getD i 0 = 1
        · rw [if_pos (by rw [beq_iff_eq]; exact h1')]
          rw [if_pos h1'] at hcs
          simp only [Option.bind_some, Sum.elim_inl]
          rw [e3, e4, e5]
          rw [hps, hcs] at hI
          exact hI
        · rw [if_neg (by rw [beq_iff_eq]; exact h1')]
          rw [if_neg h1'] at hcs
          simp only [Option.bind_some, Sum.elim_inl]
          rw [e3, e4]
          rw [hps, hcs] at hI
          exact hI
      · rw [if_neg (by rw [decide_eq_true_eq]; exact hx), if_pos (by omega), if_pos (by omega)]
        rw [if_neg hx] at hps
        have h1' : l.getD i 0 ≠ 1 := by
          intro e
          rw [e] at hx
          exact hx (by decide)
        rw [if_neg (by rw [beq_iff_eq]; exact h1')]
        rw [if_neg h1'] at hcs
        simp only [Option.bind_some, Sum.elim_inl]
        rw [e3]
        rw [hps, hcs] at hI
        exact hI
    · rw [if_neg (by simp; omega)]
      simp only [Option.bind_some, Sum.elim_inr]
      have : i = l.length := by omega
      subst this
      rw [List.take_length]
theorem f14_eqn (l : List Int) : f14 (l, ()) = some (errM l, ()) := by
  unfold f14
  rw [f10_eqn]
  rw [Option.bind_some]
  dsimp only
  by_cases he : err l = 0
  · obtain ⟨hl, hk, hs⟩ := err_ok he
    have g := l14_1_spec hl 18446744073709551616 0 (by omega) (by omega)
    rw [if_neg (by rw [he]; simp)]
    have g' : loopN g14_1 o14_1 b14_1 18446744073709551616 (l, 0, 0, 0, ()) = _ := g
    rw [show l14_1 = loopN g14_1 o14_1 b14_1 18446744073709551616 from rfl]
    generalize loopN g14_1 o14_1 b14_1 18446744073709551616 (l, 0, 0, 0, ()) = X at g' ⊢
    subst g'
    rw [Option.bind_some, Sum.elim_inl]
    dsimp only
    have e28 : f28 (l, ()) = some ((shr l : Int), ()) := by
      rcases f28_eqn l with ⟨h, _⟩ | ⟨_, h, _⟩ | ⟨_, _, h⟩
      · omega
      · exact absurd hk h
      · exact h
    rw [e28, Option.bind_some]
    dsimp only
    rw [← words_pos hk]
    by_cases h1 : shr l < 32768
    · rw [if_neg (by rw [beq_iff_eq]; omega)]
      by_cases h2 : 0 < words l
      · rw [if_neg (by rw [beq_iff_eq]; omega)]
        by_cases h3 : 1 < words l
        · rw [errM_pos he ⟨h1, h2, .inl h3⟩, if_neg (by rw [beq_iff_eq]; omega)]
        · rw [if_pos (by rw [beq_iff_eq]; omega)]
          by_cases h4 : cnt l 1 = 0
          · rw [errM_pos he ⟨h1, h2, .inr h4⟩, if_neg (by rw [beq_iff_eq]; omega)]
          · have hle : cnt l 1 ≤ words l := by
              unfold words
              have : ∀ n, 1 ≤ n → cnt l 1 ≤ (sgs l n).length := by
                intro n hn
                induction n with
                | zero => omega
                | succ n ih =>
                  rw [sgsLen_succ]
                  rcases Nat.eq_zero_or_pos n with h0 | h0
                  · subst h0; exact Nat.le_add_left _ _
                  · have := ih h0; omega
              exact this 15 (by omega)
            rw [errM_neg he (fun h => h.2.2.elim h3 h4), if_pos (by rw [beq_iff_eq]; omega)]
      · rw [errM_neg he (fun h => h2 h.2.1), if_pos (by rw [beq_iff_eq]; omega)]
    · rw [errM_neg he (fun h => h1 h.1), if_pos (by rw [beq_iff_eq]; omega)]
  · have hm : errM l = err l := by unfold errM; rw [if_neg he]
    rw [if_pos (by simpa using he), hm]
theorem l13_1_spec {l : List Int} (hl : l.length ≤ 100000) : ∀ (k i : Nat), l.length < i + k → i ≤ l.length →
    loopN g13_1 o13_1 b13_1 k (l, l, (i : Int), ()) = some (.inl ()) := by
  intro k
  induction k with
  | zero => intro i h1 h2; omega
  | succ k ih =>
    intro i h1 h2
    rw [loopN_succ]
    generalize hL : loopN g13_1 o13_1 b13_1 k = L at ih ⊢
    unfold b13_1
    simp only [Int.toNat_natCast]
    rcases Nat.lt_or_ge i l.length with h | h
    · have e3 : IntKind.wrap IntKind.i64 ((i : Int) + 1) = ((i + 1 : Nat) : Int) := by rw [wrap_i64 (by omega)]; omega
      rw [if_pos (by simp; omega), if_pos (by omega), if_pos (by omega), if_pos (by omega), if_pos (by omega), if_neg (by simp)]
      simp only [Option.bind_some, Sum.elim_inl]
      rw [e3]
      exact ih (i + 1) (by omega) (by omega)
    · rw [if_neg (by simp; omega)]
      simp only [Option.bind_some, Sum.elim_inr]
theorem f13_self {l : List Int} (hl : l.length ≤ 100000) : f13 (l, l, ()) = some (true, ()) := by
  unfold f13
  dsimp only
  rw [if_neg (by simp)]
  have g := l13_1_spec hl 18446744073709551616 0 (by omega) (by omega)
  have g' : loopN g13_1 o13_1 b13_1 18446744073709551616 (l, l, 0, ()) = _ := g
  rw [show l13_1 = loopN g13_1 o13_1 b13_1 18446744073709551616 from rfl]
  generalize loopN g13_1 o13_1 b13_1 18446744073709551616 (l, l, 0, ()) = X at g' ⊢
  subst g'
  rfl
theorem f8_eqn {l : List Int} (hl : l.length ≤ 100000) : f8 (l, ()) = some (l, ()) := by
  unfold f8
  dsimp only
  rw [if_pos (by omega), if_pos (.inr ⟨rfl, rfl⟩), if_pos rfl]
  rfl
end Go.Ev.Huff
