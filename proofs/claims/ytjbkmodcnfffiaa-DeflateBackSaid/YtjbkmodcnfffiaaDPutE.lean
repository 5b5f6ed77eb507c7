/- Part of a proof about the given program: DPutE. -/
import Derived.Test.YtjbkmodcnfffiaaDB
namespace Go.Ev.Deflate

/-! # The statements -/
theorem l16_1_same (l : List Tok) (hl : l.length < 2 ^ 60) : ∀ (k i : Nat), l.length < i + k → i ≤ l.length → loopN g16_1 o16_1 b16_1 k (l, l, (i : Int), ()) = some (.inl ()) := by
  intro k
  induction k with
  | zero => intro i h1 h2; omega
  | succ k ih =>
    intro i h1 h2
    rw [loopN_succ]
    generalize hL : loopN g16_1 o16_1 b16_1 k = L at ih ⊢
    unfold b16_1
    dsimp only
    rcases Nat.lt_or_ge i l.length with h | h
    · rw [if_pos (by rw [decide_eq_true_eq]; omega), if_pos (by omega), if_pos (by omega), if_pos (by omega), if_pos (by omega)]
      have e : ∀ t : Tok, allEq ([(t.1, t.1)] ++ ([(t.2.1, t.2.1)] ++ ([(t.2.2, t.2.2)] ++ []))) = true := fun t => by simp [allEq]
      rw [e, if_neg (by decide), Option.bind_some, Sum.elim_inl, show IntKind.wrap .i64 ((i : Int) + 1) = ((i + 1 : Nat) : Int) by rw [wrap_i64 (by omega)]; omega]
      exact ih (i + 1) (by omega) (by omega)
    · rw [if_neg (by rw [decide_eq_true_eq]; omega)]
      rfl
theorem f16_same (l : List Tok) (hl : l.length < 2 ^ 60) : f16 (l, l, ()) = some (true, ()) := by
  have h := l16_1_same l hl FU 0 (by unfold FU; omega) (Nat.zero_le _)
  have h' : loopN g16_1 o16_1 b16_1 FU (l, l, 0, ()) = _ := h
  unfold f16
  dsimp only
  rw [if_neg (by simp), show l16_1 = loopN g16_1 o16_1 b16_1 FU from rfl, h', Option.bind_some, Sum.elim_inl]
theorem deflatePuts_pure (l : List Tok) : f6 (l, ()) = some (true, ()) := by
  unfold f6
  dsimp only
  by_cases c1 : ((l.length : Nat) : Int) > 100
  · rw [if_pos (decide_eq_true c1)]
  · rw [if_neg (fun h => c1 (of_decide_eq_true h))]
    have hlen : l.length ≤ 100 := by omega
    cases hT : l.all isT with
    | false =>
      have hx : expd l 100000 = ([], 1, ()) := by
        unfold expd
        rw [if_pos (.inr (.inr hT))]
      rw [f11_bad hT (by omega), Option.bind_some]
      dsimp only
      rw [f17_eqn (by omega), hx, Option.bind_some]
      dsimp only
      rw [if_pos (by decide)]
      unfold b6_1
      rw [awake_true, Option.bind_some]
      rfl
    | true =>
      obtain ⟨B, h1, h2⟩ := f11_good hT (by omega)
      have hBs := h2.small
      have hk := tokR_put hT (by omega) h2 (most := 100000) (by decide) (by decide) []
      rw [List.append_nil] at hk
      have hx := exp_adds (most := 100000) l [] [] hT
      have he := expd_of hT (most := 100000) (by decide) (by decide)
      rw [h1, Option.bind_some]
      dsimp only
      rw [f17_eqn (by omega), Option.bind_some, if_neg (by decide), full, f18_eqn h2.b (by omega), Option.bind_some, hk, he]
      generalize exp 100000 l [] = r at hx ⊢
      cases r with
      | inr e =>
        dsimp only at hx ⊢
        rw [if_pos (bne_iff_ne.2 hx.2), awake_true, Option.bind_some]
        dsimp only
        rw [if_pos rfl, beq_self_eq_true]
      | inl o =>
        dsimp only at hx ⊢
        rw [if_neg (by decide), awake_true, Option.bind_some]
        dsimp only
        rw [if_pos rfl, if_pos (show ((0 : Int) == 0) = true from rfl), f16_same l (by omega), Option.bind_some]
        dsimp only
        rw [if_pos rfl, if_pos (beq_self_eq_true _), decide_eq_true]
        have := hx.2
        rw [List.length_nil] at this
        omega
theorem deflateBack_pure {b : List Int} (hB : IsB b) : f7 (b, ()) = some (true, ()) := by
  unfold f7
  dsimp only
  by_cases c1 : ((b.length : Nat) : Int) > 3000
  · rw [if_pos (decide_eq_true c1)]
  · rw [if_neg (fun h => c1 (of_decide_eq_true h))]
    obtain ⟨T, B, h1, h2, h3, h4, h5, hT, hTl⟩ := deflate_eqn hB (by omega)
    have hBs := h5.small
    have hx := toks_exp (most := 3000) (by omega) h1
    rw [List.take_zero] at hx
    have he := expd_of hT (most := 3000) (by decide) (by decide)
    rw [hx] at he
    have hi := inflate_deflated h1 hT hTl h5 (most := 3000) (by omega) (by decide) []
    rw [List.append_nil] at hi
    rw [h2, Option.bind_some]
    dsimp only
    rw [full, f17_eqn (by omega), he, Option.bind_some, h4, Option.bind_some]
    dsimp only
    rw [full, f19_eqn h5.b (by omega), hi, Option.bind_some, awake_true, Option.bind_some]
    dsimp only
    rw [if_pos rfl, if_pos (show ((0 : Int) == 0) = true from rfl), if_pos (show ((0 : Int) == 0) = true from rfl), if_pos (show ((0 : Int) == 0) = true from rfl), if_pos (show ((0 : Int) == 0) = true from rfl), if_pos (beq_self_eq_true _), if_pos (beq_self_eq_true _), beq_self_eq_true]
end Go.Ev.Deflate
