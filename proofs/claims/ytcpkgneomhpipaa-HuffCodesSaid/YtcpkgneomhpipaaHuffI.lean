/- Part of a proof about the given program: HuffI. -/
import Derived.Test.YtcpkgneomhpipaaHuffH
namespace Go.Ev.Huff

/-- How many have a word. -/
def words (l : List Int) : Nat := (sgs l 15).length
theorem cntU_C (l : List Int) : cntU l 15 = C l := by
  unfold cntU C
  refine tab_ext fun j hj => ?_
  by_cases h0 : j = 0
  · rw [if_pos h0, if_pos h0]
  · rw [if_neg h0, if_neg h0, if_pos (by omega)]
theorem f29_eqn {l : List Int} (hl : l.length ≤ 100000) : f29 (l, ()) = some (l, ()) := by
  unfold f29
  have e : List.take 0 (List.drop 0 (List.replicate 0 (0 : Int))) = [] := rfl
  simp only [e, List.nil_append, if_true]
  by_cases h : l.length = 0
  · have hn : l = [] := List.eq_nil_of_length_eq_zero h
    subst hn
    rfl
  · rw [if_neg h, if_pos (by omega)]
/-- May a table be? -/
noncomputable def errM (l : List Int) : Int := if err l = 0 then (if shr l < 32768 ∧ 0 < words l ∧ (1 < words l ∨ cnt l 1 = 0) then 4 else 0) else err l
theorem err_ok {l : List Int} (h : err l = 0) : l.length ≤ 320 ∧ Ok l ∧ shr l ≤ 32768 := by
  obtain ⟨c, _, h2⟩ := f27_eqn l
  obtain ⟨_, h3⟩ := h2 h
  exact h3
theorem errM_pos {l : List Int} (he : err l = 0) (h : shr l < 32768 ∧ 0 < words l ∧ (1 < words l ∨ cnt l 1 = 0)) : errM l = 4 := by
  unfold errM; rw [if_pos he, if_pos h]
theorem errM_neg {l : List Int} (he : err l = 0) (h : ¬ (shr l < 32768 ∧ 0 < words l ∧ (1 < words l ∨ cnt l 1 = 0))) : errM l = 0 := by
  unfold errM; rw [if_pos he, if_neg h]
theorem f11_eqn (l : List Int) : f11 (l, ()) = if errM l = 0 then some (.inr (0, C l, l, codes l, sgs l 15, ())) else some (.inl (errM l, ())) := by
  unfold f11
  rw [f9_eqn]
  simp only [Option.bind_some]
  by_cases he : err l = 0
  · obtain ⟨hl, hk, hs⟩ := err_ok he
    rw [if_neg (by rw [he]; simp), if_pos he, f29_eqn (by omega)]
    simp only [Option.bind_some, List.drop_zero, List.take_length]
    have g := l11_1_spec hl l (codes l) 18446744073709551616 0 (by omega) (by omega)
    have e0 : cntU l 0 = List.replicate 16 0 := by
      rw [tab_zero]
      exact tab_ext fun j hj => by
        by_cases h0 : j = 0
        · rw [if_pos h0]
        · rw [if_neg h0, if_neg (by omega)]
    rw [e0, cntU_C, shN_shr hk] at g
    have g' : loopN g11_1 o11_1 b11_1 18446744073709551616 (l, 0, 0, List.replicate 16 0, l, codes l, [], ()) = _ := g
    rw [show l11_1 = loopN g11_1 o11_1 b11_1 18446744073709551616 from rfl]
    generalize loopN g11_1 o11_1 b11_1 18446744073709551616 (l, 0, 0, List.replicate 16 0, l, codes l, [], ()) = X at g' ⊢
    subst g'
    rw [Option.bind_some, Sum.elim_inl]
    dsimp only
    rw [if_pos (trivial : True)]
    have ec : (C l).getD 1 0 = (cnt l 1 : Int) := by unfold C; rw [tab_get (by omega), if_neg (by omega)]
    have hwd : (sgs l 15).length = words l := rfl
    rw [ec, hwd]
    by_cases h1 : shr l < 32768
    · rw [if_pos (by rw [decide_eq_true_eq]; omega)]
      by_cases h2 : 0 < words l
      · rw [if_pos (by rw [decide_eq_true_eq]; omega)]
        by_cases h3 : 1 < words l
        · rw [errM_pos he ⟨h1, h2, .inl h3⟩, if_pos (by rw [decide_eq_true_eq]; omega), if_neg (by decide)]
        · by_cases h4 : cnt l 1 = 0
          · rw [errM_pos he ⟨h1, h2, .inr h4⟩, if_neg (by rw [decide_eq_true_eq]; omega), if_pos (by rw [beq_iff_eq, h4]; rfl), if_neg (by decide)]
          · rw [errM_neg he (fun h => h.2.2.elim h3 h4), if_neg (by rw [decide_eq_true_eq]; omega), if_neg (fun h => h4 (Int.natCast_eq_zero.1 (eq_of_beq h))), if_pos rfl]
      · rw [errM_neg he (fun h => h2 h.2.1), if_neg (by rw [decide_eq_true_eq]; omega), if_pos rfl]
    · rw [errM_neg he (fun h => h1 h.1), if_neg (by rw [decide_eq_true_eq]; omega), if_pos rfl]
  · have hm : errM l = err l := by unfold errM; rw [if_neg he]
    rw [if_pos (by simpa using he), hm, if_neg he]
end Go.Ev.Huff
