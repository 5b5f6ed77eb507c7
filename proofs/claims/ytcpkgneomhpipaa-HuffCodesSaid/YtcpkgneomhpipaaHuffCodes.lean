/- Part of a proof about the given program: HuffCodes. -/
import Derived.Test.YtcpkgneomhpipaaHuffJ
import Derived.Test.YtcpkgneomhpipaaHuffAwake
namespace Go.Ev.Huff

set_option maxRecDepth 100000 in
theorem fixed_some : (f15 ()).isSome = true := by kernel_rfl
set_option maxRecDepth 100000 in
theorem fixed_len : (f15 ()).elim 0 (fun v => v.1.length) = 288 := by kernel_rfl
theorem fixed_ex : ∃ v, f15 () = some (v, ()) ∧ v.length = 288 := by
  have h1 := fixed_some
  have h2 := fixed_len
  generalize f15 () = X at h1 h2 ⊢
  cases X with
  | none => cases h1
  | some v =>
    obtain ⟨v, ⟨⟩⟩ := v
    exact ⟨v, rfl, h2⟩
theorem codes_len (l : List Int) : (codes l).length = l.length := by unfold codes; exact tab_length _ _
theorem huffCodes_pure (l : List Int) : f3 (l, ()) = some (true, ()) := by
  unfold f3 b3_1
  simp only [List.drop_zero, List.take_length]
  by_cases hl : 400 < l.length
  · rw [if_pos (by rw [decide_eq_true_eq]; omega)]
  · rw [if_neg (by rw [decide_eq_true_eq]; omega), f8_eqn (by omega), Option.bind_some]
    dsimp only
    rw [f9_eqn, Option.bind_some, f10_eqn, Option.bind_some]
    dsimp only
    have hc : (if err l = 0 then codes l else []).length ≤ 100000 := by
      split
      · rw [codes_len]; omega
      · exact Nat.zero_le _
    generalize (if err l = 0 then codes l else []) = cs at hc ⊢
    rw [f11_eqn, awake_true, ← fixed_eq]
    have e1 := f14_eqn l
    have e2 := f13_self (l := l) (by omega)
    have e3 := f13_self hc
    obtain ⟨v, hv, hv2⟩ := fixed_ex
    rw [hv]
    generalize codes l = cds
    generalize sgs l 15 = sg
    generalize C l = cl
    generalize errM l = em at e1 ⊢
    generalize err l = er
    by_cases he : em = 0
    · subst he
      rw [if_pos rfl, Option.bind_some, Sum.elim_inr]
      dsimp only
      rw [if_pos (trivial : True), Option.bind_some, Sum.elim_inr, Sum.elim_inl]
      simp only [Option.bind_some, beq_self_eq_true, if_true, e1, e2, e3]
      rw [f13_self (by omega)]
      rfl
    · rw [if_neg he, Option.bind_some, Sum.elim_inl, Option.bind_some, Sum.elim_inl]
      have h2 : (em == 0) = false := by simpa using he
      simp only [Option.bind_some, beq_self_eq_true, if_true, e1, e2, e3]
      rw [if_pos (by rw [h2]; rfl), f13_self (by omega)]
      rfl
end Go.Ev.Huff
