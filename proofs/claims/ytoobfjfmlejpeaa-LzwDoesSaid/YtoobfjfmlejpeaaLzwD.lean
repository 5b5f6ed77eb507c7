/- Part of a proof about the given program: LzwD. -/
import Derived.Test.YtoobfjfmlejpeaaLzwB
import Derived.Test.YtoobfjfmlejpeaaStr
namespace Go.Ev.Lzw

/-! ## find -/
theorem ixOf_at {r : List Int} : ∀ {T : List (List Int)} {i : Nat}, T[i]? = some r → (∀ j, j < i → T[j]? ≠ some r) → ixOf r T = some i
  | [], i, h, _ => by simp at h
  | x :: T, 0, h, _ => by
    simp only [List.getElem?_cons_zero, Option.some.injEq] at h
    unfold ixOf
    rw [if_pos h]
  | x :: T, i + 1, h, hn => by
    have h0 := hn 0 (by omega)
    simp only [List.getElem?_cons_zero, ne_eq, Option.some.injEq] at h0
    simp only [List.getElem?_cons_succ] at h
    unfold ixOf
    rw [if_neg h0, ixOf_at h (fun j hj => by simpa using hn (j + 1) (by omega))]
    rfl

/-- What find holds after i rows. -/
structure Fd (T : List (List Int)) (s : List Int) (i n many : Nat) : Prop where
  h1 : 1 ≤ many
  h2 : many ≤ s.length
  h3 : (many = 1 ∧ n = (s.getD 0 0).toNat) ∨ (2 ≤ many ∧ ∃ j, ixOf (s.take many) T = some j ∧ n = 258 + j)
  h4 : ∀ j, j < i → ∀ m, many < m → m ≤ s.length → T[j]? ≠ some (s.take m)

theorem fd_end {T : List (List Int)} {s : List Int} {n many : Nat} (h : Fd T s T.length n many) : n = cd T s ∧ many = lm T s := by
  obtain ⟨h1, h2, h3, h4⟩ := h
  have hl : lm T s = many := by
    refine lmF_of h1 ?_ s.length h2 (fun j h5 h6 hm => ?_)
    · rcases h3 with h3 | ⟨_, i, h3, _⟩
      · exact .inl h3.1
      · exact .inr ⟨i, h3⟩
    · obtain ⟨i, hi, he⟩ := List.mem_iff_getElem.1 hm
      exact h4 i hi j h5 h6 (by rw [List.getElem?_eq_getElem hi, he])
  refine ⟨?_, hl.symm⟩
  unfold cd
  rw [hl]
  rcases h3 with ⟨h3, h5⟩ | ⟨h3, i, h5, h6⟩
  · rw [if_pos h3, h5]
  · rw [if_neg (by omega), h5, h6]

theorem l17_spec {T : List (List Int)} (hT : ∀ r ∈ T, IsB r) (hTl : T.length ≤ 100000) {s : List Int} (hb : IsB s) : ∀ (k i n many : Nat), T.length < i + k → i ≤ T.length → Fd T s i n many →
    loopN g17_1 o17_1 b17_1 k (bytesStr s, T.map bytesStr, (n : Int), (many : Int), (i : Int), ()) = some (.inl ((cd T s : Int), (lm T s : Int), ())) := by
  intro k
  induction k with
  | zero => intro i n many h1 h2; omega
  | succ k ih =>
    intro i n many h1 h2 h
    rw [loopN_succ]
    generalize hL : loopN g17_1 o17_1 b17_1 k = L at ih ⊢
    unfold b17_1
    simp only [List.length_map, strs_getD, bytesStr_size, Int.toNat_natCast, str_cut, List.drop_zero]
    rcases Nat.lt_or_ge i T.length with hi | hi
    · have hm : T.getD i [] ∈ T := by
        rw [List.getD_eq_getElem?_getD, List.getElem?_eq_getElem hi]
        exact List.getElem_mem _
      have hr := hT _ hm
      have hat : T[i]? = some (T.getD i []) := by
        rw [List.getD_eq_getElem?_getD, List.getElem?_eq_getElem hi]; rfl
      generalize hrr : T.getD i [] = r at hr hat ⊢
      rw [if_pos (by simp; omega), if_pos (by omega), if_pos (by omega)]
      have e : IntKind.wrap IntKind.i64 ((i : Int) + 1) = ((i + 1 : Nat) : Int) := by rw [wrap_i64 (by omega)]; omega
      rw [e]
      by_cases g1 : many < r.length
      · rw [if_pos (by simp; omega)]
        by_cases g2 : r.length ≤ s.length
        · rw [if_pos (by simp; omega), if_pos (by omega), if_pos (by omega), if_pos (by omega), str_beq (hb.take _) hr]
          by_cases g3 : s.take r.length = r
          · rw [if_pos (by simpa using g3)]
            simp only [Option.bind_some, Sum.elim_inl]
            have e2 : IntKind.wrap IntKind.i64 (258 + (i : Int)) = ((258 + i : Nat) : Int) := by rw [wrap_i64 (by omega)]; omega
            rw [e2]
            refine ih (i + 1) (258 + i) r.length (by omega) (by omega) ⟨by have := h.h1; omega, g2, .inr ⟨by have := h.h1; omega, i, ?_, rfl⟩, ?_⟩
            · rw [g3]
              refine ixOf_at hat (fun j hj => ?_)
              have := h.h4 j hj r.length g1 g2
              rwa [g3] at this
            · intro j hj m hm1 hm2
              by_cases ej : j = i
              · subst ej
                rw [hat]
                intro he
                simp only [Option.some.injEq] at he
                have := congrArg List.length he
                rw [List.length_take] at this
                omega
              · exact h.h4 j (by omega) m (by omega) hm2
          · rw [if_neg (by simpa using g3)]
            simp only [Option.bind_some, Sum.elim_inl]
            refine ih (i + 1) n many (by omega) (by omega) ⟨h.h1, h.h2, h.h3, fun j hj m hm1 hm2 => ?_⟩
            by_cases ej : j = i
            · subst ej
              rw [hat]
              intro he
              simp only [Option.some.injEq] at he
              have h5 := congrArg List.length he
              rw [List.length_take] at h5
              rw [show m = r.length by omega] at he
              exact g3 he.symm
            · exact h.h4 j (by omega) m hm1 hm2
        · rw [if_neg (by simp; omega)]
          simp only [Option.bind_some, Sum.elim_inl]
          refine ih (i + 1) n many (by omega) (by omega) ⟨h.h1, h.h2, h.h3, fun j hj m hm1 hm2 => ?_⟩
          by_cases ej : j = i
          · subst ej
            rw [hat]
            intro he
            simp only [Option.some.injEq] at he
            have h5 := congrArg List.length he
            rw [List.length_take] at h5
            omega
          · exact h.h4 j (by omega) m hm1 hm2
      · rw [if_neg (by simp; omega)]
        simp only [Option.bind_some, Sum.elim_inl]
        refine ih (i + 1) n many (by omega) (by omega) ⟨h.h1, h.h2, h.h3, fun j hj m hm1 hm2 => ?_⟩
        by_cases ej : j = i
        · subst ej
          rw [hat]
          intro he
          simp only [Option.some.injEq] at he
          have h5 := congrArg List.length he
          rw [List.length_take] at h5
          omega
        · exact h.h4 j (by omega) m hm1 hm2
    · rw [if_neg (by simp; omega)]
      have hie : i = T.length := by omega
      subst hie
      obtain ⟨e1, e2⟩ := fd_end h
      rw [e1, e2]
      rfl

theorem f17_eqn {T : List (List Int)} (hT : ∀ r ∈ T, IsB r) (hTl : T.length ≤ 100000) {s : List Int} (hb : IsB s) (hs : s ≠ []) :
    f17 (bytesStr s, T.map bytesStr, ()) = some ((cd T s : Int), (lm T s : Int), ()) := by
  have hpos : 0 < s.length := List.length_pos_iff.2 hs
  have h0 := hb.get 0
  unfold f17
  simp only [bytesStr_size]
  rw [if_pos (by omega), str_first hb, wrap_i64 (by omega)]
  have e0 : s.getD 0 0 = (((s.getD 0 0).toNat : Nat) : Int) := by omega
  have g := l17_spec hT hTl hb 18446744073709551616 0 (s.getD 0 0).toNat 1 (by omega) (by omega) ⟨by omega, by omega, .inl ⟨rfl, rfl⟩, fun j hj => by omega⟩
  rw [← e0] at g
  have g' : loopN g17_1 o17_1 b17_1 18446744073709551616 (bytesStr s, T.map bytesStr, s.getD 0 0, 1, 0, ()) = _ := g
  rw [show l17_1 = loopN g17_1 o17_1 b17_1 18446744073709551616 from rfl, g']
  rfl
end Go.Ev.Lzw
