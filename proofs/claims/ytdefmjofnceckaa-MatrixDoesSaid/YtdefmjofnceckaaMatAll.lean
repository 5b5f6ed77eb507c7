/- Part of a proof about the given program: MatAll. -/
import Derived.Test.YtdefmjofnceckaaDecAll
import Derived.Test.YtdefmjofnceckaaRefAll
namespace Go.Ev.Matrix
open Go.Ev.Dec

theorem f8_one (p q : Int × Int) : f8 (1, 0, 0, 0, 0, 0, 1, 0, 0, 0, 0, 0, p.1, p.2, q.1, q.2, ()) = some ((mapM Mt.one p q).1.1, (mapM Mt.one p q).1.2, (mapM Mt.one p q).2.1.1, (mapM Mt.one p q).2.1.2, (mapM Mt.one p q).2.2, ()) := f8_eqn Mt.one p q
theorem f10_one (m : Mt) : f10 (m.A.1, m.A.2, m.B.1, m.B.2, m.C.1, m.C.2, m.D.1, m.D.2, m.E.1, m.E.2, m.F.1, m.F.2, 1, 0, 0, 0, 0, 0, 1, 0, 0, 0, 0, 0, ()) = some ((thenM m Mt.one).1.A.1, (thenM m Mt.one).1.A.2, (thenM m Mt.one).1.B.1, (thenM m Mt.one).1.B.2, (thenM m Mt.one).1.C.1, (thenM m Mt.one).1.C.2, (thenM m Mt.one).1.D.1, (thenM m Mt.one).1.D.2, (thenM m Mt.one).1.E.1, (thenM m Mt.one).1.E.2, (thenM m Mt.one).1.F.1, (thenM m Mt.one).1.F.2, (thenM m Mt.one).2, ()) := f10_eqn m Mt.one
theorem one_f10 (m : Mt) : f10 (1, 0, 0, 0, 0, 0, 1, 0, 0, 0, 0, 0, m.A.1, m.A.2, m.B.1, m.B.2, m.C.1, m.C.2, m.D.1, m.D.2, m.E.1, m.E.2, m.F.1, m.F.2, ()) = some ((thenM Mt.one m).1.A.1, (thenM Mt.one m).1.A.2, (thenM Mt.one m).1.B.1, (thenM Mt.one m).1.B.2, (thenM Mt.one m).1.C.1, (thenM Mt.one m).1.C.2, (thenM Mt.one m).1.D.1, (thenM Mt.one m).1.D.2, (thenM Mt.one m).1.E.1, (thenM Mt.one m).1.E.2, (thenM Mt.one m).1.F.1, (thenM Mt.one m).1.F.2, (thenM Mt.one m).2, ()) := f10_eqn Mt.one m
theorem f17_eqn : f17 () = some (1, 0, 0, 0, 0, 0, 1, 0, 0, 0, 0, 0, ()) := rfl
theorem allEq_two (a b : Int × Int) (c d : Int × Int) (h : a = c) (h' : b = d) : allEq ((((a.1, c.1) :: []) ++ (((a.2, c.2) :: []) ++ [])) ++ ((((b.1, d.1) :: []) ++ (((b.2, d.2) :: []) ++ [])) ++ [])) = true := by
  subst h; subst h'
  simp [allEq]

theorem allEq_mat (m : Mt) : allEq (((((m.A.1, m.A.1) :: []) ++ (((m.A.2, m.A.2) :: []) ++ [])) ++ ((((m.B.1, m.B.1) :: []) ++ (((m.B.2, m.B.2) :: []) ++ [])) ++ ((((m.C.1, m.C.1) :: []) ++ (((m.C.2, m.C.2) :: []) ++ [])) ++ ((((m.D.1, m.D.1) :: []) ++ (((m.D.2, m.D.2) :: []) ++ [])) ++ ((((m.E.1, m.E.1) :: []) ++ (((m.E.2, m.E.2) :: []) ++ [])) ++ ((((m.F.1, m.F.1) :: []) ++ (((m.F.2, m.F.2) :: []) ++ [])) ++ []))))))) = true := by
  simp [allEq]
theorem b4_1_eqn (e f g h : Int) (m : Mt) (p q : Int × Int) (X Y Z W : Int × Int) (hh : e = 0 → f = 0 → g = 0 → h = 0 → X = Z ∧ Y = W) :
    b4_1 (e, f, g, h, m.A.1, m.A.2, m.B.1, m.B.2, m.C.1, m.C.2, m.D.1, m.D.2, m.E.1, m.E.2, m.F.1, m.F.2, p.1, p.2, q.1, q.2, X.1, X.2, Y.1, Y.2, Z.1, Z.2, W.1, W.2, ()) =
      some (.inl (false, m.A.1, m.A.2, m.B.1, m.B.2, m.C.1, m.C.2, m.D.1, m.D.2, m.E.1, m.E.2, m.F.1, m.F.2, p.1, p.2, q.1, q.2, ())) := by
  unfold b4_1
  dsimp only
  by_cases h1 : e = 0
  · rw [if_pos (by rw [beq_iff_eq]; exact h1)]
    by_cases h2 : f = 0
    · rw [if_pos (by rw [beq_iff_eq]; exact h2)]
      by_cases h3 : g = 0
      · rw [if_pos (by rw [beq_iff_eq]; exact h3)]
        by_cases h4 : h = 0
        · rw [if_pos (by rw [beq_iff_eq]; exact h4)]
          obtain ⟨k1, k2⟩ := hh h1 h2 h3 h4
          rw [allEq_two X Y Z W k1 k2]
          rfl
        · rw [if_neg (by rw [beq_iff_eq]; exact h4)]
      · rw [if_neg (by rw [beq_iff_eq]; exact h3)]
    · rw [if_neg (by rw [beq_iff_eq]; exact h2)]
  · rw [if_neg (by rw [beq_iff_eq]; exact h1)]

theorem matrixMaps_pure (m n : Mt) (p q : Int × Int) : f4 (m.A.1, m.A.2, m.B.1, m.B.2, m.C.1, m.C.2, m.D.1, m.D.2, m.E.1, m.E.2, m.F.1, m.F.2, n.A.1, n.A.2, n.B.1, n.B.2, n.C.1, n.C.2, n.D.1, n.D.2, n.E.1, n.E.2, n.F.1, n.F.2, p.1, p.2, q.1, q.2, ()) = some (true, ()) := by
  unfold f4
  dsimp only
  rw [f10_eqn, Option.bind_some]
  dsimp only
  rw [f8_eqn, Option.bind_some]
  dsimp only
  rw [f8_eqn, Option.bind_some]
  dsimp only
  rw [f8_eqn, Option.bind_some]
  dsimp only
  rw [b4_1_eqn _ _ _ _ _ _ _ _ _ _ _ (fun h1 h2 h3 h4 => maps h1 h2 h3 h4), Option.bind_some, Sum.elim_inl]
  dsimp only
  rw [if_neg (by decide), f17_eqn, Option.bind_some]
  dsimp only
  rw [f8_one, Option.bind_some, Option.bind_some]
  dsimp only
  rw [f10_one, Option.bind_some, Option.bind_some]
  dsimp only
  rw [one_f10, Option.bind_some]
  dsimp only
  unfold b4_2
  dsimp only
  rw [f19_eqn, f19_eqn]
  have key : ∃ b1 b2 : Int, ((if Rt p.1 p.2 then (0 : Int) else 1) = b1) ∧ ((if Rt q.1 q.2 then (0 : Int) else 1) = b2) ∧ (b1 = 0 → b2 = 0 → mapM Mt.one p q = (p, q, 0)) := by
    refine ⟨_, _, rfl, rfl, fun h1 h2 => ?_⟩
    have hp : RtD p := by
      by_cases h : Rt p.1 p.2
      · exact h
      · rw [if_neg h] at h1; cases h1
    have hq : RtD q := by
      by_cases h : Rt q.1 q.2
      · exact h
      · rw [if_neg h] at h2; cases h2
    exact map_one hp hq
  obtain ⟨b1, b2, e1, e2, key⟩ := key
  rw [e1, e2, Option.bind_some]
  dsimp only
  rcases (show (b1 = 0 ∧ b2 = 0) ∨ (b1 = 0 ∧ b2 ≠ 0) ∨ b1 ≠ 0 by omega) with ⟨h1, h2⟩ | ⟨h1, h2⟩ | h1
  · rw [if_pos (by rw [beq_iff_eq]; exact h1), Option.bind_some]
    dsimp only
    rw [if_pos (by rw [beq_iff_eq]; exact h2), key h1 h2]
    dsimp only
    rw [if_neg (by decide), allEq_two p q p q rfl rfl]
    rw [Option.bind_some, Sum.elim_inl]
    dsimp only
    rw [if_neg (by decide), awake_true, Option.bind_some]
    dsimp only
    rw [if_pos rfl, f15_eqn, Option.bind_some]
    dsimp only
    by_cases hm : m.ok
    · rw [then_one hm, one_then hm, if_pos hm, if_neg (by decide)]
      dsimp only
      rw [if_pos (by decide), if_pos (by decide), allEq_mat m, if_pos rfl]
    · rw [if_neg hm, if_pos (by decide)]
  · rw [if_pos (by rw [beq_iff_eq]; exact h1), Option.bind_some]
    dsimp only
    rw [if_neg (by rw [beq_iff_eq]; exact h2)]
    rw [Option.bind_some, Sum.elim_inl]
    dsimp only
    rw [if_neg (by decide), awake_true, Option.bind_some]
    dsimp only
    rw [if_pos rfl, f15_eqn, Option.bind_some]
    dsimp only
    by_cases hm : m.ok
    · rw [then_one hm, one_then hm, if_pos hm, if_neg (by decide)]
      dsimp only
      rw [if_pos (by decide), if_pos (by decide), allEq_mat m, if_pos rfl]
    · rw [if_neg hm, if_pos (by decide)]
  · rw [if_neg (by rw [beq_iff_eq]; exact h1)]
    rw [Option.bind_some, Sum.elim_inl]
    dsimp only
    rw [if_neg (by decide), awake_true, Option.bind_some]
    dsimp only
    rw [if_pos rfl, f15_eqn, Option.bind_some]
    dsimp only
    by_cases hm : m.ok
    · rw [then_one hm, one_then hm, if_pos hm, if_neg (by decide)]
      dsimp only
      rw [if_pos (by decide), if_pos (by decide), allEq_mat m, if_pos rfl]
    · rw [if_neg hm, if_pos (by decide)]
end Go.Ev.Matrix
namespace Go.Ev.Matrix
open Go.Ev.Dec

theorem matrixDoes_pure (m n : Mt) (p q : Int × Int) : f3 (m.A.1, m.A.2, m.B.1, m.B.2, m.C.1, m.C.2, m.D.1, m.D.2, m.E.1, m.E.2, m.F.1, m.F.2, n.A.1, n.A.2, n.B.1, n.B.2, n.C.1, n.C.2, n.D.1, n.D.2, n.E.1, n.E.2, n.F.1, n.F.2, p.1, p.2, q.1, q.2, ()) = some (true, ()) := by
  unfold f3
  dsimp only
  rw [f8_eqn, Option.bind_some, f9_eqn, Option.bind_some, f10_eqn, Option.bind_some, f11_eqn, Option.bind_some, f12_eqn, Option.bind_some, f13_eqn, Option.bind_some, awake_true, Option.bind_some]
  dsimp only
  rw [if_pos rfl, f15_eqn, Option.bind_some, f16_eqn, Option.bind_some]
  dsimp only
  have e : (((if m.ok then (0 : Int) else 1) == 0) == decide m.ok) = true := by
    by_cases h : m.ok
    · rw [if_pos h, decide_eq_true h]; rfl
    · rw [if_neg h, decide_eq_false h]; rfl
  rw [if_pos e, allEq_two (mapM m p q).1 (mapM m p q).2.1 _ _ rfl rfl, if_pos rfl, beq_self_eq_true, if_pos rfl, allEq_mat, if_pos rfl, beq_self_eq_true, if_pos rfl, allEq_mat, if_pos rfl, beq_self_eq_true, if_pos rfl]
  rfl
end Go.Ev.Matrix
