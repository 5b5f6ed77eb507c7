/- Part of a proof about the given program: MatB. -/
import Derived.Test.YtdefmjofnceckaaMatA
namespace Go.Ev.Matrix
open Go.Ev.Dec

theorem matrixHolds_pure (l m n : Mt) : f5 (l.A.1, l.A.2, l.B.1, l.B.2, l.C.1, l.C.2, l.D.1, l.D.2, l.E.1, l.E.2, l.F.1, l.F.2, m.A.1, m.A.2, m.B.1, m.B.2, m.C.1, m.C.2, m.D.1, m.D.2, m.E.1, m.E.2, m.F.1, m.F.2, n.A.1, n.A.2, n.B.1, n.B.2, n.C.1, n.C.2, n.D.1, n.D.2, n.E.1, n.E.2, n.F.1, n.F.2, ()) = some (true, ()) := by
  unfold f5
  dsimp only
  rw [f10_eqn, Option.bind_some]
  dsimp only
  rw [f10_eqn, Option.bind_some]
  dsimp only
  rw [f10_eqn, Option.bind_some]
  dsimp only
  rw [f10_eqn, Option.bind_some, awake_true, Option.bind_some]
  dsimp only
  rw [if_pos rfl]
  by_cases h1 : (thenM l m).2 = 0
  · rw [if_neg (by rw [bne_iff_ne]; exact fun h => h h1)]
    by_cases h2 : (thenM (thenM l m).1 n).2 = 0
    · rw [if_neg (by rw [bne_iff_ne]; exact fun h => h h2)]
      by_cases h3 : (thenM m n).2 = 0
      · rw [if_neg (by rw [bne_iff_ne]; exact fun h => h h3)]
        by_cases h4 : (thenM l (thenM m n).1).2 = 0
        · rw [if_neg (by rw [bne_iff_ne]; exact fun h => h h4), holds h1 h2 h3 h4, allEq_mat]
        · rw [if_pos (by rw [bne_iff_ne]; exact h4)]
      · rw [if_pos (by rw [bne_iff_ne]; exact h3)]
    · rw [if_pos (by rw [bne_iff_ne]; exact h2)]
  · rw [if_pos (by rw [bne_iff_ne]; exact h1)]

theorem stepM_ok {x y : Int × Int} (h : RtD x ∧ RtD y) : stepM x y = (⟨(1, 0), (0, 0), (0, 0), (1, 0), x, y⟩, 0) := if_pos h
theorem stepM_no {x y : Int × Int} (h : ¬ (RtD x ∧ RtD y)) : stepM x y = (Mt.zero, 1) := if_neg h
theorem add_err (a b : Int × Int) (ha : RtD a) (hb : RtD b) : (add a.1 a.2 b.1 b.2).2.2.1 = 0 ∨ (add a.1 a.2 b.1 b.2).2.2.1 = 5 := by
  rcases add_cases ha hb with h | h
  · exact .inr (by rw [h])
  · exact .inl h.1
/-- A step turns a point by itself. -/
theorem map_step {x y p q : Int × Int} (hx : RtD x) (hy : RtD y) (hp : RtD p) (hq : RtD q) : mapM ⟨(1, 0), (0, 0), (0, 0), (1, 0), x, y⟩ p q =
    if keep (add p.1 p.2 x.1 x.2).2.2.1 (add q.1 q.2 y.1 y.2).2.2.1 = 0 then (((add p.1 p.2 x.1 x.2).1, (add p.1 p.2 x.1 x.2).2.1), ((add q.1 q.2 y.1 y.2).1, (add q.1 q.2 y.1 y.2).2.1), 0) else ((0, 0), (0, 0), keep (add p.1 p.2 x.1 x.2).2.2.1 (add q.1 q.2 y.1 y.2).2.2.1) := by
  unfold mapM
  rw [if_pos ⟨⟨Rt_one, Rt_zero, Rt_zero, Rt_one, hx, hy⟩, hp, hq⟩]
  dsimp only
  rw [tied_x1 hp hq]
  dsimp only
  rw [tied_x2 hp hq]
  dsimp only
  rw [show keep 0 (add p.1 p.2 x.1 x.2).2.2.1 = (add p.1 p.2 x.1 x.2).2.2.1 from if_pos rfl]

theorem mapM_no {m : Mt} {p q : Int × Int} (h : ¬ (m.ok ∧ RtD p ∧ RtD q)) : mapM m p q = ((0, 0), (0, 0), 1) := if_neg h

theorem matrixSteps_pure (x y p q : Int × Int) : f6 (x.1, x.2, y.1, y.2, p.1, p.2, q.1, q.2, ()) = some (true, ()) := by
  unfold f6
  dsimp only
  rw [f12_eqn, Option.bind_some]
  dsimp only
  rw [f8_eqn, Option.bind_some]
  dsimp only
  rw [f20_eqn, Option.bind_some, f20_eqn, Option.bind_some]
  by_cases hxy : RtD x ∧ RtD y
  · rw [stepM_ok hxy]
    dsimp only
    rw [if_neg (by decide), f19_eqn, Option.bind_some]
    dsimp only
    by_cases hp : RtD p
    · have hp' : Rt p.1 p.2 := hp
      rw [if_pos hp', if_neg (by decide), f19_eqn, Option.bind_some]
      dsimp only
      by_cases hq : RtD q
      · have hq' : Rt q.1 q.2 := hq
        rw [if_pos hq', if_neg (by decide), map_step hxy.1 hxy.2 hp hq]
        have a1 := add_err p x hp hxy.1
        have a2 := add_err q y hq hxy.2
        rw [awake_true]
        by_cases g : (add p.1 p.2 x.1 x.2).2.2.1 = 0
        · rw [if_neg (by rw [bne_iff_ne]; exact fun h => h g)]
          by_cases h : (add q.1 q.2 y.1 y.2).2.2.1 = 0
          · rw [if_neg (by rw [bne_iff_ne]; exact fun hh => hh h), Option.bind_some]
            dsimp only
            rw [if_pos rfl, g, h, show keep 0 0 = 0 from rfl, if_pos rfl]
            dsimp only
            rw [if_pos (by decide)]
            congr 2
            simp [allEq]
          · have h5 := a2.resolve_left h
            rw [if_pos (by rw [bne_iff_ne]; exact h), Option.bind_some]
            dsimp only
            rw [if_pos rfl, g, h5, show keep 0 5 = 5 from rfl, if_neg (by decide)]
            rfl
        · have g5 := a1.resolve_left g
          have hk : ∀ z, keep 5 z = 5 := fun z => if_neg (by decide)
          rw [if_pos (by rw [bne_iff_ne]; exact g), Option.bind_some]
          dsimp only
          rw [if_pos rfl, g5, hk, if_neg (by decide)]
          rfl
      · have hq' : ¬ Rt q.1 q.2 := hq
        rw [if_neg hq', if_pos (by decide)]
        rw [mapM_no (fun h => hq h.2.2)]
        unfold b6_1
        rw [awake_true]
        rfl
    · have hp' : ¬ Rt p.1 p.2 := hp
      rw [if_neg hp', if_pos (by decide)]
      rw [mapM_no (fun h => hp h.2.1)]
      unfold b6_1
      rw [awake_true]
      rfl
  · rw [stepM_no hxy]
    dsimp only
    rw [if_pos (by decide)]
    unfold b6_1
    rw [awake_true]
    rfl

theorem map_axis0 {m : Mt} (h : m.ok) : mapM m (0, 0) (0, 0) = (m.E, m.F, 0) := by
  unfold mapM
  rw [if_pos ⟨h, RtD_zero, RtD_zero⟩]
  obtain ⟨oA, oB, oC, oD, oE, oF⟩ := h
  rw [tied_00 oA oC oE, tied_00 oB oD oF, if_pos rfl]
theorem map_axis1 {m : Mt} (h : m.ok) : mapM ⟨m.A, m.B, m.C, m.D, (0, 0), (0, 0)⟩ (1, 0) (0, 0) = (m.A, m.B, 0) := by
  unfold mapM
  obtain ⟨oA, oB, oC, oD, oE, oF⟩ := h
  rw [if_pos ⟨⟨oA, oB, oC, oD, RtD_zero, RtD_zero⟩, Rt_one, RtD_zero⟩]
  dsimp only
  rw [tied_10 oA oC, add_zero oA]
  dsimp only
  rw [tied_10 oB oD, add_zero oB]
  dsimp only
  rw [keep_zero, keep_zero, if_pos rfl]
theorem map_axis2 {m : Mt} (h : m.ok) : mapM ⟨m.A, m.B, m.C, m.D, (0, 0), (0, 0)⟩ (0, 0) (1, 0) = (m.C, m.D, 0) := by
  unfold mapM
  obtain ⟨oA, oB, oC, oD, oE, oF⟩ := h
  rw [if_pos ⟨⟨oA, oB, oC, oD, RtD_zero, RtD_zero⟩, RtD_zero, Rt_one⟩]
  dsimp only
  rw [tied_01 oA oC, add_zero oC]
  dsimp only
  rw [tied_01 oB oD, add_zero oD]
  dsimp only
  rw [keep_zero, keep_zero, if_pos rfl]
theorem matrixAxes_pure (m : Mt) : f7 (m.A.1, m.A.2, m.B.1, m.B.2, m.C.1, m.C.2, m.D.1, m.D.2, m.E.1, m.E.2, m.F.1, m.F.2, ()) = some (true, ()) := by
  unfold f7
  dsimp only
  have g0 : f8 (m.A.1, m.A.2, m.B.1, m.B.2, m.C.1, m.C.2, m.D.1, m.D.2, m.E.1, m.E.2, m.F.1, m.F.2, 0, 0, 0, 0, ()) = some ((mapM m (0, 0) (0, 0)).1.1, (mapM m (0, 0) (0, 0)).1.2, (mapM m (0, 0) (0, 0)).2.1.1, (mapM m (0, 0) (0, 0)).2.1.2, (mapM m (0, 0) (0, 0)).2.2, ()) := f8_eqn m (0, 0) (0, 0)
  have g1 : ∃ a b c d e, f8 (m.A.1, m.A.2, m.B.1, m.B.2, m.C.1, m.C.2, m.D.1, m.D.2, 0, 0, 0, 0, 1, 0, 0, 0, ()) = some (a, b, c, d, e, ()) ∧ (m.ok → (a, b) = m.A ∧ (c, d) = m.B ∧ e = 0) := by
    refine ⟨_, _, _, _, _, f8_eqn ⟨m.A, m.B, m.C, m.D, (0, 0), (0, 0)⟩ (1, 0) (0, 0), fun h => ?_⟩
    rw [map_axis1 h]; exact ⟨rfl, rfl, rfl⟩
  have g2 : ∃ a b c d e, f8 (m.A.1, m.A.2, m.B.1, m.B.2, m.C.1, m.C.2, m.D.1, m.D.2, 0, 0, 0, 0, 0, 0, 1, 0, ()) = some (a, b, c, d, e, ()) ∧ (m.ok → (a, b) = m.C ∧ (c, d) = m.D ∧ e = 0) := by
    refine ⟨_, _, _, _, _, f8_eqn ⟨m.A, m.B, m.C, m.D, (0, 0), (0, 0)⟩ (0, 0) (1, 0), fun h => ?_⟩
    rw [map_axis2 h]; exact ⟨rfl, rfl, rfl⟩
  obtain ⟨a1, b1, c1, d1, e1, h1, k1⟩ := g1
  obtain ⟨a2, b2, c2, d2, e2, h2, k2⟩ := g2
  rw [g0, Option.bind_some, h1, Option.bind_some, h2, Option.bind_some, f15_eqn, Option.bind_some]
  dsimp only
  by_cases h : m.ok
  · rw [if_pos h, if_neg (by decide), map_axis0 h, awake_true, Option.bind_some]
    obtain ⟨j1, j2, rfl⟩ := k1 h
    obtain ⟨j3, j4, rfl⟩ := k2 h
    dsimp only
    rw [if_pos rfl, if_pos (by decide), if_pos (by decide), if_pos (by decide), ← j1, ← j2, ← j3, ← j4]
    simp [allEq]
  · rw [if_neg h, if_pos (by decide)]
    rw [mapM_no (fun hh => h hh.1)]
    unfold b7_1
    rw [awake_true]
    rfl
end Go.Ev.Matrix
