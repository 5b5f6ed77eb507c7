/- Part of a proof about the given program: BdecF. -/
import Derived.Test.YtdakkfohpjjhkaaBdecE
namespace Go.Ev.Box
open Go.Ev.Dec

def mapM (m : Mt) (p q : Int × Int) : (Int × Int) × (Int × Int) × Int :=
  if m.ok ∧ RtD p ∧ RtD q then
    (if (tied m.B p m.D q m.F (tied m.A p m.C q m.E 0).2).2 = 0 then ((tied m.A p m.C q m.E 0).1, (tied m.B p m.D q m.F (tied m.A p m.C q m.E 0).2).1, 0) else ((0, 0), (0, 0), (tied m.B p m.D q m.F (tied m.A p m.C q m.E 0).2).2))
  else ((0, 0), (0, 0), 1)
def thenS (m n : Mt) : Mt × Int :=
  let a := tied m.A n.A m.B n.C (0, 0) 0
  let b := tied m.A n.B m.B n.D (0, 0) a.2
  let c := tied m.C n.A m.D n.C (0, 0) b.2
  let d := tied m.C n.B m.D n.D (0, 0) c.2
  let e := tied m.E n.A m.F n.C n.E d.2
  let f := tied m.E n.B m.F n.D n.F e.2
  (⟨a.1, b.1, c.1, d.1, e.1, f.1⟩, f.2)
def Mt.zero : Mt := ⟨(0, 0), (0, 0), (0, 0), (0, 0), (0, 0), (0, 0)⟩
def Mt.one : Mt := ⟨(1, 0), (0, 0), (0, 0), (1, 0), (0, 0), (0, 0)⟩
def thenM (m n : Mt) : Mt × Int := if m.ok ∧ n.ok then (if (thenS m n).2 = 0 then ((thenS m n).1, 0) else (Mt.zero, (thenS m n).2)) else (Mt.zero, 1)
def stepM (x y : Int × Int) : Mt × Int := if RtD x ∧ RtD y then (⟨(1, 0), (0, 0), (0, 0), (1, 0), x, y⟩, 0) else (Mt.zero, 1)

theorem f19_eqn (m : Mt) (p q : Int × Int) : f19 (m.A.1, m.A.2, m.B.1, m.B.2, m.C.1, m.C.2, m.D.1, m.D.2, m.E.1, m.E.2, m.F.1, m.F.2, p.1, p.2, q.1, q.2, ()) =
    some ((mapM m p q).1.1, (mapM m p q).1.2, (mapM m p q).2.1.1, (mapM m p q).2.1.2, (mapM m p q).2.2, ()) := by
  unfold f19 mapM
  dsimp only
  rw [f33_eqn, Option.bind_some]
  dsimp only
  by_cases h : m.ok
  · rw [if_pos h, if_neg (by decide), f36_two, Option.bind_some]
    dsimp only
    by_cases h2 : RtD p ∧ RtD q
    · rw [if_neg (by rw [decide_eq_true h2]; decide), if_pos (show m.ok ∧ RtD p ∧ RtD q from ⟨h, h2⟩)]
      unfold f37 f48
      rw [Option.bind_some]
      dsimp only
      rw [f45_eqn, Option.bind_some]
      dsimp only
      rw [f45_eqn, Option.bind_some, Option.bind_some]
      dsimp only
      by_cases h3 : (tied m.B p m.D q m.F (tied m.A p m.C q m.E 0).2).2 = 0
      · rw [if_neg (by rw [bne_iff_ne]; exact fun hh => hh h3), if_pos h3]
      · rw [if_pos (by rw [bne_iff_ne]; exact h3), if_neg h3]
    · rw [if_pos (by rw [decide_eq_false h2]; decide), if_neg (fun hh : m.ok ∧ RtD p ∧ RtD q => h2 hh.2)]
  · rw [if_neg h, if_pos (by decide), if_neg (fun hh : m.ok ∧ RtD p ∧ RtD q => h hh.1)]

theorem ok_one : Mt.one.ok := by decide
theorem ok_zero : Mt.zero.ok := by decide

/-! ## What they do with values -/
theorem mapM_ok {m : Mt} {p q : Int × Int} (h : (mapM m p q).2.2 = 0) : m.ok ∧ RtD p ∧ RtD q ∧ RtD (mapM m p q).1 ∧ RtD (mapM m p q).2.1 ∧
    vD (mapM m p q).1 * 1000000000 = vD m.A * vD p + vD m.C * vD q + vD m.E * 1000000000 ∧ vD (mapM m p q).2.1 * 1000000000 = vD m.B * vD p + vD m.D * vD q + vD m.F * 1000000000 := by
  unfold mapM at h ⊢
  by_cases h1 : m.ok ∧ RtD p ∧ RtD q
  · rw [if_pos h1] at h ⊢
    by_cases h2 : (tied m.B p m.D q m.F (tied m.A p m.C q m.E 0).2).2 = 0
    · rw [if_pos h2]
      obtain ⟨⟨oA, oB, oC, oD, oE, oF⟩, hp, hq⟩ := h1
      obtain ⟨h3, r2, v2⟩ := tied_spec oB hp oD hq oF h2
      obtain ⟨_, r1, v1⟩ := tied_spec oA hp oC hq oE h3
      exact ⟨⟨oA, oB, oC, oD, oE, oF⟩, hp, hq, r1, r2, v1, v2⟩
    · rw [if_neg h2] at h; exact absurd h h2
  · rw [if_neg h1] at h; cases h
theorem thenM_ok {m n : Mt} (h : (thenM m n).2 = 0) : m.ok ∧ n.ok ∧ (thenM m n).1.ok ∧
    vD (thenM m n).1.A * 1000000000 = vD m.A * vD n.A + vD m.B * vD n.C ∧ vD (thenM m n).1.B * 1000000000 = vD m.A * vD n.B + vD m.B * vD n.D ∧
    vD (thenM m n).1.C * 1000000000 = vD m.C * vD n.A + vD m.D * vD n.C ∧ vD (thenM m n).1.D * 1000000000 = vD m.C * vD n.B + vD m.D * vD n.D ∧
    vD (thenM m n).1.E * 1000000000 = vD m.E * vD n.A + vD m.F * vD n.C + vD n.E * 1000000000 ∧ vD (thenM m n).1.F * 1000000000 = vD m.E * vD n.B + vD m.F * vD n.D + vD n.F * 1000000000 := by
  unfold thenM at h ⊢
  by_cases h1 : m.ok ∧ n.ok
  · rw [if_pos h1] at h ⊢
    by_cases h2 : (thenS m n).2 = 0
    · rw [if_pos h2]
      obtain ⟨⟨oA, oB, oC, oD, oE, oF⟩, ⟨nA, nB, nC, nD, nE, nF⟩⟩ := h1
      unfold thenS at h2 ⊢
      dsimp only at h2 ⊢
      obtain ⟨h2, r6, v6⟩ := tied_spec oE nB oF nD nF h2
      obtain ⟨h2, r5, v5⟩ := tied_spec oE nA oF nC nE h2
      obtain ⟨h2, r4, v4⟩ := tied_spec oC nB oD nD RtD_zero h2
      obtain ⟨h2, r3, v3⟩ := tied_spec oC nA oD nC RtD_zero h2
      obtain ⟨h2, r2, v2⟩ := tied_spec oA nB oB nD RtD_zero h2
      obtain ⟨_, r1, v1⟩ := tied_spec oA nA oB nC RtD_zero h2
      have z : vD (0, 0) * 1000000000 = 0 := by decide
      rw [z, Int.add_zero] at v1 v2 v3 v4
      exact ⟨⟨oA, oB, oC, oD, oE, oF⟩, ⟨nA, nB, nC, nD, nE, nF⟩, ⟨r1, r2, r3, r4, r5, r6⟩, v1, v2, v3, v4, v5, v6⟩
    · rw [if_neg h2] at h; exact absurd h h2
  · rw [if_neg h1] at h; cases h
theorem Mt.ext {m n : Mt} (h1 : m.A = n.A) (h2 : m.B = n.B) (h3 : m.C = n.C) (h4 : m.D = n.D) (h5 : m.E = n.E) (h6 : m.F = n.F) : m = n := by
  cases m; cases n
  simp only at h1 h2 h3 h4 h5 h6
  subst h1 h2 h3 h4 h5 h6
  rfl

/-- Two maps one behind the other are one. -/
theorem maps {m n : Mt} {p q : Int × Int} (h1 : (thenM m n).2 = 0) (h2 : (mapM (thenM m n).1 p q).2.2 = 0) (h3 : (mapM m p q).2.2 = 0) (h4 : (mapM n (mapM m p q).1 (mapM m p q).2.1).2.2 = 0) :
    (mapM (thenM m n).1 p q).1 = (mapM n (mapM m p q).1 (mapM m p q).2.1).1 ∧ (mapM (thenM m n).1 p q).2.1 = (mapM n (mapM m p q).1 (mapM m p q).2.1).2.1 := by
  obtain ⟨_, _, _, a1, a2, a3, a4, a5, a6⟩ := thenM_ok h1
  obtain ⟨_, _, _, r1, r2, b1, b2⟩ := mapM_ok h2
  obtain ⟨_, _, _, _, _, c1, c2⟩ := mapM_ok h3
  obtain ⟨_, _, _, r3, r4, d1, d2⟩ := mapM_ok h4
  generalize mapM (thenM m n).1 p q = X at *
  generalize (thenM m n).1 = t at *
  generalize mapM n (mapM m p q).1 (mapM m p q).2.1 = Z at *
  generalize mapM m p q = Y at *
  refine ⟨vD_inj r1 r3 ?_, vD_inj r2 r4 ?_⟩
  · clear b2 d2 r1 r2 r3 r4 h1 h2 h3 h4 a2 a4 a6
    grind
  · clear b1 d1 r1 r2 r3 r4 h1 h2 h3 h4 a1 a3 a5
    grind
theorem hold_a {x ta tb na nc la lb ma mb mc md z ua uc : Int} (h1 : ta * 1000000000 = la * ma + lb * mc) (h2 : tb * 1000000000 = la * mb + lb * md) (h3 : x * 1000000000 = ta * na + tb * nc)
    (h4 : ua * 1000000000 = ma * na + mb * nc) (h5 : uc * 1000000000 = mc * na + md * nc) (h6 : z * 1000000000 = la * ua + lb * uc) : x = z := by
  have e1 : x * 1000000000 * 1000000000 = (ta * 1000000000) * na + (tb * 1000000000) * nc := by rw [h3]; grind
  have e2 : z * 1000000000 * 1000000000 = la * (ua * 1000000000) + lb * (uc * 1000000000) := by rw [h6]; grind
  rw [h1, h2] at e1
  rw [h4, h5] at e2
  have e3 : (la * ma + lb * mc) * na + (la * mb + lb * md) * nc = la * (ma * na + mb * nc) + lb * (mc * na + md * nc) := by grind
  omega
theorem hold_e {x te tf na nc ne le lf ma mb mc md me mf z ua uc ue : Int} (h1 : te * 1000000000 = le * ma + lf * mc + me * 1000000000) (h2 : tf * 1000000000 = le * mb + lf * md + mf * 1000000000) (h3 : x * 1000000000 = te * na + tf * nc + ne * 1000000000)
    (h4 : ua * 1000000000 = ma * na + mb * nc) (h5 : uc * 1000000000 = mc * na + md * nc) (h7 : ue * 1000000000 = me * na + mf * nc + ne * 1000000000) (h6 : z * 1000000000 = le * ua + lf * uc + ue * 1000000000) : x = z := by
  have e1 : x * 1000000000 * 1000000000 = (te * 1000000000) * na + (tf * 1000000000) * nc + ne * 1000000000 * 1000000000 := by rw [h3]; grind
  have e2 : z * 1000000000 * 1000000000 = le * (ua * 1000000000) + lf * (uc * 1000000000) + (ue * 1000000000) * 1000000000 := by rw [h6]; grind
  rw [h1, h2] at e1
  rw [h4, h5, h7] at e2
  have e3 : (le * ma + lf * mc + me * 1000000000) * na + (le * mb + lf * md + mf * 1000000000) * nc + ne * 1000000000 * 1000000000 = le * (ma * na + mb * nc) + lf * (mc * na + md * nc) + (me * na + mf * nc + ne * 1000000000) * 1000000000 := by grind
  omega
/-- Three hold together. -/
theorem holds {l m n : Mt} (h1 : (thenM l m).2 = 0) (h2 : (thenM (thenM l m).1 n).2 = 0) (h3 : (thenM m n).2 = 0) (h4 : (thenM l (thenM m n).1).2 = 0) :
    (thenM (thenM l m).1 n).1 = (thenM l (thenM m n).1).1 := by
  obtain ⟨_, _, _, a1, a2, a3, a4, a5, a6⟩ := thenM_ok h1
  obtain ⟨_, _, r, b1, b2, b3, b4, b5, b6⟩ := thenM_ok h2
  obtain ⟨_, _, _, c1, c2, c3, c4, c5, c6⟩ := thenM_ok h3
  obtain ⟨_, _, s, d1, d2, d3, d4, d5, d6⟩ := thenM_ok h4
  generalize (thenM (thenM l m).1 n).1 = X at *
  generalize (thenM l m).1 = t at *
  generalize (thenM l (thenM m n).1).1 = Z at *
  generalize (thenM m n).1 = u at *
  obtain ⟨r1, r2, r3, r4, r5, r6⟩ := r
  obtain ⟨s1, s2, s3, s4, s5, s6⟩ := s
  exact Mt.ext (vD_inj r1 s1 (hold_a a1 a2 b1 c1 c3 d1)) (vD_inj r2 s2 (hold_a a1 a2 b2 c2 c4 d2)) (vD_inj r3 s3 (hold_a a3 a4 b3 c1 c3 d3)) (vD_inj r4 s4 (hold_a a3 a4 b4 c2 c4 d4))
    (vD_inj r5 s5 (hold_e a5 a6 b5 c1 c3 c5 d5)) (vD_inj r6 s6 (hold_e a5 a6 b6 c2 c4 c6 d6))
/-- One turns nothing. -/
theorem map_one {p q : Int × Int} (hp : RtD p) (hq : RtD q) : mapM Mt.one p q = (p, q, 0) := by
  unfold mapM
  rw [if_pos ⟨ok_one, hp, hq⟩]
  unfold Mt.one
  dsimp only
  rw [tied_x1 hp hq]
  dsimp only
  rw [add_zero hp]
  dsimp only
  rw [keep_zero, tied_x2 hp hq]
  dsimp only
  rw [add_zero hq]
  dsimp only
  rw [keep_zero, if_pos rfl]
theorem then_one {m : Mt} (h : m.ok) : thenM m Mt.one = (m, 0) := by
  unfold thenM
  rw [if_pos ⟨h, ok_one⟩]
  obtain ⟨oA, oB, oC, oD, oE, oF⟩ := h
  have e : thenS m Mt.one = (m, 0) := by
    unfold thenS Mt.one
    dsimp only
    simp only [tied_10 oA oB, tied_01 oA oB, tied_10 oC oD, tied_01 oC oD, tied_10 oE oF, tied_01 oE oF, add_zero oA, add_zero oB, add_zero oC, add_zero oD, add_zero oE, add_zero oF, keep_zero]
  rw [e, if_pos rfl]
theorem one_then {m : Mt} (h : m.ok) : thenM Mt.one m = (m, 0) := by
  unfold thenM
  rw [if_pos ⟨ok_one, h⟩]
  obtain ⟨oA, oB, oC, oD, oE, oF⟩ := h
  have e : thenS Mt.one m = (m, 0) := by
    unfold thenS Mt.one
    dsimp only
    have t00 : ∀ {a b e : Int × Int}, RtD a → RtD b → RtD e → ∀ w, tied (0, 0) a (0, 0) b e w = (e, w) := fun {a b e} ha hb he w => by
      unfold tied
      dsimp only
      rw [zero_mul hb, zero_mul ha]
      dsimp only
      rw [show add 0 0 0 0 = (0, 0, 0, ()) from zero_add RtD_zero]
      dsimp only
      rw [zero_add he]
      dsimp only
      rw [keep_zero, keep_zero, keep_zero, keep_zero]
    simp only [tied_x1 oA oC, tied_x1 oB oD, tied_x2 oA oC, tied_x2 oB oD, t00 oA oC oE, t00 oB oD oF, add_zero oA, add_zero oB, add_zero oC, add_zero oD, keep_zero]
  rw [e, if_pos rfl]
theorem allEq_one (a b : Int × Int) (h : a = b) (l : List (Int × Int)) : allEq ((((a.1, b.1) :: []) ++ (((a.2, b.2) :: []) ++ [])) ++ l) = allEq l := by
  subst h
  simp [allEq]
end Go.Ev.Box
