/- Part of a proof about the given program: BdecE. -/
import Derived.Test.YtdakkfohpjjhkaaBdecD
namespace Go.Ev.Box
open Go.Ev.Dec

/-! # Matrices of decimals -/
structure Mt where
  A : Int × Int
  B : Int × Int
  C : Int × Int
  D : Int × Int
  E : Int × Int
  F : Int × Int

def RtD (d : Int × Int) : Prop := Rt d.1 d.2
instance (d : Int × Int) : Decidable (RtD d) := by unfold RtD; infer_instance
def vD (d : Int × Int) : Int := val d.1 d.2
def Mt.ok (m : Mt) : Prop := RtD m.A ∧ RtD m.B ∧ RtD m.C ∧ RtD m.D ∧ RtD m.E ∧ RtD m.F
instance (m : Mt) : Decidable m.ok := by unfold Mt.ok; infer_instance
theorem vD_inj {a b : Int × Int} (ha : RtD a) (hb : RtD b) (h : vD a = vD b) : a = b := by
  obtain ⟨h1, h2⟩ := val_inj ha hb h
  exact Prod.ext h1 h2

theorem l36_1_spec (l : List (Int × Int)) (hl : l.length < 1000) : ∀ (k i : Nat), l.length < i + k → i ≤ l.length → (∀ j, j < i → RtD (l.getD j (0, 0))) →
    ((∀ d ∈ l, RtD d) ∧ loopN g36_1 o36_1 b36_1 k (l, ((l.length : Nat) : Int), (i : Int), ()) = some (.inl ())) ∨
    (¬ (∀ d ∈ l, RtD d) ∧ loopN g36_1 o36_1 b36_1 k (l, ((l.length : Nat) : Int), (i : Int), ()) = some (.inr (.inl (false, ())))) := by
  intro k
  induction k with
  | zero => intro i h1 h2; omega
  | succ k ih =>
    intro i h1 h2 h3
    rw [loopN_succ]
    generalize hL : loopN g36_1 o36_1 b36_1 k = L at ih ⊢
    unfold b36_1
    dsimp only
    rw [Int.toNat_natCast]
    rcases Nat.lt_or_ge i l.length with h | h
    · rw [if_pos (by rw [decide_eq_true_eq]; omega), if_pos (by omega), if_pos (by omega), f23_eqn, Option.bind_some]
      dsimp only
      by_cases hr : RtD (l.getD i (0, 0))
      · have hr' : Rt (l.getD i (0, 0)).1 (l.getD i (0, 0)).2 := hr
        rw [if_pos hr', if_neg (by decide), Option.bind_some, Sum.elim_inl]
        rw [show IntKind.wrap .i64 ((i : Int) + 1) = ((i + 1 : Nat) : Int) by rw [wrap_i64 (by omega)]; omega]
        refine ih (i + 1) (by omega) (by omega) (fun j hj => ?_)
        by_cases e : j = i
        · rw [e]; exact hr
        · exact h3 j (by omega)
      · have hr' : ¬ Rt (l.getD i (0, 0)).1 (l.getD i (0, 0)).2 := hr
        rw [if_neg hr', if_pos (by decide)]
        refine .inr ⟨fun hall => hr (hall _ ?_), rfl⟩
        rw [List.getD_eq_getElem?_getD, List.getElem?_eq_getElem h]
        exact List.getElem_mem _
    · rw [if_neg (by rw [decide_eq_true_eq]; omega)]
      refine .inl ⟨fun d hd => ?_, rfl⟩
      obtain ⟨j, hj, rfl⟩ := List.mem_iff_getElem.1 hd
      have := h3 j (by omega)
      rw [List.getD_eq_getElem?_getD, List.getElem?_eq_getElem hj] at this
      exact this
theorem f36_eqn (l : List (Int × Int)) (hl : l.length < 1000) : f36 (l, ()) = some (decide (∀ d ∈ l, RtD d), ()) := by
  unfold f36
  dsimp only
  rw [show l36_1 = loopN g36_1 o36_1 b36_1 18446744073709551616 from rfl]
  have h := l36_1_spec l hl 18446744073709551616 0 (by omega) (by omega) (fun j hj => by omega)
  have h' : ((∀ d ∈ l, RtD d) ∧ loopN g36_1 o36_1 b36_1 18446744073709551616 (l, ((l.length : Nat) : Int), 0, ()) = some (.inl ())) ∨
    (¬ (∀ d ∈ l, RtD d) ∧ loopN g36_1 o36_1 b36_1 18446744073709551616 (l, ((l.length : Nat) : Int), 0, ()) = some (.inr (.inl (false, ())))) := h
  generalize loopN g36_1 o36_1 b36_1 18446744073709551616 (l, ((l.length : Nat) : Int), 0, ()) = X at h' ⊢
  rcases h' with ⟨h1, h2⟩ | ⟨h1, h2⟩
  · subst h2
    rw [decide_eq_true h1]; rfl
  · subst h2
    rw [decide_eq_false h1]; rfl
theorem f33_eqn (m : Mt) : f33 (m.A.1, m.A.2, m.B.1, m.B.2, m.C.1, m.C.2, m.D.1, m.D.2, m.E.1, m.E.2, m.F.1, m.F.2, ()) = some ((if m.ok then 0 else 1), ()) := by
  unfold f33
  dsimp only
  have e : List.take 6 (List.drop 0 (List.set (List.set (List.set (List.set (List.set (List.set (List.replicate 6 ((0 : Int), (0 : Int))) 0 (m.A.1, m.A.2)) 1 (m.B.1, m.B.2)) 2 (m.C.1, m.C.2)) 3 (m.D.1, m.D.2)) 4 (m.E.1, m.E.2)) 5 (m.F.1, m.F.2))) = [m.A, m.B, m.C, m.D, m.E, m.F] := rfl
  rw [e, f36_eqn _ (by simp), Option.bind_some]
  dsimp only
  have e2 : (∀ d ∈ [m.A, m.B, m.C, m.D, m.E, m.F], RtD d) ↔ m.ok := by
    unfold Mt.ok
    simp
  by_cases h : m.ok
  · rw [if_pos (decide_eq_true (e2.2 h)), if_pos h]
  · rw [if_neg (by rw [decide_eq_true_eq]; exact fun hh => h (e2.1 hh)), if_neg h]
theorem f36_two (p q : Int × Int) : f36 (List.take 2 (List.drop 0 (List.set (List.set (List.replicate 2 ((0 : Int), (0 : Int))) 0 (p.1, p.2)) 1 (q.1, q.2))), ()) = some (decide (RtD p ∧ RtD q), ()) := by
  have e : List.take 2 (List.drop 0 (List.set (List.set (List.replicate 2 ((0 : Int), (0 : Int))) 0 (p.1, p.2)) 1 (q.1, q.2))) = [p, q] := rfl
  rw [e, f36_eqn _ (by simp)]
  congr 2
  rw [decide_eq_decide]
  simp

/-! ## Tied -/
def keep (w e : Int) : Int := if w = 0 then e else w
def tied (a b c d e : Int × Int) (w : Int) : (Int × Int) × Int :=
  let x := mul a.1 a.2 b.1 b.2
  let y := mul c.1 c.2 d.1 d.2
  let z := add x.1 x.2.1 y.1 y.2.1
  let u := add z.1 z.2.1 e.1 e.2
  ((u.1, u.2.1), keep (keep (keep (keep w x.2.2.1) y.2.2.1) z.2.2.1) u.2.2.1)
theorem f44_eqn (x s e w : Int) : f44 (x, s, e, w, ()) = some (x, s, keep w e, ()) := by
  unfold f44 keep
  dsimp only
  by_cases h : w = 0
  · rw [if_pos (by rw [beq_iff_eq]; exact h), if_pos h]
  · rw [if_neg (by rw [beq_iff_eq]; exact h), if_neg h]
theorem f45_eqn (a b c d e : Int × Int) (w : Int) : f45 (a.1, a.2, b.1, b.2, c.1, c.2, d.1, d.2, e.1, e.2, w, ()) = some ((tied a b c d e w).1.1, (tied a b c d e w).1.2, (tied a b c d e w).2, ()) := by
  unfold f45
  dsimp only
  rw [f46_eqn, Option.bind_some, f44_eqn, Option.bind_some, f46_eqn, Option.bind_some, f44_eqn, Option.bind_some]
  dsimp only
  rw [f47_eqn, Option.bind_some, f44_eqn, Option.bind_some, f47_eqn, Option.bind_some, f44_eqn, Option.bind_some]
  rfl

theorem mul_cases {a b : Int × Int} (ha : RtD a) (hb : RtD b) : (mul a.1 a.2 b.1 b.2 = (0, 0, 5, ())) ∨ ((mul a.1 a.2 b.1 b.2).2.2.1 = 0 ∧ RtD ((mul a.1 a.2 b.1 b.2).1, (mul a.1 a.2 b.1 b.2).2.1) ∧ vD ((mul a.1 a.2 b.1 b.2).1, (mul a.1 a.2 b.1 b.2).2.1) * 1000000000 = vD a * vD b) := by
  unfold mul
  rw [if_pos ⟨ha, hb⟩]
  rcases T_err (val a.1 a.2 * val b.1 b.2) 18 with h | h
  · exact .inr ⟨h, (T_val18 h).1, (T_val18 h).2⟩
  · exact .inl h
theorem add_cases {a b : Int × Int} (ha : RtD a) (hb : RtD b) : (add a.1 a.2 b.1 b.2 = (0, 0, 5, ())) ∨ ((add a.1 a.2 b.1 b.2).2.2.1 = 0 ∧ RtD ((add a.1 a.2 b.1 b.2).1, (add a.1 a.2 b.1 b.2).2.1) ∧ vD ((add a.1 a.2 b.1 b.2).1, (add a.1 a.2 b.1 b.2).2.1) = vD a + vD b) := by
  unfold add
  rw [if_pos ⟨ha, hb⟩]
  rcases T_err (val a.1 a.2 + val b.1 b.2) 9 with h | h
  · exact .inr ⟨h, (T_val9 h).1, (T_val9 h).2⟩
  · exact .inl h
theorem RtD_zero : RtD (0, 0) := Rt_zero

theorem tied_spec {a b c d e : Int × Int} (ha : RtD a) (hb : RtD b) (hc : RtD c) (hd : RtD d) (he : RtD e) {w : Int} (h : (tied a b c d e w).2 = 0) :
    w = 0 ∧ RtD (tied a b c d e w).1 ∧ vD (tied a b c d e w).1 * 1000000000 = vD a * vD b + vD c * vD d + vD e * 1000000000 := by
  unfold tied at h ⊢
  dsimp only at h ⊢
  have hk : ∀ w e, keep w e = 0 → w = 0 ∧ e = 0 := fun w e h => by
    unfold keep at h
    split at h
    · rename_i h1; exact ⟨h1, h⟩
    · rename_i h1; exact absurd h h1
  obtain ⟨h, h4⟩ := hk _ _ h
  obtain ⟨h, h3⟩ := hk _ _ h
  obtain ⟨h, h2⟩ := hk _ _ h
  obtain ⟨h, h1⟩ := hk _ _ h
  refine ⟨h, ?_⟩
  rcases mul_cases ha hb with k1 | ⟨_, r1, v1⟩
  · rw [k1] at h1; cases h1
  rcases mul_cases hc hd with k2 | ⟨_, r2, v2⟩
  · rw [k2] at h2; cases h2
  generalize mul a.1 a.2 b.1 b.2 = x at *
  generalize mul c.1 c.2 d.1 d.2 = y at *
  rcases add_cases r1 r2 with k3 | ⟨_, r3, v3⟩
  · rw [k3] at h3; cases h3
  dsimp only at v3 r3
  generalize add x.1 x.2.1 y.1 y.2.1 = z at *
  rcases add_cases r3 he with k4 | ⟨_, r4, v4⟩
  · rw [k4] at h4; cases h4
  dsimp only at v4 r4
  refine ⟨r4, ?_⟩
  rw [v4, v3, Int.add_mul, Int.add_mul, v1, v2]

theorem mul_one {a : Int × Int} (ha : RtD a) : mul a.1 a.2 1 0 = (a.1, a.2, 0, ()) := by
  unfold mul
  rw [if_pos ⟨ha, Rt_one⟩, val_one, Int.mul_comm, T_one, T_right ha]
theorem one_mul {a : Int × Int} (ha : RtD a) : mul 1 0 a.1 a.2 = (a.1, a.2, 0, ()) := by
  unfold mul
  rw [if_pos ⟨Rt_one, ha⟩, val_one, T_one, T_right ha]
theorem T_zero (s : Nat) : T 0 s = (0, 0, 0, ()) := told_zero _ _
theorem mul_zero {a : Int × Int} (ha : RtD a) : mul a.1 a.2 0 0 = (0, 0, 0, ()) := by
  unfold mul
  rw [if_pos ⟨ha, Rt_zero⟩, val_zero, Int.mul_zero, T_zero]
theorem zero_mul {a : Int × Int} (ha : RtD a) : mul 0 0 a.1 a.2 = (0, 0, 0, ()) := by
  unfold mul
  rw [if_pos ⟨Rt_zero, ha⟩, val_zero, Int.zero_mul, T_zero]
theorem add_zero {a : Int × Int} (ha : RtD a) : add a.1 a.2 0 0 = (a.1, a.2, 0, ()) := by
  unfold add
  rw [if_pos ⟨ha, Rt_zero⟩, val_zero, Int.add_zero, T_right ha]
theorem zero_add {a : Int × Int} (ha : RtD a) : add 0 0 a.1 a.2 = (a.1, a.2, 0, ()) := by
  unfold add
  rw [if_pos ⟨Rt_zero, ha⟩, val_zero, Int.zero_add, T_right ha]
theorem keep_zero (w : Int) : keep w 0 = w := by
  unfold keep
  split
  · rename_i h; exact h.symm
  · rfl

theorem tied_10 {a b e : Int × Int} (ha : RtD a) (hb : RtD b) (w : Int) : tied a (1, 0) b (0, 0) e w = (((add a.1 a.2 e.1 e.2).1, (add a.1 a.2 e.1 e.2).2.1), keep w (add a.1 a.2 e.1 e.2).2.2.1) := by
  unfold tied
  dsimp only
  rw [mul_one ha, mul_zero hb]
  dsimp only
  rw [add_zero ha]
  dsimp only
  rw [keep_zero, keep_zero, keep_zero]
theorem tied_01 {a b e : Int × Int} (ha : RtD a) (hb : RtD b) (w : Int) : tied a (0, 0) b (1, 0) e w = (((add b.1 b.2 e.1 e.2).1, (add b.1 b.2 e.1 e.2).2.1), keep w (add b.1 b.2 e.1 e.2).2.2.1) := by
  unfold tied
  dsimp only
  rw [mul_one hb, mul_zero ha]
  dsimp only
  rw [zero_add hb]
  dsimp only
  rw [keep_zero, keep_zero, keep_zero]
theorem tied_00 {a b e : Int × Int} (ha : RtD a) (hb : RtD b) (he : RtD e) (w : Int) : tied a (0, 0) b (0, 0) e w = (e, w) := by
  unfold tied
  dsimp only
  rw [mul_zero hb, mul_zero ha]
  dsimp only
  rw [show add 0 0 0 0 = (0, 0, 0, ()) from zero_add RtD_zero]
  dsimp only
  rw [zero_add he]
  dsimp only
  rw [keep_zero, keep_zero, keep_zero, keep_zero]
theorem tied_x1 {a b e : Int × Int} (ha : RtD a) (hb : RtD b) (w : Int) : tied (1, 0) a (0, 0) b e w = (((add a.1 a.2 e.1 e.2).1, (add a.1 a.2 e.1 e.2).2.1), keep w (add a.1 a.2 e.1 e.2).2.2.1) := by
  unfold tied
  dsimp only
  rw [one_mul ha, zero_mul hb]
  dsimp only
  rw [add_zero ha]
  dsimp only
  rw [keep_zero, keep_zero, keep_zero]
theorem tied_x2 {a b e : Int × Int} (ha : RtD a) (hb : RtD b) (w : Int) : tied (0, 0) a (1, 0) b e w = (((add b.1 b.2 e.1 e.2).1, (add b.1 b.2 e.1 e.2).2.1), keep w (add b.1 b.2 e.1 e.2).2.2.1) := by
  unfold tied
  dsimp only
  rw [one_mul hb, zero_mul ha]
  dsimp only
  rw [zero_add hb]
  dsimp only
  rw [keep_zero, keep_zero, keep_zero]
end Go.Ev.Box
