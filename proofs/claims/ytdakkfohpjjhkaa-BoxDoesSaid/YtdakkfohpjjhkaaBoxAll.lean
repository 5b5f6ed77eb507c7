/- Part of a proof about the given program: BoxAll. -/
import Derived.Test.YtdakkfohpjjhkaaBdecAll
import Derived.Test.YtdakkfohpjjhkaaBrefAll
namespace Go.Ev.Box
open Go.Ev.Dec

/-! # Numbers held against one another -/
def cmpD (a b : Int × Int) : Int := if vD a < vD b then -1 else if vD b < vD a then 1 else 0

theorem f24_eqn {a b : Int × Int} (ha : RtD a) (hb : RtD b) : ∃ hi lo hi' lo' S : Nat, lo < 18446744073709551616 ∧ lo' < 18446744073709551616 ∧ S ≤ 9 ∧
    (vD a).natAbs = (hi * 18446744073709551616 + lo) * 10 ^ (9 - S) ∧ (vD b).natAbs = (hi' * 18446744073709551616 + lo') * 10 ^ (9 - S) ∧
    f24 (a.1, a.2, b.1, b.2, ()) = some ((hi : Int), (lo : Int), (hi' : Int), (lo' : Int), (S : Int), 0, ()) := by
  have h1 : Rt a.1 a.2 := ha
  have h2 : Rt b.1 b.2 := hb
  unfold f24
  dsimp only
  rw [f23_eqn, Option.bind_some]
  dsimp only
  rw [if_pos h1, if_neg (by decide), f23_eqn, Option.bind_some]
  dsimp only
  rw [if_pos h2, if_neg (by decide)]
  have b3 := h1.2.2.1; have b4 := h1.2.2.2.1
  have c3 := h2.2.2.1; have c4 := h2.2.2.2.1
  have es : a.2 = (a.2.toNat : Int) := by omega
  have es' : b.2 = (b.2.toNat : Int) := by omega
  have eS : Max.max a.2 b.2 = ((Max.max a.2.toNat b.2.toNat : Nat) : Int) := by omega
  rw [eS]
  have k1 : a.2.toNat ≤ Max.max a.2.toNat b.2.toNat := Nat.le_max_left _ _
  have k2 : b.2.toNat ≤ Max.max a.2.toNat b.2.toNat := Nat.le_max_right _ _
  have k3 : Max.max a.2.toNat b.2.toNat ≤ 9 := by omega
  generalize Max.max a.2.toNat b.2.toNat = S at k1 k2 k3 ⊢
  obtain ⟨hi, lo, _, g2, g3, g4⟩ := f38_eqn (m := a.1) ⟨h1.1, h1.2.1⟩ k1 k3
  obtain ⟨hi', lo', _, l2, l3, l4⟩ := f38_eqn (m := b.1) ⟨h2.1, h2.2.1⟩ k2 k3
  rw [← es] at g4
  rw [← es'] at l4
  refine ⟨hi, lo, hi', lo', S, g2, l2, k3, ?_, ?_, ?_⟩
  · rw [g3]; unfold vD val
    rw [Int.natAbs_mul, Int.natAbs_pow, Nat.mul_assoc, ← Nat.pow_add, show S - a.2.toNat + (9 - S) = 9 - a.2.toNat by omega]; rfl
  · rw [l3]; unfold vD val
    rw [Int.natAbs_mul, Int.natAbs_pow, Nat.mul_assoc, ← Nat.pow_add, show S - b.2.toNat + (9 - S) = 9 - b.2.toNat by omega]; rfl
  · rw [g4, Option.bind_some, l4, Option.bind_some]
theorem sgn_v (a : Int × Int) : (a.1 < 0 ↔ vD a < 0) := by
  have q1 : 0 < (10 : Int) ^ (9 - a.2.toNat) := Int.pow_pos (by omega)
  unfold vD val
  constructor
  · exact fun h => Int.mul_neg_of_neg_of_pos h q1
  · intro h
    exact Int.not_le.1 fun h0 => absurd (Int.mul_nonneg h0 (Int.le_of_lt q1)) (by omega)
theorem sgn_v' (a : Int × Int) : (0 < a.1 ↔ 0 < vD a) := by
  have q1 : 0 < (10 : Int) ^ (9 - a.2.toNat) := Int.pow_pos (by omega)
  unfold vD val
  constructor
  · exact fun h => Int.mul_pos h q1
  · intro h
    exact Int.not_le.1 fun h0 => absurd (Int.mul_nonpos_of_nonpos_of_nonneg h0 (Int.le_of_lt q1)) (by omega)
theorem f26_eqn (a b : Int) : f26 (a, b, ()) = some ((if a < b then -1 else if b < a then 1 else 0), ()) := by
  unfold f26 f41
  dsimp only
  rw [Option.bind_some, Option.bind_some]
  dsimp only
  rw [if_neg (by simp), if_neg (by simp)]
  by_cases h : a < b
  · rw [if_pos (by simpa using h), if_pos h]
  · rw [if_neg (by simpa using h), if_neg h]
    by_cases h2 : b < a
    · rw [if_pos (by simpa using h2), if_pos h2]
    · rw [if_neg (by simpa using h2), if_neg h2]
theorem f10_no {a b : Int × Int} (h : ¬ (RtD a ∧ RtD b)) : f10 (a.1, a.2, b.1, b.2, ()) = some (0, 1, ()) := by
  unfold f10 f24
  dsimp only
  rw [f23_eqn, Option.bind_some]
  dsimp only
  by_cases h1 : Rt a.1 a.2
  · have h2 : ¬ Rt b.1 b.2 := fun h2 => h ⟨h1, h2⟩
    rw [if_pos h1, if_neg (by decide), f23_eqn, Option.bind_some]
    dsimp only
    rw [if_neg h2, if_pos (by decide)]
    rfl
  · rw [if_neg h1, if_pos (by decide)]
    rfl
theorem f10_eqn {a b : Int × Int} (ha : RtD a) (hb : RtD b) : f10 (a.1, a.2, b.1, b.2, ()) = some (cmpD a b, 0, ()) := by
  obtain ⟨hi, lo, hi', lo', S, h1, h2, h3, h4, h5, h6⟩ := f24_eqn ha hb
  unfold f10 cmpD
  dsimp only
  rw [h6, Option.bind_some]
  dsimp only
  rw [if_neg (by decide)]
  have hq : 0 < 10 ^ (9 - S) := Nat.pow_pos (by omega)
  have lt1 : ∀ x y : Nat, x * 10 ^ (9 - S) < y * 10 ^ (9 - S) ↔ x < y := fun x y => Nat.mul_lt_mul_right hq
  have sa := sgn_v a
  have sb := sgn_v b
  have sa' := sgn_v' a
  have sb' := sgn_v' b
  have w1 := lt1 (hi * 18446744073709551616 + lo) (hi' * 18446744073709551616 + lo')
  have w2 := lt1 (hi' * 18446744073709551616 + lo') (hi * 18446744073709551616 + lo)
  rw [← h4, ← h5] at w1 w2
  unfold b10_1
  dsimp only
  by_cases n1 : a.1 < 0
  · rw [if_pos (by rw [decide_eq_true_eq]; exact n1), Option.bind_some, Sum.elim_inl]
    dsimp only
    by_cases n2 : b.1 < 0
    · rw [if_pos (by rw [decide_eq_true_eq]; exact n2), f25_eqn h2 h1, Option.bind_some]
      congr 2
      by_cases c1 : vD a < vD b
      · rw [if_pos c1, if_pos (w2.1 (by omega))]
      · rw [if_neg c1, if_neg (fun hh => by have := w2.2 hh; omega)]
        by_cases c2 : vD b < vD a
        · rw [if_pos c2, if_pos (w1.1 (by omega))]
        · rw [if_neg c2, if_neg (fun hh => by have := w1.2 hh; omega)]
    · rw [if_neg (by rw [decide_eq_true_eq]; exact n2), if_pos (by simp [n1, n2]), f26_eqn, Option.bind_some]
      congr 2
      rw [if_pos (by omega), if_pos (by omega)]
  · rw [if_neg (by rw [decide_eq_true_eq]; exact n1), Option.bind_some, Sum.elim_inl]
    dsimp only
    rw [if_neg (by decide)]
    by_cases n2 : b.1 < 0
    · rw [if_pos (by simp [n1, n2]), f26_eqn, Option.bind_some]
      congr 2
      rw [if_neg (by omega), if_pos (by omega), if_neg (by omega), if_pos (by omega)]
    · rw [if_neg (by simp [n1, n2]), f25_eqn h1 h2, Option.bind_some]
      congr 2
      by_cases c1 : vD a < vD b
      · rw [if_pos c1, if_pos (w1.1 (by omega))]
      · rw [if_neg c1, if_neg (fun hh => by have := w1.2 hh; omega)]
        by_cases c2 : vD b < vD a
        · rw [if_pos c2, if_pos (w2.1 (by omega))]
        · rw [if_neg c2, if_neg (fun hh => by have := w2.2 hh; omega)]
theorem f20_eqn2 {a b : Int × Int} (ha : RtD a) (hb : RtD b) : f20 (a.1, a.2, b.1, b.2, ()) = some (decide (vD b < vD a), ()) := by
  unfold f20
  dsimp only
  rw [f10_eqn ha hb, Option.bind_some]
  congr 2
  unfold cmpD
  rw [decide_eq_decide]
  dsimp only
  by_cases c1 : vD a < vD b
  · rw [if_pos c1]; omega
  · rw [if_neg c1]
    by_cases c2 : vD b < vD a
    · rw [if_pos c2]; omega
    · rw [if_neg c2]; omega
end Go.Ev.Box
namespace Go.Ev.Box
open Go.Ev.Dec

/-! # Boxes -/
structure Bx where
  X0 : Int × Int
  Y0 : Int × Int
  X1 : Int × Int
  Y1 : Int × Int

def Bx.rt (b : Bx) : Prop := RtD b.X0 ∧ RtD b.Y0 ∧ RtD b.X1 ∧ RtD b.Y1
def Bx.ok (b : Bx) : Prop := b.rt ∧ vD b.X0 ≤ vD b.X1 ∧ vD b.Y0 ≤ vD b.Y1
instance (b : Bx) : Decidable b.rt := by unfold Bx.rt; infer_instance
instance (b : Bx) : Decidable b.ok := by unfold Bx.ok; infer_instance
abbrev Pt := (Int × Int) × (Int × Int)
def corn (b : Bx) : List Pt := [(b.X0, b.Y0), (b.X1, b.Y0), (b.X0, b.Y1), (b.X1, b.Y1)]
def RtP (p : Pt) : Prop := RtD p.1 ∧ RtD p.2
instance (p : Pt) : Decidable (RtP p) := by unfold RtP; infer_instance
theorem f22_eqn (b : Bx) : f22 (b.X0.1, b.X0.2, b.Y0.1, b.Y0.2, b.X1.1, b.X1.2, b.Y1.1, b.Y1.2, ()) = some (corn b, ()) := rfl

theorem l9_1_spec (l : List Pt) (hl : l.length = 4) (b : Bx) : ∀ (k i : Nat), 4 < i + k → i ≤ 4 → (∀ j, j < i → RtP (l.getD j ((0, 0), (0, 0)))) →
    ((∀ d ∈ l, RtP d) ∧ loopN g9_1 o9_1 b9_1 k (l, (i : Int), b.X0.1, b.X0.2, b.Y0.1, b.Y0.2, b.X1.1, b.X1.2, b.Y1.1, b.Y1.2, ()) = some (.inl (b.X0.1, b.X0.2, b.Y0.1, b.Y0.2, b.X1.1, b.X1.2, b.Y1.1, b.Y1.2, ()))) ∨
    (¬ (∀ d ∈ l, RtP d) ∧ loopN g9_1 o9_1 b9_1 k (l, (i : Int), b.X0.1, b.X0.2, b.Y0.1, b.Y0.2, b.X1.1, b.X1.2, b.Y1.1, b.Y1.2, ()) = some (.inr (.inl (1, ())))) := by
  intro k
  induction k with
  | zero => intro i h1 h2; omega
  | succ k ih =>
    intro i h1 h2 h3
    rw [loopN_succ]
    generalize hL : loopN g9_1 o9_1 b9_1 k = L at ih ⊢
    unfold b9_1
    dsimp only
    rw [Int.toNat_natCast]
    rcases Nat.lt_or_ge i 4 with h | h
    · rw [if_pos (by rw [decide_eq_true_eq]; omega), if_pos (by omega), if_pos (by omega), f23_eqn, Option.bind_some]
      dsimp only
      have hm : l.getD i ((0, 0), (0, 0)) ∈ l := by
        rw [List.getD_eq_getElem?_getD, List.getElem?_eq_getElem (by omega)]
        exact List.getElem_mem _
      by_cases r1 : Rt (l.getD i ((0, 0), (0, 0))).1.1 (l.getD i ((0, 0), (0, 0))).1.2
      · rw [if_pos r1, if_neg (by decide), f23_eqn, Option.bind_some]
        dsimp only
        by_cases r2 : Rt (l.getD i ((0, 0), (0, 0))).2.1 (l.getD i ((0, 0), (0, 0))).2.2
        · rw [if_pos r2, if_neg (by decide), Option.bind_some, Sum.elim_inl, show IntKind.wrap .i64 ((i : Int) + 1) = ((i + 1 : Nat) : Int) by rw [wrap_i64 (by omega)]; omega]
          refine ih (i + 1) (by omega) (by omega) (fun j hj => ?_)
          by_cases e : j = i
          · rw [e]; exact ⟨r1, r2⟩
          · exact h3 j (by omega)
        · rw [if_neg r2, if_pos (by decide)]
          exact .inr ⟨fun hall => r2 (hall _ hm).2, rfl⟩
      · rw [if_neg r1, if_pos (by decide)]
        exact .inr ⟨fun hall => r1 (hall _ hm).1, rfl⟩
    · rw [if_neg (by rw [decide_eq_true_eq]; omega)]
      refine .inl ⟨fun d hd => ?_, rfl⟩
      obtain ⟨j, hj, rfl⟩ := List.mem_iff_getElem.1 hd
      have := h3 j (by omega)
      rw [List.getD_eq_getElem?_getD, List.getElem?_eq_getElem hj] at this
      exact this
theorem corn_rt (b : Bx) : (∀ d ∈ corn b, RtP d) ↔ b.rt := by
  unfold corn RtP Bx.rt
  simp only [List.mem_cons, List.not_mem_nil, or_false, forall_eq_or_imp, forall_eq]
  constructor
  · rintro ⟨⟨h1, h2⟩, ⟨h3, _⟩, ⟨_, h4⟩, _⟩; exact ⟨h1, h2, h3, h4⟩
  · rintro ⟨h1, h2, h3, h4⟩; exact ⟨⟨h1, h2⟩, ⟨h3, h2⟩, ⟨h1, h4⟩, ⟨h3, h4⟩⟩
theorem f9_eqn (b : Bx) : f9 (b.X0.1, b.X0.2, b.Y0.1, b.Y0.2, b.X1.1, b.X1.2, b.Y1.1, b.Y1.2, ()) = some ((if b.ok then 0 else 1), ()) := by
  unfold f9
  dsimp only
  rw [f22_eqn, Option.bind_some]
  dsimp only
  have h := l9_1_spec (corn b) rfl b 18446744073709551616 0 (by omega) (by omega) (fun j hj => by omega)
  rw [corn_rt] at h
  have h' : (b.rt ∧ loopN g9_1 o9_1 b9_1 18446744073709551616 (corn b, 0, b.X0.1, b.X0.2, b.Y0.1, b.Y0.2, b.X1.1, b.X1.2, b.Y1.1, b.Y1.2, ()) = some (.inl (b.X0.1, b.X0.2, b.Y0.1, b.Y0.2, b.X1.1, b.X1.2, b.Y1.1, b.Y1.2, ()))) ∨
    (¬ b.rt ∧ loopN g9_1 o9_1 b9_1 18446744073709551616 (corn b, 0, b.X0.1, b.X0.2, b.Y0.1, b.Y0.2, b.X1.1, b.X1.2, b.Y1.1, b.Y1.2, ()) = some (.inr (.inl (1, ())))) := h
  rw [show l9_1 = loopN g9_1 o9_1 b9_1 18446744073709551616 from rfl]
  generalize loopN g9_1 o9_1 b9_1 18446744073709551616 (corn b, 0, b.X0.1, b.X0.2, b.Y0.1, b.Y0.2, b.X1.1, b.X1.2, b.Y1.1, b.Y1.2, ()) = X at h' ⊢
  rcases h' with ⟨hr, h2⟩ | ⟨hr, h2⟩
  · subst h2
    rw [Option.bind_some, Sum.elim_inl]
    dsimp only
    rw [f20_eqn2 hr.1 hr.2.2.1, Option.bind_some]
    dsimp only
    by_cases c1 : vD b.X1 < vD b.X0
    · rw [if_pos (by rw [decide_eq_true_eq]; exact c1), if_neg (fun hk : b.ok => by have := hk.2.1; omega)]
    · rw [if_neg (by rw [decide_eq_true_eq]; exact c1), f20_eqn2 hr.2.1 hr.2.2.2, Option.bind_some]
      dsimp only
      by_cases c2 : vD b.Y1 < vD b.Y0
      · rw [if_pos (by rw [decide_eq_true_eq]; exact c2), if_neg (fun hk : b.ok => by have := hk.2.2; omega)]
      · rw [if_neg (by rw [decide_eq_true_eq]; exact c2), if_pos (show b.ok from ⟨hr, by omega, by omega⟩)]
  · subst h2
    rw [if_neg (fun hk : b.ok => hr hk.1)]
    rfl

/-- Do they meet? -/
def meets (a b : Bx) : Bool := decide (vD a.X0 ≤ vD b.X1 ∧ vD b.X0 ≤ vD a.X1 ∧ vD a.Y0 ≤ vD b.Y1 ∧ vD b.Y0 ≤ vD a.Y1)
theorem f7_eqn (a b : Bx) : f7 (a.X0.1, a.X0.2, a.Y0.1, a.Y0.2, a.X1.1, a.X1.2, a.Y1.1, a.Y1.2, b.X0.1, b.X0.2, b.Y0.1, b.Y0.2, b.X1.1, b.X1.2, b.Y1.1, b.Y1.2, ()) =
    some (if a.ok ∧ b.ok then (meets a b, 0, ()) else (false, 1, ())) := by
  unfold f7
  dsimp only
  rw [f9_eqn, Option.bind_some]
  dsimp only
  by_cases ha : a.ok
  · rw [if_pos ha, if_neg (by decide), f9_eqn, Option.bind_some]
    dsimp only
    by_cases hb : b.ok
    · rw [if_pos hb, if_neg (by decide), if_pos (show a.ok ∧ b.ok from ⟨ha, hb⟩)]
      obtain ⟨a1, a2, a3, a4⟩ := ha.1
      obtain ⟨b1, b2, b3, b4⟩ := hb.1
      rw [f20_eqn2 a1 b3, Option.bind_some]
      dsimp only
      unfold meets
      by_cases c1 : vD b.X1 < vD a.X0
      · rw [if_pos (by rw [decide_eq_true_eq]; exact c1), decide_eq_false (by omega)]
      · rw [if_neg (by rw [decide_eq_true_eq]; exact c1), f20_eqn2 b1 a3, Option.bind_some]
        dsimp only
        by_cases c2 : vD a.X1 < vD b.X0
        · rw [if_pos (by rw [decide_eq_true_eq]; exact c2), decide_eq_false (by omega)]
        · rw [if_neg (by rw [decide_eq_true_eq]; exact c2), f20_eqn2 a2 b4, Option.bind_some]
          dsimp only
          by_cases c3 : vD b.Y1 < vD a.Y0
          · rw [if_pos (by rw [decide_eq_true_eq]; exact c3), decide_eq_false (by omega)]
          · rw [if_neg (by rw [decide_eq_true_eq]; exact c3), f20_eqn2 b2 a4, Option.bind_some]
            congr 2
            show (!decide (vD a.Y1 < vD b.Y0)) = _
            rw [← decide_not, decide_eq_decide]
            omega
    · rw [if_neg hb, if_pos (by decide), if_neg (fun h : a.ok ∧ b.ok => hb h.2)]
  · rw [if_neg ha, if_pos (by decide), if_neg (fun h : a.ok ∧ b.ok => ha h.1)]

/-! ## Boxes go up to points -/
def lo (a p : Int × Int) : Int × Int := if vD p < vD a then p else a
def hi (a p : Int × Int) : Int × Int := if vD a < vD p then p else a
def up (b : Bx) (p : Pt) : Bx := ⟨lo b.X0 p.1, lo b.Y0 p.2, hi b.X1 p.1, hi b.Y1 p.2⟩
theorem lo_rt {a p : Int × Int} (ha : RtD a) (hp : RtD p) : RtD (lo a p) := by unfold lo; split <;> assumption
theorem hi_rt {a p : Int × Int} (ha : RtD a) (hp : RtD p) : RtD (hi a p) := by unfold hi; split <;> assumption
theorem lo_v (a p : Int × Int) : vD (lo a p) = min (vD a) (vD p) := by unfold lo; split <;> omega
theorem hi_v (a p : Int × Int) : vD (hi a p) = max (vD a) (vD p) := by unfold hi; split <;> omega
theorem up_rt {b : Bx} {p : Pt} (hb : b.rt) (hp : RtP p) : (up b p).rt := ⟨lo_rt hb.1 hp.1, lo_rt hb.2.1 hp.2, hi_rt hb.2.2.1 hp.1, hi_rt hb.2.2.2 hp.2⟩

theorem f27_eqn {b : Bx} {p : Pt} (hb : b.rt) (hp : RtP p) : f27 (b.X0.1, b.X0.2, b.Y0.1, b.Y0.2, b.X1.1, b.X1.2, b.Y1.1, b.Y1.2, p.1.1, p.1.2, p.2.1, p.2.2, ()) =
    some ((up b p).X0.1, (up b p).X0.2, (up b p).Y0.1, (up b p).Y0.2, (up b p).X1.1, (up b p).X1.2, (up b p).Y1.1, (up b p).Y1.2, ()) := by
  obtain ⟨h1, h2, h3, h4⟩ := hb
  obtain ⟨p1, p2⟩ := hp
  unfold f27 b27_1
  dsimp only
  unfold up lo hi
  dsimp only
  rw [f20_eqn2 h1 p1, Option.bind_some]
  dsimp only
  by_cases c1 : vD p.1 < vD b.X0
  · rw [if_pos (by rw [decide_eq_true_eq]; exact c1), if_pos c1, Option.bind_some, Sum.elim_inl]
    dsimp only
    rw [f20_eqn2 p1 h3, Option.bind_some]
    dsimp only
    by_cases c2 : vD b.X1 < vD p.1
    · rw [if_pos (by rw [decide_eq_true_eq]; exact c2), if_pos c2, f20_eqn2 h2 p2, Option.bind_some]
      dsimp only
      by_cases c3 : vD p.2 < vD b.Y0
      · rw [if_pos (by rw [decide_eq_true_eq]; exact c3), if_pos c3, f20_eqn2 p2 h4, Option.bind_some]
        dsimp only
        by_cases c4 : vD b.Y1 < vD p.2
        · rw [if_pos (by rw [decide_eq_true_eq]; exact c4), if_pos c4]
        · rw [if_neg (by rw [decide_eq_true_eq]; exact c4), if_neg c4]
      · rw [if_neg (by rw [decide_eq_true_eq]; exact c3), if_neg c3, f20_eqn2 p2 h4, Option.bind_some]
        dsimp only
        by_cases c4 : vD b.Y1 < vD p.2
        · rw [if_pos (by rw [decide_eq_true_eq]; exact c4), if_pos c4]
        · rw [if_neg (by rw [decide_eq_true_eq]; exact c4), if_neg c4]
    · rw [if_neg (by rw [decide_eq_true_eq]; exact c2), if_neg c2, f20_eqn2 h2 p2, Option.bind_some]
      dsimp only
      by_cases c3 : vD p.2 < vD b.Y0
      · rw [if_pos (by rw [decide_eq_true_eq]; exact c3), if_pos c3, f20_eqn2 p2 h4, Option.bind_some]
        dsimp only
        by_cases c4 : vD b.Y1 < vD p.2
        · rw [if_pos (by rw [decide_eq_true_eq]; exact c4), if_pos c4]
        · rw [if_neg (by rw [decide_eq_true_eq]; exact c4), if_neg c4]
      · rw [if_neg (by rw [decide_eq_true_eq]; exact c3), if_neg c3, f20_eqn2 p2 h4, Option.bind_some]
        dsimp only
        by_cases c4 : vD b.Y1 < vD p.2
        · rw [if_pos (by rw [decide_eq_true_eq]; exact c4), if_pos c4]
        · rw [if_neg (by rw [decide_eq_true_eq]; exact c4), if_neg c4]
  · rw [if_neg (by rw [decide_eq_true_eq]; exact c1), if_neg c1, Option.bind_some, Sum.elim_inl]
    dsimp only
    rw [f20_eqn2 p1 h3, Option.bind_some]
    dsimp only
    by_cases c2 : vD b.X1 < vD p.1
    · rw [if_pos (by rw [decide_eq_true_eq]; exact c2), if_pos c2, f20_eqn2 h2 p2, Option.bind_some]
      dsimp only
      by_cases c3 : vD p.2 < vD b.Y0
      · rw [if_pos (by rw [decide_eq_true_eq]; exact c3), if_pos c3, f20_eqn2 p2 h4, Option.bind_some]
        dsimp only
        by_cases c4 : vD b.Y1 < vD p.2
        · rw [if_pos (by rw [decide_eq_true_eq]; exact c4), if_pos c4]
        · rw [if_neg (by rw [decide_eq_true_eq]; exact c4), if_neg c4]
      · rw [if_neg (by rw [decide_eq_true_eq]; exact c3), if_neg c3, f20_eqn2 p2 h4, Option.bind_some]
        dsimp only
        by_cases c4 : vD b.Y1 < vD p.2
        · rw [if_pos (by rw [decide_eq_true_eq]; exact c4), if_pos c4]
        · rw [if_neg (by rw [decide_eq_true_eq]; exact c4), if_neg c4]
    · rw [if_neg (by rw [decide_eq_true_eq]; exact c2), if_neg c2, f20_eqn2 h2 p2, Option.bind_some]
      dsimp only
      by_cases c3 : vD p.2 < vD b.Y0
      · rw [if_pos (by rw [decide_eq_true_eq]; exact c3), if_pos c3, f20_eqn2 p2 h4, Option.bind_some]
        dsimp only
        by_cases c4 : vD b.Y1 < vD p.2
        · rw [if_pos (by rw [decide_eq_true_eq]; exact c4), if_pos c4]
        · rw [if_neg (by rw [decide_eq_true_eq]; exact c4), if_neg c4]
      · rw [if_neg (by rw [decide_eq_true_eq]; exact c3), if_neg c3, f20_eqn2 p2 h4, Option.bind_some]
        dsimp only
        by_cases c4 : vD b.Y1 < vD p.2
        · rw [if_pos (by rw [decide_eq_true_eq]; exact c4), if_pos c4]
        · rw [if_neg (by rw [decide_eq_true_eq]; exact c4), if_neg c4]
end Go.Ev.Box
namespace Go.Ev.Box
open Go.Ev.Dec

def both (a b : Bx) : Bx := (corn b).foldl up a
theorem fold_rt : ∀ {l : List Pt} {b : Bx}, b.rt → (∀ p ∈ l, RtP p) → (l.foldl up b).rt
  | [], _, hb, _ => hb
  | _ :: l, _, hb, hl => fold_rt (l := l) (up_rt hb (hl _ (List.mem_cons_self ..))) (fun q hq => hl q (List.mem_cons_of_mem _ hq))

theorem l14_1_spec (l : List Pt) (hl : l.length = 4) (hr : ∀ p ∈ l, RtP p) (c : Bx) : ∀ (k i : Nat) (b : Bx), b.rt → 4 < i + k → i ≤ 4 →
    loopN g14_1 o14_1 b14_1 k (l, (i : Int), b.X0.1, b.X0.2, b.Y0.1, b.Y0.2, b.X1.1, b.X1.2, b.Y1.1, b.Y1.2, c.X0.1, c.X0.2, c.Y0.1, c.Y0.2, c.X1.1, c.X1.2, c.Y1.1, c.Y1.2, ()) =
      some (.inl (((l.drop i).foldl up b).X0.1, ((l.drop i).foldl up b).X0.2, ((l.drop i).foldl up b).Y0.1, ((l.drop i).foldl up b).Y0.2, ((l.drop i).foldl up b).X1.1, ((l.drop i).foldl up b).X1.2, ((l.drop i).foldl up b).Y1.1, ((l.drop i).foldl up b).Y1.2,
        c.X0.1, c.X0.2, c.Y0.1, c.Y0.2, c.X1.1, c.X1.2, c.Y1.1, c.Y1.2, ())) := by
  intro k
  induction k with
  | zero => intro i b hb h1 h2; omega
  | succ k ih =>
    intro i b hb h1 h2
    rw [loopN_succ]
    generalize hL : loopN g14_1 o14_1 b14_1 k = L at ih ⊢
    unfold b14_1
    dsimp only
    rw [Int.toNat_natCast]
    rcases Nat.lt_or_ge i 4 with h | h
    · have hm : l.getD i ((0, 0), (0, 0)) ∈ l := by
        rw [List.getD_eq_getElem?_getD, List.getElem?_eq_getElem (by omega)]
        exact List.getElem_mem _
      rw [if_pos (by rw [decide_eq_true_eq]; omega), if_pos (by omega), if_pos (by omega), f27_eqn hb (hr _ hm), Option.bind_some, Option.bind_some, Sum.elim_inl,
        show IntKind.wrap .i64 ((i : Int) + 1) = ((i + 1 : Nat) : Int) by rw [wrap_i64 (by omega)]; omega]
      have hd : l.drop i = l.getD i ((0, 0), (0, 0)) :: l.drop (i + 1) := by
        rw [List.getD_eq_getElem?_getD, List.getElem?_eq_getElem (by omega)]
        exact List.drop_eq_getElem_cons (by omega)
      rw [hd, List.foldl_cons]
      exact ih (i + 1) _ (up_rt hb (hr _ hm)) (by omega) (by omega)
    · rw [if_neg (by rw [decide_eq_true_eq]; omega), List.drop_of_length_le (by omega)]
      rfl
def Bx.zero : Bx := ⟨(0, 0), (0, 0), (0, 0), (0, 0)⟩
theorem f14_eqn (a b : Bx) : f14 (a.X0.1, a.X0.2, a.Y0.1, a.Y0.2, a.X1.1, a.X1.2, a.Y1.1, a.Y1.2, b.X0.1, b.X0.2, b.Y0.1, b.Y0.2, b.X1.1, b.X1.2, b.Y1.1, b.Y1.2, ()) =
    some (if a.ok ∧ b.ok then ((both a b).X0.1, (both a b).X0.2, (both a b).Y0.1, (both a b).Y0.2, (both a b).X1.1, (both a b).X1.2, (both a b).Y1.1, (both a b).Y1.2, 0, ()) else (0, 0, 0, 0, 0, 0, 0, 0, 1, ())) := by
  unfold f14
  dsimp only
  rw [f9_eqn, Option.bind_some]
  dsimp only
  by_cases ha : a.ok
  · rw [if_pos ha, if_neg (by decide), f9_eqn, Option.bind_some]
    dsimp only
    by_cases hb : b.ok
    · rw [if_pos hb, if_neg (by decide), if_pos (show a.ok ∧ b.ok from ⟨ha, hb⟩), f22_eqn, Option.bind_some]
      dsimp only
      have h := l14_1_spec (corn b) rfl ((corn_rt b).2 hb.1) Bx.zero 18446744073709551616 0 a ha.1 (by omega) (by omega)
      rw [List.drop_zero] at h
      have h' : loopN g14_1 o14_1 b14_1 18446744073709551616 (corn b, 0, a.X0.1, a.X0.2, a.Y0.1, a.Y0.2, a.X1.1, a.X1.2, a.Y1.1, a.Y1.2, 0, 0, 0, 0, 0, 0, 0, 0, ()) = _ := h
      rw [show l14_1 = loopN g14_1 o14_1 b14_1 18446744073709551616 from rfl]
      generalize loopN g14_1 o14_1 b14_1 18446744073709551616 (corn b, 0, a.X0.1, a.X0.2, a.Y0.1, a.Y0.2, a.X1.1, a.X1.2, a.Y1.1, a.Y1.2, 0, 0, 0, 0, 0, 0, 0, 0, ()) = X at h' ⊢
      subst h'
      rw [Option.bind_some, Sum.elim_inl]
      rfl
    · rw [if_neg hb, if_pos (by decide), if_neg (fun h : a.ok ∧ b.ok => hb h.2)]
  · rw [if_neg ha, if_pos (by decide), if_neg (fun h : a.ok ∧ b.ok => ha h.1)]
theorem up_v (b : Bx) (p : Pt) : vD (up b p).X0 = min (vD b.X0) (vD p.1) ∧ vD (up b p).Y0 = min (vD b.Y0) (vD p.2) ∧ vD (up b p).X1 = max (vD b.X1) (vD p.1) ∧ vD (up b p).Y1 = max (vD b.Y1) (vD p.2) :=
  ⟨lo_v _ _, lo_v _ _, hi_v _ _, hi_v _ _⟩
theorem both_v {a b : Bx} (hb : b.ok) : vD (both a b).X0 = min (vD a.X0) (vD b.X0) ∧ vD (both a b).Y0 = min (vD a.Y0) (vD b.Y0) ∧ vD (both a b).X1 = max (vD a.X1) (vD b.X1) ∧ vD (both a b).Y1 = max (vD a.Y1) (vD b.Y1) := by
  unfold both corn
  simp only [List.foldl_cons, List.foldl_nil]
  have h1 := hb.2.1
  have h2 := hb.2.2
  obtain ⟨a1, a2, a3, a4⟩ := up_v a (b.X0, b.Y0)
  obtain ⟨b1, b2, b3, b4⟩ := up_v (up a (b.X0, b.Y0)) (b.X1, b.Y0)
  obtain ⟨c1, c2, c3, c4⟩ := up_v (up (up a (b.X0, b.Y0)) (b.X1, b.Y0)) (b.X0, b.Y1)
  obtain ⟨d1, d2, d3, d4⟩ := up_v (up (up (up a (b.X0, b.Y0)) (b.X1, b.Y0)) (b.X0, b.Y1)) (b.X1, b.Y1)
  rw [d1, d2, d3, d4, c1, c2, c3, c4, b1, b2, b3, b4, a1, a2, a3, a4]
  dsimp only
  refine ⟨?_, ?_, ?_, ?_⟩ <;> omega
theorem both_ok {a b : Bx} (ha : a.ok) (hb : b.ok) : (both a b).ok := by
  obtain ⟨h1, h2, h3, h4⟩ := both_v (a := a) hb
  have a1 := ha.2.1; have a2 := ha.2.2; have b1 := hb.2.1; have b2 := hb.2.2
  exact ⟨fold_rt ha.1 ((corn_rt b).2 hb.1), by omega, by omega⟩
theorem Bx.ext {a b : Bx} (ha : a.rt) (hb : b.rt) (h1 : vD a.X0 = vD b.X0) (h2 : vD a.Y0 = vD b.Y0) (h3 : vD a.X1 = vD b.X1) (h4 : vD a.Y1 = vD b.Y1) : a = b := by
  have e1 := vD_inj ha.1 hb.1 h1
  have e2 := vD_inj ha.2.1 hb.2.1 h2
  have e3 := vD_inj ha.2.2.1 hb.2.2.1 h3
  have e4 := vD_inj ha.2.2.2 hb.2.2.2 h4
  cases a; cases b
  simp only at e1 e2 e3 e4
  subst e1 e2 e3 e4
  rfl
set_option maxRecDepth 100000 in
theorem awake_true : f8 () = some (true, ()) := by kernel_rfl

theorem boxApart_pure (a b : Bx) : f3 (a.X0.1, a.X0.2, a.Y0.1, a.Y0.2, a.X1.1, a.X1.2, a.Y1.1, a.Y1.2, b.X0.1, b.X0.2, b.Y0.1, b.Y0.2, b.X1.1, b.X1.2, b.Y1.1, b.Y1.2, ()) = some (true, ()) := by
  unfold f3
  dsimp only
  rw [f7_eqn, Option.bind_some]
  by_cases h : a.ok ∧ b.ok
  · rw [if_pos h]
    dsimp only
    obtain ⟨a1, a2, a3, a4⟩ := h.1.1
    obtain ⟨b1, b2, b3, b4⟩ := h.2.1
    rw [if_neg (by decide), f10_eqn a3 b1, Option.bind_some, f10_eqn b3 a1, Option.bind_some, f10_eqn a4 b2, Option.bind_some, f10_eqn b4 a2, Option.bind_some, awake_true, Option.bind_some]
    dsimp only
    rw [if_pos rfl]
    have key : ∀ x y : Int × Int, cmpD x y ≥ 0 ↔ vD y ≤ vD x := fun x y => by
      unfold cmpD
      by_cases c : vD x < vD y
      · rw [if_pos c]; omega
      · rw [if_neg c]
        by_cases c2 : vD y < vD x
        · rw [if_pos c2]; omega
        · rw [if_neg c2]; omega
    have k1 := key a.X1 b.X0
    have k2 := key b.X1 a.X0
    have k3 := key a.Y1 b.Y0
    have k4 := key b.Y1 a.Y0
    unfold meets
    by_cases c1 : cmpD a.X1 b.X0 ≥ 0
    · rw [if_pos (by rw [decide_eq_true_eq]; exact c1)]
      by_cases c2 : cmpD b.X1 a.X0 ≥ 0
      · rw [if_pos (by rw [decide_eq_true_eq]; exact c2)]
        by_cases c3 : cmpD a.Y1 b.Y0 ≥ 0
        · rw [if_pos (by rw [decide_eq_true_eq]; exact c3)]
          congr 2
          rw [beq_iff_eq, decide_eq_decide]
          rw [k4]
          have := k1.1 c1; have := k2.1 c2; have := k3.1 c3
          omega
        · rw [if_neg (by rw [decide_eq_true_eq]; exact c3), decide_eq_false (fun hh => c3 (k3.2 hh.2.2.2))]
          rfl
      · rw [if_neg (by rw [decide_eq_true_eq]; exact c2), decide_eq_false (fun hh => c2 (k2.2 hh.1))]
        rfl
    · rw [if_neg (by rw [decide_eq_true_eq]; exact c1), decide_eq_false (fun hh => c1 (k1.2 hh.2.1))]
      rfl
  · rw [if_neg h]
    dsimp only
    rw [if_pos (by decide)]
    unfold b3_1
    dsimp only
    rw [awake_true, Option.bind_some]
    dsimp only
    rw [if_pos rfl, if_pos (by decide), f9_eqn, Option.bind_some]
    dsimp only
    by_cases ha : a.ok
    · have hb : ¬ b.ok := fun hb => h ⟨ha, hb⟩
      rw [if_pos ha, if_neg (by decide), f9_eqn, if_neg hb]
      rfl
    · rw [if_neg ha, if_pos (by decide)]
      rfl
theorem meets_comm (a b : Bx) : meets a b = meets b a := by
  unfold meets
  rw [decide_eq_decide]
  omega
theorem allEq_box (b : Bx) : allEq ((((b.X0.1, b.X0.1) :: []) ++ (((b.X0.2, b.X0.2) :: []) ++ [])) ++ ((((b.Y0.1, b.Y0.1) :: []) ++ (((b.Y0.2, b.Y0.2) :: []) ++ [])) ++ ((((b.X1.1, b.X1.1) :: []) ++ (((b.X1.2, b.X1.2) :: []) ++ [])) ++ ((((b.Y1.1, b.Y1.1) :: []) ++ (((b.Y1.2, b.Y1.2) :: []) ++ [])) ++ [])))) = true := by
  simp [allEq]
theorem f7_yes {a b : Bx} (ha : a.ok) (hb : b.ok) : f7 (a.X0.1, a.X0.2, a.Y0.1, a.Y0.2, a.X1.1, a.X1.2, a.Y1.1, a.Y1.2, b.X0.1, b.X0.2, b.Y0.1, b.Y0.2, b.X1.1, b.X1.2, b.Y1.1, b.Y1.2, ()) = some (meets a b, 0, ()) := by
  rw [f7_eqn, if_pos ⟨ha, hb⟩]
theorem f14_yes {a b : Bx} (ha : a.ok) (hb : b.ok) : f14 (a.X0.1, a.X0.2, a.Y0.1, a.Y0.2, a.X1.1, a.X1.2, a.Y1.1, a.Y1.2, b.X0.1, b.X0.2, b.Y0.1, b.Y0.2, b.X1.1, b.X1.2, b.Y1.1, b.Y1.2, ()) = some ((both a b).X0.1, (both a b).X0.2, (both a b).Y0.1, (both a b).Y0.2, (both a b).X1.1, (both a b).X1.2, (both a b).Y1.1, (both a b).Y1.2, 0, ()) := by
  rw [f14_eqn, if_pos ⟨ha, hb⟩]
theorem boxMeets_pure (a b c : Bx) : f5 (a.X0.1, a.X0.2, a.Y0.1, a.Y0.2, a.X1.1, a.X1.2, a.Y1.1, a.Y1.2, b.X0.1, b.X0.2, b.Y0.1, b.Y0.2, b.X1.1, b.X1.2, b.Y1.1, b.Y1.2, c.X0.1, c.X0.2, c.Y0.1, c.Y0.2, c.X1.1, c.X1.2, c.Y1.1, c.Y1.2, ()) = some (true, ()) := by
  unfold f5
  dsimp only
  rw [f9_eqn, awake_true, Option.bind_some]
  dsimp only
  by_cases ha : a.ok
  · rw [if_pos ha, if_neg (by decide), f9_eqn, Option.bind_some]
    dsimp only
    by_cases hb : b.ok
    · rw [if_pos hb, if_neg (by decide), f9_eqn, Option.bind_some]
      dsimp only
      by_cases hc : c.ok
      · rw [if_pos hc, if_neg (by decide), f7_yes ha hb, Option.bind_some, f7_yes hb ha, Option.bind_some, f7_yes ha ha, Option.bind_some, f14_yes hb hc, Option.bind_some]
        dsimp only
        rw [f7_yes ha (both_ok hb hc), Option.bind_some, f14_yes hc hb, Option.bind_some, f14_yes hb hb, Option.bind_some, Option.bind_some]
        dsimp only
        have e1 : both c b = both b c := by
          obtain ⟨x1, x2, x3, x4⟩ := both_v (a := c) hb
          obtain ⟨y1, y2, y3, y4⟩ := both_v (a := b) hc
          exact Bx.ext (both_ok hc hb).1 (both_ok hb hc).1 (by omega) (by omega) (by omega) (by omega)
        have e2 : both b b = b := by
          obtain ⟨x1, x2, x3, x4⟩ := both_v (a := b) hb
          exact Bx.ext (both_ok hb hb).1 hb.1 (by omega) (by omega) (by omega) (by omega)
        have e3 : meets a a = true := by
          unfold meets
          have := ha.2.1; have := ha.2.2
          exact decide_eq_true (by omega)
        rw [e1, e2, e3, meets_comm b a]
        have e4 : meets a b = true → meets a (both b c) = true := fun h => by
          unfold meets at h ⊢
          obtain ⟨y1, y2, y3, y4⟩ := both_v (a := b) hc
          have h := of_decide_eq_true h
          exact decide_eq_true (by omega)
        have z : ((0 : Int) == 0) = true := by decide
        simp only [z, if_true, beq_self_eq_true]
        rw [f9_eqn, if_pos (both_ok hb hc), allEq_box, allEq_box]
        by_cases hm : meets a b = true
        · rw [if_neg (by rw [hm]; decide), if_pos (e4 hm)]
          rfl
        · rw [if_pos (by simpa using hm)]
          rfl
      · rw [if_neg hc, if_pos (by decide), Option.bind_some]
    · rw [if_neg hb, if_pos (by decide), Option.bind_some]
  · rw [if_neg ha, if_pos (by decide), Option.bind_some]
end Go.Ev.Box
namespace Go.Ev.Box
open Go.Ev.Dec

/-! # The least box around points -/
def boxOf (p : Pt) : Bx := ⟨p.1, p.2, p.1, p.2⟩
def P0 : Pt := ((0, 0), (0, 0))
def ofL (l : List Pt) : Bx := l.foldl up (boxOf (l.getD 0 P0))
def inB (b : Bx) (p : Pt) : Prop := vD b.X0 ≤ vD p.1 ∧ vD p.1 ≤ vD b.X1 ∧ vD b.Y0 ≤ vD p.2 ∧ vD p.2 ≤ vD b.Y1

theorem l11_1_spec (l : List Pt) (hl : l.length ≤ 9223372036854775807) (c : Bx) : ∀ (k i : Nat), l.length < i + k → i ≤ l.length → (∀ j, j < i → RtP (l.getD j P0)) →
    ((∀ d ∈ l, RtP d) ∧ loopN g11_1 o11_1 b11_1 k (l, l, ((l.length : Nat) : Int), (i : Int), c.X0.1, c.X0.2, c.Y0.1, c.Y0.2, c.X1.1, c.X1.2, c.Y1.1, c.Y1.2, ()) = some (.inl (l, c.X0.1, c.X0.2, c.Y0.1, c.Y0.2, c.X1.1, c.X1.2, c.Y1.1, c.Y1.2, ()))) ∨
    (¬ (∀ d ∈ l, RtP d) ∧ loopN g11_1 o11_1 b11_1 k (l, l, ((l.length : Nat) : Int), (i : Int), c.X0.1, c.X0.2, c.Y0.1, c.Y0.2, c.X1.1, c.X1.2, c.Y1.1, c.Y1.2, ()) = some (.inr (.inl (1, 0, 0, 0, 0, 0, 0, 0, 0, ())))) := by
  intro k
  induction k with
  | zero => intro i h1 h2; omega
  | succ k ih =>
    intro i h1 h2 h3
    rw [loopN_succ]
    generalize hL : loopN g11_1 o11_1 b11_1 k = L at ih ⊢
    unfold b11_1
    dsimp only
    rw [Int.toNat_natCast]
    rcases Nat.lt_or_ge i l.length with h | h
    · rw [if_pos (by rw [decide_eq_true_eq]; omega), if_pos (by omega), if_pos (by omega), f23_eqn, Option.bind_some]
      dsimp only
      have hm : l.getD i ((0, 0), (0, 0)) ∈ l := by
        rw [List.getD_eq_getElem?_getD, List.getElem?_eq_getElem (by omega)]
        exact List.getElem_mem _
      by_cases r1 : Rt (l.getD i ((0, 0), (0, 0))).1.1 (l.getD i ((0, 0), (0, 0))).1.2
      · rw [if_pos r1, if_neg (by decide), f23_eqn, Option.bind_some]
        dsimp only
        by_cases r2 : Rt (l.getD i ((0, 0), (0, 0))).2.1 (l.getD i ((0, 0), (0, 0))).2.2
        · rw [if_pos r2, if_neg (by decide), Option.bind_some, Sum.elim_inl, show IntKind.wrap .i64 ((i : Int) + 1) = ((i + 1 : Nat) : Int) by rw [wrap_i64 (by omega)]; omega]
          refine ih (i + 1) (by omega) (by omega) (fun j hj => ?_)
          by_cases e : j = i
          · rw [e]; exact ⟨r1, r2⟩
          · exact h3 j (by omega)
        · rw [if_neg r2, if_pos (by decide)]
          exact .inr ⟨fun hall => r2 (hall _ hm).2, rfl⟩
      · rw [if_neg r1, if_pos (by decide)]
        exact .inr ⟨fun hall => r1 (hall _ hm).1, rfl⟩
    · rw [if_neg (by rw [decide_eq_true_eq]; omega)]
      refine .inl ⟨fun d hd => ?_, rfl⟩
      obtain ⟨j, hj, rfl⟩ := List.mem_iff_getElem.1 hd
      have := h3 j (by omega)
      rw [List.getD_eq_getElem?_getD, List.getElem?_eq_getElem hj] at this
      exact this
theorem l11_2_spec (l : List Pt) (hl : l.length ≤ 9223372036854775807) (hr : ∀ p ∈ l, RtP p) (c : Bx) : ∀ (k i : Nat) (b : Bx), b.rt → l.length < i + k → i ≤ l.length →
    loopN g11_2 o11_2 b11_2 k (l, ((l.length : Nat) : Int), (i : Int), c.X0.1, c.X0.2, c.Y0.1, c.Y0.2, c.X1.1, c.X1.2, c.Y1.1, c.Y1.2, b.X0.1, b.X0.2, b.Y0.1, b.Y0.2, b.X1.1, b.X1.2, b.Y1.1, b.Y1.2, ()) =
      some (.inl (c.X0.1, c.X0.2, c.Y0.1, c.Y0.2, c.X1.1, c.X1.2, c.Y1.1, c.Y1.2, ((l.drop i).foldl up b).X0.1, ((l.drop i).foldl up b).X0.2, ((l.drop i).foldl up b).Y0.1, ((l.drop i).foldl up b).Y0.2, ((l.drop i).foldl up b).X1.1, ((l.drop i).foldl up b).X1.2, ((l.drop i).foldl up b).Y1.1, ((l.drop i).foldl up b).Y1.2, ())) := by
  intro k
  induction k with
  | zero => intro i b hb h1 h2; omega
  | succ k ih =>
    intro i b hb h1 h2
    rw [loopN_succ]
    generalize hL : loopN g11_2 o11_2 b11_2 k = L at ih ⊢
    unfold b11_2
    dsimp only
    rw [Int.toNat_natCast]
    rcases Nat.lt_or_ge i l.length with h | h
    · have hm : l.getD i ((0, 0), (0, 0)) ∈ l := by
        rw [List.getD_eq_getElem?_getD, List.getElem?_eq_getElem (by omega)]
        exact List.getElem_mem _
      rw [if_pos (by rw [decide_eq_true_eq]; omega), if_pos (by omega), if_pos (by omega), f27_eqn hb (hr _ hm), Option.bind_some, Option.bind_some, Sum.elim_inl,
        show IntKind.wrap .i64 ((i : Int) + 1) = ((i + 1 : Nat) : Int) by rw [wrap_i64 (by omega)]; omega]
      have hd : l.drop i = l.getD i ((0, 0), (0, 0)) :: l.drop (i + 1) := by
        rw [List.getD_eq_getElem?_getD, List.getElem?_eq_getElem (by omega)]
        exact List.drop_eq_getElem_cons (by omega)
      rw [hd, List.foldl_cons]
      exact ih (i + 1) _ (up_rt hb (hr _ hm)) (by omega) (by omega)
    · rw [if_neg (by rw [decide_eq_true_eq]; omega), List.drop_of_length_le (by omega)]
      rfl
theorem f11_nil : f11 ([], ()) = some (0, 0, 0, 0, 0, 0, 0, 0, 8, ()) := by
  unfold f11
  rfl
theorem f11_no {l : List Pt} (hl : l.length ≤ 9223372036854775807) (h0 : l ≠ []) (h : ¬ ∀ p ∈ l, RtP p) : f11 (l, ()) = some (0, 0, 0, 0, 0, 0, 0, 0, 1, ()) := by
  unfold f11
  dsimp only
  have hlen : 0 < l.length := List.length_pos_iff.2 h0
  rw [if_neg (by rw [beq_iff_eq]; omega)]
  have g := l11_1_spec l hl Bx.zero 18446744073709551616 0 (by omega) (by omega) (fun j hj => by omega)
  have g' : loopN g11_1 o11_1 b11_1 18446744073709551616 (l, l, ((l.length : Nat) : Int), 0, 0, 0, 0, 0, 0, 0, 0, 0, ()) = _ := (g.resolve_left (fun hh => h hh.1)).2
  rw [show l11_1 = loopN g11_1 o11_1 b11_1 18446744073709551616 from rfl]
  generalize loopN g11_1 o11_1 b11_1 18446744073709551616 (l, l, ((l.length : Nat) : Int), 0, 0, 0, 0, 0, 0, 0, 0, 0, ()) = X at g' ⊢
  subst g'
  rfl
theorem getD_mem0 {l : List Pt} (h0 : l ≠ []) : l.getD 0 P0 ∈ l := by
  have hlen : 0 < l.length := List.length_pos_iff.2 h0
  rw [List.getD_eq_getElem?_getD, List.getElem?_eq_getElem hlen]
  exact List.getElem_mem _
theorem boxOf_rt {p : Pt} (h : RtP p) : (boxOf p).rt := ⟨h.1, h.2, h.1, h.2⟩
theorem f11_yes {l : List Pt} (hl : l.length ≤ 9223372036854775807) (h0 : l ≠ []) (h : ∀ p ∈ l, RtP p) : f11 (l, ()) = some ((ofL l).X0.1, (ofL l).X0.2, (ofL l).Y0.1, (ofL l).Y0.2, (ofL l).X1.1, (ofL l).X1.2, (ofL l).Y1.1, (ofL l).Y1.2, 0, ()) := by
  unfold f11
  dsimp only
  have hlen : 0 < l.length := List.length_pos_iff.2 h0
  rw [if_neg (by rw [beq_iff_eq]; omega)]
  have g := l11_1_spec l hl Bx.zero 18446744073709551616 0 (by omega) (by omega) (fun j hj => by omega)
  have g' : loopN g11_1 o11_1 b11_1 18446744073709551616 (l, l, ((l.length : Nat) : Int), 0, 0, 0, 0, 0, 0, 0, 0, 0, ()) = _ := (g.resolve_right (fun hh => hh.1 h)).2
  rw [show l11_1 = loopN g11_1 o11_1 b11_1 18446744073709551616 from rfl]
  generalize loopN g11_1 o11_1 b11_1 18446744073709551616 (l, l, ((l.length : Nat) : Int), 0, 0, 0, 0, 0, 0, 0, 0, 0, ()) = X at g' ⊢
  subst g'
  rw [Option.bind_some, Sum.elim_inl]
  dsimp only
  have hp : (0 : Int) < ((l.length : Nat) : Int) := by omega
  rw [if_pos hp, if_pos hp, if_pos hp, if_pos hp]
  have k := l11_2_spec l hl h Bx.zero 18446744073709551616 0 (boxOf (l.getD 0 P0)) (boxOf_rt (h _ (getD_mem0 h0))) (by omega) (by omega)
  rw [List.drop_zero] at k
  have k' : loopN g11_2 o11_2 b11_2 18446744073709551616 (l, ((l.length : Nat) : Int), 0, 0, 0, 0, 0, 0, 0, 0, 0, (l.getD 0 P0).1.1, (l.getD 0 P0).1.2, (l.getD 0 P0).2.1, (l.getD 0 P0).2.2, (l.getD 0 P0).1.1, (l.getD 0 P0).1.2, (l.getD 0 P0).2.1, (l.getD 0 P0).2.2, ()) = _ := k
  rw [show l11_2 = loopN g11_2 o11_2 b11_2 18446744073709551616 from rfl]
  show Option.bind (loopN g11_2 o11_2 b11_2 18446744073709551616 (l, ((l.length : Nat) : Int), 0, 0, 0, 0, 0, 0, 0, 0, 0, (l.getD 0 P0).1.1, (l.getD 0 P0).1.2, (l.getD 0 P0).2.1, (l.getD 0 P0).2.2, (l.getD 0 P0).1.1, (l.getD 0 P0).1.2, (l.getD 0 P0).2.1, (l.getD 0 P0).2.2, ())) _ = _
  generalize loopN g11_2 o11_2 b11_2 18446744073709551616 (l, ((l.length : Nat) : Int), 0, 0, 0, 0, 0, 0, 0, 0, 0, (l.getD 0 P0).1.1, (l.getD 0 P0).1.2, (l.getD 0 P0).2.1, (l.getD 0 P0).2.2, (l.getD 0 P0).1.1, (l.getD 0 P0).1.2, (l.getD 0 P0).2.1, (l.getD 0 P0).2.2, ()) = X at k' ⊢
  subst k'
  rfl

/-! ## What lies in it -/
theorem fold_in : ∀ (l : List Pt) (b : Bx), (vD (l.foldl up b).X0 ≤ vD b.X0 ∧ vD b.X1 ≤ vD (l.foldl up b).X1 ∧ vD (l.foldl up b).Y0 ≤ vD b.Y0 ∧ vD b.Y1 ≤ vD (l.foldl up b).Y1) ∧ ∀ p ∈ l, inB (l.foldl up b) p
  | [], b => ⟨⟨Int.le_refl _, Int.le_refl _, Int.le_refl _, Int.le_refl _⟩, fun p hp => by cases hp⟩
  | q :: l, b => by
    obtain ⟨⟨h1, h2, h3, h4⟩, h5⟩ := fold_in l (up b q)
    obtain ⟨u1, u2, u3, u4⟩ := up_v b q
    rw [List.foldl_cons]
    refine ⟨⟨by omega, by omega, by omega, by omega⟩, fun p hp => ?_⟩
    rcases List.mem_cons.1 hp with e | e
    · rw [e]; exact ⟨by omega, by omega, by omega, by omega⟩
    · exact h5 p e
theorem fold_edge : ∀ (l : List Pt) (b : Bx), ((l.foldl up b).X0 = b.X0 ∨ ∃ p ∈ l, p.1 = (l.foldl up b).X0) ∧ ((l.foldl up b).Y1 = b.Y1 ∨ ∃ p ∈ l, p.2 = (l.foldl up b).Y1)
  | [], b => ⟨.inl rfl, .inl rfl⟩
  | q :: l, b => by
    obtain ⟨h1, h2⟩ := fold_edge l (up b q)
    rw [List.foldl_cons]
    refine ⟨?_, ?_⟩
    · rcases h1 with h1 | ⟨p, hp, h1⟩
      · rw [h1]
        show lo b.X0 q.1 = b.X0 ∨ ∃ p ∈ q :: l, p.1 = lo b.X0 q.1
        unfold lo
        split
        · exact .inr ⟨q, List.mem_cons_self .., rfl⟩
        · exact .inl rfl
      · exact .inr ⟨p, List.mem_cons_of_mem _ hp, h1⟩
    · rcases h2 with h2 | ⟨p, hp, h2⟩
      · rw [h2]
        show hi b.Y1 q.2 = b.Y1 ∨ ∃ p ∈ q :: l, p.2 = hi b.Y1 q.2
        unfold hi
        split
        · exact .inr ⟨q, List.mem_cons_self .., rfl⟩
        · exact .inl rfl
      · exact .inr ⟨p, List.mem_cons_of_mem _ hp, h2⟩
theorem ofL_in {l : List Pt} : ∀ p ∈ l, inB (ofL l) p := (fold_in l _).2
theorem ofL_edge {l : List Pt} (h0 : l ≠ []) : (∃ p ∈ l, p.1 = (ofL l).X0) ∧ ∃ p ∈ l, p.2 = (ofL l).Y1 := by
  obtain ⟨h1, h2⟩ := fold_edge l (boxOf (l.getD 0 P0))
  refine ⟨?_, ?_⟩
  · rcases h1 with h1 | h1
    · exact ⟨_, getD_mem0 h0, h1.symm⟩
    · exact h1
  · rcases h2 with h2 | h2
    · exact ⟨_, getD_mem0 h0, h2.symm⟩
    · exact h2
theorem ofL_ok {l : List Pt} (h0 : l ≠ []) (h : ∀ p ∈ l, RtP p) : (ofL l).ok := by
  have hi := ofL_in _ (getD_mem0 h0)
  obtain ⟨h1, h2, h3, h4⟩ := hi
  exact ⟨fold_rt (boxOf_rt (h _ (getD_mem0 h0))) h, by omega, by omega⟩
theorem ofL_one (p : Pt) : ofL [p] = boxOf p := by
  unfold ofL boxOf up lo hi
  simp
theorem boxOf_ok {p : Pt} (h : RtP p) : (boxOf p).ok := ⟨boxOf_rt h, Int.le_refl _, Int.le_refl _⟩
theorem both_in {b : Bx} {p : Pt} (hb : b.ok) (hp : RtP p) (h : inB b p) : both b (boxOf p) = b := by
  obtain ⟨x1, x2, x3, x4⟩ := both_v (a := b) (boxOf_ok hp)
  obtain ⟨h1, h2, h3, h4⟩ := h
  have e1 : vD (boxOf p).X0 = vD p.1 := rfl
  have e2 : vD (boxOf p).Y0 = vD p.2 := rfl
  have e3 : vD (boxOf p).X1 = vD p.1 := rfl
  have e4 : vD (boxOf p).Y1 = vD p.2 := rfl
  exact Bx.ext (both_ok hb (boxOf_ok hp)).1 hb.1 (by omega) (by omega) (by omega) (by omega)
end Go.Ev.Box
namespace Go.Ev.Box
open Go.Ev.Dec

/-! # What boxes are mapped to -/
def img (m : Mt) (p : Pt) : Pt := ((mapM m p.1 p.2).1, (mapM m p.1 p.2).2.1)
def okM (m : Mt) (p : Pt) : Prop := (mapM m p.1 p.2).2.2 = 0
theorem l16_1_spec (l : List Pt) (hl : l.length = 4) (m : Mt) (c : Bx) : ∀ (k i : Nat) (to : List Pt), to.length = 4 → 4 < i + k → i ≤ 4 →
    (∃ e : Int, e ≠ 0 ∧ (∃ p ∈ l, e = (mapM m p.1 p.2).2.2) ∧ loopN g16_1 o16_1 b16_1 k (l, (i : Int), m.A.1, m.A.2, m.B.1, m.B.2, m.C.1, m.C.2, m.D.1, m.D.2, m.E.1, m.E.2, m.F.1, m.F.2, c.X0.1, c.X0.2, c.Y0.1, c.Y0.2, c.X1.1, c.X1.2, c.Y1.1, c.Y1.2, to, ()) = some (.inr (.inl (e, 0, 0, 0, 0, 0, 0, 0, 0, ())))) ∨
    ((∀ j, i ≤ j → j < 4 → okM m (l.getD j P0)) ∧ loopN g16_1 o16_1 b16_1 k (l, (i : Int), m.A.1, m.A.2, m.B.1, m.B.2, m.C.1, m.C.2, m.D.1, m.D.2, m.E.1, m.E.2, m.F.1, m.F.2, c.X0.1, c.X0.2, c.Y0.1, c.Y0.2, c.X1.1, c.X1.2, c.Y1.1, c.Y1.2, to, ()) = some (.inl (c.X0.1, c.X0.2, c.Y0.1, c.Y0.2, c.X1.1, c.X1.2, c.Y1.1, c.Y1.2, to.take i ++ (l.drop i).map (img m), ()))) := by
  intro k
  induction k with
  | zero => intro i to ht h1 h2; omega
  | succ k ih =>
    intro i to ht h1 h2
    rw [loopN_succ]
    generalize hL : loopN g16_1 o16_1 b16_1 k = L at ih ⊢
    unfold b16_1
    dsimp only
    rw [Int.toNat_natCast]
    rcases Nat.lt_or_ge i 4 with h | h
    · have e19 : f19 (m.A.1, m.A.2, m.B.1, m.B.2, m.C.1, m.C.2, m.D.1, m.D.2, m.E.1, m.E.2, m.F.1, m.F.2, (l.getD i ((0, 0), (0, 0))).1.1, (l.getD i ((0, 0), (0, 0))).1.2, (l.getD i ((0, 0), (0, 0))).2.1, (l.getD i ((0, 0), (0, 0))).2.2, ()) = _ := f19_eqn m (l.getD i P0).1 (l.getD i P0).2
      rw [if_pos (by rw [decide_eq_true_eq]; omega), if_pos (by omega), if_pos (by omega), e19, Option.bind_some]
      dsimp only
      by_cases ho : okM m (l.getD i P0)
      · have ho' : (mapM m (l.getD i P0).1 (l.getD i P0).2).2.2 = 0 := ho
        rw [if_neg (by rw [bne_iff_ne]; exact fun hh => hh ho'), if_pos (by omega), if_pos (by omega), if_pos (by rw [List.length_set]), Option.bind_some, Sum.elim_inl,
          show IntKind.wrap .i64 ((i : Int) + 1) = ((i + 1 : Nat) : Int) by rw [wrap_i64 (by omega)]; omega, Nat.zero_add]
        have hs : (to.set i (img m (l.getD i P0))).take (i + 1) ++ (l.drop (i + 1)).map (img m) = to.take i ++ (l.drop i).map (img m) := by
          have hd : l.drop i = l.getD i P0 :: l.drop (i + 1) := by
            rw [List.getD_eq_getElem?_getD, List.getElem?_eq_getElem (by omega)]
            exact List.drop_eq_getElem_cons (by omega)
          rw [hd, List.map_cons, List.take_add_one, List.getElem?_set_self (by omega), List.take_set_of_le (Nat.le_refl i)]
          simp
        rcases ih (i + 1) (to.set i (img m (l.getD i P0))) (by rw [List.length_set]; exact ht) (by omega) (by omega) with h5 | ⟨h5, h6⟩
        · exact .inl h5
        · refine .inr ⟨fun j hj1 hj2 => ?_, ?_⟩
          · by_cases e : j = i
            · rw [e]; exact ho
            · exact h5 j (by omega) hj2
          · rw [hs] at h6; exact h6
      · have ho' : ¬ (mapM m (l.getD i P0).1 (l.getD i P0).2).2.2 = 0 := ho
        rw [if_pos (by rw [bne_iff_ne]; exact ho')]
        refine .inl ⟨_, ho', ⟨_, ?_, rfl⟩, rfl⟩
        rw [List.getD_eq_getElem?_getD, List.getElem?_eq_getElem (by omega)]
        exact List.getElem_mem _
    · rw [if_neg (by rw [decide_eq_true_eq]; omega), if_pos rfl]
      refine .inr ⟨fun j hj1 hj2 => by omega, ?_⟩
      rw [List.drop_of_length_le (by omega), List.map_nil, List.append_nil, List.take_of_length_le (by omega)]
      rfl

theorem mapM_img {m : Mt} {p : Pt} (h : okM m p) : RtP (img m p) ∧ vD (img m p).1 * 1000000000 = vD m.A * vD p.1 + vD m.C * vD p.2 + vD m.E * 1000000000 ∧ vD (img m p).2 * 1000000000 = vD m.B * vD p.1 + vD m.D * vD p.2 + vD m.F * 1000000000 := by
  obtain ⟨_, _, _, r1, r2, v1, v2⟩ := mapM_ok h
  exact ⟨⟨r1, r2⟩, v1, v2⟩
theorem f16_eqn {m : Mt} {b : Bx} (hm : m.ok) (hb : b.ok) : (∃ e : Int, e ≠ 0 ∧ (∃ p ∈ corn b, e = (mapM m p.1 p.2).2.2) ∧ f16 (m.A.1, m.A.2, m.B.1, m.B.2, m.C.1, m.C.2, m.D.1, m.D.2, m.E.1, m.E.2, m.F.1, m.F.2, b.X0.1, b.X0.2, b.Y0.1, b.Y0.2, b.X1.1, b.X1.2, b.Y1.1, b.Y1.2, ()) = some (0, 0, 0, 0, 0, 0, 0, 0, e, ())) ∨
    ((∀ p ∈ corn b, okM m p) ∧ f16 (m.A.1, m.A.2, m.B.1, m.B.2, m.C.1, m.C.2, m.D.1, m.D.2, m.E.1, m.E.2, m.F.1, m.F.2, b.X0.1, b.X0.2, b.Y0.1, b.Y0.2, b.X1.1, b.X1.2, b.Y1.1, b.Y1.2, ()) = some ((ofL ((corn b).map (img m))).X0.1, (ofL ((corn b).map (img m))).X0.2, (ofL ((corn b).map (img m))).Y0.1, (ofL ((corn b).map (img m))).Y0.2, (ofL ((corn b).map (img m))).X1.1, (ofL ((corn b).map (img m))).X1.2, (ofL ((corn b).map (img m))).Y1.1, (ofL ((corn b).map (img m))).Y1.2, 0, ())) := by
  unfold f16
  dsimp only
  rw [f33_eqn, Option.bind_some]
  dsimp only
  rw [if_pos hm, if_neg (by decide), f9_eqn, Option.bind_some]
  dsimp only
  rw [if_pos hb, if_neg (by decide), f22_eqn, Option.bind_some]
  dsimp only
  rw [if_neg (show ¬ (min (List.length (List.take 4 (List.drop 0 (corn b)))) 4 = 0) by unfold corn; simp)]
  have e : List.take 0 (List.replicate 4 (((0 : Int), (0 : Int)), ((0 : Int), (0 : Int)))) ++ (List.take (min (List.length (List.take 4 (List.drop 0 (corn b)))) 4) (List.take 4 (List.drop 0 (corn b))) ++ List.drop (0 + min (List.length (List.take 4 (List.drop 0 (corn b)))) 4) (List.replicate 4 (((0 : Int), (0 : Int)), ((0 : Int), (0 : Int))))) = corn b := rfl
  rw [e, if_pos (show 4 = (corn b).length from rfl)]
  have g := l16_1_spec (corn b) rfl m Bx.zero 18446744073709551616 0 (corn b) rfl (by omega) (by omega)
  have g' : (∃ e : Int, e ≠ 0 ∧ (∃ p ∈ corn b, e = (mapM m p.1 p.2).2.2) ∧ loopN g16_1 o16_1 b16_1 18446744073709551616 (corn b, 0, m.A.1, m.A.2, m.B.1, m.B.2, m.C.1, m.C.2, m.D.1, m.D.2, m.E.1, m.E.2, m.F.1, m.F.2, 0, 0, 0, 0, 0, 0, 0, 0, corn b, ()) = some (.inr (.inl (e, 0, 0, 0, 0, 0, 0, 0, 0, ())))) ∨
    ((∀ j, 0 ≤ j → j < 4 → okM m ((corn b).getD j P0)) ∧ loopN g16_1 o16_1 b16_1 18446744073709551616 (corn b, 0, m.A.1, m.A.2, m.B.1, m.B.2, m.C.1, m.C.2, m.D.1, m.D.2, m.E.1, m.E.2, m.F.1, m.F.2, 0, 0, 0, 0, 0, 0, 0, 0, corn b, ()) = some (.inl (0, 0, 0, 0, 0, 0, 0, 0, (corn b).map (img m), ()))) := g
  rw [show l16_1 = loopN g16_1 o16_1 b16_1 18446744073709551616 from rfl]
  generalize loopN g16_1 o16_1 b16_1 18446744073709551616 (corn b, 0, m.A.1, m.A.2, m.B.1, m.B.2, m.C.1, m.C.2, m.D.1, m.D.2, m.E.1, m.E.2, m.F.1, m.F.2, 0, 0, 0, 0, 0, 0, 0, 0, corn b, ()) = X at g' ⊢
  rcases g' with ⟨e, h1, h3, h2⟩ | ⟨h1, h2⟩
  · subst h2
    exact .inl ⟨e, h1, h3, rfl⟩
  · subst h2
    have hall : ∀ p ∈ corn b, okM m p := fun p hp => by
      obtain ⟨j, hj, rfl⟩ := List.mem_iff_getElem.1 hp
      have hj4 : j < 4 := hj
      have := h1 j (by omega) hj4
      rw [List.getD_eq_getElem?_getD, List.getElem?_eq_getElem hj] at this
      exact this
    refine .inr ⟨hall, ?_⟩
    rw [Option.bind_some, Sum.elim_inl]
    dsimp only
    rw [List.drop_zero, List.take_length, f11_yes (by unfold corn; simp) (by unfold corn; simp) (fun q hq => by
      obtain ⟨p, hp, rfl⟩ := List.mem_map.1 hq
      exact (mapM_img (hall p hp)).1)]
    rfl

/-- What lies between two is mapped between. -/
theorem between (a x x0 x1 : Int) (h0 : x0 ≤ x) (h1 : x ≤ x1) : (a * x0 ≤ a * x ∧ a * x ≤ a * x1) ∨ (a * x1 ≤ a * x ∧ a * x ≤ a * x0) := by
  rcases Int.le_total 0 a with h | h
  · exact .inl ⟨Int.mul_le_mul_of_nonneg_left h0 h, Int.mul_le_mul_of_nonneg_left h1 h⟩
  · exact .inr ⟨Int.mul_le_mul_of_nonpos_left h h1, Int.mul_le_mul_of_nonpos_left h h0⟩
theorem between2 {K A C E x y x0 x1 y0 y1 v v00 v10 v01 v11 L H : Int} (hK : 0 < K) (hx0 : x0 ≤ x) (hx1 : x ≤ x1) (hy0 : y0 ≤ y) (hy1 : y ≤ y1) (hv : v * K = A * x + C * y + E) (h00 : v00 * K = A * x0 + C * y0 + E) (h10 : v10 * K = A * x1 + C * y0 + E)
    (h01 : v01 * K = A * x0 + C * y1 + E) (h11 : v11 * K = A * x1 + C * y1 + E) (l0 : L ≤ v00) (l1 : L ≤ v10) (l2 : L ≤ v01) (l3 : L ≤ v11) (u0 : v00 ≤ H) (u1 : v10 ≤ H) (u2 : v01 ≤ H) (u3 : v11 ≤ H) : L ≤ v ∧ v ≤ H := by
  have ba := between A x x0 x1 hx0 hx1
  have bc := between C y y0 y1 hy0 hy1
  have m : ∀ a b : Int, a ≤ b → a * K ≤ b * K := fun a b h => Int.mul_le_mul_of_nonneg_right h (Int.le_of_lt hK)
  have m0 := m _ _ l0; have m1 := m _ _ l1; have m2 := m _ _ l2; have m3 := m _ _ l3
  have n0 := m _ _ u0; have n1 := m _ _ u1; have n2 := m _ _ u2; have n3 := m _ _ u3
  rw [h00] at m0 n0; rw [h10] at m1 n1; rw [h01] at m2 n2; rw [h11] at m3 n3
  have k1 : L * K ≤ v * K := by rw [hv]; omega
  have k2 : v * K ≤ H * K := by rw [hv]; omega
  exact ⟨Int.le_of_mul_le_mul_right k1 hK, Int.le_of_mul_le_mul_right k2 hK⟩
theorem image_in {m : Mt} {b : Bx} {p : Pt} (hall : ∀ q ∈ corn b, okM m q) (hp : okM m p) (hi : inB b p) : inB (ofL ((corn b).map (img m))) (img m p) := by
  have c00 : (b.X0, b.Y0) ∈ corn b := by unfold corn; simp
  have c10 : (b.X1, b.Y0) ∈ corn b := by unfold corn; simp
  have c01 : (b.X0, b.Y1) ∈ corn b := by unfold corn; simp
  have c11 : (b.X1, b.Y1) ∈ corn b := by unfold corn; simp
  have i00 := ofL_in _ (List.mem_map_of_mem (f := img m) c00)
  have i10 := ofL_in _ (List.mem_map_of_mem (f := img m) c10)
  have i01 := ofL_in _ (List.mem_map_of_mem (f := img m) c01)
  have i11 := ofL_in _ (List.mem_map_of_mem (f := img m) c11)
  obtain ⟨_, a00, d00⟩ := mapM_img (hall _ c00)
  obtain ⟨_, a10, d10⟩ := mapM_img (hall _ c10)
  obtain ⟨_, a01, d01⟩ := mapM_img (hall _ c01)
  obtain ⟨_, a11, d11⟩ := mapM_img (hall _ c11)
  obtain ⟨_, a, d⟩ := mapM_img hp
  obtain ⟨x0, x1, y0, y1⟩ := hi
  generalize ofL ((corn b).map (img m)) = c at *
  have r1 := between2 (by decide) x0 x1 y0 y1 a a00 a10 a01 a11 i00.1 i10.1 i01.1 i11.1 i00.2.1 i10.2.1 i01.2.1 i11.2.1
  have r2 := between2 (by decide) x0 x1 y0 y1 d d00 d10 d01 d11 i00.2.2.1 i10.2.2.1 i01.2.2.1 i11.2.2.1 i00.2.2.2 i10.2.2.2 i01.2.2.2 i11.2.2.2
  exact ⟨r1.1, r1.2, r2.1, r2.2⟩
end Go.Ev.Box
namespace Go.Ev.Box
open Go.Ev.Dec

def eqD (a b : Int × Int) : Bool := allEq (((a.1, b.1) :: []) ++ (((a.2, b.2) :: []) ++ []))
theorem eqD_self (a : Int × Int) : eqD a a = true := by simp [eqD, allEq]
theorem b6_2_eqn (l : List Pt) (f : Int) (le up : Bool) (i : Nat) (m : Mt) (b c : Bx) (hi : i < l.length) : b6_2 (l, f, le, up, (i : Int), m.A.1, m.A.2, m.B.1, m.B.2, m.C.1, m.C.2, m.D.1, m.D.2, m.E.1, m.E.2, m.F.1, m.F.2, b.X0.1, b.X0.2, b.Y0.1, b.Y0.2, b.X1.1, b.X1.2, b.Y1.1, b.Y1.2, c.X0.1, c.X0.2, c.Y0.1, c.Y0.2, c.X1.1, c.X1.2, c.Y1.1, c.Y1.2, ()) = some (.inl (l, f, (le || eqD (l.getD i P0).1 b.X0), up, (i : Int), m.A.1, m.A.2, m.B.1, m.B.2, m.C.1, m.C.2, m.D.1, m.D.2, m.E.1, m.E.2, m.F.1, m.F.2, b.X0.1, b.X0.2, b.Y0.1, b.Y0.2, b.X1.1, b.X1.2, b.Y1.1, b.Y1.2, c.X0.1, c.X0.2, c.Y0.1, c.Y0.2, c.X1.1, c.X1.2, c.Y1.1, c.Y1.2, ())) := by
  unfold b6_2
  dsimp only
  cases le with
  | true => rw [if_pos rfl]; rfl
  | false =>
    rw [if_neg (by decide), if_pos (by omega), if_pos (by omega), Int.toNat_natCast]
    rfl
theorem b6_3_eqn (l : List Pt) (f : Int) (le up : Bool) (i : Nat) (m : Mt) (b c : Bx) (hi : i < l.length) : b6_3 (l, f, le, up, (i : Int), m.A.1, m.A.2, m.B.1, m.B.2, m.C.1, m.C.2, m.D.1, m.D.2, m.E.1, m.E.2, m.F.1, m.F.2, b.X0.1, b.X0.2, b.Y0.1, b.Y0.2, b.X1.1, b.X1.2, b.Y1.1, b.Y1.2, c.X0.1, c.X0.2, c.Y0.1, c.Y0.2, c.X1.1, c.X1.2, c.Y1.1, c.Y1.2, ()) = some (.inl (l, f, le, (up || eqD (l.getD i P0).2 b.Y1), (i : Int), m.A.1, m.A.2, m.B.1, m.B.2, m.C.1, m.C.2, m.D.1, m.D.2, m.E.1, m.E.2, m.F.1, m.F.2, b.X0.1, b.X0.2, b.Y0.1, b.Y0.2, b.X1.1, b.X1.2, b.Y1.1, b.Y1.2, c.X0.1, c.X0.2, c.Y0.1, c.Y0.2, c.X1.1, c.X1.2, c.Y1.1, c.Y1.2, ())) := by
  unfold b6_3
  dsimp only
  cases up with
  | true => rw [if_pos rfl]; rfl
  | false =>
    rw [if_neg (by decide), if_pos (by omega), if_pos (by omega), Int.toNat_natCast]
    rfl

theorem allEq_box' {a b : Bx} (h : a = b) : allEq (((((a.X0.1, b.X0.1) :: []) ++ (((a.X0.2, b.X0.2) :: []) ++ [])) ++ ((((a.Y0.1, b.Y0.1) :: []) ++ (((a.Y0.2, b.Y0.2) :: []) ++ [])) ++ ((((a.X1.1, b.X1.1) :: []) ++ (((a.X1.2, b.X1.2) :: []) ++ [])) ++ ((((a.Y1.1, b.Y1.1) :: []) ++ (((a.Y1.2, b.Y1.2) :: []) ++ [])) ++ []))))) = true := by
  subst h
  simp [allEq]
theorem l6_1_spec (l : List Pt) (hl : l.length ≤ 50) (hr : ∀ p ∈ l, RtP p) (m : Mt) (c : Bx) (f : Int) (hf : f = 0 → (∀ q ∈ corn (ofL l), okM m q) ∧ c = ofL ((corn (ofL l)).map (img m))) : ∀ (k i : Nat) (le up : Bool), l.length < i + k → i ≤ l.length →
    loopN g6_1 o6_1 b6_1 k (l, f, le, up, (i : Int), m.A.1, m.A.2, m.B.1, m.B.2, m.C.1, m.C.2, m.D.1, m.D.2, m.E.1, m.E.2, m.F.1, m.F.2, (ofL l).X0.1, (ofL l).X0.2, (ofL l).Y0.1, (ofL l).Y0.2, (ofL l).X1.1, (ofL l).X1.2, (ofL l).Y1.1, (ofL l).Y1.2, c.X0.1, c.X0.2, c.Y0.1, c.Y0.2, c.X1.1, c.X1.2, c.Y1.1, c.Y1.2, ()) = some (.inl ((le || (l.drop i).any fun p => eqD p.1 (ofL l).X0), (up || (l.drop i).any fun p => eqD p.2 (ofL l).Y1), ())) := by
  intro k
  induction k with
  | zero => intro i le up h1 h2; omega
  | succ k ih =>
    intro i le up h1 h2
    rw [loopN_succ]
    generalize hL : loopN g6_1 o6_1 b6_1 k = L at ih ⊢
    unfold b6_1
    dsimp only
    rw [Int.toNat_natCast, show IntKind.wrap .i64 ((i : Int) + 1) = ((i + 1 : Nat) : Int) by rw [wrap_i64 (by omega)]; omega, Int.toNat_natCast]
    rcases Nat.lt_or_ge i l.length with h | h
    · have h0 : l ≠ [] := fun e => by rw [e] at h; exact absurd h (Nat.not_lt_zero _)
      have hm : l.getD i P0 ∈ l := by
        rw [List.getD_eq_getElem?_getD, List.getElem?_eq_getElem h]
        exact List.getElem_mem _
      have hd : l.drop i = l.getD i P0 :: l.drop (i + 1) := by
        rw [List.getD_eq_getElem?_getD, List.getElem?_eq_getElem h]
        exact List.drop_eq_getElem_cons h
      have hs : List.drop i (List.take (i + 1) l) = [l.getD i P0] := by
        rw [List.drop_take, show i + 1 - i = 1 by omega, hd]; rfl
      have hp := hr _ hm
      have hb := ofL_ok h0 hr
      have hin := ofL_in _ hm
      rw [if_pos (by rw [decide_eq_true_eq]; omega), if_pos (by omega), if_pos (by omega), if_pos (by omega), if_pos (by omega), hs,
        f11_yes (by simp) (by simp) (fun q hq => by rw [List.mem_singleton.1 hq]; exact hp), ofL_one, Option.bind_some]
      dsimp only
      rw [f14_yes hb (boxOf_ok hp), both_in hb hp hin, Option.bind_some]
      dsimp only
      have nn : ¬ (((0 : Int) != 0) = true) := by decide
      rw [if_neg nn, if_neg nn, if_neg (by rw [allEq_box' rfl]; decide), b6_2_eqn _ _ _ _ _ _ _ _ h, Option.bind_some, Sum.elim_inl]
      dsimp only
      rw [b6_3_eqn _ _ _ _ _ _ _ _ h, Option.bind_some, Sum.elim_inl]
      dsimp only
      rw [if_pos (by omega), if_pos (by omega), Int.toNat_natCast, show IntKind.wrap .i64 ((i : Int) + 1) = ((i + 1 : Nat) : Int) by rw [wrap_i64 (by omega)]; omega]
      have e19 : f19 (m.A.1, m.A.2, m.B.1, m.B.2, m.C.1, m.C.2, m.D.1, m.D.2, m.E.1, m.E.2, m.F.1, m.F.2, (l.getD i ((0, 0), (0, 0))).1.1, (l.getD i ((0, 0), (0, 0))).1.2, (l.getD i ((0, 0), (0, 0))).2.1, (l.getD i ((0, 0), (0, 0))).2.2, ()) = _ := f19_eqn m (l.getD i P0).1 (l.getD i P0).2
      rw [e19, Option.bind_some]
      dsimp only
      have hI := ih (i + 1) (le || eqD (l.getD i P0).1 (ofL l).X0) (up || eqD (l.getD i P0).2 (ofL l).Y1) (by omega) (by omega)
      rw [hd, List.any_cons, List.any_cons, ← Bool.or_assoc, ← Bool.or_assoc]
      by_cases c1 : f = 0
      · rw [if_neg (by rw [bne_iff_ne]; exact fun hh => hh c1)]
        obtain ⟨hall, hc⟩ := hf c1
        by_cases c2 : okM m (l.getD i P0)
        · have c2' : (mapM m (l.getD i P0).1 (l.getD i P0).2).2.2 = 0 := c2
          rw [if_neg (by rw [bne_iff_ne]; exact fun hh => hh c2')]
          have e1 : List.take 1 (List.drop 0 (List.set (List.replicate 1 (((0 : Int), (0 : Int)), ((0 : Int), (0 : Int)))) 0 (((mapM m (l.getD i P0).1 (l.getD i P0).2).1.1, (mapM m (l.getD i P0).1 (l.getD i P0).2).1.2), ((mapM m (l.getD i P0).1 (l.getD i P0).2).2.1.1, (mapM m (l.getD i P0).1 (l.getD i P0).2).2.1.2)))) = [img m (l.getD i P0)] := rfl
          obtain ⟨hp2, _, _⟩ := mapM_img c2
          rw [e1, f11_yes (by simp) (by simp) (fun q hq => by rw [List.mem_singleton.1 hq]; exact hp2), ofL_one, Option.bind_some]
          dsimp only
          have hcne : (corn (ofL l)).map (img m) ≠ [] := by unfold corn; simp
          have hcok : c.ok := by
            rw [hc]
            exact ofL_ok hcne (fun q hq => by
              obtain ⟨p, hp, rfl⟩ := List.mem_map.1 hq
              exact (mapM_img (hall p hp)).1)
          have hin2 : inB c (img m (l.getD i P0)) := by rw [hc]; exact image_in hall c2 hin
          rw [f14_yes hcok (boxOf_ok hp2), both_in hcok hp2 hin2, Option.bind_some]
          dsimp only
          rw [if_neg nn, if_neg nn, if_neg (by rw [allEq_box' rfl]; decide), Option.bind_some, Sum.elim_inl]
          exact hI
        · have c2' : ¬ (mapM m (l.getD i P0).1 (l.getD i P0).2).2.2 = 0 := c2
          rw [if_pos (by rw [bne_iff_ne]; exact c2'), Option.bind_some, Sum.elim_inl]
          exact hI
      · rw [if_pos (by rw [bne_iff_ne]; exact c1), Option.bind_some, Sum.elim_inl]
        exact hI
    · rw [if_neg (by rw [decide_eq_true_eq]; omega), List.drop_of_length_le (by omega), List.any_nil, List.any_nil, Bool.or_false, Bool.or_false]
      rfl

theorem boxHolds_pure (m : Mt) (l : List Pt) (hl : l.length ≤ 9223372036854775807) : f6 (m.A.1, m.A.2, m.B.1, m.B.2, m.C.1, m.C.2, m.D.1, m.D.2, m.E.1, m.E.2, m.F.1, m.F.2, l, ()) = some (true, ()) := by
  unfold f6
  dsimp only
  by_cases h0 : l = []
  · subst h0
    rw [f11_nil, Option.bind_some]
    dsimp only
    rw [if_neg (by simp), if_pos (by decide), awake_true]
    rfl
  · by_cases hr : ∀ p ∈ l, RtP p
    · rw [f11_yes hl h0 hr, Option.bind_some]
      dsimp only
      by_cases h50 : l.length ≤ 50
      · rw [if_neg (by rw [decide_eq_true_eq]; omega), if_neg (by decide)]
        have key : ∃ (f : Int) (c : Bx), f16 (m.A.1, m.A.2, m.B.1, m.B.2, m.C.1, m.C.2, m.D.1, m.D.2, m.E.1, m.E.2, m.F.1, m.F.2, (ofL l).X0.1, (ofL l).X0.2, (ofL l).Y0.1, (ofL l).Y0.2, (ofL l).X1.1, (ofL l).X1.2, (ofL l).Y1.1, (ofL l).Y1.2, ()) = some (c.X0.1, c.X0.2, c.Y0.1, c.Y0.2, c.X1.1, c.X1.2, c.Y1.1, c.Y1.2, f, ()) ∧ (f = 0 → (∀ q ∈ corn (ofL l), okM m q) ∧ c = ofL ((corn (ofL l)).map (img m))) := by
          by_cases hm : m.ok
          · rcases f16_eqn hm (ofL_ok h0 hr) with ⟨e, h1, _, h2⟩ | ⟨h1, h2⟩
            · exact ⟨e, Bx.zero, h2, fun h => absurd h h1⟩
            · exact ⟨0, _, h2, fun _ => ⟨h1, rfl⟩⟩
          · refine ⟨1, Bx.zero, ?_, fun h => by cases h⟩
            unfold f16
            dsimp only
            rw [f33_eqn, Option.bind_some]
            dsimp only
            rw [if_neg hm, if_pos (by decide)]
            rfl
        obtain ⟨f, c, h1, h2⟩ := key
        rw [h1, Option.bind_some]
        dsimp only
        have g := l6_1_spec l h50 hr m c f h2 18446744073709551616 0 false false (by omega) (by omega)
        have g' : loopN g6_1 o6_1 b6_1 18446744073709551616 (l, f, false, false, 0, m.A.1, m.A.2, m.B.1, m.B.2, m.C.1, m.C.2, m.D.1, m.D.2, m.E.1, m.E.2, m.F.1, m.F.2, (ofL l).X0.1, (ofL l).X0.2, (ofL l).Y0.1, (ofL l).Y0.2, (ofL l).X1.1, (ofL l).X1.2, (ofL l).Y1.1, (ofL l).Y1.2, c.X0.1, c.X0.2, c.Y0.1, c.Y0.2, c.X1.1, c.X1.2, c.Y1.1, c.Y1.2, ()) = _ := g
        rw [show l6_1 = loopN g6_1 o6_1 b6_1 18446744073709551616 from rfl]
        generalize loopN g6_1 o6_1 b6_1 18446744073709551616 (l, f, false, false, 0, m.A.1, m.A.2, m.B.1, m.B.2, m.C.1, m.C.2, m.D.1, m.D.2, m.E.1, m.E.2, m.F.1, m.F.2, (ofL l).X0.1, (ofL l).X0.2, (ofL l).Y0.1, (ofL l).Y0.2, (ofL l).X1.1, (ofL l).X1.2, (ofL l).Y1.1, (ofL l).Y1.2, c.X0.1, c.X0.2, c.Y0.1, c.Y0.2, c.X1.1, c.X1.2, c.Y1.1, c.Y1.2, ()) = X at g' ⊢
        subst g'
        rw [Option.bind_some, Sum.elim_inl]
        dsimp only
        rw [awake_true, Option.bind_some]
        dsimp only
        obtain ⟨⟨p, hp, e1⟩, ⟨q, hq, e2⟩⟩ := ofL_edge h0
        have a1 : (l.drop 0).any (fun p => eqD p.1 (ofL l).X0) = true := by
          rw [List.drop_zero, List.any_eq_true]
          exact ⟨p, hp, by rw [e1]; exact eqD_self _⟩
        have a2 : (l.drop 0).any (fun p => eqD p.2 (ofL l).Y1) = true := by
          rw [List.drop_zero, List.any_eq_true]
          exact ⟨q, hq, by rw [e2]; exact eqD_self _⟩
        rw [a1, a2]
        rfl
      · rw [if_pos (by rw [decide_eq_true_eq]; omega), awake_true]
        rfl
    · rw [f11_no hl h0 hr, Option.bind_some]
      dsimp only
      by_cases h50 : l.length ≤ 50
      · rw [if_neg (by rw [decide_eq_true_eq]; omega), if_pos (by decide), awake_true]
        rfl
      · rw [if_pos (by rw [decide_eq_true_eq]; omega), awake_true]
        rfl
end Go.Ev.Box
namespace Go.Ev.Box
open Go.Ev.Dec

/-! # The reference's boxes -/
theorem f42_eqn {a b : Int × Int} (ha : RtD a) (hb : RtD b) : f42 (a.1, a.2, b.1, b.2, ()) = some (cmpD a b, 0, ()) := by
  have h1 : Rt a.1 a.2 := ha
  have h2 : Rt b.1 b.2 := hb
  have b3 := h1.2.2.1; have b4 := h1.2.2.2.1
  have c3 := h2.2.2.1; have c4 := h2.2.2.2.1
  unfold f42
  dsimp only
  rw [f28_eqn, Option.bind_some]
  dsimp only
  rw [if_neg (by rw [decide_eq_true h1]; decide), f28_eqn, Option.bind_some]
  dsimp only
  rw [if_neg (by rw [decide_eq_true h2]; decide)]
  obtain ⟨A, g1, g2, g3, g4⟩ := f52_eqn (m := a.1) (s := a.2) ⟨h1.1, h1.2.1⟩
  obtain ⟨B, k1, k2, k3, k4⟩ := f52_eqn (m := b.1) (s := b.2) ⟨h2.1, h2.2.1⟩
  rw [g4, Option.bind_some, k4, Option.bind_some]
  dsimp only
  have es : a.2 = (a.2.toNat : Int) := by omega
  have es' : b.2 = (b.2.toNat : Int) := by omega
  have eS : Max.max a.2 b.2 = ((Max.max a.2.toNat b.2.toNat : Nat) : Int) := by omega
  have k1' : a.2.toNat ≤ Max.max a.2.toNat b.2.toNat := Nat.le_max_left _ _
  have k2' : b.2.toNat ≤ Max.max a.2.toNat b.2.toNat := Nat.le_max_right _ _
  have k3' : Max.max a.2.toNat b.2.toNat ≤ 9 := by omega
  rw [eS]
  generalize Max.max a.2.toNat b.2.toNat = S at k1' k2' k3' ⊢
  have e1 := f53_eqn (decide (a.1 < 0)) (D := A) (s := a.2.toNat) (S := S) (by omega) k1' (by omega)
  have e2 := f53_eqn (decide (b.1 < 0)) (D := B) (s := b.2.toNat) (S := S) (by omega) k2' (by omega)
  rw [← es] at e1
  rw [← es'] at e2
  rw [e1, Option.bind_some, e2, Option.bind_some]
  dsimp only
  have zg : ∀ n : Nat, Dg (List.replicate n (0 : Int)) := fun n x hx => by rw [(List.mem_replicate.1 hx).2]; omega
  have gA : Dg (List.replicate (S - a.2.toNat) 0 ++ A) := (zg _).append g1
  have gB : Dg (List.replicate (S - b.2.toNat) 0 ++ B) := (zg _).append k1
  have lA : (List.replicate (S - a.2.toNat) 0 ++ A).length ≤ 600 := by rw [List.length_append, List.length_replicate]; omega
  have lB : (List.replicate (S - b.2.toNat) 0 ++ B).length ≤ 600 := by rw [List.length_append, List.length_replicate]; omega
  have vA : dv (List.replicate (S - a.2.toNat) 0 ++ A) * 10 ^ (9 - S) = (vD a).natAbs := by
    rw [dv_append, dv_zeros, List.length_replicate, Int.zero_add, g2]
    unfold vD val
    rw [Int.natAbs_mul, Int.natAbs_pow]
    have e : (((a.1.natAbs * (10 : Int).natAbs ^ (9 - a.2.toNat) : Nat)) : Int) = (a.1.natAbs : Int) * 10 ^ (9 - a.2.toNat) := by simp
    rw [e, Int.mul_comm, ← Int.mul_assoc, ← Int.pow_add, show 9 - S + (S - a.2.toNat) = 9 - a.2.toNat by omega, Int.mul_comm]
  have vB : dv (List.replicate (S - b.2.toNat) 0 ++ B) * 10 ^ (9 - S) = (vD b).natAbs := by
    rw [dv_append, dv_zeros, List.length_replicate, Int.zero_add, k2]
    unfold vD val
    rw [Int.natAbs_mul, Int.natAbs_pow]
    have e : (((b.1.natAbs * (10 : Int).natAbs ^ (9 - b.2.toNat) : Nat)) : Int) = (b.1.natAbs : Int) * 10 ^ (9 - b.2.toNat) := by simp
    rw [e, Int.mul_comm, ← Int.mul_assoc, ← Int.pow_add, show 9 - S + (S - b.2.toNat) = 9 - b.2.toNat by omega, Int.mul_comm]
  rw [f54_eqn gA gB (by omega) (by omega), Option.bind_some, f54_eqn gB gA (by omega) (by omega), Option.bind_some]
  dsimp only
  generalize List.replicate (S - a.2.toNat) 0 ++ A = A' at *
  generalize List.replicate (S - b.2.toNat) 0 ++ B = B' at *
  have hq : (0 : Int) < 10 ^ (9 - S) := Int.pow_pos (by omega)
  have w1 : dv A' < dv B' ↔ (vD a).natAbs < (vD b).natAbs := by
    have : dv A' < dv B' ↔ dv A' * 10 ^ (9 - S) < dv B' * 10 ^ (9 - S) := ⟨fun h => Int.mul_lt_mul_of_pos_right h hq, fun h => Int.lt_of_mul_lt_mul_right h (Int.le_of_lt hq)⟩
    rw [this, vA, vB]; omega
  have w2 : dv B' < dv A' ↔ (vD b).natAbs < (vD a).natAbs := by
    have : dv B' < dv A' ↔ dv B' * 10 ^ (9 - S) < dv A' * 10 ^ (9 - S) := ⟨fun h => Int.mul_lt_mul_of_pos_right h hq, fun h => Int.lt_of_mul_lt_mul_right h (Int.le_of_lt hq)⟩
    rw [this, vA, vB]; omega
  have sa := sgn_v a
  have sb := sgn_v b
  unfold cmpD
  by_cases n1 : a.1 < 0
  · by_cases n2 : b.1 < 0
    · rw [if_neg (by simp [n1, n2]), if_pos (decide_eq_true n1)]
      by_cases c1 : dv B' < dv A'
      · rw [if_pos (decide_eq_true c1), if_pos (by have := w2.1 c1; omega)]
      · rw [if_neg (by rw [decide_eq_true_eq]; exact c1)]
        by_cases c2 : dv A' < dv B'
        · rw [if_pos (decide_eq_true c2), if_neg (by have := w1.1 c2; omega), if_pos (by have := w1.1 c2; omega)]
        · rw [if_neg (by rw [decide_eq_true_eq]; exact c2), if_neg (by have := mt w2.2 c1; have := mt w1.2 c2; omega), if_neg (by have := mt w2.2 c1; have := mt w1.2 c2; omega)]
    · rw [if_pos (by simp [n1, n2]), if_pos (decide_eq_true n1), if_pos (by omega)]
  · by_cases n2 : b.1 < 0
    · rw [if_pos (by simp [n1, n2]), if_neg (by rw [decide_eq_true_eq]; exact n1), if_pos (decide_eq_true n2), if_neg (by omega), if_pos (by omega)]
    · rw [if_neg (by simp [n1, n2]), if_neg (by rw [decide_eq_true_eq]; exact n1)]
      by_cases c1 : dv A' < dv B'
      · rw [if_pos (decide_eq_true c1), if_pos (by have := w1.1 c1; omega)]
      · rw [if_neg (by rw [decide_eq_true_eq]; exact c1)]
        by_cases c2 : dv B' < dv A'
        · rw [if_pos (decide_eq_true c2), if_neg (by have := w2.1 c2; omega), if_pos (by have := w2.1 c2; omega)]
        · rw [if_neg (by rw [decide_eq_true_eq]; exact c2), if_neg (by have := mt w2.2 c2; have := mt w1.2 c1; omega), if_neg (by have := mt w2.2 c2; have := mt w1.2 c1; omega)]
theorem f30_eqn {a b : Int × Int} (ha : RtD a) (hb : RtD b) : f30 (a.1, a.2, b.1, b.2, ()) = some (decide (vD a ≤ vD b), ()) := by
  unfold f30
  dsimp only
  rw [f42_eqn ha hb, Option.bind_some]
  congr 2
  dsimp only
  unfold cmpD
  rw [decide_eq_decide]
  by_cases c1 : vD a < vD b
  · rw [if_pos c1]; omega
  · rw [if_neg c1]
    by_cases c2 : vD b < vD a
    · rw [if_pos c2]; omega
    · rw [if_neg c2]; omega
theorem f32_eqn {a b : Int × Int} (ha : RtD a) (hb : RtD b) : f32 (a.1, a.2, b.1, b.2, ()) = some ((lo a b).1, (lo a b).2, ()) := by
  unfold f32 lo
  dsimp only
  rw [f30_eqn ha hb, Option.bind_some]
  dsimp only
  by_cases h : vD a ≤ vD b
  · rw [if_pos (decide_eq_true h), if_neg (by omega)]
  · rw [if_neg (by rw [decide_eq_true_eq]; exact h), if_pos (by omega)]
theorem f31_eqn {a b : Int × Int} (ha : RtD a) (hb : RtD b) : f31 (a.1, a.2, b.1, b.2, ()) = some ((hi a b).1, (hi a b).2, ()) := by
  unfold f31 hi
  dsimp only
  rw [f30_eqn ha hb, Option.bind_some]
  dsimp only
  by_cases h : vD a ≤ vD b
  · rw [if_pos (decide_eq_true h)]
    by_cases h2 : vD a < vD b
    · rw [if_pos h2]
    · rw [if_neg h2, vD_inj ha hb (by omega)]
  · rw [if_neg (by rw [decide_eq_true_eq]; exact h), if_neg (by omega)]
def around (a b : Bx) : Bx := ⟨lo a.X0 b.X0, lo a.Y0 b.Y0, hi a.X1 b.X1, hi a.Y1 b.Y1⟩
theorem f29_eqn {a b : Bx} (ha : a.rt) (hb : b.rt) : f29 (a.X0.1, a.X0.2, a.Y0.1, a.Y0.2, a.X1.1, a.X1.2, a.Y1.1, a.Y1.2, b.X0.1, b.X0.2, b.Y0.1, b.Y0.2, b.X1.1, b.X1.2, b.Y1.1, b.Y1.2, ()) = some ((around a b).X0.1, (around a b).X0.2, (around a b).Y0.1, (around a b).Y0.2, (around a b).X1.1, (around a b).X1.2, (around a b).Y1.1, (around a b).Y1.2, ()) := by
  obtain ⟨a1, a2, a3, a4⟩ := ha
  obtain ⟨b1, b2, b3, b4⟩ := hb
  unfold f29
  dsimp only
  rw [f32_eqn a1 b1, Option.bind_some, f32_eqn a2 b2, Option.bind_some, f31_eqn a3 b3, Option.bind_some, f31_eqn a4 b4, Option.bind_some]
  rfl
theorem f18_eqn (b : Bx) : f18 (b.X0.1, b.X0.2, b.Y0.1, b.Y0.2, b.X1.1, b.X1.2, b.Y1.1, b.Y1.2, ()) = some (decide b.ok, ()) := by
  unfold f18
  dsimp only
  have key : ∀ (d : Int × Int) (K : go28.D → Option go18.D), Option.bind (f28 (d.1, d.2, ())) K = K (decide (RtD d), ()) := fun d K => by rw [f28_eqn]; rfl
  simp only [key]
  by_cases h1 : RtD b.X0
  · rw [if_pos (decide_eq_true h1)]
    by_cases h2 : RtD b.X1
    · rw [if_pos (decide_eq_true h2)]
      by_cases h3 : RtD b.Y0
      · rw [if_pos (decide_eq_true h3)]
        by_cases h4 : RtD b.Y1
        · rw [if_pos (decide_eq_true h4), f30_eqn h1 h2, Option.bind_some]
          dsimp only
          by_cases h5 : vD b.X0 ≤ vD b.X1
          · rw [if_pos (decide_eq_true h5), f30_eqn h3 h4, Option.bind_some]
            congr 2
            rw [decide_eq_decide]
            exact ⟨fun h => ⟨⟨h1, h3, h2, h4⟩, h5, h⟩, fun h => h.2.2⟩
          · rw [if_neg (by rw [decide_eq_true_eq]; exact h5), decide_eq_false (fun h : b.ok => h5 h.2.1)]
        · rw [if_neg (by rw [decide_eq_true_eq]; exact h4), decide_eq_false (fun h : b.ok => h4 h.1.2.2.2)]
      · rw [if_neg (by rw [decide_eq_true_eq]; exact h3), decide_eq_false (fun h : b.ok => h3 h.1.2.1)]
    · rw [if_neg (by rw [decide_eq_true_eq]; exact h2), decide_eq_false (fun h : b.ok => h2 h.1.2.2.1)]
  · rw [if_neg (by rw [decide_eq_true_eq]; exact h1), decide_eq_false (fun h : b.ok => h1 h.1.1)]
theorem f13_eqn (a b : Bx) : f13 (a.X0.1, a.X0.2, a.Y0.1, a.Y0.2, a.X1.1, a.X1.2, a.Y1.1, a.Y1.2, b.X0.1, b.X0.2, b.Y0.1, b.Y0.2, b.X1.1, b.X1.2, b.Y1.1, b.Y1.2, ()) = f7 (a.X0.1, a.X0.2, a.Y0.1, a.Y0.2, a.X1.1, a.X1.2, a.Y1.1, a.Y1.2, b.X0.1, b.X0.2, b.Y0.1, b.Y0.2, b.X1.1, b.X1.2, b.Y1.1, b.Y1.2, ()) := by
  rw [f7_eqn]
  unfold f13
  dsimp only
  rw [f18_eqn, Option.bind_some]
  dsimp only
  by_cases ha : a.ok
  · rw [if_neg (by rw [decide_eq_true ha]; decide), f18_eqn, Option.bind_some]
    dsimp only
    by_cases hb : b.ok
    · rw [if_neg (by rw [decide_eq_true hb]; decide), if_pos (show a.ok ∧ b.ok from ⟨ha, hb⟩)]
      obtain ⟨⟨a1, a2, a3, a4⟩, a5, a6⟩ := ha
      obtain ⟨⟨b1, b2, b3, b4⟩, b5, b6⟩ := hb
      have v1 := hi_v a.X0 b.X0
      have v2 := lo_v a.X1 b.X1
      have v3 := hi_v a.Y0 b.Y0
      have v4 := lo_v a.Y1 b.Y1
      rw [f31_eqn a1 b1, Option.bind_some, f32_eqn a3 b3, Option.bind_some]
      dsimp only
      rw [f30_eqn (hi_rt a1 b1) (lo_rt a3 b3), Option.bind_some]
      dsimp only
      unfold meets
      by_cases c : vD (hi a.X0 b.X0) ≤ vD (lo a.X1 b.X1)
      · rw [if_pos (decide_eq_true c), f31_eqn a2 b2, Option.bind_some, f32_eqn a4 b4, Option.bind_some]
        dsimp only
        rw [f30_eqn (hi_rt a2 b2) (lo_rt a4 b4), Option.bind_some]
        congr 2
        rw [decide_eq_decide]
        omega
      · rw [if_neg (by rw [decide_eq_true_eq]; exact c), decide_eq_false (by omega)]
    · rw [if_pos (by rw [decide_eq_false hb]; decide), if_neg (fun h : a.ok ∧ b.ok => hb h.2)]
  · rw [if_pos (by rw [decide_eq_false ha]; decide), if_neg (fun h : a.ok ∧ b.ok => ha h.1)]
theorem around_both {a b : Bx} (ha : a.ok) (hb : b.ok) : around a b = both a b := by
  obtain ⟨v1, v2, v3, v4⟩ := both_v (a := a) hb
  exact Bx.ext ⟨lo_rt ha.1.1 hb.1.1, lo_rt ha.1.2.1 hb.1.2.1, hi_rt ha.1.2.2.1 hb.1.2.2.1, hi_rt ha.1.2.2.2 hb.1.2.2.2⟩ (both_ok ha hb).1 ((lo_v _ _).trans v1.symm) ((lo_v _ _).trans v2.symm) ((hi_v _ _).trans v3.symm) ((hi_v _ _).trans v4.symm)
theorem f15_eqn (a b : Bx) : f15 (a.X0.1, a.X0.2, a.Y0.1, a.Y0.2, a.X1.1, a.X1.2, a.Y1.1, a.Y1.2, b.X0.1, b.X0.2, b.Y0.1, b.Y0.2, b.X1.1, b.X1.2, b.Y1.1, b.Y1.2, ()) = f14 (a.X0.1, a.X0.2, a.Y0.1, a.Y0.2, a.X1.1, a.X1.2, a.Y1.1, a.Y1.2, b.X0.1, b.X0.2, b.Y0.1, b.Y0.2, b.X1.1, b.X1.2, b.Y1.1, b.Y1.2, ()) := by
  rw [f14_eqn]
  unfold f15
  dsimp only
  rw [f18_eqn, Option.bind_some]
  dsimp only
  by_cases ha : a.ok
  · rw [if_neg (by rw [decide_eq_true ha]; decide), f18_eqn, Option.bind_some]
    dsimp only
    by_cases hb : b.ok
    · rw [if_neg (by rw [decide_eq_true hb]; decide), if_pos (show a.ok ∧ b.ok from ⟨ha, hb⟩), f29_eqn ha.1 hb.1, Option.bind_some, around_both ha hb]
    · rw [if_pos (by rw [decide_eq_false hb]; decide), if_neg (fun h : a.ok ∧ b.ok => hb h.2)]
  · rw [if_pos (by rw [decide_eq_false ha]; decide), if_neg (fun h : a.ok ∧ b.ok => ha h.1)]
theorem around_up (b : Bx) (p : Pt) : around b (boxOf p) = up b p := rfl
end Go.Ev.Box
namespace Go.Ev.Box
open Go.Ev.Dec

theorem l12_1_spec (l : List Pt) (hl : l.length ≤ 9223372036854775807) (c : Bx) : ∀ (k i : Nat), l.length < i + k → i ≤ l.length → (∀ j, j < i → RtP (l.getD j P0)) →
    ((∀ d ∈ l, RtP d) ∧ loopN g12_1 o12_1 b12_1 k (l, (i : Int), c.X0.1, c.X0.2, c.Y0.1, c.Y0.2, c.X1.1, c.X1.2, c.Y1.1, c.Y1.2, ()) = some (.inl (l, c.X0.1, c.X0.2, c.Y0.1, c.Y0.2, c.X1.1, c.X1.2, c.Y1.1, c.Y1.2, ()))) ∨
    (¬ (∀ d ∈ l, RtP d) ∧ loopN g12_1 o12_1 b12_1 k (l, (i : Int), c.X0.1, c.X0.2, c.Y0.1, c.Y0.2, c.X1.1, c.X1.2, c.Y1.1, c.Y1.2, ()) = some (.inr (.inl (1, 0, 0, 0, 0, 0, 0, 0, 0, ())))) := by
  intro k
  induction k with
  | zero => intro i h1 h2; omega
  | succ k ih =>
    intro i h1 h2 h3
    rw [loopN_succ]
    generalize hL : loopN g12_1 o12_1 b12_1 k = L at ih ⊢
    unfold b12_1
    dsimp only
    rw [Int.toNat_natCast]
    rcases Nat.lt_or_ge i l.length with h | h
    · rw [if_pos (by rw [decide_eq_true_eq]; omega), if_pos (by omega), if_pos (by omega), f28_eqn, Option.bind_some]
      dsimp only
      have hm : l.getD i ((0, 0), (0, 0)) ∈ l := by
        rw [List.getD_eq_getElem?_getD, List.getElem?_eq_getElem (by omega)]
        exact List.getElem_mem _
      by_cases r1 : Rt (l.getD i ((0, 0), (0, 0))).1.1 (l.getD i ((0, 0), (0, 0))).1.2
      · rw [if_neg (by rw [decide_eq_true r1]; decide), if_pos (by omega), if_pos (by omega), f28_eqn, Option.bind_some]
        dsimp only
        by_cases r2 : Rt (l.getD i ((0, 0), (0, 0))).2.1 (l.getD i ((0, 0), (0, 0))).2.2
        · rw [if_neg (by rw [decide_eq_true r2]; decide), Option.bind_some, Sum.elim_inl, show IntKind.wrap .i64 ((i : Int) + 1) = ((i + 1 : Nat) : Int) by rw [wrap_i64 (by omega)]; omega]
          refine ih (i + 1) (by omega) (by omega) (fun j hj => ?_)
          by_cases e : j = i
          · rw [e]; exact ⟨r1, r2⟩
          · exact h3 j (by omega)
        · rw [if_pos (by rw [decide_eq_false r2]; decide)]
          exact .inr ⟨fun hall => r2 (hall _ hm).2, rfl⟩
      · rw [if_pos (by rw [decide_eq_false r1]; decide)]
        exact .inr ⟨fun hall => r1 (hall _ hm).1, rfl⟩
    · rw [if_neg (by rw [decide_eq_true_eq]; omega)]
      refine .inl ⟨fun d hd => ?_, rfl⟩
      obtain ⟨j, hj, rfl⟩ := List.mem_iff_getElem.1 hd
      have := h3 j (by omega)
      rw [List.getD_eq_getElem?_getD, List.getElem?_eq_getElem hj] at this
      exact this
theorem l12_2_spec (l : List Pt) (hl : l.length ≤ 9223372036854775807) (hr : ∀ p ∈ l, RtP p) (c : Bx) : ∀ (k i : Nat) (b : Bx), b.rt → l.length < i + k → i ≤ l.length →
    loopN g12_2 o12_2 b12_2 k (l, (i : Int), c.X0.1, c.X0.2, c.Y0.1, c.Y0.2, c.X1.1, c.X1.2, c.Y1.1, c.Y1.2, b.X0.1, b.X0.2, b.Y0.1, b.Y0.2, b.X1.1, b.X1.2, b.Y1.1, b.Y1.2, ()) = some (.inl (c.X0.1, c.X0.2, c.Y0.1, c.Y0.2, c.X1.1, c.X1.2, c.Y1.1, c.Y1.2, ((l.drop i).foldl up b).X0.1, ((l.drop i).foldl up b).X0.2, ((l.drop i).foldl up b).Y0.1, ((l.drop i).foldl up b).Y0.2, ((l.drop i).foldl up b).X1.1, ((l.drop i).foldl up b).X1.2, ((l.drop i).foldl up b).Y1.1, ((l.drop i).foldl up b).Y1.2, ())) := by
  intro k
  induction k with
  | zero => intro i b hb h1 h2; omega
  | succ k ih =>
    intro i b hb h1 h2
    rw [loopN_succ]
    generalize hL : loopN g12_2 o12_2 b12_2 k = L at ih ⊢
    unfold b12_2
    dsimp only
    rw [Int.toNat_natCast]
    rcases Nat.lt_or_ge i l.length with h | h
    · have hm : l.getD i P0 ∈ l := by
        rw [List.getD_eq_getElem?_getD, List.getElem?_eq_getElem (by omega)]
        exact List.getElem_mem _
      have e29 : f29 (b.X0.1, b.X0.2, b.Y0.1, b.Y0.2, b.X1.1, b.X1.2, b.Y1.1, b.Y1.2, (l.getD i ((0, 0), (0, 0))).1.1, (l.getD i ((0, 0), (0, 0))).1.2, (l.getD i ((0, 0), (0, 0))).2.1, (l.getD i ((0, 0), (0, 0))).2.2, (l.getD i ((0, 0), (0, 0))).1.1, (l.getD i ((0, 0), (0, 0))).1.2, (l.getD i ((0, 0), (0, 0))).2.1, (l.getD i ((0, 0), (0, 0))).2.2, ()) = _ := f29_eqn (b := boxOf (l.getD i P0)) hb (boxOf_rt (hr _ hm))
      rw [if_pos (by rw [decide_eq_true_eq]; omega), if_pos (by omega), if_pos (by omega), if_pos (by omega), if_pos (by omega), if_pos (by omega), if_pos (by omega), if_pos (by omega), if_pos (by omega), e29, Option.bind_some, Option.bind_some, Sum.elim_inl,
        show IntKind.wrap .i64 ((i : Int) + 1) = ((i + 1 : Nat) : Int) by rw [wrap_i64 (by omega)]; omega]
      have hd : l.drop i = l.getD i P0 :: l.drop (i + 1) := by
        rw [List.getD_eq_getElem?_getD, List.getElem?_eq_getElem (by omega)]
        exact List.drop_eq_getElem_cons (by omega)
      rw [hd, List.foldl_cons, ← around_up]
      exact ih (i + 1) _ (by rw [around_up]; exact up_rt hb (hr _ hm)) (by omega) (by omega)
    · rw [if_neg (by rw [decide_eq_true_eq]; omega), List.drop_of_length_le (by omega)]
      rfl
theorem up_self (p : Pt) : up (boxOf p) p = boxOf p := by
  unfold boxOf up lo hi
  simp
theorem f12_eqn {l : List Pt} (hl : l.length ≤ 9223372036854775807) : f12 (l, ()) = f11 (l, ()) := by
  by_cases h0 : l = []
  · subst h0
    rw [f11_nil]; rfl
  · have hlen : 0 < l.length := List.length_pos_iff.2 h0
    unfold f12
    dsimp only
    rw [if_neg (by rw [beq_iff_eq]; omega)]
    have g := l12_1_spec l hl Bx.zero 18446744073709551616 0 (by omega) (by omega) (fun j hj => by omega)
    have g' : ((∀ d ∈ l, RtP d) ∧ loopN g12_1 o12_1 b12_1 18446744073709551616 (l, 0, 0, 0, 0, 0, 0, 0, 0, 0, ()) = some (.inl (l, 0, 0, 0, 0, 0, 0, 0, 0, ()))) ∨
      (¬ (∀ d ∈ l, RtP d) ∧ loopN g12_1 o12_1 b12_1 18446744073709551616 (l, 0, 0, 0, 0, 0, 0, 0, 0, 0, ()) = some (.inr (.inl (1, 0, 0, 0, 0, 0, 0, 0, 0, ())))) := g
    rw [show l12_1 = loopN g12_1 o12_1 b12_1 18446744073709551616 from rfl]
    generalize loopN g12_1 o12_1 b12_1 18446744073709551616 (l, 0, 0, 0, 0, 0, 0, 0, 0, 0, ()) = X at g' ⊢
    rcases g' with ⟨hr, h2⟩ | ⟨hr, h2⟩
    · subst h2
      rw [f11_yes hl h0 hr, Option.bind_some, Sum.elim_inl]
      dsimp only
      have hp : (0 : Int) < ((l.length : Nat) : Int) := by omega
      rw [if_pos hp, if_pos hp, if_pos hp, if_pos hp]
      have k := l12_2_spec l hl hr Bx.zero 18446744073709551616 1 (boxOf (l.getD 0 P0)) (boxOf_rt (hr _ (getD_mem0 h0))) (by omega) (by omega)
      have ef : (l.drop 1).foldl up (boxOf (l.getD 0 P0)) = ofL l := by
        unfold ofL
        have hd : l = l.getD 0 P0 :: l.drop 1 := by
          cases l with
          | nil => exact absurd rfl h0
          | cons a t => rfl
        conv => rhs; rw [hd, List.foldl_cons]
        have e0 : (l.getD 0 P0 :: l.drop 1).getD 0 P0 = l.getD 0 P0 := rfl
        rw [e0, up_self]
      rw [ef] at k
      have k' : loopN g12_2 o12_2 b12_2 18446744073709551616 (l, 1, 0, 0, 0, 0, 0, 0, 0, 0, (l.getD 0 P0).1.1, (l.getD 0 P0).1.2, (l.getD 0 P0).2.1, (l.getD 0 P0).2.2, (l.getD 0 P0).1.1, (l.getD 0 P0).1.2, (l.getD 0 P0).2.1, (l.getD 0 P0).2.2, ()) = _ := k
      rw [show l12_2 = loopN g12_2 o12_2 b12_2 18446744073709551616 from rfl]
      show Option.bind (loopN g12_2 o12_2 b12_2 18446744073709551616 (l, 1, 0, 0, 0, 0, 0, 0, 0, 0, (l.getD 0 P0).1.1, (l.getD 0 P0).1.2, (l.getD 0 P0).2.1, (l.getD 0 P0).2.2, (l.getD 0 P0).1.1, (l.getD 0 P0).1.2, (l.getD 0 P0).2.1, (l.getD 0 P0).2.2, ())) _ = _
      generalize loopN g12_2 o12_2 b12_2 18446744073709551616 (l, 1, 0, 0, 0, 0, 0, 0, 0, 0, (l.getD 0 P0).1.1, (l.getD 0 P0).1.2, (l.getD 0 P0).2.1, (l.getD 0 P0).2.2, (l.getD 0 P0).1.1, (l.getD 0 P0).1.2, (l.getD 0 P0).2.1, (l.getD 0 P0).2.2, ()) = X at k' ⊢
      subst k'
      rfl
    · subst h2
      rw [f11_no hl h0 hr]
      rfl

/-! ## Mapped -/
theorem mapM_err {m : Mt} {p : Pt} (hm : m.ok) (hp : RtP p) : (mapM m p.1 p.2).2.2 = 0 ∨ (mapM m p.1 p.2).2.2 = 5 := by
  unfold mapM
  rw [if_pos ⟨hm, hp.1, hp.2⟩]
  obtain ⟨oA, oB, oC, oD, oE, oF⟩ := hm
  rw [tied_w oB hp.1 oD hp.2 oF, tied_w oA hp.1 oC hp.2 oE]
  cases tbO m.A p.1 m.C p.2 m.E <;> cases tbO m.B p.1 m.D p.2 m.F <;> simp [keep]
theorem l17_1_spec (l : List Pt) (hl : l.length = 4) (m : Mt) (c : Bx) : ∀ (k i : Nat), 4 < i + k → i ≤ 4 →
    (∃ e : Int, e ≠ 0 ∧ (∃ p ∈ l, e = (mapM m p.1 p.2).2.2) ∧ loopN g17_1 o17_1 b17_1 k ((i : Int), m.A.1, m.A.2, m.B.1, m.B.2, m.C.1, m.C.2, m.D.1, m.D.2, m.E.1, m.E.2, m.F.1, m.F.2, c.X0.1, c.X0.2, c.Y0.1, c.Y0.2, c.X1.1, c.X1.2, c.Y1.1, c.Y1.2, (l.take i).map (img m) ++ l.drop i, ()) = some (.inr (.inl (e, 0, 0, 0, 0, 0, 0, 0, 0, ())))) ∨
    ((∀ j, i ≤ j → j < 4 → okM m (l.getD j P0)) ∧ loopN g17_1 o17_1 b17_1 k ((i : Int), m.A.1, m.A.2, m.B.1, m.B.2, m.C.1, m.C.2, m.D.1, m.D.2, m.E.1, m.E.2, m.F.1, m.F.2, c.X0.1, c.X0.2, c.Y0.1, c.Y0.2, c.X1.1, c.X1.2, c.Y1.1, c.Y1.2, (l.take i).map (img m) ++ l.drop i, ()) = some (.inl (c.X0.1, c.X0.2, c.Y0.1, c.Y0.2, c.X1.1, c.X1.2, c.Y1.1, c.Y1.2, l.map (img m), ()))) := by
  intro k
  induction k with
  | zero => intro i h1 h2; omega
  | succ k ih =>
    intro i h1 h2
    rw [loopN_succ]
    generalize hL : loopN g17_1 o17_1 b17_1 k = L at ih ⊢
    have hlen : ((l.take i).map (img m) ++ l.drop i).length = 4 := by rw [List.length_append, List.length_map, List.length_take, List.length_drop]; omega
    unfold b17_1
    dsimp only
    rw [Int.toNat_natCast, Nat.zero_add]
    rcases Nat.lt_or_ge i 4 with h | h
    · have hli : ((l.take i).map (img m)).length = i := by rw [List.length_map, List.length_take]; omega
      have hd : l.drop i = l.getD i P0 :: l.drop (i + 1) := by
        rw [List.getD_eq_getElem?_getD, List.getElem?_eq_getElem (by omega)]
        exact List.drop_eq_getElem_cons (by omega)
      have hg : ((l.take i).map (img m) ++ l.drop i).getD i ((0, 0), (0, 0)) = l.getD i P0 := by
        rw [List.getD_eq_getElem?_getD, List.getElem?_append_right (by omega), hli, Nat.sub_self, hd]; rfl
      rw [hg, if_pos (by rw [decide_eq_true_eq]; omega), if_pos (by omega), if_pos (by omega), f35_eqn, Option.bind_some]
      dsimp only
      have hmem : l.getD i P0 ∈ l := by
        rw [List.getD_eq_getElem?_getD, List.getElem?_eq_getElem (by omega)]
        exact List.getElem_mem _
      by_cases ho : okM m (l.getD i P0)
      · have ho' : (mapM m (l.getD i P0).1 (l.getD i P0).2).2.2 = 0 := ho
        rw [if_neg (by rw [bne_iff_ne]; exact fun hh => hh ho'), if_pos (by omega), if_pos (by omega), if_pos (by rw [List.length_set]), Option.bind_some, Sum.elim_inl,
          show IntKind.wrap .i64 ((i : Int) + 1) = ((i + 1 : Nat) : Int) by rw [wrap_i64 (by omega)]; omega]
        have hs : ((l.take i).map (img m) ++ l.drop i).set i (img m (l.getD i P0)) = (l.take (i + 1)).map (img m) ++ l.drop (i + 1) := by
          rw [List.set_append_right _ _ (by omega), hli, Nat.sub_self, hd, List.set_cons_zero, List.take_add_one, List.map_append]
          rw [List.getElem?_eq_getElem (by omega)]
          rw [List.append_assoc]
          rw [List.getD_eq_getElem?_getD, List.getElem?_eq_getElem (by omega)]
          rfl
        have hs' : ((l.take i).map (img m) ++ l.drop i).set i (((mapM m (l.getD i P0).1 (l.getD i P0).2).1.1, (mapM m (l.getD i P0).1 (l.getD i P0).2).1.2), ((mapM m (l.getD i P0).1 (l.getD i P0).2).2.1.1, (mapM m (l.getD i P0).1 (l.getD i P0).2).2.1.2)) = (l.take (i + 1)).map (img m) ++ l.drop (i + 1) := hs
        rw [hs']
        rcases ih (i + 1) (by omega) (by omega) with h5 | ⟨h5, h6⟩
        · exact .inl h5
        · refine .inr ⟨fun j hj1 hj2 => ?_, h6⟩
          by_cases e : j = i
          · rw [e]; exact ho
          · exact h5 j (by omega) hj2
      · have ho' : ¬ (mapM m (l.getD i P0).1 (l.getD i P0).2).2.2 = 0 := ho
        rw [if_pos (by rw [bne_iff_ne]; exact ho')]
        exact .inl ⟨_, ho', ⟨_, hmem, rfl⟩, rfl⟩
    · rw [if_neg (by rw [decide_eq_true_eq]; omega), if_pos rfl]
      refine .inr ⟨fun j hj1 hj2 => by omega, ?_⟩
      rw [List.drop_of_length_le (by omega), List.append_nil, List.take_of_length_le (by omega)]
      rfl
theorem f17_eqn (m : Mt) (b : Bx) : f17 (m.A.1, m.A.2, m.B.1, m.B.2, m.C.1, m.C.2, m.D.1, m.D.2, m.E.1, m.E.2, m.F.1, m.F.2, b.X0.1, b.X0.2, b.Y0.1, b.Y0.2, b.X1.1, b.X1.2, b.Y1.1, b.Y1.2, ()) = f16 (m.A.1, m.A.2, m.B.1, m.B.2, m.C.1, m.C.2, m.D.1, m.D.2, m.E.1, m.E.2, m.F.1, m.F.2, b.X0.1, b.X0.2, b.Y0.1, b.Y0.2, b.X1.1, b.X1.2, b.Y1.1, b.Y1.2, ()) := by
  by_cases hm : m.ok
  · by_cases hb : b.ok
    · have hc : ∀ p ∈ corn b, RtP p := (corn_rt b).2 hb.1
      have five : ∀ e : Int, e ≠ 0 → (∃ p ∈ corn b, e = (mapM m p.1 p.2).2.2) → e = 5 := fun e h ⟨p, hp, he⟩ => by
        rcases mapM_err hm (hc p hp) with h1 | h1
        · rw [h1] at he; exact absurd he h
        · rw [he, h1]
      unfold f17
      dsimp only
      rw [f34_eqn, Option.bind_some]
      dsimp only
      rw [if_neg (by rw [decide_eq_true hm]; decide), f18_eqn, Option.bind_some]
      dsimp only
      rw [if_neg (by rw [decide_eq_true hb]; decide)]
      have g := l17_1_spec (corn b) rfl m Bx.zero 18446744073709551616 0 (by omega) (by omega)
      rw [List.take_zero, List.map_nil, List.nil_append, List.drop_zero] at g
      have g' : (∃ e : Int, e ≠ 0 ∧ (∃ p ∈ corn b, e = (mapM m p.1 p.2).2.2) ∧ loopN g17_1 o17_1 b17_1 18446744073709551616 (0, m.A.1, m.A.2, m.B.1, m.B.2, m.C.1, m.C.2, m.D.1, m.D.2, m.E.1, m.E.2, m.F.1, m.F.2, 0, 0, 0, 0, 0, 0, 0, 0, corn b, ()) = some (.inr (.inl (e, 0, 0, 0, 0, 0, 0, 0, 0, ())))) ∨
        ((∀ j, 0 ≤ j → j < 4 → okM m ((corn b).getD j P0)) ∧ loopN g17_1 o17_1 b17_1 18446744073709551616 (0, m.A.1, m.A.2, m.B.1, m.B.2, m.C.1, m.C.2, m.D.1, m.D.2, m.E.1, m.E.2, m.F.1, m.F.2, 0, 0, 0, 0, 0, 0, 0, 0, corn b, ()) = some (.inl (0, 0, 0, 0, 0, 0, 0, 0, (corn b).map (img m), ()))) := g
      rw [show l17_1 = loopN g17_1 o17_1 b17_1 18446744073709551616 from rfl]
      show Option.bind (loopN g17_1 o17_1 b17_1 18446744073709551616 (0, m.A.1, m.A.2, m.B.1, m.B.2, m.C.1, m.C.2, m.D.1, m.D.2, m.E.1, m.E.2, m.F.1, m.F.2, 0, 0, 0, 0, 0, 0, 0, 0, corn b, ())) _ = _
      generalize loopN g17_1 o17_1 b17_1 18446744073709551616 (0, m.A.1, m.A.2, m.B.1, m.B.2, m.C.1, m.C.2, m.D.1, m.D.2, m.E.1, m.E.2, m.F.1, m.F.2, 0, 0, 0, 0, 0, 0, 0, 0, corn b, ()) = X at g' ⊢
      have hall : (∀ j, 0 ≤ j → j < 4 → okM m ((corn b).getD j P0)) → ∀ p ∈ corn b, okM m p := fun h p hp => by
        obtain ⟨j, hj, rfl⟩ := List.mem_iff_getElem.1 hp
        have hj4 : j < 4 := hj
        have := h j (by omega) hj4
        rw [List.getD_eq_getElem?_getD, List.getElem?_eq_getElem hj] at this
        exact this
      rcases f16_eqn hm hb with ⟨e, h1, h2, h3⟩ | ⟨h1, h3⟩
      · have e5 := five e h1 h2
        rcases g' with ⟨e', k1, k2, k3⟩ | ⟨k1, k3⟩
        · have e5' := five e' k1 k2
          subst k3
          rw [h3, e5, e5']
          rfl
        · exfalso
          obtain ⟨p, hp, he⟩ := h2
          exact h1 (he.trans (hall k1 p hp))
      · rcases g' with ⟨e', k1, ⟨p, hp, he⟩, k3⟩ | ⟨k1, k3⟩
        · exact absurd (he.trans (h1 p hp)) k1
        · subst k3
          rw [h3, Option.bind_some, Sum.elim_inl]
          dsimp only
          have hh : ∀ q ∈ (corn b).map (img m), RtP q := fun q hq => by
            obtain ⟨p, hp, rfl⟩ := List.mem_map.1 hq
            exact (mapM_img (h1 p hp)).1
          rw [List.drop_zero, List.take_length, f12_eqn (by unfold corn; simp), f11_yes (by unfold corn; simp) (by unfold corn; simp) hh]
          rfl
    · unfold f17 f16
      dsimp only
      rw [f34_eqn, Option.bind_some, f33_eqn, Option.bind_some]
      dsimp only
      rw [if_neg (by rw [decide_eq_true hm]; decide), f18_eqn, Option.bind_some]
      dsimp only
      rw [if_pos (by rw [decide_eq_false hb]; decide), if_pos hm, if_neg (by decide), f9_eqn, Option.bind_some]
      dsimp only
      rw [if_neg hb, if_pos (by decide)]
  · unfold f17 f16
    dsimp only
    rw [f34_eqn, Option.bind_some, f33_eqn, Option.bind_some]
    dsimp only
    rw [if_pos (by rw [decide_eq_false hm]; decide), if_neg hm, if_pos (by decide)]
end Go.Ev.Box
namespace Go.Ev.Box
open Go.Ev.Dec

theorem eq_pt (p : Pt) : allEq ((((p.1.1, p.1.1) :: []) ++ (((p.1.2, p.1.2) :: []) ++ [])) ++ ((((p.2.1, p.2.1) :: []) ++ (((p.2.2, p.2.2) :: []) ++ [])) ++ [])) = true := by
  simp [allEq]
def row4 (x : g4_1.D) : List Pt := x.1
def idx4 (x : g4_1.D) : Int := x.2.2.2.2.2.2.2.2.2.2.2.1
def own4 (x : g4_1.D) : List Pt := x.2.2.2.2.2.2.2.2.2.2.2.2.2.2.2.2.2.2.2.2.1
noncomputable def upd (x : g4_1.D) : g4_1.D := (x.1, x.2.1, x.2.2.1, x.2.2.2.1, x.2.2.2.2.1, x.2.2.2.2.2.1, x.2.2.2.2.2.2.1, x.2.2.2.2.2.2.2.1, x.2.2.2.2.2.2.2.2.1, x.2.2.2.2.2.2.2.2.2.1, x.2.2.2.2.2.2.2.2.2.2.1, (IntKind.wrap .i64 (x.2.2.2.2.2.2.2.2.2.2.2.1 + 1)), x.2.2.2.2.2.2.2.2.2.2.2.2.1, x.2.2.2.2.2.2.2.2.2.2.2.2.2.1, x.2.2.2.2.2.2.2.2.2.2.2.2.2.2.1, x.2.2.2.2.2.2.2.2.2.2.2.2.2.2.2.1, x.2.2.2.2.2.2.2.2.2.2.2.2.2.2.2.2.1, x.2.2.2.2.2.2.2.2.2.2.2.2.2.2.2.2.2.1, x.2.2.2.2.2.2.2.2.2.2.2.2.2.2.2.2.2.2.1, x.2.2.2.2.2.2.2.2.2.2.2.2.2.2.2.2.2.2.2.1, x.2.2.2.2.2.2.2.2.2.2.2.2.2.2.2.2.2.2.2.2.1, x.2.2.2.2.2.2.2.2.2.2.2.2.2.2.2.2.2.2.2.2.2.1, x.2.2.2.2.2.2.2.2.2.2.2.2.2.2.2.2.2.2.2.2.2.2.1, x.2.2.2.2.2.2.2.2.2.2.2.2.2.2.2.2.2.2.2.2.2.2.2.1, x.2.2.2.2.2.2.2.2.2.2.2.2.2.2.2.2.2.2.2.2.2.2.2.2.1, x.2.2.2.2.2.2.2.2.2.2.2.2.2.2.2.2.2.2.2.2.2.2.2.2.2.1, x.2.2.2.2.2.2.2.2.2.2.2.2.2.2.2.2.2.2.2.2.2.2.2.2.2.2.1, x.2.2.2.2.2.2.2.2.2.2.2.2.2.2.2.2.2.2.2.2.2.2.2.2.2.2.2.1, x.2.2.2.2.2.2.2.2.2.2.2.2.2.2.2.2.2.2.2.2.2.2.2.2.2.2.2.2.1, x.2.2.2.2.2.2.2.2.2.2.2.2.2.2.2.2.2.2.2.2.2.2.2.2.2.2.2.2.2.1, x.2.2.2.2.2.2.2.2.2.2.2.2.2.2.2.2.2.2.2.2.2.2.2.2.2.2.2.2.2.2.1, x.2.2.2.2.2.2.2.2.2.2.2.2.2.2.2.2.2.2.2.2.2.2.2.2.2.2.2.2.2.2.2.1, x.2.2.2.2.2.2.2.2.2.2.2.2.2.2.2.2.2.2.2.2.2.2.2.2.2.2.2.2.2.2.2.2.1, x.2.2.2.2.2.2.2.2.2.2.2.2.2.2.2.2.2.2.2.2.2.2.2.2.2.2.2.2.2.2.2.2.2.1, x.2.2.2.2.2.2.2.2.2.2.2.2.2.2.2.2.2.2.2.2.2.2.2.2.2.2.2.2.2.2.2.2.2.2.1, x.2.2.2.2.2.2.2.2.2.2.2.2.2.2.2.2.2.2.2.2.2.2.2.2.2.2.2.2.2.2.2.2.2.2.2.1, x.2.2.2.2.2.2.2.2.2.2.2.2.2.2.2.2.2.2.2.2.2.2.2.2.2.2.2.2.2.2.2.2.2.2.2.2.1, x.2.2.2.2.2.2.2.2.2.2.2.2.2.2.2.2.2.2.2.2.2.2.2.2.2.2.2.2.2.2.2.2.2.2.2.2.2.1, x.2.2.2.2.2.2.2.2.2.2.2.2.2.2.2.2.2.2.2.2.2.2.2.2.2.2.2.2.2.2.2.2.2.2.2.2.2.2.1, x.2.2.2.2.2.2.2.2.2.2.2.2.2.2.2.2.2.2.2.2.2.2.2.2.2.2.2.2.2.2.2.2.2.2.2.2.2.2.2.1, x.2.2.2.2.2.2.2.2.2.2.2.2.2.2.2.2.2.2.2.2.2.2.2.2.2.2.2.2.2.2.2.2.2.2.2.2.2.2.2.2.1, x.2.2.2.2.2.2.2.2.2.2.2.2.2.2.2.2.2.2.2.2.2.2.2.2.2.2.2.2.2.2.2.2.2.2.2.2.2.2.2.2.2.1, x.2.2.2.2.2.2.2.2.2.2.2.2.2.2.2.2.2.2.2.2.2.2.2.2.2.2.2.2.2.2.2.2.2.2.2.2.2.2.2.2.2.2.1, x.2.2.2.2.2.2.2.2.2.2.2.2.2.2.2.2.2.2.2.2.2.2.2.2.2.2.2.2.2.2.2.2.2.2.2.2.2.2.2.2.2.2.2.1, x.2.2.2.2.2.2.2.2.2.2.2.2.2.2.2.2.2.2.2.2.2.2.2.2.2.2.2.2.2.2.2.2.2.2.2.2.2.2.2.2.2.2.2.2.1, x.2.2.2.2.2.2.2.2.2.2.2.2.2.2.2.2.2.2.2.2.2.2.2.2.2.2.2.2.2.2.2.2.2.2.2.2.2.2.2.2.2.2.2.2.2.1, x.2.2.2.2.2.2.2.2.2.2.2.2.2.2.2.2.2.2.2.2.2.2.2.2.2.2.2.2.2.2.2.2.2.2.2.2.2.2.2.2.2.2.2.2.2.2.1, x.2.2.2.2.2.2.2.2.2.2.2.2.2.2.2.2.2.2.2.2.2.2.2.2.2.2.2.2.2.2.2.2.2.2.2.2.2.2.2.2.2.2.2.2.2.2.2.1, x.2.2.2.2.2.2.2.2.2.2.2.2.2.2.2.2.2.2.2.2.2.2.2.2.2.2.2.2.2.2.2.2.2.2.2.2.2.2.2.2.2.2.2.2.2.2.2.2.1, x.2.2.2.2.2.2.2.2.2.2.2.2.2.2.2.2.2.2.2.2.2.2.2.2.2.2.2.2.2.2.2.2.2.2.2.2.2.2.2.2.2.2.2.2.2.2.2.2.2.1, x.2.2.2.2.2.2.2.2.2.2.2.2.2.2.2.2.2.2.2.2.2.2.2.2.2.2.2.2.2.2.2.2.2.2.2.2.2.2.2.2.2.2.2.2.2.2.2.2.2.2.1, x.2.2.2.2.2.2.2.2.2.2.2.2.2.2.2.2.2.2.2.2.2.2.2.2.2.2.2.2.2.2.2.2.2.2.2.2.2.2.2.2.2.2.2.2.2.2.2.2.2.2.2.1, x.2.2.2.2.2.2.2.2.2.2.2.2.2.2.2.2.2.2.2.2.2.2.2.2.2.2.2.2.2.2.2.2.2.2.2.2.2.2.2.2.2.2.2.2.2.2.2.2.2.2.2.2.1, x.2.2.2.2.2.2.2.2.2.2.2.2.2.2.2.2.2.2.2.2.2.2.2.2.2.2.2.2.2.2.2.2.2.2.2.2.2.2.2.2.2.2.2.2.2.2.2.2.2.2.2.2.2.1, x.2.2.2.2.2.2.2.2.2.2.2.2.2.2.2.2.2.2.2.2.2.2.2.2.2.2.2.2.2.2.2.2.2.2.2.2.2.2.2.2.2.2.2.2.2.2.2.2.2.2.2.2.2.2.1, x.2.2.2.2.2.2.2.2.2.2.2.2.2.2.2.2.2.2.2.2.2.2.2.2.2.2.2.2.2.2.2.2.2.2.2.2.2.2.2.2.2.2.2.2.2.2.2.2.2.2.2.2.2.2.2.1, x.2.2.2.2.2.2.2.2.2.2.2.2.2.2.2.2.2.2.2.2.2.2.2.2.2.2.2.2.2.2.2.2.2.2.2.2.2.2.2.2.2.2.2.2.2.2.2.2.2.2.2.2.2.2.2.2.1, x.2.2.2.2.2.2.2.2.2.2.2.2.2.2.2.2.2.2.2.2.2.2.2.2.2.2.2.2.2.2.2.2.2.2.2.2.2.2.2.2.2.2.2.2.2.2.2.2.2.2.2.2.2.2.2.2.2.1, x.2.2.2.2.2.2.2.2.2.2.2.2.2.2.2.2.2.2.2.2.2.2.2.2.2.2.2.2.2.2.2.2.2.2.2.2.2.2.2.2.2.2.2.2.2.2.2.2.2.2.2.2.2.2.2.2.2.2.1, x.2.2.2.2.2.2.2.2.2.2.2.2.2.2.2.2.2.2.2.2.2.2.2.2.2.2.2.2.2.2.2.2.2.2.2.2.2.2.2.2.2.2.2.2.2.2.2.2.2.2.2.2.2.2.2.2.2.2.2.1, x.2.2.2.2.2.2.2.2.2.2.2.2.2.2.2.2.2.2.2.2.2.2.2.2.2.2.2.2.2.2.2.2.2.2.2.2.2.2.2.2.2.2.2.2.2.2.2.2.2.2.2.2.2.2.2.2.2.2.2.2.1, x.2.2.2.2.2.2.2.2.2.2.2.2.2.2.2.2.2.2.2.2.2.2.2.2.2.2.2.2.2.2.2.2.2.2.2.2.2.2.2.2.2.2.2.2.2.2.2.2.2.2.2.2.2.2.2.2.2.2.2.2.2.1, x.2.2.2.2.2.2.2.2.2.2.2.2.2.2.2.2.2.2.2.2.2.2.2.2.2.2.2.2.2.2.2.2.2.2.2.2.2.2.2.2.2.2.2.2.2.2.2.2.2.2.2.2.2.2.2.2.2.2.2.2.2.2.1, x.2.2.2.2.2.2.2.2.2.2.2.2.2.2.2.2.2.2.2.2.2.2.2.2.2.2.2.2.2.2.2.2.2.2.2.2.2.2.2.2.2.2.2.2.2.2.2.2.2.2.2.2.2.2.2.2.2.2.2.2.2.2.2.1, x.2.2.2.2.2.2.2.2.2.2.2.2.2.2.2.2.2.2.2.2.2.2.2.2.2.2.2.2.2.2.2.2.2.2.2.2.2.2.2.2.2.2.2.2.2.2.2.2.2.2.2.2.2.2.2.2.2.2.2.2.2.2.2.2.1, x.2.2.2.2.2.2.2.2.2.2.2.2.2.2.2.2.2.2.2.2.2.2.2.2.2.2.2.2.2.2.2.2.2.2.2.2.2.2.2.2.2.2.2.2.2.2.2.2.2.2.2.2.2.2.2.2.2.2.2.2.2.2.2.2.2.1, x.2.2.2.2.2.2.2.2.2.2.2.2.2.2.2.2.2.2.2.2.2.2.2.2.2.2.2.2.2.2.2.2.2.2.2.2.2.2.2.2.2.2.2.2.2.2.2.2.2.2.2.2.2.2.2.2.2.2.2.2.2.2.2.2.2.2.1, x.2.2.2.2.2.2.2.2.2.2.2.2.2.2.2.2.2.2.2.2.2.2.2.2.2.2.2.2.2.2.2.2.2.2.2.2.2.2.2.2.2.2.2.2.2.2.2.2.2.2.2.2.2.2.2.2.2.2.2.2.2.2.2.2.2.2.2.1, x.2.2.2.2.2.2.2.2.2.2.2.2.2.2.2.2.2.2.2.2.2.2.2.2.2.2.2.2.2.2.2.2.2.2.2.2.2.2.2.2.2.2.2.2.2.2.2.2.2.2.2.2.2.2.2.2.2.2.2.2.2.2.2.2.2.2.2.2.1, ())
theorem ne_pt {a b : List Pt} (h : a = b) (i j : Nat) (hij : i = j) : ¬ ((Bool.not (allEq (((((a.getD i ((0, 0), (0, 0))).1.1, (b.getD j ((0, 0), (0, 0))).1.1) :: []) ++ ((((a.getD i ((0, 0), (0, 0))).1.2, (b.getD j ((0, 0), (0, 0))).1.2) :: []) ++ [])) ++ (((((a.getD i ((0, 0), (0, 0))).2.1, (b.getD j ((0, 0), (0, 0))).2.1) :: []) ++ ((((a.getD i ((0, 0), (0, 0))).2.2, (b.getD j ((0, 0), (0, 0))).2.2) :: []) ++ [])) ++ [])))) = true) := by
  subst h; subst hij
  rw [eq_pt]; decide
theorem b4_1_go (x : g4_1.D) (hown : own4 x = row4 x) {i : Nat} (h11 : idx4 x = (i : Int)) (hi : i < (row4 x).length) : b4_1 x = some (.inl (upd x)) := by
  have hi2 : i < (own4 x).length := by rw [hown]; exact hi
  have c1 : decide (idx4 x < (((row4 x).length : Nat) : Int)) = true := decide_eq_true (by rw [h11]; omega)
  have c2 : 0 ≤ idx4 x := by rw [h11]; omega
  have c3 : idx4 x < (((own4 x).length : Nat) : Int) := by rw [h11]; omega
  have c4 : idx4 x < (((row4 x).length : Nat) : Int) := by rw [h11]; omega
  have c5 := ne_pt hown (0 + Int.toNat (idx4 x)) (Int.toNat (idx4 x)) (Nat.zero_add _)
  exact (if_pos c1).trans ((if_pos c2).trans ((if_pos c3).trans ((if_pos c2).trans ((if_pos c4).trans ((if_neg c5).trans (if_pos rfl))))))
noncomputable def ext4 (x : g4_1.D) : outD o4_1 := .inl (x.2.1, x.2.2.1, x.2.2.2.1, x.2.2.2.2.1, x.2.2.2.2.2.1, x.2.2.2.2.2.2.1, x.2.2.2.2.2.2.2.1, x.2.2.2.2.2.2.2.2.1, x.2.2.2.2.2.2.2.2.2.1, x.2.2.2.2.2.2.2.2.2.2.1, x.2.2.2.2.2.2.2.2.2.2.2.2.1, x.2.2.2.2.2.2.2.2.2.2.2.2.2.1, x.2.2.2.2.2.2.2.2.2.2.2.2.2.2.1, x.2.2.2.2.2.2.2.2.2.2.2.2.2.2.2.1, x.2.2.2.2.2.2.2.2.2.2.2.2.2.2.2.2.1, x.2.2.2.2.2.2.2.2.2.2.2.2.2.2.2.2.2.1, x.2.2.2.2.2.2.2.2.2.2.2.2.2.2.2.2.2.2.1, x.2.2.2.2.2.2.2.2.2.2.2.2.2.2.2.2.2.2.2.1, x.2.2.2.2.2.2.2.2.2.2.2.2.2.2.2.2.2.2.2.2.2.1, x.2.2.2.2.2.2.2.2.2.2.2.2.2.2.2.2.2.2.2.2.2.2.1, x.2.2.2.2.2.2.2.2.2.2.2.2.2.2.2.2.2.2.2.2.2.2.2.1, x.2.2.2.2.2.2.2.2.2.2.2.2.2.2.2.2.2.2.2.2.2.2.2.2.1, x.2.2.2.2.2.2.2.2.2.2.2.2.2.2.2.2.2.2.2.2.2.2.2.2.2.1, x.2.2.2.2.2.2.2.2.2.2.2.2.2.2.2.2.2.2.2.2.2.2.2.2.2.2.1, x.2.2.2.2.2.2.2.2.2.2.2.2.2.2.2.2.2.2.2.2.2.2.2.2.2.2.2.1, x.2.2.2.2.2.2.2.2.2.2.2.2.2.2.2.2.2.2.2.2.2.2.2.2.2.2.2.2.1, x.2.2.2.2.2.2.2.2.2.2.2.2.2.2.2.2.2.2.2.2.2.2.2.2.2.2.2.2.2.1, x.2.2.2.2.2.2.2.2.2.2.2.2.2.2.2.2.2.2.2.2.2.2.2.2.2.2.2.2.2.2.1, x.2.2.2.2.2.2.2.2.2.2.2.2.2.2.2.2.2.2.2.2.2.2.2.2.2.2.2.2.2.2.2.1, x.2.2.2.2.2.2.2.2.2.2.2.2.2.2.2.2.2.2.2.2.2.2.2.2.2.2.2.2.2.2.2.2.1, x.2.2.2.2.2.2.2.2.2.2.2.2.2.2.2.2.2.2.2.2.2.2.2.2.2.2.2.2.2.2.2.2.2.1, x.2.2.2.2.2.2.2.2.2.2.2.2.2.2.2.2.2.2.2.2.2.2.2.2.2.2.2.2.2.2.2.2.2.2.1, x.2.2.2.2.2.2.2.2.2.2.2.2.2.2.2.2.2.2.2.2.2.2.2.2.2.2.2.2.2.2.2.2.2.2.2.1, x.2.2.2.2.2.2.2.2.2.2.2.2.2.2.2.2.2.2.2.2.2.2.2.2.2.2.2.2.2.2.2.2.2.2.2.2.1, x.2.2.2.2.2.2.2.2.2.2.2.2.2.2.2.2.2.2.2.2.2.2.2.2.2.2.2.2.2.2.2.2.2.2.2.2.2.1, x.2.2.2.2.2.2.2.2.2.2.2.2.2.2.2.2.2.2.2.2.2.2.2.2.2.2.2.2.2.2.2.2.2.2.2.2.2.2.1, x.2.2.2.2.2.2.2.2.2.2.2.2.2.2.2.2.2.2.2.2.2.2.2.2.2.2.2.2.2.2.2.2.2.2.2.2.2.2.2.1, x.2.2.2.2.2.2.2.2.2.2.2.2.2.2.2.2.2.2.2.2.2.2.2.2.2.2.2.2.2.2.2.2.2.2.2.2.2.2.2.2.1, x.2.2.2.2.2.2.2.2.2.2.2.2.2.2.2.2.2.2.2.2.2.2.2.2.2.2.2.2.2.2.2.2.2.2.2.2.2.2.2.2.2.1, x.2.2.2.2.2.2.2.2.2.2.2.2.2.2.2.2.2.2.2.2.2.2.2.2.2.2.2.2.2.2.2.2.2.2.2.2.2.2.2.2.2.2.1, x.2.2.2.2.2.2.2.2.2.2.2.2.2.2.2.2.2.2.2.2.2.2.2.2.2.2.2.2.2.2.2.2.2.2.2.2.2.2.2.2.2.2.2.1, x.2.2.2.2.2.2.2.2.2.2.2.2.2.2.2.2.2.2.2.2.2.2.2.2.2.2.2.2.2.2.2.2.2.2.2.2.2.2.2.2.2.2.2.2.1, x.2.2.2.2.2.2.2.2.2.2.2.2.2.2.2.2.2.2.2.2.2.2.2.2.2.2.2.2.2.2.2.2.2.2.2.2.2.2.2.2.2.2.2.2.2.1, x.2.2.2.2.2.2.2.2.2.2.2.2.2.2.2.2.2.2.2.2.2.2.2.2.2.2.2.2.2.2.2.2.2.2.2.2.2.2.2.2.2.2.2.2.2.2.1, x.2.2.2.2.2.2.2.2.2.2.2.2.2.2.2.2.2.2.2.2.2.2.2.2.2.2.2.2.2.2.2.2.2.2.2.2.2.2.2.2.2.2.2.2.2.2.2.1, x.2.2.2.2.2.2.2.2.2.2.2.2.2.2.2.2.2.2.2.2.2.2.2.2.2.2.2.2.2.2.2.2.2.2.2.2.2.2.2.2.2.2.2.2.2.2.2.2.1, x.2.2.2.2.2.2.2.2.2.2.2.2.2.2.2.2.2.2.2.2.2.2.2.2.2.2.2.2.2.2.2.2.2.2.2.2.2.2.2.2.2.2.2.2.2.2.2.2.2.1, x.2.2.2.2.2.2.2.2.2.2.2.2.2.2.2.2.2.2.2.2.2.2.2.2.2.2.2.2.2.2.2.2.2.2.2.2.2.2.2.2.2.2.2.2.2.2.2.2.2.2.1, x.2.2.2.2.2.2.2.2.2.2.2.2.2.2.2.2.2.2.2.2.2.2.2.2.2.2.2.2.2.2.2.2.2.2.2.2.2.2.2.2.2.2.2.2.2.2.2.2.2.2.2.1, x.2.2.2.2.2.2.2.2.2.2.2.2.2.2.2.2.2.2.2.2.2.2.2.2.2.2.2.2.2.2.2.2.2.2.2.2.2.2.2.2.2.2.2.2.2.2.2.2.2.2.2.2.1, x.2.2.2.2.2.2.2.2.2.2.2.2.2.2.2.2.2.2.2.2.2.2.2.2.2.2.2.2.2.2.2.2.2.2.2.2.2.2.2.2.2.2.2.2.2.2.2.2.2.2.2.2.2.1, x.2.2.2.2.2.2.2.2.2.2.2.2.2.2.2.2.2.2.2.2.2.2.2.2.2.2.2.2.2.2.2.2.2.2.2.2.2.2.2.2.2.2.2.2.2.2.2.2.2.2.2.2.2.2.1, x.2.2.2.2.2.2.2.2.2.2.2.2.2.2.2.2.2.2.2.2.2.2.2.2.2.2.2.2.2.2.2.2.2.2.2.2.2.2.2.2.2.2.2.2.2.2.2.2.2.2.2.2.2.2.2.1, x.2.2.2.2.2.2.2.2.2.2.2.2.2.2.2.2.2.2.2.2.2.2.2.2.2.2.2.2.2.2.2.2.2.2.2.2.2.2.2.2.2.2.2.2.2.2.2.2.2.2.2.2.2.2.2.2.1, x.2.2.2.2.2.2.2.2.2.2.2.2.2.2.2.2.2.2.2.2.2.2.2.2.2.2.2.2.2.2.2.2.2.2.2.2.2.2.2.2.2.2.2.2.2.2.2.2.2.2.2.2.2.2.2.2.2.1, x.2.2.2.2.2.2.2.2.2.2.2.2.2.2.2.2.2.2.2.2.2.2.2.2.2.2.2.2.2.2.2.2.2.2.2.2.2.2.2.2.2.2.2.2.2.2.2.2.2.2.2.2.2.2.2.2.2.2.1, x.2.2.2.2.2.2.2.2.2.2.2.2.2.2.2.2.2.2.2.2.2.2.2.2.2.2.2.2.2.2.2.2.2.2.2.2.2.2.2.2.2.2.2.2.2.2.2.2.2.2.2.2.2.2.2.2.2.2.2.1, x.2.2.2.2.2.2.2.2.2.2.2.2.2.2.2.2.2.2.2.2.2.2.2.2.2.2.2.2.2.2.2.2.2.2.2.2.2.2.2.2.2.2.2.2.2.2.2.2.2.2.2.2.2.2.2.2.2.2.2.2.1, x.2.2.2.2.2.2.2.2.2.2.2.2.2.2.2.2.2.2.2.2.2.2.2.2.2.2.2.2.2.2.2.2.2.2.2.2.2.2.2.2.2.2.2.2.2.2.2.2.2.2.2.2.2.2.2.2.2.2.2.2.2.1, x.2.2.2.2.2.2.2.2.2.2.2.2.2.2.2.2.2.2.2.2.2.2.2.2.2.2.2.2.2.2.2.2.2.2.2.2.2.2.2.2.2.2.2.2.2.2.2.2.2.2.2.2.2.2.2.2.2.2.2.2.2.2.1, x.2.2.2.2.2.2.2.2.2.2.2.2.2.2.2.2.2.2.2.2.2.2.2.2.2.2.2.2.2.2.2.2.2.2.2.2.2.2.2.2.2.2.2.2.2.2.2.2.2.2.2.2.2.2.2.2.2.2.2.2.2.2.2.1, x.2.2.2.2.2.2.2.2.2.2.2.2.2.2.2.2.2.2.2.2.2.2.2.2.2.2.2.2.2.2.2.2.2.2.2.2.2.2.2.2.2.2.2.2.2.2.2.2.2.2.2.2.2.2.2.2.2.2.2.2.2.2.2.2.1, x.2.2.2.2.2.2.2.2.2.2.2.2.2.2.2.2.2.2.2.2.2.2.2.2.2.2.2.2.2.2.2.2.2.2.2.2.2.2.2.2.2.2.2.2.2.2.2.2.2.2.2.2.2.2.2.2.2.2.2.2.2.2.2.2.2.1, x.2.2.2.2.2.2.2.2.2.2.2.2.2.2.2.2.2.2.2.2.2.2.2.2.2.2.2.2.2.2.2.2.2.2.2.2.2.2.2.2.2.2.2.2.2.2.2.2.2.2.2.2.2.2.2.2.2.2.2.2.2.2.2.2.2.2.1, x.2.2.2.2.2.2.2.2.2.2.2.2.2.2.2.2.2.2.2.2.2.2.2.2.2.2.2.2.2.2.2.2.2.2.2.2.2.2.2.2.2.2.2.2.2.2.2.2.2.2.2.2.2.2.2.2.2.2.2.2.2.2.2.2.2.2.2.1, x.2.2.2.2.2.2.2.2.2.2.2.2.2.2.2.2.2.2.2.2.2.2.2.2.2.2.2.2.2.2.2.2.2.2.2.2.2.2.2.2.2.2.2.2.2.2.2.2.2.2.2.2.2.2.2.2.2.2.2.2.2.2.2.2.2.2.2.2.1, ())
theorem b4_1_end (x : g4_1.D) {i : Nat} (h11 : idx4 x = (i : Int)) (hi : ¬ i < (row4 x).length) : b4_1 x = some (.inr (ext4 x)) := by
  have c1 : ¬ decide (idx4 x < (((row4 x).length : Nat) : Int)) = true := by rw [decide_eq_true_eq, h11]; omega
  exact if_neg c1
theorem own4_upd (x : g4_1.D) : own4 (upd x) = own4 x := by kernel_rfl
theorem row4_upd (x : g4_1.D) : row4 (upd x) = row4 x := by kernel_rfl
theorem idx4_upd (x : g4_1.D) : idx4 (upd x) = IntKind.wrap .i64 (idx4 x + 1) := by kernel_rfl
theorem ext4_upd (x : g4_1.D) : ext4 (upd x) = ext4 x := by kernel_rfl
theorem l4_1_spec : ∀ (k i : Nat) (x : g4_1.D), own4 x = row4 x → idx4 x = (i : Int) → (row4 x).length ≤ 100 → (row4 x).length < i + k → i ≤ (row4 x).length → loopN g4_1 o4_1 b4_1 k x = some (ext4 x) := by
  intro k
  induction k with
  | zero => intro i x h0 h1 h2 h3; omega
  | succ k ih =>
    intro i x h0 h1 h2 h3 h4
    rw [loopN_succ]
    by_cases h : i < (row4 x).length
    · rw [b4_1_go x h0 h1 h, Option.bind_some, Sum.elim_inl]
      have e11 : IntKind.wrap .i64 (idx4 x + 1) = ((i + 1 : Nat) : Int) := by rw [h1, wrap_i64 (by omega)]; omega
      rw [ih (i + 1) (upd x) (by rw [own4_upd, row4_upd]; exact h0) (by rw [idx4_upd]; exact e11) (by rw [row4_upd]; exact h2) (by rw [row4_upd]; omega) (by rw [row4_upd]; omega), ext4_upd]
    · rw [b4_1_end x h1 h]
      rfl

theorem f11_ex (l : List Pt) (hl : l.length ≤ 9223372036854775807) : ∃ (B : Bx) (e : Int), f11 (l, ()) = some (B.X0.1, B.X0.2, B.Y0.1, B.Y0.2, B.X1.1, B.X1.2, B.Y1.1, B.Y1.2, e, ()) := by
  by_cases h0 : l = []
  · subst h0; exact ⟨Bx.zero, 8, f11_nil⟩
  · by_cases hr : ∀ p ∈ l, RtP p
    · exact ⟨_, _, f11_yes hl h0 hr⟩
    · exact ⟨Bx.zero, 1, f11_no hl h0 hr⟩
theorem f7_ex (a b : Bx) : ∃ (r : Bool) (e : Int), f7 (a.X0.1, a.X0.2, a.Y0.1, a.Y0.2, a.X1.1, a.X1.2, a.Y1.1, a.Y1.2, b.X0.1, b.X0.2, b.Y0.1, b.Y0.2, b.X1.1, b.X1.2, b.Y1.1, b.Y1.2, ()) = some (r, e, ()) := by
  rw [f7_eqn]
  by_cases h : a.ok ∧ b.ok
  · exact ⟨_, _, by rw [if_pos h]⟩
  · exact ⟨_, _, by rw [if_neg h]⟩
theorem f14_ex (a b : Bx) : ∃ (B : Bx) (e : Int), f14 (a.X0.1, a.X0.2, a.Y0.1, a.Y0.2, a.X1.1, a.X1.2, a.Y1.1, a.Y1.2, b.X0.1, b.X0.2, b.Y0.1, b.Y0.2, b.X1.1, b.X1.2, b.Y1.1, b.Y1.2, ()) = some (B.X0.1, B.X0.2, B.Y0.1, B.Y0.2, B.X1.1, B.X1.2, B.Y1.1, B.Y1.2, e, ()) := by
  rw [f14_eqn]
  by_cases h : a.ok ∧ b.ok
  · exact ⟨both a b, 0, by rw [if_pos h]⟩
  · exact ⟨Bx.zero, 1, by rw [if_neg h]; rfl⟩
theorem f16_ex (m : Mt) (b : Bx) : ∃ (B : Bx) (e : Int), f16 (m.A.1, m.A.2, m.B.1, m.B.2, m.C.1, m.C.2, m.D.1, m.D.2, m.E.1, m.E.2, m.F.1, m.F.2, b.X0.1, b.X0.2, b.Y0.1, b.Y0.2, b.X1.1, b.X1.2, b.Y1.1, b.Y1.2, ()) = some (B.X0.1, B.X0.2, B.Y0.1, B.Y0.2, B.X1.1, B.X1.2, B.Y1.1, B.Y1.2, e, ()) := by
  by_cases hm : m.ok
  · by_cases hb : b.ok
    · rcases f16_eqn hm hb with ⟨e, _, _, h⟩ | ⟨_, h⟩
      · exact ⟨Bx.zero, e, h⟩
      · exact ⟨_, _, h⟩
    · refine ⟨Bx.zero, 1, ?_⟩
      unfold f16
      dsimp only
      rw [f33_eqn, Option.bind_some]
      dsimp only
      rw [if_pos hm, if_neg (by decide), f9_eqn, Option.bind_some]
      dsimp only
      rw [if_neg hb, if_pos (by decide)]
      rfl
  · refine ⟨Bx.zero, 1, ?_⟩
    unfold f16
    dsimp only
    rw [f33_eqn, Option.bind_some]
    dsimp only
    rw [if_neg hm, if_pos (by decide)]
    rfl
theorem l4_1_at (a : Bx) (l : List Pt) (B1 B3 B4 : Bx) (r : Bool) (e1 e2 e3 e4 : Int) (hl : l.length ≤ 100) : l4_1 (l, e1, e1, r, e2, r, e2, e3, e3, e4, e4, 0, a.X0.1, a.X0.2, a.Y0.1, a.Y0.2, a.X1.1, a.X1.2, a.Y1.1, a.Y1.2, l, B1.X0.1, B1.X0.2, B1.Y0.1, B1.Y0.2, B1.X1.1, B1.X1.2, B1.Y1.1, B1.Y1.2, B1.X0.1, B1.X0.2, B1.Y0.1, B1.Y0.2, B1.X1.1, B1.X1.2, B1.Y1.1, B1.Y1.2, B3.X0.1, B3.X0.2, B3.Y0.1, B3.Y0.2, B3.X1.1, B3.X1.2, B3.Y1.1, B3.Y1.2, B3.X0.1, B3.X0.2, B3.Y0.1, B3.Y0.2, B3.X1.1, B3.X1.2, B3.Y1.1, B3.Y1.2, B4.X0.1, B4.X0.2, B4.Y0.1, B4.Y0.2, B4.X1.1, B4.X1.2, B4.Y1.1, B4.Y1.2, B4.X0.1, B4.X0.2, B4.Y0.1, B4.Y0.2, B4.X1.1, B4.X1.2, B4.Y1.1, B4.Y1.2, ()) = some (.inl (e1, e1, r, e2, r, e2, e3, e3, e4, e4, a.X0.1, a.X0.2, a.Y0.1, a.Y0.2, a.X1.1, a.X1.2, a.Y1.1, a.Y1.2, B1.X0.1, B1.X0.2, B1.Y0.1, B1.Y0.2, B1.X1.1, B1.X1.2, B1.Y1.1, B1.Y1.2, B1.X0.1, B1.X0.2, B1.Y0.1, B1.Y0.2, B1.X1.1, B1.X1.2, B1.Y1.1, B1.Y1.2, B3.X0.1, B3.X0.2, B3.Y0.1, B3.Y0.2, B3.X1.1, B3.X1.2, B3.Y1.1, B3.Y1.2, B3.X0.1, B3.X0.2, B3.Y0.1, B3.Y0.2, B3.X1.1, B3.X1.2, B3.Y1.1, B3.Y1.2, B4.X0.1, B4.X0.2, B4.Y0.1, B4.Y0.2, B4.X1.1, B4.X1.2, B4.Y1.1, B4.Y1.2, B4.X0.1, B4.X0.2, B4.Y0.1, B4.Y0.2, B4.X1.1, B4.X1.2, B4.Y1.1, B4.Y1.2, ())) := by
  have h := l4_1_spec 18446744073709551616 0 (l, e1, e1, r, e2, r, e2, e3, e3, e4, e4, 0, a.X0.1, a.X0.2, a.Y0.1, a.Y0.2, a.X1.1, a.X1.2, a.Y1.1, a.Y1.2, l, B1.X0.1, B1.X0.2, B1.Y0.1, B1.Y0.2, B1.X1.1, B1.X1.2, B1.Y1.1, B1.Y1.2, B1.X0.1, B1.X0.2, B1.Y0.1, B1.Y0.2, B1.X1.1, B1.X1.2, B1.Y1.1, B1.Y1.2, B3.X0.1, B3.X0.2, B3.Y0.1, B3.Y0.2, B3.X1.1, B3.X1.2, B3.Y1.1, B3.Y1.2, B3.X0.1, B3.X0.2, B3.Y0.1, B3.Y0.2, B3.X1.1, B3.X1.2, B3.Y1.1, B3.Y1.2, B4.X0.1, B4.X0.2, B4.Y0.1, B4.Y0.2, B4.X1.1, B4.X1.2, B4.Y1.1, B4.Y1.2, B4.X0.1, B4.X0.2, B4.Y0.1, B4.Y0.2, B4.X1.1, B4.X1.2, B4.Y1.1, B4.Y1.2, ()) (by kernel_rfl) (by kernel_rfl) hl (by show l.length < 0 + 18446744073709551616; omega) (Nat.zero_le _)
  have e : ext4 (l, e1, e1, r, e2, r, e2, e3, e3, e4, e4, 0, a.X0.1, a.X0.2, a.Y0.1, a.Y0.2, a.X1.1, a.X1.2, a.Y1.1, a.Y1.2, l, B1.X0.1, B1.X0.2, B1.Y0.1, B1.Y0.2, B1.X1.1, B1.X1.2, B1.Y1.1, B1.Y1.2, B1.X0.1, B1.X0.2, B1.Y0.1, B1.Y0.2, B1.X1.1, B1.X1.2, B1.Y1.1, B1.Y1.2, B3.X0.1, B3.X0.2, B3.Y0.1, B3.Y0.2, B3.X1.1, B3.X1.2, B3.Y1.1, B3.Y1.2, B3.X0.1, B3.X0.2, B3.Y0.1, B3.Y0.2, B3.X1.1, B3.X1.2, B3.Y1.1, B3.Y1.2, B4.X0.1, B4.X0.2, B4.Y0.1, B4.Y0.2, B4.X1.1, B4.X1.2, B4.Y1.1, B4.Y1.2, B4.X0.1, B4.X0.2, B4.Y0.1, B4.Y0.2, B4.X1.1, B4.X1.2, B4.Y1.1, B4.Y1.2, ()) = .inl (e1, e1, r, e2, r, e2, e3, e3, e4, e4, a.X0.1, a.X0.2, a.Y0.1, a.Y0.2, a.X1.1, a.X1.2, a.Y1.1, a.Y1.2, B1.X0.1, B1.X0.2, B1.Y0.1, B1.Y0.2, B1.X1.1, B1.X1.2, B1.Y1.1, B1.Y1.2, B1.X0.1, B1.X0.2, B1.Y0.1, B1.Y0.2, B1.X1.1, B1.X1.2, B1.Y1.1, B1.Y1.2, B3.X0.1, B3.X0.2, B3.Y0.1, B3.Y0.2, B3.X1.1, B3.X1.2, B3.Y1.1, B3.Y1.2, B3.X0.1, B3.X0.2, B3.Y0.1, B3.Y0.2, B3.X1.1, B3.X1.2, B3.Y1.1, B3.Y1.2, B4.X0.1, B4.X0.2, B4.Y0.1, B4.Y0.2, B4.X1.1, B4.X1.2, B4.Y1.1, B4.Y1.2, B4.X0.1, B4.X0.2, B4.Y0.1, B4.Y0.2, B4.X1.1, B4.X1.2, B4.Y1.1, B4.Y1.2, ()) := by kernel_rfl
  rw [e] at h
  exact h
set_option maxHeartbeats 2000000 in
theorem boxDoes_pure (a b : Bx) (m : Mt) (l : List Pt) : f4 (a.X0.1, a.X0.2, a.Y0.1, a.Y0.2, a.X1.1, a.X1.2, a.Y1.1, a.Y1.2, b.X0.1, b.X0.2, b.Y0.1, b.Y0.2, b.X1.1, b.X1.2, b.Y1.1, b.Y1.2, m.A.1, m.A.2, m.B.1, m.B.2, m.C.1, m.C.2, m.D.1, m.D.2, m.E.1, m.E.2, m.F.1, m.F.2, l, ()) = some (true, ()) := by
  unfold f4
  dsimp only
  by_cases hl : 100 < l.length
  · rw [if_pos (by rw [decide_eq_true_eq]; omega)]
  · have e0 : List.take 0 (List.drop 0 (List.replicate 0 (((0 : Int), (0 : Int)), ((0 : Int), (0 : Int))))) ++ l = l := rfl
    rw [if_neg (by rw [decide_eq_true_eq]; omega), if_pos (by omega), e0, List.drop_zero, List.take_length]
    obtain ⟨B1, e1, h1⟩ := f11_ex l (by omega)
    obtain ⟨r, e2, h2⟩ := f7_ex a b
    obtain ⟨B3, e3, h3⟩ := f14_ex a b
    obtain ⟨B4, e4, h4⟩ := f16_ex m a
    rw [f12_eqn (by omega), h1, Option.bind_some, Option.bind_some, h2, Option.bind_some, f13_eqn, h2, Option.bind_some, h3, Option.bind_some, f15_eqn, h3, Option.bind_some, h4, Option.bind_some, f17_eqn, h4, Option.bind_some, if_pos rfl]
    rw [l4_1_at a l B1 B3 B4 r e1 e2 e3 e4 (by omega), Option.bind_some, Sum.elim_inl, awake_true, Option.bind_some]
    dsimp only
    rw [if_pos rfl, f9_eqn, Option.bind_some, f18_eqn, Option.bind_some]
    dsimp only
    have e : (((if a.ok then (0 : Int) else 1) == 0) == decide a.ok) = true := by
      by_cases h : a.ok
      · rw [if_pos h, decide_eq_true h]; rfl
      · rw [if_neg h, decide_eq_false h]; rfl
    simp only [e, allEq_box, beq_self_eq_true, if_true]
end Go.Ev.Box
