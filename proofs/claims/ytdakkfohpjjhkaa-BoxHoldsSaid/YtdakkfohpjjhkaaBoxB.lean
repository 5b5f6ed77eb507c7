/- Part of a proof about the given program: BoxB. -/
import Derived.Test.YtdakkfohpjjhkaaBoxA
namespace Go.Ev.Box
open Go.Ev.Dec

/-! # Boxes -/
structure Bx where
  X0 : Int × Int
  Y0 : Int × Int
  X1 : Int × Int
  Y1 : Int × Int

def Bx.rt (b : Bx) : Prop := RtD b.X0 ∧ RtD b.Y0 ∧ RtD b.X1 ∧ RtD b.Y1
def Bx.ok (b : Bx) : Prop := b.rt ∧ vD b.X0 ≤ vD b.X1 ∧ vD b.Y0 ≤ vD b.Y1
instance (b : Bx) : Decidable b.rt := by unfold Bx.rt; infer_instance
instance (b : Bx) : Decidable b.ok := by unfold Bx.ok; infer_instance
abbrev Pt := (Int × Int) × (Int × Int)
def corn (b : Bx) : List Pt := [(b.X0, b.Y0), (b.X1, b.Y0), (b.X0, b.Y1), (b.X1, b.Y1)]
def RtP (p : Pt) : Prop := RtD p.1 ∧ RtD p.2
instance (p : Pt) : Decidable (RtP p) := by unfold RtP; infer_instance
theorem f22_eqn (b : Bx) : f22 (b.X0.1, b.X0.2, b.Y0.1, b.Y0.2, b.X1.1, b.X1.2, b.Y1.1, b.Y1.2, ()) = some (corn b, ()) := rfl

theorem l9_1_spec (l : List Pt) (hl : l.length = 4) (b : Bx) : ∀ (k i : Nat), 4 < i + k → i ≤ 4 → (∀ j, j < i → RtP (l.getD j ((0, 0), (0, 0)))) →
    ((∀ d ∈ l, RtP d) ∧ loopN g9_1 o9_1 b9_1 k (l, (i : Int), b.X0.1, b.X0.2, b.Y0.1, b.Y0.2, b.X1.1, b.X1.2, b.Y1.1, b.Y1.2, ()) = some (.inl (b.X0.1, b.X0.2, b.Y0.1, b.Y0.2, b.X1.1, b.X1.2, b.Y1.1, b.Y1.2, ()))) ∨
    (¬ (∀ d ∈ l, RtP d) ∧ loopN g9_1 o9_1 b9_1 k (l, (i : Int), b.X0.1, b.X0.2, b.Y0.1, b.Y0.2, b.X1.1, b.X1.2, b.Y1.1, b.Y1.2, ()) = some (.inr (.inl (1, ())))) := by
  intro k
  induction k with
  | zero => intro i h1 h2; omega
  | succ k ih =>
    intro i h1 h2 h3
    rw [loopN_succ]
    generalize hL : loopN g9_1 o9_1 b9_1 k = L at ih ⊢
    unfold b9_1
    dsimp only
    rw [Int.toNat_natCast]
    rcases Nat.lt_or_ge i 4 with h | h
    · rw [if_pos (by rw [decide_eq_true_eq]; omega), if_pos (by omega), if_pos (by omega), f23_eqn, Option.bind_some]
      dsimp only
      have hm : l.getD i ((0, 0), (0, 0)) ∈ l := by
        rw [List.getD_eq_getElem?_getD, List.getElem?_eq_getElem (by omega)]
        exact List.getElem_mem _
      by_cases r1 : Rt (l.getD i ((0, 0), (0, 0))).1.1 (l.getD i ((0, 0), (0, 0))).1.2
      · rw [if_pos r1, if_neg (by decide), f23_eqn, Option.bind_some]
        dsimp only
        by_cases r2 : Rt (l.getD i ((0, 0), (0, 0))).2.1 (l.getD i ((0, 0), (0, 0))).2.2
        · rw [if_pos r2, if_neg (by decide), Option.bind_some, Sum.elim_inl, show IntKind.wrap .i64 ((i : Int) + 1) = ((i + 1 : Nat) : Int) by rw [wrap_i64 (by omega)]; omega]
          refine ih (i + 1) (by omega) (by omega) (fun j hj => ?_)
          by_cases e : j = i
          · rw [e]; exact ⟨r1, r2⟩
          · exact h3 j (by omega)
        · rw [if_neg r2, if_pos (by decide)]
          exact .inr ⟨fun hall => r2 (hall _ hm).2, rfl⟩
      · rw [if_neg r1, if_pos (by decide)]
        exact .inr ⟨fun hall => r1 (hall _ hm).1, rfl⟩
    · rw [if_neg (by rw [decide_eq_true_eq]; omega)]
      refine .inl ⟨fun d hd => ?_, rfl⟩
      obtain ⟨j, hj, rfl⟩ := List.mem_iff_getElem.1 hd
      have := h3 j (by omega)
      rw [List.getD_eq_getElem?_getD, List.getElem?_eq_getElem hj] at this
      exact this
theorem corn_rt (b : Bx) : (∀ d ∈ corn b, RtP d) ↔ b.rt := by
  unfold corn RtP Bx.rt
  simp only [List.mem_cons, List.not_mem_nil, or_false, forall_eq_or_imp, forall_eq]
  constructor
  · rintro ⟨⟨h1, h2⟩, ⟨h3, _⟩, ⟨_, h4⟩, _⟩; exact ⟨h1, h2, h3, h4⟩
  · rintro ⟨h1, h2, h3, h4⟩; exact ⟨⟨h1, h2⟩, ⟨h3, h2⟩, ⟨h1, h4⟩, ⟨h3, h4⟩⟩
theorem f9_eqn (b : Bx) : f9 (b.X0.1, b.X0.2, b.Y0.1, b.Y0.2, b.X1.1, b.X1.2, b.Y1.1, b.Y1.2, ()) = some ((if b.ok then 0 else 1), ()) := by
  unfold f9
  dsimp only
  rw [f22_eqn, Option.bind_some]
  dsimp only
  have h := l9_1_spec (corn b) rfl b 18446744073709551616 0 (by omega) (by omega) (fun j hj => by omega)
  rw [corn_rt] at h
  have h' : (b.rt ∧ loopN g9_1 o9_1 b9_1 18446744073709551616 (corn b, 0, b.X0.1, b.X0.2, b.Y0.1, b.Y0.2, b.X1.1, b.X1.2, b.Y1.1, b.Y1.2, ()) = some (.inl (b.X0.1, b.X0.2, b.Y0.1, b.Y0.2, b.X1.1, b.X1.2, b.Y1.1, b.Y1.2, ()))) ∨
    (¬ b.rt ∧ loopN g9_1 o9_1 b9_1 18446744073709551616 (corn b, 0, b.X0.1, b.X0.2, b.Y0.1, b.Y0.2, b.X1.1, b.X1.2, b.Y1.1, b.Y1.2, ()) = some (.inr (.inl (1, ())))) := h
  rw [show l9_1 = loopN g9_1 o9_1 b9_1 18446744073709551616 from rfl]
  generalize loopN g9_1 o9_1 b9_1 18446744073709551616 (corn b, 0, b.X0.1, b.X0.2, b.Y0.1, b.Y0.2, b.X1.1, b.X1.2, b.Y1.1, b.Y1.2, ()) = X at h' ⊢
  rcases h' with ⟨hr, h2⟩ | ⟨hr, h2⟩
  · subst h2
    rw [Option.bind_some, Sum.elim_inl]
    dsimp only
    rw [f20_eqn2 hr.1 hr.2.2.1, Option.bind_some]
    dsimp only
    by_cases c1 : vD b.X1 < vD b.X0
    · rw [if_pos (by rw [decide_eq_true_eq]; exact c1), if_neg (fun hk : b.ok => by have := hk.2.1; omega)]
    · rw [if_neg (by rw [decide_eq_true_eq]; exact c1), f20_eqn2 hr.2.1 hr.2.2.2, Option.bind_some]
      dsimp only
      by_cases c2 : vD b.Y1 < vD b.Y0
      · rw [if_pos (by rw [decide_eq_true_eq]; exact c2), if_neg (fun hk : b.ok => by have := hk.2.2; omega)]
      · rw [if_neg (by rw [decide_eq_true_eq]; exact c2), if_pos (show b.ok from ⟨hr, by omega, by omega⟩)]
  · subst h2
    rw [if_neg (fun hk : b.ok => hr hk.1)]
    rfl

/-- Do they meet? -/
def meets (a b : Bx) : Bool := decide (vD a.X0 ≤ vD b.X1 ∧ vD b.X0 ≤ vD a.X1 ∧ vD a.Y0 ≤ vD b.Y1 ∧ vD b.Y0 ≤ vD a.Y1)
theorem f7_eqn (a b : Bx) : f7 (a.X0.1, a.X0.2, a.Y0.1, a.Y0.2, a.X1.1, a.X1.2, a.Y1.1, a.Y1.2, b.X0.1, b.X0.2, b.Y0.1, b.Y0.2, b.X1.1, b.X1.2, b.Y1.1, b.Y1.2, ()) =
    some (if a.ok ∧ b.ok then (meets a b, 0, ()) else (false, 1, ())) := by
  unfold f7
  dsimp only
  rw [f9_eqn, Option.bind_some]
  dsimp only
  by_cases ha : a.ok
  · rw [if_pos ha, if_neg (by decide), f9_eqn, Option.bind_some]
    dsimp only
    by_cases hb : b.ok
    · rw [if_pos hb, if_neg (by decide), if_pos (show a.ok ∧ b.ok from ⟨ha, hb⟩)]
      obtain ⟨a1, a2, a3, a4⟩ := ha.1
      obtain ⟨b1, b2, b3, b4⟩ := hb.1
      rw [f20_eqn2 a1 b3, Option.bind_some]
      dsimp only
      unfold meets
      by_cases c1 : vD b.X1 < vD a.X0
      · rw [if_pos (by rw [decide_eq_true_eq]; exact c1), decide_eq_false (by omega)]
      · rw [if_neg (by rw [decide_eq_true_eq]; exact c1), f20_eqn2 b1 a3, Option.bind_some]
        dsimp only
        by_cases c2 : vD a.X1 < vD b.X0
        · rw [if_pos (by rw [decide_eq_true_eq]; exact c2), decide_eq_false (by omega)]
        · rw [if_neg (by rw [decide_eq_true_eq]; exact c2), f20_eqn2 a2 b4, Option.bind_some]
          dsimp only
          by_cases c3 : vD b.Y1 < vD a.Y0
          · rw [if_pos (by rw [decide_eq_true_eq]; exact c3), decide_eq_false (by omega)]
          · rw [if_neg (by rw [decide_eq_true_eq]; exact c3), f20_eqn2 b2 a4, Option.bind_some]
            congr 2
            show (!decide (vD a.Y1 < vD b.Y0)) = _
            rw [← decide_not, decide_eq_decide]
            omega
    · rw [if_neg hb, if_pos (by decide), if_neg (fun h : a.ok ∧ b.ok => hb h.2)]
  · rw [if_neg ha, if_pos (by decide), if_neg (fun h : a.ok ∧ b.ok => ha h.1)]

/-! ## Boxes go up to points -/
def lo (a p : Int × Int) : Int × Int := if vD p < vD a then p else a
def hi (a p : Int × Int) : Int × Int := if vD a < vD p then p else a
def up (b : Bx) (p : Pt) : Bx := ⟨lo b.X0 p.1, lo b.Y0 p.2, hi b.X1 p.1, hi b.Y1 p.2⟩
theorem lo_rt {a p : Int × Int} (ha : RtD a) (hp : RtD p) : RtD (lo a p) := by unfold lo; split <;> assumption
theorem hi_rt {a p : Int × Int} (ha : RtD a) (hp : RtD p) : RtD (hi a p) := by unfold hi; split <;> assumption
theorem lo_v (a p : Int × Int) : vD (lo a p) = min (vD a) (vD p) := by unfold lo; split <;> omega
theorem hi_v (a p : Int × Int) : vD (hi a p) = max (vD a) (vD p) := by unfold hi; split <;> omega
theorem up_rt {b : Bx} {p : Pt} (hb : b.rt) (hp : RtP p) : (up b p).rt := ⟨lo_rt hb.1 hp.1, lo_rt hb.2.1 hp.2, hi_rt hb.2.2.1 hp.1, hi_rt hb.2.2.2 hp.2⟩

theorem f27_eqn {b : Bx} {p : Pt} (hb : b.rt) (hp : RtP p) : f27 (b.X0.1, b.X0.2, b.Y0.1, b.Y0.2, b.X1.1, b.X1.2, b.Y1.1, b.Y1.2, p.1.1, p.1.2, p.2.1, p.2.2, ()) =
    some ((up b p).X0.1, (up b p).X0.2, (up b p).Y0.1, (up b p).Y0.2, (up b p).X1.1, (up b p).X1.2, (up b p).Y1.1, (up b p).Y1.2, ()) := by
  obtain ⟨h1, h2, h3, h4⟩ := hb
  obtain ⟨p1, p2⟩ := hp
  unfold f27 b27_1
  dsimp only
  unfold up lo hi
  dsimp only
  rw [f20_eqn2 h1 p1, Option.bind_some]
  dsimp only
  by_cases c1 : vD p.1 < vD b.X0
  · rw [if_pos (by rw [decide_eq_true_eq]; exact c1), if_pos c1, Option.bind_some, Sum.elim_inl]
    dsimp only
    rw [f20_eqn2 p1 h3, Option.bind_some]
    dsimp only
    by_cases c2 : vD b.X1 < vD p.1
    · rw [if_pos (by rw [decide_eq_true_eq]; exact c2), if_pos c2, f20_eqn2 h2 p2, Option.bind_some]
      dsimp only
      by_cases c3 : vD p.2 < vD b.Y0
      · rw [if_pos (by rw [decide_eq_true_eq]; exact c3), if_pos c3, f20_eqn2 p2 h4, Option.bind_some]
        dsimp only
        by_cases c4 : vD b.Y1 < vD p.2
        · rw [if_pos (by rw [decide_eq_true_eq]; exact c4), if_pos c4]
        · rw [if_neg (by rw [decide_eq_true_eq]; exact c4), if_neg c4]
      · rw [if_neg (by rw [decide_eq_true_eq]; exact c3), if_neg c3, f20_eqn2 p2 h4, Option.bind_some]
        dsimp only
        by_cases c4 : vD b.Y1 < vD p.2
        · rw [if_pos (by rw [decide_eq_true_eq]; exact c4), if_pos c4]
        · rw [if_neg (by rw [decide_eq_true_eq]; exact c4), if_neg c4]
    · rw [if_neg (by rw [decide_eq_true_eq]; exact c2), if_neg c2, f20_eqn2 h2 p2, Option.bind_some]
      dsimp only
      by_cases c3 : vD p.2 < vD b.Y0
      · rw [if_pos (by rw [decide_eq_true_eq]; exact c3), if_pos c3, f20_eqn2 p2 h4, Option.bind_some]
        dsimp only
        by_cases c4 : vD b.Y1 < vD p.2
        · rw [if_pos (by rw [decide_eq_true_eq]; exact c4), if_pos c4]
        · rw [if_neg (by rw [decide_eq_true_eq]; exact c4), if_neg c4]
      · rw [if_neg (by rw [decide_eq_true_eq]; exact c3), if_neg c3, f20_eqn2 p2 h4, Option.bind_some]
        dsimp only
        by_cases c4 : vD b.Y1 < vD p.2
        · rw [if_pos (by rw [decide_eq_true_eq]; exact c4), if_pos c4]
        · rw [if_neg (by rw [decide_eq_true_eq]; exact c4), if_neg c4]
  · rw [if_neg (by rw [decide_eq_true_eq]; exact c1), if_neg c1, Option.bind_some, Sum.elim_inl]
    dsimp only
    rw [f20_eqn2 p1 h3, Option.bind_some]
    dsimp only
    by_cases c2 : vD b.X1 < vD p.1
    · rw [if_pos (by rw [decide_eq_true_eq]; exact c2), if_pos c2, f20_eqn2 h2 p2, Option.bind_some]
      dsimp only
      by_cases c3 : vD p.2 < vD b.Y0
      · rw [if_pos (by rw [decide_eq_true_eq]; exact c3), if_pos c3, f20_eqn2 p2 h4, Option.bind_some]
        dsimp only
        by_cases c4 : vD b.Y1 < vD p.2
        · rw [if_pos (by rw [decide_eq_true_eq]; exact c4), if_pos c4]
        · rw [if_neg (by rw [decide_eq_true_eq]; exact c4), if_neg c4]
      · rw [if_neg (by rw [decide_eq_true_eq]; exact c3), if_neg c3, f20_eqn2 p2 h4, Option.bind_some]
        dsimp only
        by_cases c4 : vD b.Y1 < vD p.2
        · rw [if_pos (by rw [decide_eq_true_eq]; exact c4), if_pos c4]
        · rw [if_neg (by rw [decide_eq_true_eq]; exact c4), if_neg c4]
    · rw [if_neg (by rw [decide_eq_true_eq]; exact c2), if_neg c2, f20_eqn2 h2 p2, Option.bind_some]
      dsimp only
      by_cases c3 : vD p.2 < vD b.Y0
      · rw [if_pos (by rw [decide_eq_true_eq]; exact c3), if_pos c3, f20_eqn2 p2 h4, Option.bind_some]
        dsimp only
        by_cases c4 : vD b.Y1 < vD p.2
        · rw [if_pos (by rw [decide_eq_true_eq]; exact c4), if_pos c4]
        · rw [if_neg (by rw [decide_eq_true_eq]; exact c4), if_neg c4]
      · rw [if_neg (by rw [decide_eq_true_eq]; exact c3), if_neg c3, f20_eqn2 p2 h4, Option.bind_some]
        dsimp only
        by_cases c4 : vD b.Y1 < vD p.2
        · rw [if_pos (by rw [decide_eq_true_eq]; exact c4), if_pos c4]
        · rw [if_neg (by rw [decide_eq_true_eq]; exact c4), if_neg c4]
end Go.Ev.Box
