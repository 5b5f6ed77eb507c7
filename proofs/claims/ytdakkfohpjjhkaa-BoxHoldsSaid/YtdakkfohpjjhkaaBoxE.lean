/- Part of a proof about the given program: BoxE. -/
import Derived.Test.YtdakkfohpjjhkaaBoxM
namespace Go.Ev.Box
open Go.Ev.Dec

def eqD (a b : Int × Int) : Bool := allEq (((a.1, b.1) :: []) ++ (((a.2, b.2) :: []) ++ []))
theorem eqD_self (a : Int × Int) : eqD a a = true := by simp [eqD, allEq]
theorem b6_2_eqn (l : List Pt) (f : Int) (le up : Bool) (i : Nat) (m : Mt) (b c : Bx) (hi : i < l.length) : b6_2 (l, f, le, up, (i : Int), m.A.1, m.A.2, m.B.1, m.B.2, m.C.1, m.C.2, m.D.1, m.D.2, m.E.1, m.E.2, m.F.1, m.F.2, b.X0.1, b.X0.2, b.Y0.1, b.Y0.2, b.X1.1, b.X1.2, b.Y1.1, b.Y1.2, c.X0.1, c.X0.2, c.Y0.1, c.Y0.2, c.X1.1, c.X1.2, c.Y1.1, c.Y1.2, ()) = some (.inl (l, f, (le || eqD (l.getD i P0).1 b.X0), up, (i : Int), m.A.1, m.A.2, m.B.1, m.B.2, m.C.1, m.C.2, m.D.1, m.D.2, m.E.1, m.E.2, m.F.1, m.F.2, b.X0.1, b.X0.2, b.Y0.1, b.Y0.2, b.X1.1, b.X1.2, b.Y1.1, b.Y1.2, c.X0.1, c.X0.2, c.Y0.1, c.Y0.2, c.X1.1, c.X1.2, c.Y1.1, c.Y1.2, ())) := by
  unfold b6_2
  dsimp only
  cases le with
  | true => rw [if_pos rfl]; rfl
  | false =>
    rw [if_neg (by decide), if_pos (by omega), if_pos (by omega), Int.toNat_natCast]
    rfl
theorem b6_3_eqn (l : List Pt) (f : Int) (le up : Bool) (i : Nat) (m : Mt) (b c : Bx) (hi : i < l.length) : b6_3 (l, f, le, up, (i : Int), m.A.1, m.A.2, m.B.1, m.B.2, m.C.1, m.C.2, m.D.1, m.D.2, m.E.1, m.E.2, m.F.1, m.F.2, b.X0.1, b.X0.2, b.Y0.1, b.Y0.2, b.X1.1, b.X1.2, b.Y1.1, b.Y1.2, c.X0.1, c.X0.2, c.Y0.1, c.Y0.2, c.X1.1, c.X1.2, c.Y1.1, c.Y1.2, ()) = some (.inl (l, f, le, (up || eqD (l.getD i P0).2 b.Y1), (i : Int), m.A.1, m.A.2, m.B.1, m.B.2, m.C.1, m.C.2, m.D.1, m.D.2, m.E.1, m.E.2, m.F.1, m.F.2, b.X0.1, b.X0.2, b.Y0.1, b.Y0.2, b.X1.1, b.X1.2, b.Y1.1, b.Y1.2, c.X0.1, c.X0.2, c.Y0.1, c.Y0.2, c.X1.1, c.X1.2, c.Y1.1, c.Y1.2, ())) := by
  unfold b6_3
  dsimp only
  cases up with
  | true => rw [if_pos rfl]; rfl
  | false =>
    rw [if_neg (by decide), if_pos (by omega), if_pos (by omega), Int.toNat_natCast]
    rfl

theorem allEq_box' {a b : Bx} (h : a = b) : allEq (((((a.X0.1, b.X0.1) :: []) ++ (((a.X0.2, b.X0.2) :: []) ++ [])) ++ ((((a.Y0.1, b.Y0.1) :: []) ++ (((a.Y0.2, b.Y0.2) :: []) ++ [])) ++ ((((a.X1.1, b.X1.1) :: []) ++ (((a.X1.2, b.X1.2) :: []) ++ [])) ++ ((((a.Y1.1, b.Y1.1) :: []) ++ (((a.Y1.2, b.Y1.2) :: []) ++ [])) ++ []))))) = true := by
  subst h
  simp [allEq]
theorem l6_1_spec (l : List Pt) (hl : l.length ≤ 50) (hr : ∀ p ∈ l, RtP p) (m : Mt) (c : Bx) (f : Int) (hf : f = 0 → (∀ q ∈ corn (ofL l), okM m q) ∧ c = ofL ((corn (ofL l)).map (img m))) : ∀ (k i : Nat) (le up : Bool), l.length < i + k → i ≤ l.length →
    loopN g6_1 o6_1 b6_1 k (l, f, le, up, (i : Int), m.A.1, m.A.2, m.B.1, m.B.2, m.C.1, m.C.2, m.D.1, m.D.2, m.E.1, m.E.2, m.F.1, m.F.2, (ofL l).X0.1, (ofL l).X0.2, (ofL l).Y0.1, (ofL l).Y0.2, (ofL l).X1.1, (ofL l).X1.2, (ofL l).Y1.1, (ofL l).Y1.2, c.X0.1, c.X0.2, c.Y0.1, c.Y0.2, c.X1.1, c.X1.2, c.Y1.1, c.Y1.2, ()) = some (.inl ((le || (l.drop i).any fun p => eqD p.1 (ofL l).X0), (up || (l.drop i).any fun p => eqD p.2 (ofL l).Y1), ())) := by
  intro k
  induction k with
  | zero => intro i le up h1 h2; omega
  | succ k ih =>
    intro i le up h1 h2
    rw [loopN_succ]
    generalize hL : loopN g6_1 o6_1 b6_1 k = L at ih ⊢
    unfold b6_1
    dsimp only
    rw [Int.toNat_natCast, show IntKind.wrap .i64 ((i : Int) + 1) = ((i + 1 : Nat) : Int) by rw [wrap_i64 (by omega)]; omega, Int.toNat_natCast]
    rcases Nat.lt_or_ge i l.length with h | h
    · have h0 : l ≠ [] := fun e => by rw [e] at h; exact absurd h (Nat.not_lt_zero _)
      have hm : l.getD i P0 ∈ l := by
        rw [List.getD_eq_getElem?_getD, List.getElem?_eq_getElem h]
        exact List.getElem_mem _
      have hd : l.drop i = l.getD i P0 :: l.drop (i + 1) := by
        rw [List.getD_eq_getElem?_getD, List.getElem?_eq_getElem h]
        exact List.drop_eq_getElem_cons h
      have hs : List.drop i (List.take (i + 1) l) = [l.getD i P0] := by
        rw [List.drop_take, show i + 1 - i = 1 by omega, hd]; rfl
      have hp := hr _ hm
      have hb := ofL_ok h0 hr
      have hin := ofL_in _ hm
      rw [if_pos (by rw [decide_eq_true_eq]; omega), if_pos (by omega), if_pos (by omega), if_pos (by omega), if_pos (by omega), hs,
        f11_yes (by simp) (by simp) (fun q hq => by rw [List.mem_singleton.1 hq]; exact hp), ofL_one, Option.bind_some]
      dsimp only
      rw [f14_yes hb (boxOf_ok hp), both_in hb hp hin, Option.bind_some]
      dsimp only
      have nn : ¬ (((0 : Int) != 0) = true) := by decide
      rw [if_neg nn, if_neg nn, if_neg (by rw [allEq_box' rfl]; decide), b6_2_eqn _ _ _ _ _ _ _ _ h, Option.bind_some, Sum.elim_inl]
      dsimp only
      rw [b6_3_eqn _ _ _ _ _ _ _ _ h, Option.bind_some, Sum.elim_inl]
      dsimp only
      rw [if_pos (by omega), if_pos (by omega), Int.toNat_natCast, show IntKind.wrap .i64 ((i : Int) + 1) = ((i + 1 : Nat) : Int) by rw [wrap_i64 (by omega)]; omega]
      have e19 : f19 (m.A.1, m.A.2, m.B.1, m.B.2, m.C.1, m.C.2, m.D.1, m.D.2, m.E.1, m.E.2, m.F.1, m.F.2, (l.getD i ((0, 0), (0, 0))).1.1, (l.getD i ((0, 0), (0, 0))).1.2, (l.getD i ((0, 0), (0, 0))).2.1, (l.getD i ((0, 0), (0, 0))).2.2, ()) = _ := f19_eqn m (l.getD i P0).1 (l.getD i P0).2
      rw [e19, Option.bind_some]
      dsimp only
      have hI := ih (i + 1) (le || eqD (l.getD i P0).1 (ofL l).X0) (up || eqD (l.getD i P0).2 (ofL l).Y1) (by omega) (by omega)
      rw [hd, List.any_cons, List.any_cons, ← Bool.or_assoc, ← Bool.or_assoc]
      by_cases c1 : f = 0
      · rw [if_neg (by rw [bne_iff_ne]; exact fun hh => hh c1)]
        obtain ⟨hall, hc⟩ := hf c1
        by_cases c2 : okM m (l.getD i P0)
        · have c2' : (mapM m (l.getD i P0).1 (l.getD i P0).2).2.2 = 0 := c2
          rw [if_neg (by rw [bne_iff_ne]; exact fun hh => hh c2')]
          have e1 : List.take 1 (List.drop 0 (List.set (List.replicate 1 (((0 : Int), (0 : Int)), ((0 : Int), (0 : Int)))) 0 (((mapM m (l.getD i P0).1 (l.getD i P0).2).1.1, (mapM m (l.getD i P0).1 (l.getD i P0).2).1.2), ((mapM m (l.getD i P0).1 (l.getD i P0).2).2.1.1, (mapM m (l.getD i P0).1 (l.getD i P0).2).2.1.2)))) = [img m (l.getD i P0)] := rfl
          obtain ⟨hp2, _, _⟩ := mapM_img c2
          rw [e1, f11_yes (by simp) (by simp) (fun q hq => by rw [List.mem_singleton.1 hq]; exact hp2), ofL_one, Option.bind_some]
          dsimp only
          have hcne : (corn (ofL l)).map (img m) ≠ [] := by unfold corn; simp
          have hcok : c.ok := by
            rw [hc]
            exact ofL_ok hcne (fun q hq => by
              obtain ⟨p, hp, rfl⟩ := List.mem_map.1 hq
              exact (mapM_img (hall p hp)).1)
          have hin2 : inB c (img m (l.getD i P0)) := by rw [hc]; exact image_in hall c2 hin
          rw [f14_yes hcok (boxOf_ok hp2), both_in hcok hp2 hin2, Option.bind_some]
          dsimp only
          rw [if_neg nn, if_neg nn, if_neg (by rw [allEq_box' rfl]; decide), Option.bind_some, Sum.elim_inl]
          exact hI
        · have c2' : ¬ (mapM m (l.getD i P0).1 (l.getD i P0).2).2.2 = 0 := c2
          rw [if_pos (by rw [bne_iff_ne]; exact c2'), Option.bind_some, Sum.elim_inl]
          exact hI
      · rw [if_pos (by rw [bne_iff_ne]; exact c1), Option.bind_some, Sum.elim_inl]
        exact hI
    · rw [if_neg (by rw [decide_eq_true_eq]; omega), List.drop_of_length_le (by omega), List.any_nil, List.any_nil, Bool.or_false, Bool.or_false]
      rfl

theorem boxHolds_pure (m : Mt) (l : List Pt) (hl : l.length ≤ 9223372036854775807) : f6 (m.A.1, m.A.2, m.B.1, m.B.2, m.C.1, m.C.2, m.D.1, m.D.2, m.E.1, m.E.2, m.F.1, m.F.2, l, ()) = some (true, ()) := by
  unfold f6
  dsimp only
  by_cases h0 : l = []
  · subst h0
    rw [f11_nil, Option.bind_some]
    dsimp only
    rw [if_neg (by simp), if_pos (by decide), awake_true]
    rfl
  · by_cases hr : ∀ p ∈ l, RtP p
    · rw [f11_yes hl h0 hr, Option.bind_some]
      dsimp only
      by_cases h50 : l.length ≤ 50
      · rw [if_neg (by rw [decide_eq_true_eq]; omega), if_neg (by decide)]
        have key : ∃ (f : Int) (c : Bx), f16 (m.A.1, m.A.2, m.B.1, m.B.2, m.C.1, m.C.2, m.D.1, m.D.2, m.E.1, m.E.2, m.F.1, m.F.2, (ofL l).X0.1, (ofL l).X0.2, (ofL l).Y0.1, (ofL l).Y0.2, (ofL l).X1.1, (ofL l).X1.2, (ofL l).Y1.1, (ofL l).Y1.2, ()) = some (c.X0.1, c.X0.2, c.Y0.1, c.Y0.2, c.X1.1, c.X1.2, c.Y1.1, c.Y1.2, f, ()) ∧ (f = 0 → (∀ q ∈ corn (ofL l), okM m q) ∧ c = ofL ((corn (ofL l)).map (img m))) := by
          by_cases hm : m.ok
          · rcases f16_eqn hm (ofL_ok h0 hr) with ⟨e, h1, h2⟩ | ⟨h1, h2⟩
            · exact ⟨e, Bx.zero, h2, fun h => absurd h h1⟩
            · exact ⟨0, _, h2, fun _ => ⟨h1, rfl⟩⟩
          · refine ⟨1, Bx.zero, ?_, fun h => by cases h⟩
            unfold f16
            dsimp only
            rw [f33_eqn, Option.bind_some]
            dsimp only
            rw [if_neg hm, if_pos (by decide)]
            rfl
        obtain ⟨f, c, h1, h2⟩ := key
        rw [h1, Option.bind_some]
        dsimp only
        have g := l6_1_spec l h50 hr m c f h2 18446744073709551616 0 false false (by omega) (by omega)
        have g' : loopN g6_1 o6_1 b6_1 18446744073709551616 (l, f, false, false, 0, m.A.1, m.A.2, m.B.1, m.B.2, m.C.1, m.C.2, m.D.1, m.D.2, m.E.1, m.E.2, m.F.1, m.F.2, (ofL l).X0.1, (ofL l).X0.2, (ofL l).Y0.1, (ofL l).Y0.2, (ofL l).X1.1, (ofL l).X1.2, (ofL l).Y1.1, (ofL l).Y1.2, c.X0.1, c.X0.2, c.Y0.1, c.Y0.2, c.X1.1, c.X1.2, c.Y1.1, c.Y1.2, ()) = _ := g
        rw [show l6_1 = loopN g6_1 o6_1 b6_1 18446744073709551616 from rfl]
        generalize loopN g6_1 o6_1 b6_1 18446744073709551616 (l, f, false, false, 0, m.A.1, m.A.2, m.B.1, m.B.2, m.C.1, m.C.2, m.D.1, m.D.2, m.E.1, m.E.2, m.F.1, m.F.2, (ofL l).X0.1, (ofL l).X0.2, (ofL l).Y0.1, (ofL l).Y0.2, (ofL l).X1.1, (ofL l).X1.2, (ofL l).Y1.1, (ofL l).Y1.2, c.X0.1, c.X0.2, c.Y0.1, c.Y0.2, c.X1.1, c.X1.2, c.Y1.1, c.Y1.2, ()) = X at g' ⊢
        subst g'
        rw [Option.bind_some, Sum.elim_inl]
        dsimp only
        rw [awake_true, Option.bind_some]
        dsimp only
        obtain ⟨⟨p, hp, e1⟩, ⟨q, hq, e2⟩⟩ := ofL_edge h0
        have a1 : (l.drop 0).any (fun p => eqD p.1 (ofL l).X0) = true := by
          rw [List.drop_zero, List.any_eq_true]
          exact ⟨p, hp, by rw [e1]; exact eqD_self _⟩
        have a2 : (l.drop 0).any (fun p => eqD p.2 (ofL l).Y1) = true := by
          rw [List.drop_zero, List.any_eq_true]
          exact ⟨q, hq, by rw [e2]; exact eqD_self _⟩
        rw [a1, a2]
        rfl
      · rw [if_pos (by rw [decide_eq_true_eq]; omega), awake_true]
        rfl
    · rw [f11_no hl h0 hr, Option.bind_some]
      dsimp only
      by_cases h50 : l.length ≤ 50
      · rw [if_neg (by rw [decide_eq_true_eq]; omega), if_pos (by decide), awake_true]
        rfl
      · rw [if_pos (by rw [decide_eq_true_eq]; omega), awake_true]
        rfl
end Go.Ev.Box
