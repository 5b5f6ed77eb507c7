/- Part of a proof about the given program: BoxD. -/
import Derived.Test.YtdakkfohpjjhkaaBoxC
namespace Go.Ev.Box
open Go.Ev.Dec

/-! # The least box around points -/
def boxOf (p : Pt) : Bx := ⟨p.1, p.2, p.1, p.2⟩
def P0 : Pt := ((0, 0), (0, 0))
def ofL (l : List Pt) : Bx := l.foldl up (boxOf (l.getD 0 P0))
def inB (b : Bx) (p : Pt) : Prop := vD b.X0 ≤ vD p.1 ∧ vD p.1 ≤ vD b.X1 ∧ vD b.Y0 ≤ vD p.2 ∧ vD p.2 ≤ vD b.Y1

theorem l11_1_spec (l : List Pt) (hl : l.length ≤ 9223372036854775807) (c : Bx) : ∀ (k i : Nat), l.length < i + k → i ≤ l.length → (∀ j, j < i → RtP (l.getD j P0)) →
    ((∀ d ∈ l, RtP d) ∧ loopN g11_1 o11_1 b11_1 k (l, l, ((l.length : Nat) : Int), (i : Int), c.X0.1, c.X0.2, c.Y0.1, c.Y0.2, c.X1.1, c.X1.2, c.Y1.1, c.Y1.2, ()) = some (.inl (l, c.X0.1, c.X0.2, c.Y0.1, c.Y0.2, c.X1.1, c.X1.2, c.Y1.1, c.Y1.2, ()))) ∨
    (¬ (∀ d ∈ l, RtP d) ∧ loopN g11_1 o11_1 b11_1 k (l, l, ((l.length : Nat) : Int), (i : Int), c.X0.1, c.X0.2, c.Y0.1, c.Y0.2, c.X1.1, c.X1.2, c.Y1.1, c.Y1.2, ()) = some (.inr (.inl (1, 0, 0, 0, 0, 0, 0, 0, 0, ())))) := by
  intro k
  induction k with
  | zero => intro i h1 h2; omega
  | succ k ih =>
    intro i h1 h2 h3
    rw [loopN_succ]
    generalize hL : loopN g11_1 o11_1 b11_1 k = L at ih ⊢
    unfold b11_1
    dsimp only
    rw [Int.toNat_natCast]
    rcases Nat.lt_or_ge i l.length with h | h
    · rw [if_pos (by rw [decide_eq_true_eq]; omega), if_pos (by omega), if_pos (by omega), f23_eqn, Option.bind_some]
      dsimp only
      have hm : l.getD i ((0, 0), (0, 0)) ∈ l := by
        rw [List.getD_eq_getElem?_getD, List.getElem?_eq_getElem (by omega)]
        exact List.getElem_mem _
      by_cases r1 : Rt (l.getD i ((0, 0), (0, 0))).1.1 (l.getD i ((0, 0), (0, 0))).1.2
      · rw [if_pos r1, if_neg (by decide), f23_eqn, Option.bind_some]
        dsimp only
        by_cases r2 : Rt (l.getD i ((0, 0), (0, 0))).2.1 (l.getD i ((0, 0), (0, 0))).2.2
        · rw [if_pos r2, if_neg (by decide), Option.bind_some, Sum.elim_inl, show IntKind.wrap .i64 ((i : Int) + 1) = ((i + 1 : Nat) : Int) by rw [wrap_i64 (by omega)]; omega]
          refine ih (i + 1) (by omega) (by omega) (fun j hj => ?_)
          by_cases e : j = i
          · rw [e]; exact ⟨r1, r2⟩
          · exact h3 j (by omega)
        · rw [if_neg r2, if_pos (by decide)]
          exact .inr ⟨fun hall => r2 (hall _ hm).2, rfl⟩
      · rw [if_neg r1, if_pos (by decide)]
        exact .inr ⟨fun hall => r1 (hall _ hm).1, rfl⟩
    · rw [if_neg (by rw [decide_eq_true_eq]; omega)]
      refine .inl ⟨fun d hd => ?_, rfl⟩
      obtain ⟨j, hj, rfl⟩ := List.mem_iff_getElem.1 hd
      have := h3 j (by omega)
      rw [List.getD_eq_getElem?_getD, List.getElem?_eq_getElem hj] at this
      exact this
theorem l11_2_spec (l : List Pt) (hl : l.length ≤ 9223372036854775807) (hr : ∀ p ∈ l, RtP p) (c : Bx) : ∀ (k i : Nat) (b : Bx), b.rt → l.length < i + k → i ≤ l.length →
    loopN g11_2 o11_2 b11_2 k (l, ((l.length : Nat) : Int), (i : Int), c.X0.1, c.X0.2, c.Y0.1, c.Y0.2, c.X1.1, c.X1.2, c.Y1.1, c.Y1.2, b.X0.1, b.X0.2, b.Y0.1, b.Y0.2, b.X1.1, b.X1.2, b.Y1.1, b.Y1.2, ()) =
      some (.inl (c.X0.1, c.X0.2, c.Y0.1, c.Y0.2, c.X1.1, c.X1.2, c.Y1.1, c.Y1.2, ((l.drop i).foldl up b).X0.1, ((l.drop i).foldl up b).X0.2, ((l.drop i).foldl up b).Y0.1, ((l.drop i).foldl up b).Y0.2, ((l.drop i).foldl up b).X1.1, ((l.drop i).foldl up b).X1.2, ((l.drop i).foldl up b).Y1.1, ((l.drop i).foldl up b).Y1.2, ())) := by
  intro k
  induction k with
  | zero => intro i b hb h1 h2; omega
  | succ k ih =>
    intro i b hb h1 h2
    rw [loopN_succ]
    generalize hL : loopN g11_2 o11_2 b11_2 k = L at ih ⊢
    unfold b11_2
    dsimp only
    rw [Int.toNat_natCast]
    rcases Nat.lt_or_ge i l.length with h | h
    · have hm : l.getD i ((0, 0), (0, 0)) ∈ l := by
        rw [List.getD_eq_getElem?_getD, List.getElem?_eq_getElem (by omega)]
        exact List.getElem_mem _
      rw [if_pos (by rw [decide_eq_true_eq]; omega), if_pos (by omega), if_pos (by omega), f27_eqn hb (hr _ hm), Option.bind_some, Option.bind_some, Sum.elim_inl,
        show IntKind.wrap .i64 ((i : Int) + 1) = ((i + 1 : Nat) : Int) by rw [wrap_i64 (by omega)]; omega]
      have hd : l.drop i = l.getD i ((0, 0), (0, 0)) :: l.drop (i + 1) := by
        rw [List.getD_eq_getElem?_getD, List.getElem?_eq_getElem (by omega)]
        exact List.drop_eq_getElem_cons (by omega)
      rw [hd, List.foldl_cons]
      exact ih (i + 1) _ (up_rt hb (hr _ hm)) (by omega) (by omega)
    · rw [if_neg (by rw [decide_eq_true_eq]; omega), List.drop_of_length_le (by omega)]
      rfl
theorem f11_nil : f11 ([], ()) = some (0, 0, 0, 0, 0, 0, 0, 0, 8, ()) := by
  unfold f11
  rfl
theorem f11_no {l : List Pt} (hl : l.length ≤ 9223372036854775807) (h0 : l ≠ []) (h : ¬ ∀ p ∈ l, RtP p) : f11 (l, ()) = some (0, 0, 0, 0, 0, 0, 0, 0, 1, ()) := by
  unfold f11
  dsimp only
  have hlen : 0 < l.length := List.length_pos_iff.2 h0
  rw [if_neg (by rw [beq_iff_eq]; omega)]
  have g := l11_1_spec l hl Bx.zero 18446744073709551616 0 (by omega) (by omega) (fun j hj => by omega)
  have g' : loopN g11_1 o11_1 b11_1 18446744073709551616 (l, l, ((l.length : Nat) : Int), 0, 0, 0, 0, 0, 0, 0, 0, 0, ()) = _ := (g.resolve_left (fun hh => h hh.1)).2
  rw [show l11_1 = loopN g11_1 o11_1 b11_1 18446744073709551616 from rfl]
  generalize loopN g11_1 o11_1 b11_1 18446744073709551616 (l, l, ((l.length : Nat) : Int), 0, 0, 0, 0, 0, 0, 0, 0, 0, ()) = X at g' ⊢
  subst g'
  rfl
theorem getD_mem0 {l : List Pt} (h0 : l ≠ []) : l.getD 0 P0 ∈ l := by
  have hlen : 0 < l.length := List.length_pos_iff.2 h0
  rw [List.getD_eq_getElem?_getD, List.getElem?_eq_getElem hlen]
  exact List.getElem_mem _
theorem boxOf_rt {p : Pt} (h : RtP p) : (boxOf p).rt := ⟨h.1, h.2, h.1, h.2⟩
theorem f11_yes {l : List Pt} (hl : l.length ≤ 9223372036854775807) (h0 : l ≠ []) (h : ∀ p ∈ l, RtP p) : f11 (l, ()) = some ((ofL l).X0.1, (ofL l).X0.2, (ofL l).Y0.1, (ofL l).Y0.2, (ofL l).X1.1, (ofL l).X1.2, (ofL l).Y1.1, (ofL l).Y1.2, 0, ()) := by
  unfold f11
  dsimp only
  have hlen : 0 < l.length := List.length_pos_iff.2 h0
  rw [if_neg (by rw [beq_iff_eq]; omega)]
  have g := l11_1_spec l hl Bx.zero 18446744073709551616 0 (by omega) (by omega) (fun j hj => by omega)
  have g' : loopN g11_1 o11_1 b11_1 18446744073709551616 (l, l, ((l.length : Nat) : Int), 0, 0, 0, 0, 0, 0, 0, 0, 0, ()) = _ := (g.resolve_right (fun hh => hh.1 h)).2
  rw [show l11_1 = loopN g11_1 o11_1 b11_1 18446744073709551616 from rfl]
  generalize loopN g11_1 o11_1 b11_1 18446744073709551616 (l, l, ((l.length : Nat) : Int), 0, 0, 0, 0, 0, 0, 0, 0, 0, ()) = X at g' ⊢
  subst g'
  rw [Option.bind_some, Sum.elim_inl]
  dsimp only
  have hp : (0 : Int) < ((l.length : Nat) : Int) := by omega
  rw [if_pos hp, if_pos hp, if_pos hp, if_pos hp]
  have k := l11_2_spec l hl h Bx.zero 18446744073709551616 0 (boxOf (l.getD 0 P0)) (boxOf_rt (h _ (getD_mem0 h0))) (by omega) (by omega)
  rw [List.drop_zero] at k
  have k' : loopN g11_2 o11_2 b11_2 18446744073709551616 (l, ((l.length : Nat) : Int), 0, 0, 0, 0, 0, 0, 0, 0, 0, (l.getD 0 P0).1.1, (l.getD 0 P0).1.2, (l.getD 0 P0).2.1, (l.getD 0 P0).2.2, (l.getD 0 P0).1.1, (l.getD 0 P0).1.2, (l.getD 0 P0).2.1, (l.getD 0 P0).2.2, ()) = _ := k
  rw [show l11_2 = loopN g11_2 o11_2 b11_2 18446744073709551616 from rfl]
  show Option.bind (loopN g11_2 o11_2 b11_2 18446744073709551616 (l, ((l.length : Nat) : Int), 0, 0, 0, 0, 0, 0, 0, 0, 0, (l.getD 0 P0).1.1, (l.getD 0 P0).1.2, (l.getD 0 P0).2.1, (l.getD 0 P0).2.2, (l.getD 0 P0).1.1, (l.getD 0 P0).1.2, (l.getD 0 P0).2.1, (l.getD 0 P0).2.2, ())) _ = _
  generalize loopN g11_2 o11_2 b11_2 18446744073709551616 (l, ((l.length : Nat) : Int), 0, 0, 0, 0, 0, 0, 0, 0, 0, (l.getD 0 P0).1.1, (l.getD 0 P0).1.2, (l.getD 0 P0).2.1, (l.getD 0 P0).2.2, (l.getD 0 P0).1.1, (l.getD 0 P0).1.2, (l.getD 0 P0).2.1, (l.getD 0 P0).2.2, ()) = X at k' ⊢
  subst k'
  rfl

/-! ## What lies in it -/
theorem fold_in : ∀ (l : List Pt) (b : Bx), (vD (l.foldl up b).X0 ≤ vD b.X0 ∧ vD b.X1 ≤ vD (l.foldl up b).X1 ∧ vD (l.foldl up b).Y0 ≤ vD b.Y0 ∧ vD b.Y1 ≤ vD (l.foldl up b).Y1) ∧ ∀ p ∈ l, inB (l.foldl up b) p
  | [], b => ⟨⟨Int.le_refl _, Int.le_refl _, Int.le_refl _, Int.le_refl _⟩, fun p hp => by cases hp⟩
  | q :: l, b => by
    obtain ⟨⟨h1, h2, h3, h4⟩, h5⟩ := fold_in l (up b q)
    obtain ⟨u1, u2, u3, u4⟩ := up_v b q
    rw [List.foldl_cons]
    refine ⟨⟨by omega, by omega, by omega, by omega⟩, fun p hp => ?_⟩
    rcases List.mem_cons.1 hp with e | e
    · rw [e]; exact ⟨by omega, by omega, by omega, by omega⟩
    · exact h5 p e
theorem fold_edge : ∀ (l : List Pt) (b : Bx), ((l.foldl up b).X0 = b.X0 ∨ ∃ p ∈ l, p.1 = (l.foldl up b).X0) ∧ ((l.foldl up b).Y1 = b.Y1 ∨ ∃ p ∈ l, p.2 = (l.foldl up b).Y1)
  | [], b => ⟨.inl rfl, .inl rfl⟩
  | q :: l, b => by
    obtain ⟨h1, h2⟩ := fold_edge l (up b q)
    rw [List.foldl_cons]
    refine ⟨?_, ?_⟩
    · rcases h1 with h1 | ⟨p, hp, h1⟩
      · rw [h1]
        show lo b.X0 q.1 = b.X0 ∨ ∃ p ∈ q :: l, p.1 = lo b.X0 q.1
        unfold lo
        split
        · exact .inr ⟨q, List.mem_cons_self .., rfl⟩
        · exact .inl rfl
      · exact .inr ⟨p, List.mem_cons_of_mem _ hp, h1⟩
    · rcases h2 with h2 | ⟨p, hp, h2⟩
      · rw [h2]
        show hi b.Y1 q.2 = b.Y1 ∨ ∃ p ∈ q :: l, p.2 = hi b.Y1 q.2
        unfold hi
        split
        · exact .inr ⟨q, List.mem_cons_self .., rfl⟩
        · exact .inl rfl
      · exact .inr ⟨p, List.mem_cons_of_mem _ hp, h2⟩
theorem ofL_in {l : List Pt} : ∀ p ∈ l, inB (ofL l) p := (fold_in l _).2
theorem ofL_edge {l : List Pt} (h0 : l ≠ []) : (∃ p ∈ l, p.1 = (ofL l).X0) ∧ ∃ p ∈ l, p.2 = (ofL l).Y1 := by
  obtain ⟨h1, h2⟩ := fold_edge l (boxOf (l.getD 0 P0))
  refine ⟨?_, ?_⟩
  · rcases h1 with h1 | h1
    · exact ⟨_, getD_mem0 h0, h1.symm⟩
    · exact h1
  · rcases h2 with h2 | h2
    · exact ⟨_, getD_mem0 h0, h2.symm⟩
    · exact h2
theorem ofL_ok {l : List Pt} (h0 : l ≠ []) (h : ∀ p ∈ l, RtP p) : (ofL l).ok := by
  have hi := ofL_in _ (getD_mem0 h0)
  obtain ⟨h1, h2, h3, h4⟩ := hi
  exact ⟨fold_rt (boxOf_rt (h _ (getD_mem0 h0))) h, by omega, by omega⟩
theorem ofL_one (p : Pt) : ofL [p] = boxOf p := by
  unfold ofL boxOf up lo hi
  simp
theorem boxOf_ok {p : Pt} (h : RtP p) : (boxOf p).ok := ⟨boxOf_rt h, Int.le_refl _, Int.le_refl _⟩
theorem both_in {b : Bx} {p : Pt} (hb : b.ok) (hp : RtP p) (h : inB b p) : both b (boxOf p) = b := by
  obtain ⟨x1, x2, x3, x4⟩ := both_v (a := b) (boxOf_ok hp)
  obtain ⟨h1, h2, h3, h4⟩ := h
  have e1 : vD (boxOf p).X0 = vD p.1 := rfl
  have e2 : vD (boxOf p).Y0 = vD p.2 := rfl
  have e3 : vD (boxOf p).X1 = vD p.1 := rfl
  have e4 : vD (boxOf p).Y1 = vD p.2 := rfl
  exact Bx.ext (both_ok hb (boxOf_ok hp)).1 hb.1 (by omega) (by omega) (by omega) (by omega)
end Go.Ev.Box
