/- Part of a proof about the given program: BoxM. -/
import Derived.Test.YtdakkfohpjjhkaaBoxD
namespace Go.Ev.Box
open Go.Ev.Dec

/-! # What boxes are mapped to -/
def img (m : Mt) (p : Pt) : Pt := ((mapM m p.1 p.2).1, (mapM m p.1 p.2).2.1)
def okM (m : Mt) (p : Pt) : Prop := (mapM m p.1 p.2).2.2 = 0
theorem l16_1_spec (l : List Pt) (hl : l.length = 4) (m : Mt) (c : Bx) : ∀ (k i : Nat) (to : List Pt), to.length = 4 → 4 < i + k → i ≤ 4 →
    (∃ e : Int, e ≠ 0 ∧ loopN g16_1 o16_1 b16_1 k (l, (i : Int), m.A.1, m.A.2, m.B.1, m.B.2, m.C.1, m.C.2, m.D.1, m.D.2, m.E.1, m.E.2, m.F.1, m.F.2, c.X0.1, c.X0.2, c.Y0.1, c.Y0.2, c.X1.1, c.X1.2, c.Y1.1, c.Y1.2, to, ()) = some (.inr (.inl (e, 0, 0, 0, 0, 0, 0, 0, 0, ())))) ∨
    ((∀ j, i ≤ j → j < 4 → okM m (l.getD j P0)) ∧ loopN g16_1 o16_1 b16_1 k (l, (i : Int), m.A.1, m.A.2, m.B.1, m.B.2, m.C.1, m.C.2, m.D.1, m.D.2, m.E.1, m.E.2, m.F.1, m.F.2, c.X0.1, c.X0.2, c.Y0.1, c.Y0.2, c.X1.1, c.X1.2, c.Y1.1, c.Y1.2, to, ()) = some (.inl (c.X0.1, c.X0.2, c.Y0.1, c.Y0.2, c.X1.1, c.X1.2, c.Y1.1, c.Y1.2, to.take i ++ (l.drop i).map (img m), ()))) := by
  intro k
  induction k with
  | zero => intro i to ht h1 h2; omega
  | succ k ih =>
    intro i to ht h1 h2
    rw [loopN_succ]
    generalize hL : loopN g16_1 o16_1 b16_1 k = L at ih ⊢
    unfold b16_1
    dsimp only
    rw [Int.toNat_natCast]
    rcases Nat.lt_or_ge i 4 with h | h
    · have e19 : f19 (m.A.1, m.A.2, m.B.1, m.B.2, m.C.1, m.C.2, m.D.1, m.D.2, m.E.1, m.E.2, m.F.1, m.F.2, (l.getD i ((0, 0), (0, 0))).1.1, (l.getD i ((0, 0), (0, 0))).1.2, (l.getD i ((0, 0), (0, 0))).2.1, (l.getD i ((0, 0), (0, 0))).2.2, ()) = _ := f19_eqn m (l.getD i P0).1 (l.getD i P0).2
      rw [if_pos (by rw [decide_eq_true_eq]; omega), if_pos (by omega), if_pos (by omega), e19, Option.bind_some]
      dsimp only
      by_cases ho : okM m (l.getD i P0)
      · have ho' : (mapM m (l.getD i P0).1 (l.getD i P0).2).2.2 = 0 := ho
        rw [if_neg (by rw [bne_iff_ne]; exact fun hh => hh ho'), if_pos (by omega), if_pos (by omega), if_pos (by rw [List.length_set]), Option.bind_some, Sum.elim_inl,
          show IntKind.wrap .i64 ((i : Int) + 1) = ((i + 1 : Nat) : Int) by rw [wrap_i64 (by omega)]; omega, Nat.zero_add]
        have hs : (to.set i (img m (l.getD i P0))).take (i + 1) ++ (l.drop (i + 1)).map (img m) = to.take i ++ (l.drop i).map (img m) := by
          have hd : l.drop i = l.getD i P0 :: l.drop (i + 1) := by
            rw [List.getD_eq_getElem?_getD, List.getElem?_eq_getElem (by omega)]
            exact List.drop_eq_getElem_cons (by omega)
          rw [hd, List.map_cons, List.take_add_one, List.getElem?_set_self (by omega), List.take_set_of_le (Nat.le_refl i)]
          simp
        rcases ih (i + 1) (to.set i (img m (l.getD i P0))) (by rw [List.length_set]; exact ht) (by omega) (by omega) with h5 | ⟨h5, h6⟩
        · exact .inl h5
        · refine .inr ⟨fun j hj1 hj2 => ?_, ?_⟩
          · by_cases e : j = i
            · rw [e]; exact ho
            · exact h5 j (by omega) hj2
          · rw [hs] at h6; exact h6
      · have ho' : ¬ (mapM m (l.getD i P0).1 (l.getD i P0).2).2.2 = 0 := ho
        rw [if_pos (by rw [bne_iff_ne]; exact ho')]
        exact .inl ⟨_, ho', rfl⟩
    · rw [if_neg (by rw [decide_eq_true_eq]; omega), if_pos rfl]
      refine .inr ⟨fun j hj1 hj2 => by omega, ?_⟩
      rw [List.drop_of_length_le (by omega), List.map_nil, List.append_nil, List.take_of_length_le (by omega)]
      rfl

theorem mapM_img {m : Mt} {p : Pt} (h : okM m p) : RtP (img m p) ∧ vD (img m p).1 * 1000000000 = vD m.A * vD p.1 + vD m.C * vD p.2 + vD m.E * 1000000000 ∧ vD (img m p).2 * 1000000000 = vD m.B * vD p.1 + vD m.D * vD p.2 + vD m.F * 1000000000 := by
  obtain ⟨_, _, _, r1, r2, v1, v2⟩ := mapM_ok h
  exact ⟨⟨r1, r2⟩, v1, v2⟩
theorem f16_eqn {m : Mt} {b : Bx} (hm : m.ok) (hb : b.ok) : (∃ e : Int, e ≠ 0 ∧ f16 (m.A.1, m.A.2, m.B.1, m.B.2, m.C.1, m.C.2, m.D.1, m.D.2, m.E.1, m.E.2, m.F.1, m.F.2, b.X0.1, b.X0.2, b.Y0.1, b.Y0.2, b.X1.1, b.X1.2, b.Y1.1, b.Y1.2, ()) = some (0, 0, 0, 0, 0, 0, 0, 0, e, ())) ∨
    ((∀ p ∈ corn b, okM m p) ∧ f16 (m.A.1, m.A.2, m.B.1, m.B.2, m.C.1, m.C.2, m.D.1, m.D.2, m.E.1, m.E.2, m.F.1, m.F.2, b.X0.1, b.X0.2, b.Y0.1, b.Y0.2, b.X1.1, b.X1.2, b.Y1.1, b.Y1.2, ()) = some ((ofL ((corn b).map (img m))).X0.1, (ofL ((corn b).map (img m))).X0.2, (ofL ((corn b).map (img m))).Y0.1, (ofL ((corn b).map (img m))).Y0.2, (ofL ((corn b).map (img m))).X1.1, (ofL ((corn b).map (img m))).X1.2, (ofL ((corn b).map (img m))).Y1.1, (ofL ((corn b).map (img m))).Y1.2, 0, ())) := by
  unfold f16
  dsimp only
  rw [f33_eqn, Option.bind_some]
  dsimp only
  rw [if_pos hm, if_neg (by decide), f9_eqn, Option.bind_some]
  dsimp only
  rw [if_pos hb, if_neg (by decide), f22_eqn, Option.bind_some]
  dsimp only
  rw [if_neg (show ¬ (min (List.length (List.take 4 (List.drop 0 (corn b)))) 4 = 0) by unfold corn; simp)]
  have e : List.take 0 (List.replicate 4 (((0 : Int), (0 : Int)), ((0 : Int), (0 : Int)))) ++ (List.take (min (List.length (List.take 4 (List.drop 0 (corn b)))) 4) (List.take 4 (List.drop 0 (corn b))) ++ List.drop (0 + min (List.length (List.take 4 (List.drop 0 (corn b)))) 4) (List.replicate 4 (((0 : Int), (0 : Int)), ((0 : Int), (0 : Int))))) = corn b := rfl
  rw [e, if_pos (show 4 = (corn b).length from rfl)]
  have g := l16_1_spec (corn b) rfl m Bx.zero 18446744073709551616 0 (corn b) rfl (by omega) (by omega)
  have g' : (∃ e : Int, e ≠ 0 ∧ loopN g16_1 o16_1 b16_1 18446744073709551616 (corn b, 0, m.A.1, m.A.2, m.B.1, m.B.2, m.C.1, m.C.2, m.D.1, m.D.2, m.E.1, m.E.2, m.F.1, m.F.2, 0, 0, 0, 0, 0, 0, 0, 0, corn b, ()) = some (.inr (.inl (e, 0, 0, 0, 0, 0, 0, 0, 0, ())))) ∨
    ((∀ j, 0 ≤ j → j < 4 → okM m ((corn b).getD j P0)) ∧ loopN g16_1 o16_1 b16_1 18446744073709551616 (corn b, 0, m.A.1, m.A.2, m.B.1, m.B.2, m.C.1, m.C.2, m.D.1, m.D.2, m.E.1, m.E.2, m.F.1, m.F.2, 0, 0, 0, 0, 0, 0, 0, 0, corn b, ()) = some (.inl (0, 0, 0, 0, 0, 0, 0, 0, (corn b).map (img m), ()))) := g
  rw [show l16_1 = loopN g16_1 o16_1 b16_1 18446744073709551616 from rfl]
  generalize loopN g16_1 o16_1 b16_1 18446744073709551616 (corn b, 0, m.A.1, m.A.2, m.B.1, m.B.2, m.C.1, m.C.2, m.D.1, m.D.2, m.E.1, m.E.2, m.F.1, m.F.2, 0, 0, 0, 0, 0, 0, 0, 0, corn b, ()) = X at g' ⊢
  rcases g' with ⟨e, h1, h2⟩ | ⟨h1, h2⟩
  · subst h2
    exact .inl ⟨e, h1, rfl⟩
  · subst h2
    have hall : ∀ p ∈ corn b, okM m p := fun p hp => by
      obtain ⟨j, hj, rfl⟩ := List.mem_iff_getElem.1 hp
      have hj4 : j < 4 := hj
      have := h1 j (by omega) hj4
      rw [List.getD_eq_getElem?_getD, List.getElem?_eq_getElem hj] at this
      exact this
    refine .inr ⟨hall, ?_⟩
    rw [Option.bind_some, Sum.elim_inl]
    dsimp only
    rw [List.drop_zero, List.take_length, f11_yes (by unfold corn; simp) (by unfold corn; simp) (fun q hq => by
      obtain ⟨p, hp, rfl⟩ := List.mem_map.1 hq
      exact (mapM_img (hall p hp)).1)]
    rfl

/-- What lies between two is mapped between. -/
theorem between (a x x0 x1 : Int) (h0 : x0 ≤ x) (h1 : x ≤ x1) : (a * x0 ≤ a * x ∧ a * x ≤ a * x1) ∨ (a * x1 ≤ a * x ∧ a * x ≤ a * x0) := by
  rcases Int.le_total 0 a with h | h
  · exact .inl ⟨Int.mul_le_mul_of_nonneg_left h0 h, Int.mul_le_mul_of_nonneg_left h1 h⟩
  · exact .inr ⟨Int.mul_le_mul_of_nonpos_left h h1, Int.mul_le_mul_of_nonpos_left h h0⟩
theorem between2 {K A C E x y x0 x1 y0 y1 v v00 v10 v01 v11 L H : Int} (hK : 0 < K) (hx0 : x0 ≤ x) (hx1 : x ≤ x1) (hy0 : y0 ≤ y) (hy1 : y ≤ y1) (hv : v * K = A * x + C * y + E) (h00 : v00 * K = A * x0 + C * y0 + E) (h10 : v10 * K = A * x1 + C * y0 + E)
    (h01 : v01 * K = A * x0 + C * y1 + E) (h11 : v11 * K = A * x1 + C * y1 + E) (l0 : L ≤ v00) (l1 : L ≤ v10) (l2 : L ≤ v01) (l3 : L ≤ v11) (u0 : v00 ≤ H) (u1 : v10 ≤ H) (u2 : v01 ≤ H) (u3 : v11 ≤ H) : L ≤ v ∧ v ≤ H := by
  have ba := between A x x0 x1 hx0 hx1
  have bc := between C y y0 y1 hy0 hy1
  have m : ∀ a b : Int, a ≤ b → a * K ≤ b * K := fun a b h => Int.mul_le_mul_of_nonneg_right h (Int.le_of_lt hK)
  have m0 := m _ _ l0; have m1 := m _ _ l1; have m2 := m _ _ l2; have m3 := m _ _ l3
  have n0 := m _ _ u0; have n1 := m _ _ u1; have n2 := m _ _ u2; have n3 := m _ _ u3
  rw [h00] at m0 n0; rw [h10] at m1 n1; rw [h01] at m2 n2; rw [h11] at m3 n3
  have k1 : L * K ≤ v * K := by rw [hv]; omega
  have k2 : v * K ≤ H * K := by rw [hv]; omega
  exact ⟨Int.le_of_mul_le_mul_right k1 hK, Int.le_of_mul_le_mul_right k2 hK⟩
theorem image_in {m : Mt} {b : Bx} {p : Pt} (hall : ∀ q ∈ corn b, okM m q) (hp : okM m p) (hi : inB b p) : inB (ofL ((corn b).map (img m))) (img m p) := by
  have c00 : (b.X0, b.Y0) ∈ corn b := by unfold corn; simp
  have c10 : (b.X1, b.Y0) ∈ corn b := by unfold corn; simp
  have c01 : (b.X0, b.Y1) ∈ corn b := by unfold corn; simp
  have c11 : (b.X1, b.Y1) ∈ corn b := by unfold corn; simp
  have i00 := ofL_in _ (List.mem_map_of_mem (f := img m) c00)
  have i10 := ofL_in _ (List.mem_map_of_mem (f := img m) c10)
  have i01 := ofL_in _ (List.mem_map_of_mem (f := img m) c01)
  have i11 := ofL_in _ (List.mem_map_of_mem (f := img m) c11)
  obtain ⟨_, a00, d00⟩ := mapM_img (hall _ c00)
  obtain ⟨_, a10, d10⟩ := mapM_img (hall _ c10)
  obtain ⟨_, a01, d01⟩ := mapM_img (hall _ c01)
  obtain ⟨_, a11, d11⟩ := mapM_img (hall _ c11)
  obtain ⟨_, a, d⟩ := mapM_img hp
  obtain ⟨x0, x1, y0, y1⟩ := hi
  generalize ofL ((corn b).map (img m)) = c at *
  have r1 := between2 (by decide) x0 x1 y0 y1 a a00 a10 a01 a11 i00.1 i10.1 i01.1 i11.1 i00.2.1 i10.2.1 i01.2.1 i11.2.1
  have r2 := between2 (by decide) x0 x1 y0 y1 d d00 d10 d01 d11 i00.2.2.1 i10.2.2.1 i01.2.2.1 i11.2.2.1 i00.2.2.2 i10.2.2.2 i01.2.2.2 i11.2.2.2
  exact ⟨r1.1, r1.2, r2.1, r2.2⟩
end Go.Ev.Box
