/- Part of a proof about the given program: BoxC. -/
import Derived.Test.YtdakkfohpjjhkaaBoxB
namespace Go.Ev.Box
open Go.Ev.Dec

def both (a b : Bx) : Bx := (corn b).foldl up a
theorem fold_rt : ∀ {l : List Pt} {b : Bx}, b.rt → (∀ p ∈ l, RtP p) → (l.foldl up b).rt
  | [], _, hb, _ => hb
  | _ :: l, _, hb, hl => fold_rt (l := l) (up_rt hb (hl _ (List.mem_cons_self ..))) (fun q hq => hl q (List.mem_cons_of_mem _ hq))

theorem l14_1_spec (l : List Pt) (hl : l.length = 4) (hr : ∀ p ∈ l, RtP p) (c : Bx) : ∀ (k i : Nat) (b : Bx), b.rt → 4 < i + k → i ≤ 4 →
    loopN g14_1 o14_1 b14_1 k (l, (i : Int), b.X0.1, b.X0.2, b.Y0.1, b.Y0.2, b.X1.1, b.X1.2, b.Y1.1, b.Y1.2, c.X0.1, c.X0.2, c.Y0.1, c.Y0.2, c.X1.1, c.X1.2, c.Y1.1, c.Y1.2, ()) =
      some (.inl (((l.drop i).foldl up b).X0.1, ((l.drop i).foldl up b).X0.2, ((l.drop i).foldl up b).Y0.1, ((l.drop i).foldl up b).Y0.2, ((l.drop i).foldl up b).X1.1, ((l.drop i).foldl up b).X1.2, ((l.drop i).foldl up b).Y1.1, ((l.drop i).foldl up b).Y1.2,
        c.X0.1, c.X0.2, c.Y0.1, c.Y0.2, c.X1.1, c.X1.2, c.Y1.1, c.Y1.2, ())) := by
  intro k
  induction k with
  | zero => intro i b hb h1 h2; omega
  | succ k ih =>
    intro i b hb h1 h2
    rw [loopN_succ]
    generalize hL : loopN g14_1 o14_1 b14_1 k = L at ih ⊢
    unfold b14_1
    dsimp only
    rw [Int.toNat_natCast]
    rcases Nat.lt_or_ge i 4 with h | h
    · have hm : l.getD i ((0, 0), (0, 0)) ∈ l := by
        rw [List.getD_eq_getElem?_getD, List.getElem?_eq_getElem (by omega)]
        exact List.getElem_mem _
      rw [if_pos (by rw [decide_eq_true_eq]; omega), if_pos (by omega), if_pos (by omega), f27_eqn hb (hr _ hm), Option.bind_some, Option.bind_some, Sum.elim_inl,
        show IntKind.wrap .i64 ((i : Int) + 1) = ((i + 1 : Nat) : Int) by rw [wrap_i64 (by omega)]; omega]
      have hd : l.drop i = l.getD i ((0, 0), (0, 0)) :: l.drop (i + 1) := by
        rw [List.getD_eq_getElem?_getD, List.getElem?_eq_getElem (by omega)]
        exact List.drop_eq_getElem_cons (by omega)
      rw [hd, List.foldl_cons]
      exact ih (i + 1) _ (up_rt hb (hr _ hm)) (by omega) (by omega)
    · rw [if_neg (by rw [decide_eq_true_eq]; omega), List.drop_of_length_le (by omega)]
      rfl
def Bx.zero : Bx := ⟨(0, 0), (0, 0), (0, 0), (0, 0)⟩
theorem f14_eqn (a b : Bx) : f14 (a.X0.1, a.X0.2, a.Y0.1, a.Y0.2, a.X1.1, a.X1.2, a.Y1.1, a.Y1.2, b.X0.1, b.X0.2, b.Y0.1, b.Y0.2, b.X1.1, b.X1.2, b.Y1.1, b.Y1.2, ()) =
    some (if a.ok ∧ b.ok then ((both a b).X0.1, (both a b).X0.2, (both a b).Y0.1, (both a b).Y0.2, (both a b).X1.1, (both a b).X1.2, (both a b).Y1.1, (both a b).Y1.2, 0, ()) else (0, 0, 0, 0, 0, 0, 0, 0, 1, ())) := by
  unfold f14
  dsimp only
  rw [f9_eqn, Option.bind_some]
  dsimp only
  by_cases ha : a.ok
  · rw [if_pos ha, if_neg (by decide), f9_eqn, Option.bind_some]
    dsimp only
    by_cases hb : b.ok
    · rw [if_pos hb, if_neg (by decide), if_pos (show a.ok ∧ b.ok from ⟨ha, hb⟩), f22_eqn, Option.bind_some]
      dsimp only
      have h := l14_1_spec (corn b) rfl ((corn_rt b).2 hb.1) Bx.zero 18446744073709551616 0 a ha.1 (by omega) (by omega)
      rw [List.drop_zero] at h
      have h' : loopN g14_1 o14_1 b14_1 18446744073709551616 (corn b, 0, a.X0.1, a.X0.2, a.Y0.1, a.Y0.2, a.X1.1, a.X1.2, a.Y1.1, a.Y1.2, 0, 0, 0, 0, 0, 0, 0, 0, ()) = _ := h
      rw [show l14_1 = loopN g14_1 o14_1 b14_1 18446744073709551616 from rfl]
      generalize loopN g14_1 o14_1 b14_1 18446744073709551616 (corn b, 0, a.X0.1, a.X0.2, a.Y0.1, a.Y0.2, a.X1.1, a.X1.2, a.Y1.1, a.Y1.2, 0, 0, 0, 0, 0, 0, 0, 0, ()) = X at h' ⊢
      subst h'
      rw [Option.bind_some, Sum.elim_inl]
      rfl
    · rw [if_neg hb, if_pos (by decide), if_neg (fun h : a.ok ∧ b.ok => hb h.2)]
  · rw [if_neg ha, if_pos (by decide), if_neg (fun h : a.ok ∧ b.ok => ha h.1)]
theorem up_v (b : Bx) (p : Pt) : vD (up b p).X0 = min (vD b.X0) (vD p.1) ∧ vD (up b p).Y0 = min (vD b.Y0) (vD p.2) ∧ vD (up b p).X1 = max (vD b.X1) (vD p.1) ∧ vD (up b p).Y1 = max (vD b.Y1) (vD p.2) :=
  ⟨lo_v _ _, lo_v _ _, hi_v _ _, hi_v _ _⟩
theorem both_v {a b : Bx} (hb : b.ok) : vD (both a b).X0 = min (vD a.X0) (vD b.X0) ∧ vD (both a b).Y0 = min (vD a.Y0) (vD b.Y0) ∧ vD (both a b).X1 = max (vD a.X1) (vD b.X1) ∧ vD (both a b).Y1 = max (vD a.Y1) (vD b.Y1) := by
  unfold both corn
  simp only [List.foldl_cons, List.foldl_nil]
  have h1 := hb.2.1
  have h2 := hb.2.2
  obtain ⟨a1, a2, a3, a4⟩ := up_v a (b.X0, b.Y0)
  obtain ⟨b1, b2, b3, b4⟩ := up_v (up a (b.X0, b.Y0)) (b.X1, b.Y0)
  obtain ⟨c1, c2, c3, c4⟩ := up_v (up (up a (b.X0, b.Y0)) (b.X1, b.Y0)) (b.X0, b.Y1)
  obtain ⟨d1, d2, d3, d4⟩ := up_v (up (up (up a (b.X0, b.Y0)) (b.X1, b.Y0)) (b.X0, b.Y1)) (b.X1, b.Y1)
  rw [d1, d2, d3, d4, c1, c2, c3, c4, b1, b2, b3, b4, a1, a2, a3, a4]
  dsimp only
  refine ⟨?_, ?_, ?_, ?_⟩ <;> omega
theorem both_ok {a b : Bx} (ha : a.ok) (hb : b.ok) : (both a b).ok := by
  obtain ⟨h1, h2, h3, h4⟩ := both_v (a := a) hb
  have a1 := ha.2.1; have a2 := ha.2.2; have b1 := hb.2.1; have b2 := hb.2.2
  exact ⟨fold_rt ha.1 ((corn_rt b).2 hb.1), by omega, by omega⟩
theorem Bx.ext {a b : Bx} (ha : a.rt) (hb : b.rt) (h1 : vD a.X0 = vD b.X0) (h2 : vD a.Y0 = vD b.Y0) (h3 : vD a.X1 = vD b.X1) (h4 : vD a.Y1 = vD b.Y1) : a = b := by
  have e1 := vD_inj ha.1 hb.1 h1
  have e2 := vD_inj ha.2.1 hb.2.1 h2
  have e3 := vD_inj ha.2.2.1 hb.2.2.1 h3
  have e4 := vD_inj ha.2.2.2 hb.2.2.2 h4
  cases a; cases b
  simp only at e1 e2 e3 e4
  subst e1 e2 e3 e4
  rfl
set_option maxRecDepth 100000 in
theorem awake_true : f8 () = some (true, ()) := by kernel_rfl

theorem boxApart_pure (a b : Bx) : f3 (a.X0.1, a.X0.2, a.Y0.1, a.Y0.2, a.X1.1, a.X1.2, a.Y1.1, a.Y1.2, b.X0.1, b.X0.2, b.Y0.1, b.Y0.2, b.X1.1, b.X1.2, b.Y1.1, b.Y1.2, ()) = some (true, ()) := by
  unfold f3
  dsimp only
  rw [f7_eqn, Option.bind_some]
  by_cases h : a.ok ∧ b.ok
  · rw [if_pos h]
    dsimp only
    obtain ⟨a1, a2, a3, a4⟩ := h.1.1
    obtain ⟨b1, b2, b3, b4⟩ := h.2.1
    rw [if_neg (by decide), f10_eqn a3 b1, Option.bind_some, f10_eqn b3 a1, Option.bind_some, f10_eqn a4 b2, Option.bind_some, f10_eqn b4 a2, Option.bind_some, awake_true, Option.bind_some]
    dsimp only
    rw [if_pos rfl]
    have key : ∀ x y : Int × Int, cmpD x y ≥ 0 ↔ vD y ≤ vD x := fun x y => by
      unfold cmpD
      by_cases c : vD x < vD y
      · rw [if_pos c]; omega
      · rw [if_neg c]
        by_cases c2 : vD y < vD x
        · rw [if_pos c2]; omega
        · rw [if_neg c2]; omega
    have k1 := key a.X1 b.X0
    have k2 := key b.X1 a.X0
    have k3 := key a.Y1 b.Y0
    have k4 := key b.Y1 a.Y0
    unfold meets
    by_cases c1 : cmpD a.X1 b.X0 ≥ 0
    · rw [if_pos (by rw [decide_eq_true_eq]; exact c1)]
      by_cases c2 : cmpD b.X1 a.X0 ≥ 0
      · rw [if_pos (by rw [decide_eq_true_eq]; exact c2)]
        by_cases c3 : cmpD a.Y1 b.Y0 ≥ 0
        · rw [if_pos (by rw [decide_eq_true_eq]; exact c3)]
          congr 2
          rw [beq_iff_eq, decide_eq_decide]
          rw [k4]
          have := k1.1 c1; have := k2.1 c2; have := k3.1 c3
          omega
        · rw [if_neg (by rw [decide_eq_true_eq]; exact c3), decide_eq_false (fun hh => c3 (k3.2 hh.2.2.2))]
          rfl
      · rw [if_neg (by rw [decide_eq_true_eq]; exact c2), decide_eq_false (fun hh => c2 (k2.2 hh.1))]
        rfl
    · rw [if_neg (by rw [decide_eq_true_eq]; exact c1), decide_eq_false (fun hh => c1 (k1.2 hh.2.1))]
      rfl
  · rw [if_neg h]
    dsimp only
    rw [if_pos (by decide)]
    unfold b3_1
    dsimp only
    rw [awake_true, Option.bind_some]
    dsimp only
    rw [if_pos rfl, if_pos (by decide), f9_eqn, Option.bind_some]
    dsimp only
    by_cases ha : a.ok
    · have hb : ¬ b.ok := fun hb => h ⟨ha, hb⟩
      rw [if_pos ha, if_neg (by decide), f9_eqn, if_neg hb]
      rfl
    · rw [if_neg ha, if_pos (by decide)]
      rfl
theorem meets_comm (a b : Bx) : meets a b = meets b a := by
  unfold meets
  rw [decide_eq_decide]
  omega
theorem allEq_box (b : Bx) : allEq ((((b.X0.1, b.X0.1) :: []) ++ (((b.X0.2, b.X0.2) :: []) ++ [])) ++ ((((b.Y0.1, b.Y0.1) :: []) ++ (((b.Y0.2, b.Y0.2) :: []) ++ [])) ++ ((((b.X1.1, b.X1.1) :: []) ++ (((b.X1.2, b.X1.2) :: []) ++ [])) ++ ((((b.Y1.1, b.Y1.1) :: []) ++ (((b.Y1.2, b.Y1.2) :: []) ++ [])) ++ [])))) = true := by
  simp [allEq]
theorem f7_yes {a b : Bx} (ha : a.ok) (hb : b.ok) : f7 (a.X0.1, a.X0.2, a.Y0.1, a.Y0.2, a.X1.1, a.X1.2, a.Y1.1, a.Y1.2, b.X0.1, b.X0.2, b.Y0.1, b.Y0.2, b.X1.1, b.X1.2, b.Y1.1, b.Y1.2, ()) = some (meets a b, 0, ()) := by
  rw [f7_eqn, if_pos ⟨ha, hb⟩]
theorem f14_yes {a b : Bx} (ha : a.ok) (hb : b.ok) : f14 (a.X0.1, a.X0.2, a.Y0.1, a.Y0.2, a.X1.1, a.X1.2, a.Y1.1, a.Y1.2, b.X0.1, b.X0.2, b.Y0.1, b.Y0.2, b.X1.1, b.X1.2, b.Y1.1, b.Y1.2, ()) = some ((both a b).X0.1, (both a b).X0.2, (both a b).Y0.1, (both a b).Y0.2, (both a b).X1.1, (both a b).X1.2, (both a b).Y1.1, (both a b).Y1.2, 0, ()) := by
  rw [f14_eqn, if_pos ⟨ha, hb⟩]
theorem boxMeets_pure (a b c : Bx) : f5 (a.X0.1, a.X0.2, a.Y0.1, a.Y0.2, a.X1.1, a.X1.2, a.Y1.1, a.Y1.2, b.X0.1, b.X0.2, b.Y0.1, b.Y0.2, b.X1.1, b.X1.2, b.Y1.1, b.Y1.2, c.X0.1, c.X0.2, c.Y0.1, c.Y0.2, c.X1.1, c.X1.2, c.Y1.1, c.Y1.2, ()) = some (true, ()) := by
  unfold f5
  dsimp only
  rw [f9_eqn, awake_true, Option.bind_some]
  dsimp only
  by_cases ha : a.ok
  · rw [if_pos ha, if_neg (by decide), f9_eqn, Option.bind_some]
    dsimp only
    by_cases hb : b.ok
    · rw [if_pos hb, if_neg (by decide), f9_eqn, Option.bind_some]
      dsimp only
      by_cases hc : c.ok
      · rw [if_pos hc, if_neg (by decide), f7_yes ha hb, Option.bind_some, f7_yes hb ha, Option.bind_some, f7_yes ha ha, Option.bind_some, f14_yes hb hc, Option.bind_some]
        dsimp only
        rw [f7_yes ha (both_ok hb hc), Option.bind_some, f14_yes hc hb, Option.bind_some, f14_yes hb hb, Option.bind_some, Option.bind_some]
        dsimp only
        have e1 : both c b = both b c := by
          obtain ⟨x1, x2, x3, x4⟩ := both_v (a := c) hb
          obtain ⟨y1, y2, y3, y4⟩ := both_v (a := b) hc
          exact Bx.ext (both_ok hc hb).1 (both_ok hb hc).1 (by omega) (by omega) (by omega) (by omega)
        have e2 : both b b = b := by
          obtain ⟨x1, x2, x3, x4⟩ := both_v (a := b) hb
          exact Bx.ext (both_ok hb hb).1 hb.1 (by omega) (by omega) (by omega) (by omega)
        have e3 : meets a a = true := by
          unfold meets
          have := ha.2.1; have := ha.2.2
          exact decide_eq_true (by omega)
        rw [e1, e2, e3, meets_comm b a]
        have e4 : meets a b = true → meets a (both b c) = true := fun h => by
          unfold meets at h ⊢
          obtain ⟨y1, y2, y3, y4⟩ := both_v (a := b) hc
          have h := of_decide_eq_true h
          exact decide_eq_true (by omega)
        have z : ((0 : Int) == 0) = true := by decide
        simp only [z, if_true, beq_self_eq_true]
        rw [f9_eqn, if_pos (both_ok hb hc), allEq_box, allEq_box]
        by_cases hm : meets a b = true
        · rw [if_neg (by rw [hm]; decide), if_pos (e4 hm)]
          rfl
        · rw [if_pos (by simpa using hm)]
          rfl
      · rw [if_neg hc, if_pos (by decide), Option.bind_some]
    · rw [if_neg hb, if_pos (by decide), Option.bind_some]
  · rw [if_neg ha, if_pos (by decide), Option.bind_some]
end Go.Ev.Box
