/- Part of a proof about the given program: InflE. -/
import Derived.Test.YtibeakoeoinkjaaBig
import Derived.Test.YtibeakoeoinkjaaF
import Derived.KernelRfl
namespace Go.Ev.Inflate

set_option maxRecDepth 100000 in
theorem awake_true : f9 () = some (true, ()) := by kernel_rfl

abbrev Tok := Int × Int × Int
def isT (t : Tok) : Bool := if t.2.1 = 0 then decide (t.2.2 = 0 ∧ 0 ≤ t.1 ∧ t.1 ≤ 255) else decide (t.1 = 0 ∧ 3 ≤ t.2.1 ∧ t.2.1 ≤ 258 ∧ 1 ≤ t.2.2 ∧ t.2.2 ≤ 32768)
theorem isT_iff (t : Tok) : isT t = true ↔ (t.2.1 = 0 ∧ t.2.2 = 0 ∧ 0 ≤ t.1 ∧ t.1 ≤ 255) ∨ (t.1 = 0 ∧ 3 ≤ t.2.1 ∧ t.2.1 ≤ 258 ∧ 1 ≤ t.2.2 ∧ t.2.2 ≤ 32768) := by
  unfold isT
  by_cases h : t.2.1 = 0
  · rw [if_pos h, decide_eq_true_eq]; omega
  · rw [if_neg h, decide_eq_true_eq]; omega
theorem f14_eqn (x n k : Int) : f14 (x, n, k, ()) = some (isT (x, n, k), ()) := by
  unfold f14 isT
  dsimp only
  rw [Int.fdiv_eq_ediv_of_nonneg _ (by omega)]
  by_cases h1 : n = 0
  · rw [if_pos (beq_iff_eq.2 h1), if_pos h1]
    by_cases h2 : k = 0
    · rw [if_pos (beq_iff_eq.2 h2)]
      refine congrArg (fun q => some (q, ())) ?_
      rw [Bool.eq_iff_iff, beq_iff_eq, decide_eq_true_eq]; omega
    · rw [if_neg (fun h => h2 (beq_iff_eq.1 h)), decide_eq_false (fun h => h2 h.1)]
  · rw [if_neg (fun h => h1 (beq_iff_eq.1 h)), if_neg h1]
    by_cases h2 : x = 0
    · rw [if_pos (beq_iff_eq.2 h2)]
      by_cases h3 : 3 ≤ n
      · rw [if_pos (decide_eq_true h3)]
        by_cases h4 : n ≤ 258
        · rw [if_pos (decide_eq_true h4)]
          by_cases h5 : 1 ≤ k
          · rw [if_pos (decide_eq_true h5)]
            refine congrArg (fun q => some (q, ())) ?_
            rw [Bool.eq_iff_iff, decide_eq_true_eq, decide_eq_true_eq]; omega
          · rw [if_neg (fun h => h5 (of_decide_eq_true h)), decide_eq_false (fun h => h5 h.2.2.2.1)]
        · rw [if_neg (fun h => h4 (of_decide_eq_true h)), decide_eq_false (fun h => h4 h.2.2.1)]
      · rw [if_neg (fun h => h3 (of_decide_eq_true h)), decide_eq_false (fun h => h3 h.2.1)]
    · rw [if_neg (fun h => h2 (beq_iff_eq.1 h)), decide_eq_false (fun h => h2 h.1)]
theorem f15_eqn (x n k : Int) : f15 (x, n, k, ()) = some (isT (x, n, k), ()) := by
  unfold f15 isT
  dsimp only
  by_cases h1 : n = 0
  · rw [if_pos (beq_iff_eq.2 h1), if_pos h1]
    unfold b15_1
    dsimp only
    by_cases h2 : k = 0
    · rw [if_pos (beq_iff_eq.2 h2)]
      by_cases h3 : 0 ≤ x
      · rw [if_pos (decide_eq_true h3), Option.bind_some, Sum.elim_inl]
        refine congrArg (fun q => some (q, ())) ?_
        rw [Bool.eq_iff_iff, decide_eq_true_eq, decide_eq_true_eq]; omega
      · rw [if_neg (fun h => h3 (of_decide_eq_true h)), Option.bind_some, Sum.elim_inl, decide_eq_false (fun h => h3 h.2.1)]
    · rw [if_neg (fun h => h2 (beq_iff_eq.1 h)), Option.bind_some, Sum.elim_inl, decide_eq_false (fun h => h2 h.1)]
  · rw [if_neg (fun h => h1 (beq_iff_eq.1 h)), if_neg h1]
    by_cases h3 : 3 ≤ n
    · rw [if_pos (decide_eq_true h3)]
      by_cases h4 : n ≤ 258
      · rw [if_pos (decide_eq_true h4)]
        by_cases h5 : 1 ≤ k
        · rw [if_pos (decide_eq_true h5)]
          by_cases h6 : k ≤ 32768
          · rw [if_pos (decide_eq_true h6)]
            refine congrArg (fun q => some (q, ())) ?_
            rw [Bool.eq_iff_iff, beq_iff_eq, decide_eq_true_eq]; omega
          · rw [if_neg (fun h => h6 (of_decide_eq_true h)), decide_eq_false (fun h => h6 h.2.2.2.2)]
        · rw [if_neg (fun h => h5 (of_decide_eq_true h)), decide_eq_false (fun h => h5 h.2.2.2.1)]
      · rw [if_neg (fun h => h4 (of_decide_eq_true h)), decide_eq_false (fun h => h4 h.2.2.1)]
    · rw [if_neg (fun h => h3 (of_decide_eq_true h)), decide_eq_false (fun h => h3 h.2.1)]
theorem drop_getD {α : Type} {l : List α} {i : Nat} (h : i < l.length) (d : α) : l.drop i = l.getD i d :: l.drop (i + 1) := by
  rw [List.getD_eq_getElem?_getD, List.getElem?_eq_getElem h]
  exact List.drop_eq_getElem_cons h
theorem f13_eqn (x n k : Int) : f13 (x, n, k, ()) = some (!(isT (x, n, k)), ()) := by
  unfold f13
  dsimp only
  rw [f14_eqn, Option.bind_some]
theorem l23_1_spec {l : List Tok} (hl : l.length < 2 ^ 60) : ∀ (k i : Nat), l.length < i + k → i ≤ l.length →
    ((l.drop i).all isT = true ∧ loopN g23_1 o23_1 b23_1 k (l, ((l.length : Nat) : Int), (i : Int), ()) = some (.inl ())) ∨
    ((l.drop i).all isT = false ∧ ∃ j : Nat, loopN g23_1 o23_1 b23_1 k (l, ((l.length : Nat) : Int), (i : Int), ()) = some (.inr (.inl ((j : Int), ())))) := by
  intro k
  induction k with
  | zero => intro i h1 h2; omega
  | succ k ih =>
    intro i h1 h2
    rw [loopN_succ]
    generalize hL : loopN g23_1 o23_1 b23_1 k = L at ih ⊢
    unfold b23_1
    dsimp only
    rcases Nat.lt_or_ge i l.length with h | h
    · rw [drop_getD h (0, 0, 0), if_pos (by rw [decide_eq_true_eq]; omega), if_pos (by omega), if_pos (by omega), Int.toNat_natCast, f13_eqn, Option.bind_some]
      dsimp only
      rw [List.all_cons, show (l.getD i (0, 0, 0)) = ((l.getD i (0, 0, 0)).1, (l.getD i (0, 0, 0)).2.1, (l.getD i (0, 0, 0)).2.2) from rfl]
      cases hT : isT ((l.getD i (0, 0, 0)).1, (l.getD i (0, 0, 0)).2.1, (l.getD i (0, 0, 0)).2.2) with
      | true =>
        rw [Bool.true_and, if_neg (by decide), Option.bind_some, Sum.elim_inl, show IntKind.wrap .i64 ((i : Int) + 1) = ((i + 1 : Nat) : Int) by rw [wrap_i64 (by omega)]; omega]
        exact ih (i + 1) (by omega) (by omega)
      | false =>
        rw [Bool.false_and, if_pos (by decide)]
        exact .inr ⟨rfl, i, rfl⟩
    · rw [List.drop_of_length_le h, if_neg (by rw [decide_eq_true_eq]; omega)]
      exact .inl ⟨rfl, rfl⟩
theorem f12_eqn {l : List Tok} (hl : l.length < 2 ^ 60) : f12 (l, ()) = some (!(l.all isT), ()) := by
  have h := l23_1_spec hl 18446744073709551616 0 (by omega) (by omega)
  rw [List.drop_zero] at h
  unfold f12 f23
  dsimp only
  rw [show l23_1 = loopN g23_1 o23_1 b23_1 18446744073709551616 from rfl]
  rcases h with ⟨h1, h2⟩ | ⟨h1, j, h2⟩
  · have h2' : loopN g23_1 o23_1 b23_1 18446744073709551616 (l, ((l.length : Nat) : Int), 0, ()) = _ := h2
    rw [h2', h1, Option.bind_some]
    rfl
  · have h2' : loopN g23_1 o23_1 b23_1 18446744073709551616 (l, ((l.length : Nat) : Int), 0, ()) = _ := h2
    rw [h2', h1, Option.bind_some, Sum.elim_inr, Sum.elim_inl, Option.bind_some]
    dsimp only
    rw [decide_eq_true (by omega)]
    rfl

/-! # Tokens as bytes -/
def cpy (back : Nat) : Nat → List Int → List Int
  | 0, o => o
  | n + 1, o => cpy back n (o ++ [o.getD (o.length - back) 0])
theorem length_cpy (back : Nat) : ∀ (n : Nat) (o : List Int), (cpy back n o).length = o.length + n
  | 0, o => rfl
  | n + 1, o => by rw [cpy, length_cpy back n, List.length_append, List.length_singleton]; omega
def exp (most : Int) : List Tok → List Int → List Int ⊕ Int
  | [], out => .inl out
  | t :: l, out => if t.2.2 > ((out.length : Nat) : Int) then .inr 4 else if ((out.length : Nat) : Int) + max t.2.1 1 > most then .inr 2 else
      exp most l (cpy t.2.2.toNat t.2.1.toNat (if t.2.1 = 0 then out ++ [t.1] else out))
theorem full {α : Type} (o : List α) : List.take o.length (List.drop 0 o) = o := by rw [List.drop_zero, List.take_length]
theorem one_set {x : Int} : List.take 1 (List.drop 0 (List.set (List.replicate 1 (0 : Int)) 0 x)) = [x] := rfl
theorem l7_2_spec (most : Int) (l : List Tok) (ln i : Int) (L : Nat) (t1 t2 bk : Int) : ∀ (k r j : Nat) (out : List Int), r < k → j + r = L → L ≤ 1000 → out.length + r ≤ 2000000 → (0 < r → 1 ≤ bk ∧ bk ≤ ((out.length : Nat) : Int)) →
    loopN g7_2 o7_2 b7_2 k (most, l, ln, i, (L : Int), (j : Int), out, t1, t2, bk, ()) = some (.inl (most, l, ln, i, cpy bk.toNat r out, ())) := by
  intro k
  induction k with
  | zero => intro r j out h1; omega
  | succ k ih =>
    intro r j out h1 h2 h3 h4 h5
    rw [loopN_succ]
    generalize hL : loopN g7_2 o7_2 b7_2 k = LL at ih ⊢
    unfold b7_2
    dsimp only
    cases r with
    | zero => rw [if_neg (by rw [decide_eq_true_eq]; omega), if_pos rfl]; rfl
    | succ r =>
      have hb := h5 (by omega)
      have w1 : IntKind.wrap .i64 (((out.length : Nat) : Int) - bk) = ((out.length - bk.toNat : Nat) : Int) := by rw [wrap_i64 (by omega)]; omega
      rw [if_pos (by rw [decide_eq_true_eq]; omega), w1, if_pos (by omega), if_pos (by omega), Int.toNat_natCast, Nat.zero_add, one_set, full, if_pos (by rw [List.length_singleton]; omega), if_pos rfl, Option.bind_some, Sum.elim_inl,
        show IntKind.wrap .i64 ((j : Int) + 1) = ((j + 1 : Nat) : Int) by rw [wrap_i64 (by omega)]; omega]
      exact ih r (j + 1) _ (by omega) (by omega) h3 (by rw [List.length_append, List.length_singleton]; omega) (fun _ => by rw [List.length_append, List.length_singleton]; omega)
def expOut : List Int ⊕ Int → List Int ⊕ (List Int × Int)
  | .inl o => .inl o
  | .inr e => .inr ([], e)
theorem l7_1_spec {most : Int} (hm : most ≤ 1048576) {l : List Tok} (hl : l.length < 2 ^ 60) (ht : l.all isT = true) : ∀ (k i : Nat) (out : List Int), l.length < i + k → i ≤ l.length → ((out.length : Nat) : Int) ≤ most →
    loopN g7_1 o7_1 b7_1 k (most, l, ((l.length : Nat) : Int), (i : Int), out, ()) = (match exp most (l.drop i) out with | .inl o => some (.inl (o, ())) | .inr e => some (.inr (.inl ([], e, ())))) := by
  intro k
  induction k with
  | zero => intro i out h1 h2; omega
  | succ k ih =>
    intro i out h1 h2 h3
    rw [loopN_succ]
    generalize hL : loopN g7_1 o7_1 b7_1 k = LL at ih ⊢
    unfold b7_1
    dsimp only
    rcases Nat.lt_or_ge i l.length with h | h
    · have hT : isT (l.getD i (0, 0, 0)) = true := by
        rw [List.all_eq_true] at ht
        refine ht _ ?_
        rw [List.getD_eq_getElem?_getD, List.getElem?_eq_getElem h]
        exact List.getElem_mem _
      rw [isT_iff] at hT
      rw [drop_getD h (0, 0, 0), if_pos (by rw [decide_eq_true_eq]; omega), if_pos (by omega), if_pos (by omega), Int.toNat_natCast]
      generalize l.getD i (0, 0, 0) = t at hT ⊢
      obtain ⟨tb, tl, tk⟩ := t
      unfold exp
      dsimp only at hT ⊢
      by_cases c1 : tk > ((out.length : Nat) : Int)
      · rw [if_pos (decide_eq_true c1), if_pos c1]; rfl
      · rw [if_neg (fun h => c1 (of_decide_eq_true h)), if_neg c1]
        have w1 : IntKind.wrap .i64 (((out.length : Nat) : Int) + max tl 1) = ((out.length : Nat) : Int) + max tl 1 := wrap_i64 (by omega)
        rw [w1]
        by_cases c2 : ((out.length : Nat) : Int) + max tl 1 > most
        · rw [if_pos (decide_eq_true c2), if_pos c2]; rfl
        · rw [if_neg (fun h => c2 (of_decide_eq_true h)), if_neg c2]
          have hL2 : l7_2 = loopN g7_2 o7_2 b7_2 18446744073709551616 := rfl
          by_cases c3 : tl = 0
          · have hr := l7_2_spec most l ((l.length : Nat) : Int) (i : Int) 0 tb tl tk 18446744073709551616 0 0 (out ++ [tb]) (by omega) rfl (by omega) (by rw [List.length_append, List.length_singleton]; omega) (fun h => by omega)
            have w2 : IntKind.wrap .u8 tb = tb := by rw [wrap_u8]; omega
            rw [if_pos (beq_iff_eq.2 c3), if_pos c3, w2, one_set, full, if_pos (by rw [List.length_singleton]; omega), if_pos rfl, hL2]
            subst c3
            have hr' : loopN g7_2 o7_2 b7_2 18446744073709551616 (most, l, ((l.length : Nat) : Int), (i : Int), 0, 0, out ++ [tb], tb, 0, tk, ()) = _ := hr
            generalize loopN g7_2 o7_2 b7_2 18446744073709551616 (most, l, ((l.length : Nat) : Int), (i : Int), 0, 0, out ++ [tb], tb, 0, tk, ()) = X at hr' ⊢
            subst hr'
            rw [Option.bind_some, Sum.elim_inl]
            dsimp only
            rw [if_pos rfl, Option.bind_some, Sum.elim_inl, show IntKind.wrap .i64 ((i : Int) + 1) = ((i + 1 : Nat) : Int) by rw [wrap_i64 (by omega)]; omega]
            exact ih (i + 1) _ (by omega) (by omega) (by rw [length_cpy, List.length_append, List.length_singleton]; omega)
          · have hr := l7_2_spec most l ((l.length : Nat) : Int) (i : Int) tl.toNat tb tl tk 18446744073709551616 tl.toNat 0 out (by omega) (by omega) (by omega) (by omega) (fun _ => by omega)
            rw [if_neg (fun h => c3 (beq_iff_eq.1 h)), if_neg c3, if_pos rfl, hL2]
            rw [show ((tl.toNat : Nat) : Int) = tl by omega] at hr
            have hr' : loopN g7_2 o7_2 b7_2 18446744073709551616 (most, l, ((l.length : Nat) : Int), (i : Int), tl, 0, out, tb, tl, tk, ()) = _ := hr
            generalize loopN g7_2 o7_2 b7_2 18446744073709551616 (most, l, ((l.length : Nat) : Int), (i : Int), tl, 0, out, tb, tl, tk, ()) = X at hr' ⊢
            subst hr'
            rw [Option.bind_some, Sum.elim_inl]
            dsimp only
            rw [if_pos rfl, Option.bind_some, Sum.elim_inl, show IntKind.wrap .i64 ((i : Int) + 1) = ((i + 1 : Nat) : Int) by rw [wrap_i64 (by omega)]; omega]
            exact ih (i + 1) _ (by omega) (by omega) (by rw [length_cpy]; omega)
    · rw [List.drop_of_length_le h, if_neg (by rw [decide_eq_true_eq]; omega), if_pos rfl]
      rfl
/-- What Expand answers. -/
def expd (l : List Tok) (most : Int) : List Int × Int × Unit :=
  if most < 0 ∨ 1048576 < most ∨ l.all isT = false then ([], 1, ()) else match exp most l [] with | .inl o => (o, 0, ()) | .inr e => ([], e, ())
theorem f7_eqn {l : List Tok} (hl : l.length < 2 ^ 60) (most : Int) : f7 (l, most, ()) = some (expd l most) := by
  unfold f7 expd
  dsimp only
  by_cases c1 : most < 0
  · rw [if_pos (decide_eq_true c1), if_pos (.inl c1)]
  · rw [if_neg (fun h => c1 (of_decide_eq_true h))]
    by_cases c2 : 1048576 < most
    · rw [if_pos (decide_eq_true c2), if_pos (.inr (.inl c2))]
    · rw [if_neg (fun h => c2 (of_decide_eq_true h)), f12_eqn hl, Option.bind_some]
      dsimp only
      cases hT : l.all isT with
      | false => rw [if_pos (show (!false) = true from rfl), if_pos (.inr (.inr rfl))]
      | true =>
        rw [if_neg (show ¬ (!true) = true by decide), if_neg (by rintro (h | h | h) <;> first | exact c1 h | exact c2 h | cases h)]
        have h := l7_1_spec (by omega : most ≤ 1048576) hl hT 18446744073709551616 0 [] (by omega) (by omega) (by simp only [List.length_nil]; omega)
        have h' : loopN g7_1 o7_1 b7_1 18446744073709551616 (most, l, ((l.length : Nat) : Int), 0, [], ()) = _ := h
        rw [show l7_1 = loopN g7_1 o7_1 b7_1 18446744073709551616 from rfl, h', List.drop_zero]
        cases exp most l [] with
        | inl o => exact congrArg (fun q => some (q, (0 : Int), ())) (full o)
        | inr e => rfl
/-! # The reference -/
theorem l8_1_spec {l : List Tok} (hl : l.length < 2 ^ 60) (most : Int) : ∀ (k i : Nat), l.length < i + k → i ≤ l.length →
    ((l.drop i).all isT = true ∧ loopN g8_1 o8_1 b8_1 k (l, most, (i : Int), ()) = some (.inl (l, most, ()))) ∨
    ((l.drop i).all isT = false ∧ loopN g8_1 o8_1 b8_1 k (l, most, (i : Int), ()) = some (.inr (.inl ([], 1, ())))) := by
  intro k
  induction k with
  | zero => intro i h1 h2; omega
  | succ k ih =>
    intro i h1 h2
    rw [loopN_succ]
    generalize hL : loopN g8_1 o8_1 b8_1 k = L at ih ⊢
    unfold b8_1
    dsimp only
    rcases Nat.lt_or_ge i l.length with h | h
    · rw [drop_getD h (0, 0, 0), if_pos (by rw [decide_eq_true_eq]; omega), if_pos (by omega), if_pos (by omega), Int.toNat_natCast, f15_eqn, Option.bind_some]
      dsimp only
      rw [List.all_cons, show (l.getD i (0, 0, 0)) = ((l.getD i (0, 0, 0)).1, (l.getD i (0, 0, 0)).2.1, (l.getD i (0, 0, 0)).2.2) from rfl]
      cases hT : isT ((l.getD i (0, 0, 0)).1, (l.getD i (0, 0, 0)).2.1, (l.getD i (0, 0, 0)).2.2) with
      | true =>
        rw [Bool.true_and, if_neg (by decide), Option.bind_some, Sum.elim_inl, show IntKind.wrap .i64 ((i : Int) + 1) = ((i + 1 : Nat) : Int) by rw [wrap_i64 (by omega)]; omega]
        exact ih (i + 1) (by omega) (by omega)
      | false =>
        rw [Bool.false_and, if_pos (by decide)]
        exact .inr ⟨rfl, rfl⟩
    · rw [List.drop_of_length_le h, if_neg (by rw [decide_eq_true_eq]; omega)]
      exact .inl ⟨rfl, rfl⟩
theorem l8_4_spec {l : List Tok} (most : Int) {i : Nat} (hi : i < l.length) {t : Tok} (hg : l.getD i (0, 0, 0) = t) : ∀ (k r j : Nat) (out : List Int), r < k → ((j + r : Nat) : Int) = t.2.1 → t.2.1 ≤ 1000 → out.length + r ≤ 2000000 → (0 < r → 1 ≤ t.2.2 ∧ t.2.2 ≤ ((out.length : Nat) : Int)) →
    loopN g8_4 o8_4 b8_4 k (l, most, (i : Int), (j : Int), out, ()) = some (.inl (l, most, (i : Int), cpy t.2.2.toNat r out, ())) := by
  intro k
  induction k with
  | zero => intro r j out h1; omega
  | succ k ih =>
    intro r j out h1 h2 h3 h4 h5
    rw [loopN_succ]
    generalize hL : loopN g8_4 o8_4 b8_4 k = LL at ih ⊢
    unfold b8_4
    dsimp only
    rw [Int.toNat_natCast, hg, if_pos (by omega), if_pos (by omega)]
    cases r with
    | zero => rw [if_neg (by rw [decide_eq_true_eq]; omega), if_pos rfl]; rfl
    | succ r =>
      have hb := h5 (by omega)
      have w1 : IntKind.wrap .i64 (((out.length : Nat) : Int) - t.2.2) = ((out.length - t.2.2.toNat : Nat) : Int) := by rw [wrap_i64 (by omega)]; omega
      rw [if_pos (by rw [decide_eq_true_eq]; omega), if_pos (by omega), if_pos (by omega), w1, if_pos (by omega), if_pos (by omega), Int.toNat_natCast, Nat.zero_add, one_set, full, if_pos (by rw [List.length_singleton]; omega), if_pos rfl, Option.bind_some, Sum.elim_inl,
        show IntKind.wrap .i64 ((j : Int) + 1) = ((j + 1 : Nat) : Int) by rw [wrap_i64 (by omega)]; omega]
      exact ih r (j + 1) _ (by omega) (by omega) h3 (by rw [List.length_append, List.length_singleton]; omega) (fun _ => by rw [List.length_append, List.length_singleton]; omega)
theorem b8_3_eqn {l : List Tok} (most : Int) {i : Nat} (hi : i < l.length) {t : Tok} (hg : l.getD i (0, 0, 0) = t) (hT : t.2.1 = 0 → 0 ≤ t.1 ∧ t.1 ≤ 255) {out : List Int} (ho : out.length ≤ 2000000) :
    b8_3 (l, most, (i : Int), out, ()) = some (.inl (l, most, (i : Int), (if t.2.1 = 0 then out ++ [t.1] else out), ())) := by
  unfold b8_3
  dsimp only
  rw [Int.toNat_natCast, hg, if_pos (by omega), if_pos (by omega)]
  by_cases c : t.2.1 = 0
  · have w2 : IntKind.wrap .u8 t.1 = t.1 := by rw [wrap_u8]; have := hT c; omega
    rw [if_pos (beq_iff_eq.2 c), if_pos c, if_pos (by omega), if_pos (by omega), w2, one_set, full, if_pos (by rw [List.length_singleton]; omega), if_pos rfl]
  · rw [if_neg (fun h => c (beq_iff_eq.1 h)), if_neg c, if_pos rfl]
theorem l8_2_spec {most : Int} (hm : most ≤ 1048576) {l : List Tok} (hl : l.length < 2 ^ 60) (ht : l.all isT = true) : ∀ (k i : Nat) (out : List Int), l.length < i + k → i ≤ l.length → ((out.length : Nat) : Int) ≤ most →
    loopN g8_2 o8_2 b8_2 k (l, most, (i : Int), out, ()) = (match exp most (l.drop i) out with | .inl o => some (.inl (o, ())) | .inr e => some (.inr (.inl ([], e, ())))) := by
  intro k
  induction k with
  | zero => intro i out h1 h2; omega
  | succ k ih =>
    intro i out h1 h2 h3
    rw [loopN_succ]
    generalize hL : loopN g8_2 o8_2 b8_2 k = LL at ih ⊢
    unfold b8_2
    dsimp only
    rcases Nat.lt_or_ge i l.length with h | h
    · have hT : isT (l.getD i (0, 0, 0)) = true := by
        rw [List.all_eq_true] at ht
        refine ht _ ?_
        rw [List.getD_eq_getElem?_getD, List.getElem?_eq_getElem h]
        exact List.getElem_mem _
      rw [isT_iff] at hT
      rw [drop_getD h (0, 0, 0), if_pos (by rw [decide_eq_true_eq]; omega), if_pos (by omega), if_pos (by omega), Int.toNat_natCast]
      generalize hg : l.getD i (0, 0, 0) = t at hT ⊢
      unfold exp f16
      by_cases c1 : t.2.2 > ((out.length : Nat) : Int)
      · rw [if_pos (decide_eq_true c1), if_pos c1]; rfl
      · rw [if_neg (fun h => c1 (of_decide_eq_true h)), if_neg c1, if_pos (by omega), if_pos (by omega), Option.bind_some]
        dsimp only
        have w1 : IntKind.wrap .i64 (((out.length : Nat) : Int) + max t.2.1 1) = ((out.length : Nat) : Int) + max t.2.1 1 := wrap_i64 (by omega)
        rw [w1]
        by_cases c2 : ((out.length : Nat) : Int) + max t.2.1 1 > most
        · rw [if_pos (decide_eq_true c2), if_pos c2]; rfl
        · rw [if_neg (fun h => c2 (of_decide_eq_true h)), if_neg c2, if_pos rfl, b8_3_eqn most h hg (fun h => by omega) (by omega), Option.bind_some, Sum.elim_inl]
          dsimp only
          generalize hO : (if t.2.1 = 0 then out ++ [t.1] else out) = O
          have hOl : O.length = out.length + (1 - t.2.1).toNat := by
            rw [← hO]
            by_cases c3 : t.2.1 = 0
            · rw [if_pos c3, List.length_append, List.length_singleton]; omega
            · rw [if_neg c3]; omega
          have hr := l8_4_spec most h hg 18446744073709551616 t.2.1.toNat 0 O (by omega) (by omega) (by omega) (by omega) (fun _ => by omega)
          have hr' : loopN g8_4 o8_4 b8_4 18446744073709551616 (l, most, (i : Int), 0, O, ()) = _ := hr
          rw [if_pos rfl, show l8_4 = loopN g8_4 o8_4 b8_4 18446744073709551616 from rfl]
          generalize loopN g8_4 o8_4 b8_4 18446744073709551616 (l, most, (i : Int), 0, O, ()) = X at hr' ⊢
          subst hr'
          rw [Option.bind_some, Sum.elim_inl]
          dsimp only
          rw [if_pos rfl, Option.bind_some, Sum.elim_inl, show IntKind.wrap .i64 ((i : Int) + 1) = ((i + 1 : Nat) : Int) by rw [wrap_i64 (by omega)]; omega]
          exact ih (i + 1) _ (by omega) (by omega) (by rw [length_cpy]; omega)
    · rw [List.drop_of_length_le h, if_neg (by rw [decide_eq_true_eq]; omega), if_pos rfl]
      rfl
theorem f8_eqn {l : List Tok} (hl : l.length < 2 ^ 60) (most : Int) : f8 (l, most, ()) = some (expd l most) := by
  unfold f8 expd
  dsimp only
  by_cases c1 : most < 0
  · rw [if_pos (decide_eq_true c1), if_pos (.inl c1)]
  · rw [if_neg (fun h => c1 (of_decide_eq_true h))]
    by_cases c2 : 1048576 < most
    · rw [if_pos (decide_eq_true c2), if_pos (.inr (.inl c2))]
    · rw [if_neg (fun h => c2 (of_decide_eq_true h)), show l8_1 = loopN g8_1 o8_1 b8_1 18446744073709551616 from rfl, show l8_2 = loopN g8_2 o8_2 b8_2 18446744073709551616 from rfl]
      have h1 := l8_1_spec hl most 18446744073709551616 0 (by omega) (by omega)
      rw [List.drop_zero] at h1
      rcases h1 with ⟨hT, h1⟩ | ⟨hT, h1⟩
      · have h1' : loopN g8_1 o8_1 b8_1 18446744073709551616 (l, most, 0, ()) = _ := h1
        have h := l8_2_spec (by omega : most ≤ 1048576) hl hT 18446744073709551616 0 [] (by omega) (by omega) (by simp only [List.length_nil]; omega)
        have h' : loopN g8_2 o8_2 b8_2 18446744073709551616 (l, most, 0, [], ()) = _ := h
        rw [h1', Option.bind_some, Sum.elim_inl]
        dsimp only
        rw [h', List.drop_zero, if_neg (by rw [hT]; rintro (h | h | h) <;> first | exact c1 h | exact c2 h | cases h)]
        cases exp most l [] with
        | inl o => exact congrArg (fun q => some (q, (0 : Int), ())) (full o)
        | inr e => rfl
      · have h1' : loopN g8_1 o8_1 b8_1 18446744073709551616 (l, most, 0, ()) = _ := h1
        rw [h1', if_pos (.inr (.inr hT)), Option.bind_some]
        rfl
theorem inflateExpands_pure (l : List Tok) (most : Int) : f3 (l, most, ()) = some (true, ()) := by
  unfold f3 b3_1
  dsimp only
  by_cases c1 : 100 < l.length
  · rw [if_pos (by rw [decide_eq_true_eq]; omega), Option.bind_some, Sum.elim_inl]
    rfl
  · rw [if_neg (by rw [decide_eq_true_eq]; omega)]
    have hend : (f7 (l, most, ())).bind (fun y2 => (f8 (l, most, ())).bind (fun y3 => (f9 ()).bind (fun y4 => if y4.1 = true then (if ((bytesStr y2.1).toList == (bytesStr y3.1).toList) = true then some ((y2.2.1 == y3.2.1), ()) else some (false, ())) else some (false, ())))) = some (true, ()) := by
      rw [f7_eqn (by omega), f8_eqn (by omega), Option.bind_some, Option.bind_some, awake_true, Option.bind_some, if_pos rfl, if_pos (beq_self_eq_true _), beq_self_eq_true]
    by_cases c2 : most > 30000
    · rw [if_pos (decide_eq_true c2), Option.bind_some, Sum.elim_inl]
      dsimp only
      by_cases c3 : most ≤ 1048576
      · rw [if_pos (decide_eq_true c3)]
      · rw [if_neg (fun h => c3 (of_decide_eq_true h))]
        exact hend
    · rw [if_neg (fun h => c2 (of_decide_eq_true h)), Option.bind_some, Sum.elim_inl]
      exact hend
end Go.Ev.Inflate
